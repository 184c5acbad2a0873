/- PolyRootBound: for every three rows the law on the number of roots returns true; no conditions. -/
import Derived.Test.YtjchccpicddpoaaFrm
import Derived.Test.YtjchccpicddpoaaRb
import Derived.Test.YtjchccpicddpoaaOp
namespace Go.Proofs.Ytjchccpicddpoaa.lawPolyRootBound
open Go.ChangeShapes Go.WideShapes Go.ChangeAt Go.RowKit Att Att.CRing

set_option maxRecDepth 100000 in
set_option maxHeartbeats 4000000 in
theorem walk (w : World) (a0 : Option Addr) (len0 cap0 : Nat) (x0 : List (Int × Int)) (a1 : Option Addr) (len1 cap1 : Nat) (x1 : List (Int × Int)) (a2 : Option Addr) (len2 cap2 : Nat) (x2 : List (Int × Int)) (h_x0 : SlR w a0 len0 cap0 x0) (h_x1 : SlR w a1 len1 cap1 x1) (h_x2 : SlR w a2 len2 cap2 x2) :
    Calls Try.prog 9 #[.slice a0 len0 cap0, .slice a1 len1 cap1, .slice a2 len2 cap2] w fun e w' => e = .returned (.bool true) ∧ Below w.heap.size w w' := by

  refine Calls.mono (R := fun e w' => e = .returned (.bool true) ∧ Gn w w') ?_ (fun e w' h => ⟨h.1, h.2.below⟩)
  go_enter Try.func9, Try.ntmps9
  go_wp2_with fail
  have hg : Gn w w := Gn.refl w
  refine (o_sanity _).mono ?_
  rintro e w1 ⟨rfl, g⟩
  replace hg := hg.trans g
  clear g
  go_wp2_with fail
  skip
  refine (x_madeL a0 len0 cap0 x0 6 _ (h_x0.up hg) (by omega)).mono ?_
  rintro e w2 ⟨v, rfl, o, g⟩
  obtain ⟨Ap, cp, rfl, s⟩ := o.sl
  replace hg := hg.trans g
  clear g
  have hp : isSl ((x0.take 6).map mkP) (.slice Ap ((x0.take 6).map mkP).length cp) w2 := ⟨_, _, _, rfl, s⟩
  have lp : ((x0.take 6).map mkP).length ≤ 6 := by simp; omega
  generalize ((x0.take 6).map mkP) = p at *
  clear o s
  go_wp2_with fail
  skip
  refine (x_madeL a1 len1 cap1 x1 6 _ (h_x1.up hg) (by omega)).mono ?_
  rintro e w3 ⟨v, rfl, o, g⟩
  obtain ⟨Aq, cq, rfl, s⟩ := o.sl
  replace hg := hg.trans g
  replace hp := isSl.gn hp g
  clear g
  have hq : isSl ((x1.take 6).map mkP) (.slice Aq ((x1.take 6).map mkP).length cq) w3 := ⟨_, _, _, rfl, s⟩
  have lq : ((x1.take 6).map mkP).length ≤ 6 := by simp; omega
  generalize ((x1.take 6).map mkP) = q at *
  clear o s
  go_wp2_with fail
  skip
  refine (x_madeL a2 len2 cap2 x2 12 _ (h_x2.up hg) (by omega)).mono ?_
  rintro e w4 ⟨v, rfl, o, g⟩
  obtain ⟨Am, cm, rfl, s⟩ := o.sl
  replace hg := hg.trans g
  replace hp := isSl.gn hp g
  replace hq := isSl.gn hq g
  clear g
  have hm : isSl ((x2.take 12).map mkP) (.slice Am ((x2.take 12).map mkP).length cm) w4 := ⟨_, _, _, rfl, s⟩
  have lm : ((x2.take 12).map mkP).length ≤ 12 := by simp; omega
  generalize ((x2.take 12).map mkP) = m at *
  clear o s
  have la := trim_le (l := p) rfl
  have lb := trim_le (l := q) rfl
  obtain ⟨a, ha⟩ : ∃ a, a = (trim p).length := ⟨_, rfl⟩
  obtain ⟨b, hb⟩ : ∃ b, b = (trim q).length := ⟨_, rfl⟩
  rw [← ha] at la
  rw [← hb] at lb
  replace ha := Lib.hid ha
  replace hb := Lib.hid hb
  go_wp2_with fail
  skip
  refine (o_different Am _ cm m _ hm.sl (by omega)).mono ?_
  rintro e w5 ⟨Ar, nr, cr, rfl, s, g⟩
  replace hg := hg.trans g
  replace hp := isSl.gn hp g
  replace hq := isSl.gn hq g
  replace hm := isSl.gn hm g
  clear g
  have hr : isSl (dif m m.length) (.slice Ar nr cr) w5 := ⟨_, _, _, rfl, s⟩
  clear s
  have lr := dif_len m m.length
  have hnd := Lib.hid (dif_nodup m m.length)
  generalize dif m m.length = r at *
  obtain rfl := hr.len
  go_wp2_with fail
  skip
  refine (x_fromInt 1 (by omega) (by omega) _).mono ?_
  rintro e w6 ⟨rfl, g⟩
  replace hg := hg.trans g
  replace hp := isSl.gn hp g
  replace hq := isSl.gn hq g
  replace hm := isSl.gn hm g
  replace hr := isSl.gn hr g
  clear g
  go_wp2_with fail
  skip
  have hv : isSl (rp r 0) (.slice (some ⟨w6.heap.size, 0, none⟩) 1 1) (w6.alloc (.cells #[.int .u64 (Zm.i (Ext.a (int 1))), .int .u64 (Zm.i (Ext.b (int 1)))] 25)) := sl_one (int 1)
  replace hg := hg.trans (Gn.al (w := w6) (.cells #[.int .u64 (Zm.i (Ext.a (int 1))), .int .u64 (Zm.i (Ext.b (int 1)))] 25))
  replace hp := isSl.gn hp (Gn.al (w := w6) (.cells #[.int .u64 (Zm.i (Ext.a (int 1))), .int .u64 (Zm.i (Ext.b (int 1)))] 25))
  replace hq := isSl.gn hq (Gn.al (w := w6) (.cells #[.int .u64 (Zm.i (Ext.a (int 1))), .int .u64 (Zm.i (Ext.b (int 1)))] 25))
  replace hm := isSl.gn hm (Gn.al (w := w6) (.cells #[.int .u64 (Zm.i (Ext.a (int 1))), .int .u64 (Zm.i (Ext.b (int 1)))] 25))
  replace hr := isSl.gn hr (Gn.al (w := w6) (.cells #[.int .u64 (Zm.i (Ext.a (int 1))), .int .u64 (Zm.i (Ext.b (int 1)))] 25))
  skip
  generalize w6.alloc (.cells #[.int .u64 (Zm.i (Ext.a (int 1))), .int .u64 (Zm.i (Ext.b (int 1)))] 25) = w7 at *
  generalize w6.heap.size = bv at *
  go_loopw [11, 12] (fun v i wr => ∃ k : Nat, k ≤ r.length ∧ k ≤ 4 ∧ i = .int .i64 k ∧ isSl (rp r k) v wr ∧ Gn w7 wr) (fun _ i _ => 4 - (intOf i).toNat)
  case atStart => exact ⟨0, by omega, by omega, rfl, hv, Gn.refl _⟩
  case round =>
    clear hv
    obtain ⟨k, hk, hk4, rfl, hv, g⟩ := hrel
    have hlv := rp_len r k
    by_cases h1 : k < r.length ∧ k < 4
    · obtain ⟨h1, h2⟩ := h1
      obtain ⟨b1, o1, z, rfl, hz, q1, q2, q3⟩ := (hr.gn g).sl.at_ h1
      have HZ := Lib.hid (co_at hz)
      clear hz
      go_wp2_with fail
      refine (x_neg z _).mono ?_
      rintro e wa ⟨rfl, ga⟩
      go_wp2_with fail
      refine (x_fromInt 1 (by omega) (by omega) _).mono ?_
      rintro e wb ⟨rfl, gb⟩
      obtain ⟨A2, n2, c2, rfl, s2⟩ := hv
      obtain rfl := s2.len
      go_wp2_with fail
      refine (p_mulL _ _ _ _ _ _ (rp r k) [-z, int 1] _ (s2.up (Gn.trans (Gn.trans ga gb) (Gn.al _))) (sl_two (w := wb) (-z) (int 1)).sl (by omega) (by omega)).mono ?_
      intro e wc h5
      obtain ⟨v5, rfl, hv5, gc⟩ := h5.is
      have gA := (Gn.trans (Gn.trans ga gb) (Gn.al _)).trans gc
      clear q1 q2 q3
      go_wp2_with fail
      refine ⟨⟨k + 1, by omega, by omega, by go_num, ?_, Gn.trans g gA⟩, by simp [intOf]; omega⟩
      rw [← HZ.out] at hv5
      exact hv5
    · have hmin : min r.length 4 = k := by omega
      replace hmin := Lib.hid hmin
      obtain ⟨zs, hzs⟩ : ∃ zs, zs = rts (rp r k) r r.length := ⟨_, rfl⟩
      have hfin : zs.length = k := by rw [hzs]; exact (rts_rp hnd.out k r.length (Nat.le_refl _)).trans (show min r.length k = k by omega)
      replace hzs := Lib.hid hzs
      replace hfin := Lib.hid hfin
      skip
      replace hg := hg.trans g
      replace hp := isSl.gn hp g
      replace hq := isSl.gn hq g
      replace hm := isSl.gn hm g
      replace hr := isSl.gn hr g
      clear g
      obtain ⟨A2, n2, c2, rfl, s2⟩ := hv
      have hv : isSl (rp r k) (.slice A2 n2 c2) wr := ⟨_, _, _, rfl, s2⟩
      obtain rfl := s2.len
      clear s2
      by_cases h2 : k < r.length
      · skip
        have h4 : ¬ k < 4 := by omega
        go_wp2_with fail
        skip
        have hc := p_roots _ _ _ (rp r k) _ _ _ r wr hv.sl hr.sl (by omega) (by omega)
        rw [← hzs.out] at hc
        refine hc.mono ?_
        clear hc
        rintro e w8 ⟨Af, cf, rfl, s, g⟩
        clear s
        rw [hfin.out]
        replace hg := hg.trans g
        replace hp := isSl.gn hp g
        replace hq := isSl.gn hq g
        replace hm := isSl.gn hm g
        replace hr := isSl.gn hr g
        replace hv := isSl.gn hv g
        clear g
        go_wp2_with fail
        skip
        have hc := p_degree A2 _ c2 (rp r k) w8 hv.sl (by omega)
        rw [rp_deg] at hc
        refine hc.mono ?_
        clear hc
        rintro e w9 ⟨rfl, g⟩
        replace hg := hg.trans g
        replace hp := isSl.gn hp g
        replace hq := isSl.gn hq g
        replace hm := isSl.gn hm g
        replace hr := isSl.gn hr g
        replace hv := isSl.gn hv g
        clear g
        go_wp2_with fail
        skip
        cases a with
        | zero =>
          have hc := p_degree Ap _ cp p w9 hp.sl (by omega)
          rw [← ha.out] at hc
          refine hc.mono ?_
          clear hc
          rintro e w10 ⟨rfl, g⟩
          replace hg := hg.trans g
          replace hp := isSl.gn hp g
          replace hq := isSl.gn hq g
          replace hm := isSl.gn hm g
          replace hr := isSl.gn hr g
          replace hv := isSl.gn hv g
          clear g
          go_wp2_with fail
          skip
          obtain ⟨d, hd⟩ : ∃ d, d = trim (psub p q) := ⟨_, rfl⟩
          have hdl := psub_len p q
          have hdt := trim_trim (psub p q)
          rw [← hd, ← ha.out, ← hb.out] at hdl
          rw [← hd] at hdt
          replace hdt := Lib.hid hdt
          have hc := p_subL Ap Aq _ cp _ cq p q w10 hp.sl hq.sl (by omega) (by omega)
          rw [← hd] at hc
          clear hd
          refine hc.mono ?_
          clear hc
          rintro e w11 ⟨Ad, nd, cd, rfl, s, g⟩
          replace hg := hg.trans g
          replace hp := isSl.gn hp g
          replace hq := isSl.gn hq g
          replace hm := isSl.gn hm g
          replace hr := isSl.gn hr g
          replace hv := isSl.gn hv g
          clear g
          have hd : isSl d (.slice Ad nd cd) w11 := ⟨_, _, _, rfl, s⟩
          obtain rfl := s.len
          clear s
          by_cases hd0 : d.length = 0
          · skip
            have hb1 : ((d.length : Int) == 0) = true := by rw [hd0]; rfl
            clear hd0
            go_wp2_with fail
            skip
            go_ret
            exact ⟨rfl, hg⟩
          · skip
            have hb1 : ((d.length : Int) == 0) = false := by simp only [beq_eq_false_iff_ne]; omega
            go_wp2_with fail
            skip
            obtain ⟨z3, hzq⟩ : ∃ zs, zs = rts d r r.length := ⟨_, rfl⟩
            have z3l := rts_le d r r.length
            have z3b := rts_bound (p := d) hnd.out (fun e => hd0 (by rw [hdt.out] at e; rw [e]; rfl))
            rw [← hzq] at z3l z3b
            rw [hdt.out] at z3b
            have hc := p_roots Ad _ cd d Ar _ cr r w11 hd.sl hr.sl (by omega) (by omega)
            rw [← hzq] at hc
            clear hzq
            refine hc.mono ?_
            clear hc
            rintro e w12 ⟨Az, cz, rfl, s, g⟩
            clear s
            replace hg := hg.trans g
            replace hp := isSl.gn hp g
            replace hq := isSl.gn hq g
            replace hm := isSl.gn hm g
            replace hr := isSl.gn hr g
            replace hv := isSl.gn hv g
            replace hd := isSl.gn hd g
            clear g
            go_wp2_with fail
            skip
            have hc := p_degree Ap _ cp p w12 hp.sl (by omega)
            rw [← ha.out] at hc
            refine hc.mono ?_
            clear hc
            rintro e w13 ⟨rfl, g⟩
            replace hg := hg.trans g
            replace hp := isSl.gn hp g
            replace hq := isSl.gn hq g
            replace hm := isSl.gn hm g
            replace hr := isSl.gn hr g
            replace hv := isSl.gn hv g
            replace hd := isSl.gn hd g
            clear g
            go_wp2_with fail
            skip
            have hc := p_degree Aq _ cq q w13 hq.sl (by omega)
            rw [← hb.out] at hc
            refine hc.mono ?_
            clear hc
            rintro e w14 ⟨rfl, g⟩
            replace hg := hg.trans g
            replace hp := isSl.gn hp g
            replace hq := isSl.gn hq g
            replace hm := isSl.gn hm g
            replace hr := isSl.gn hr g
            replace hv := isSl.gn hv g
            replace hd := isSl.gn hd g
            clear g
            go_wp2_with fail
            skip
            all_goals (go_ret; exact ⟨by first | rfl | (simp; omega), hg⟩)
        | succ a =>
          have hc := p_degree Ap _ cp p w9 hp.sl (by omega)
          rw [← ha.out, show ((a + 1 : Nat) : Int) - 1 = (a : Int) from by omega] at hc
          refine hc.mono ?_
          clear hc
          rintro e w10 ⟨rfl, g⟩
          replace hg := hg.trans g
          replace hp := isSl.gn hp g
          replace hq := isSl.gn hq g
          replace hm := isSl.gn hm g
          replace hr := isSl.gn hr g
          replace hv := isSl.gn hv g
          clear g
          go_wp2_with fail
          skip
          obtain ⟨z2, hzq⟩ : ∃ zs, zs = rts p r r.length := ⟨_, rfl⟩
          have z2l := rts_le p r r.length
          have z2b := rts_bound (p := p) hnd.out (fun e => by have := ha.out; rw [e] at this; cases this)
          rw [← hzq] at z2l z2b
          rw [← ha.out] at z2b
          have hc := p_roots Ap _ cp p Ar _ cr r w10 hp.sl hr.sl (by omega) (by omega)
          rw [← hzq] at hc
          clear hzq
          refine hc.mono ?_
          clear hc
          rintro e w11 ⟨Az, cz, rfl, s, g⟩
          clear s
          replace hg := hg.trans g
          replace hp := isSl.gn hp g
          replace hq := isSl.gn hq g
          replace hm := isSl.gn hm g
          replace hr := isSl.gn hr g
          replace hv := isSl.gn hv g
          clear g
          go_wp2_with fail
          skip
          have hc := p_degree Ap _ cp p w11 hp.sl (by omega)
          rw [← ha.out, show ((a + 1 : Nat) : Int) - 1 = (a : Int) from by omega] at hc
          refine hc.mono ?_
          clear hc
          rintro e w12 ⟨rfl, g⟩
          replace hg := hg.trans g
          replace hp := isSl.gn hp g
          replace hq := isSl.gn hq g
          replace hm := isSl.gn hm g
          replace hr := isSl.gn hr g
          replace hv := isSl.gn hv g
          clear g
          go_wp2_with fail
          skip
          obtain ⟨d, hd⟩ : ∃ d, d = trim (psub p q) := ⟨_, rfl⟩
          have hdl := psub_len p q
          have hdt := trim_trim (psub p q)
          rw [← hd, ← ha.out, ← hb.out] at hdl
          rw [← hd] at hdt
          replace hdt := Lib.hid hdt
          have hc := p_subL Ap Aq _ cp _ cq p q w12 hp.sl hq.sl (by omega) (by omega)
          rw [← hd] at hc
          clear hd
          refine hc.mono ?_
          clear hc
          rintro e w13 ⟨Ad, nd, cd, rfl, s, g⟩
          replace hg := hg.trans g
          replace hp := isSl.gn hp g
          replace hq := isSl.gn hq g
          replace hm := isSl.gn hm g
          replace hr := isSl.gn hr g
          replace hv := isSl.gn hv g
          clear g
          have hd : isSl d (.slice Ad nd cd) w13 := ⟨_, _, _, rfl, s⟩
          obtain rfl := s.len
          clear s
          by_cases hd0 : d.length = 0
          · skip
            have hb1 : ((d.length : Int) == 0) = true := by rw [hd0]; rfl
            clear hd0
            go_wp2_with fail
            skip
            go_ret
            exact ⟨rfl, hg⟩
          · skip
            have hb1 : ((d.length : Int) == 0) = false := by simp only [beq_eq_false_iff_ne]; omega
            go_wp2_with fail
            skip
            obtain ⟨z3, hzq⟩ : ∃ zs, zs = rts d r r.length := ⟨_, rfl⟩
            have z3l := rts_le d r r.length
            have z3b := rts_bound (p := d) hnd.out (fun e => hd0 (by rw [hdt.out] at e; rw [e]; rfl))
            rw [← hzq] at z3l z3b
            rw [hdt.out] at z3b
            have hc := p_roots Ad _ cd d Ar _ cr r w13 hd.sl hr.sl (by omega) (by omega)
            rw [← hzq] at hc
            clear hzq
            refine hc.mono ?_
            clear hc
            rintro e w14 ⟨Az, cz, rfl, s, g⟩
            clear s
            replace hg := hg.trans g
            replace hp := isSl.gn hp g
            replace hq := isSl.gn hq g
            replace hm := isSl.gn hm g
            replace hr := isSl.gn hr g
            replace hv := isSl.gn hv g
            replace hd := isSl.gn hd g
            clear g
            go_wp2_with fail
            skip
            have hc := p_degree Ap _ cp p w14 hp.sl (by omega)
            rw [← ha.out, show ((a + 1 : Nat) : Int) - 1 = (a : Int) from by omega] at hc
            refine hc.mono ?_
            clear hc
            rintro e w15 ⟨rfl, g⟩
            replace hg := hg.trans g
            replace hp := isSl.gn hp g
            replace hq := isSl.gn hq g
            replace hm := isSl.gn hm g
            replace hr := isSl.gn hr g
            replace hv := isSl.gn hv g
            replace hd := isSl.gn hd g
            clear g
            go_wp2_with fail
            skip
            have hc := p_degree Aq _ cq q w15 hq.sl (by omega)
            rw [← hb.out] at hc
            refine hc.mono ?_
            clear hc
            rintro e w16 ⟨rfl, g⟩
            replace hg := hg.trans g
            replace hp := isSl.gn hp g
            replace hq := isSl.gn hq g
            replace hm := isSl.gn hm g
            replace hr := isSl.gn hr g
            replace hv := isSl.gn hv g
            replace hd := isSl.gn hd g
            clear g
            go_wp2_with fail
            skip
            all_goals (go_ret; exact ⟨by first | rfl | (simp; omega), hg⟩)
      · skip
        skip
        go_wp2_with fail
        skip
        have hc := p_roots _ _ _ (rp r k) _ _ _ r wr hv.sl hr.sl (by omega) (by omega)
        rw [← hzs.out] at hc
        refine hc.mono ?_
        clear hc
        rintro e w8 ⟨Af, cf, rfl, s, g⟩
        clear s
        rw [hfin.out]
        replace hg := hg.trans g
        replace hp := isSl.gn hp g
        replace hq := isSl.gn hq g
        replace hm := isSl.gn hm g
        replace hr := isSl.gn hr g
        replace hv := isSl.gn hv g
        clear g
        go_wp2_with fail
        skip
        have hc := p_degree A2 _ c2 (rp r k) w8 hv.sl (by omega)
        rw [rp_deg] at hc
        refine hc.mono ?_
        clear hc
        rintro e w9 ⟨rfl, g⟩
        replace hg := hg.trans g
        replace hp := isSl.gn hp g
        replace hq := isSl.gn hq g
        replace hm := isSl.gn hm g
        replace hr := isSl.gn hr g
        replace hv := isSl.gn hv g
        clear g
        go_wp2_with fail
        skip
        cases a with
        | zero =>
          have hc := p_degree Ap _ cp p w9 hp.sl (by omega)
          rw [← ha.out] at hc
          refine hc.mono ?_
          clear hc
          rintro e w10 ⟨rfl, g⟩
          replace hg := hg.trans g
          replace hp := isSl.gn hp g
          replace hq := isSl.gn hq g
          replace hm := isSl.gn hm g
          replace hr := isSl.gn hr g
          replace hv := isSl.gn hv g
          clear g
          go_wp2_with fail
          skip
          obtain ⟨d, hd⟩ : ∃ d, d = trim (psub p q) := ⟨_, rfl⟩
          have hdl := psub_len p q
          have hdt := trim_trim (psub p q)
          rw [← hd, ← ha.out, ← hb.out] at hdl
          rw [← hd] at hdt
          replace hdt := Lib.hid hdt
          have hc := p_subL Ap Aq _ cp _ cq p q w10 hp.sl hq.sl (by omega) (by omega)
          rw [← hd] at hc
          clear hd
          refine hc.mono ?_
          clear hc
          rintro e w11 ⟨Ad, nd, cd, rfl, s, g⟩
          replace hg := hg.trans g
          replace hp := isSl.gn hp g
          replace hq := isSl.gn hq g
          replace hm := isSl.gn hm g
          replace hr := isSl.gn hr g
          replace hv := isSl.gn hv g
          clear g
          have hd : isSl d (.slice Ad nd cd) w11 := ⟨_, _, _, rfl, s⟩
          obtain rfl := s.len
          clear s
          by_cases hd0 : d.length = 0
          · skip
            have hb1 : ((d.length : Int) == 0) = true := by rw [hd0]; rfl
            clear hd0
            go_wp2_with fail
            skip
            go_ret
            exact ⟨rfl, hg⟩
          · skip
            have hb1 : ((d.length : Int) == 0) = false := by simp only [beq_eq_false_iff_ne]; omega
            go_wp2_with fail
            skip
            obtain ⟨z3, hzq⟩ : ∃ zs, zs = rts d r r.length := ⟨_, rfl⟩
            have z3l := rts_le d r r.length
            have z3b := rts_bound (p := d) hnd.out (fun e => hd0 (by rw [hdt.out] at e; rw [e]; rfl))
            rw [← hzq] at z3l z3b
            rw [hdt.out] at z3b
            have hc := p_roots Ad _ cd d Ar _ cr r w11 hd.sl hr.sl (by omega) (by omega)
            rw [← hzq] at hc
            clear hzq
            refine hc.mono ?_
            clear hc
            rintro e w12 ⟨Az, cz, rfl, s, g⟩
            clear s
            replace hg := hg.trans g
            replace hp := isSl.gn hp g
            replace hq := isSl.gn hq g
            replace hm := isSl.gn hm g
            replace hr := isSl.gn hr g
            replace hv := isSl.gn hv g
            replace hd := isSl.gn hd g
            clear g
            go_wp2_with fail
            skip
            have hc := p_degree Ap _ cp p w12 hp.sl (by omega)
            rw [← ha.out] at hc
            refine hc.mono ?_
            clear hc
            rintro e w13 ⟨rfl, g⟩
            replace hg := hg.trans g
            replace hp := isSl.gn hp g
            replace hq := isSl.gn hq g
            replace hm := isSl.gn hm g
            replace hr := isSl.gn hr g
            replace hv := isSl.gn hv g
            replace hd := isSl.gn hd g
            clear g
            go_wp2_with fail
            skip
            have hc := p_degree Aq _ cq q w13 hq.sl (by omega)
            rw [← hb.out] at hc
            refine hc.mono ?_
            clear hc
            rintro e w14 ⟨rfl, g⟩
            replace hg := hg.trans g
            replace hp := isSl.gn hp g
            replace hq := isSl.gn hq g
            replace hm := isSl.gn hm g
            replace hr := isSl.gn hr g
            replace hv := isSl.gn hv g
            replace hd := isSl.gn hd g
            clear g
            go_wp2_with fail
            skip
            all_goals (go_ret; exact ⟨by first | rfl | (simp; omega), hg⟩)
        | succ a =>
          have hc := p_degree Ap _ cp p w9 hp.sl (by omega)
          rw [← ha.out, show ((a + 1 : Nat) : Int) - 1 = (a : Int) from by omega] at hc
          refine hc.mono ?_
          clear hc
          rintro e w10 ⟨rfl, g⟩
          replace hg := hg.trans g
          replace hp := isSl.gn hp g
          replace hq := isSl.gn hq g
          replace hm := isSl.gn hm g
          replace hr := isSl.gn hr g
          replace hv := isSl.gn hv g
          clear g
          go_wp2_with fail
          skip
          obtain ⟨z2, hzq⟩ : ∃ zs, zs = rts p r r.length := ⟨_, rfl⟩
          have z2l := rts_le p r r.length
          have z2b := rts_bound (p := p) hnd.out (fun e => by have := ha.out; rw [e] at this; cases this)
          rw [← hzq] at z2l z2b
          rw [← ha.out] at z2b
          have hc := p_roots Ap _ cp p Ar _ cr r w10 hp.sl hr.sl (by omega) (by omega)
          rw [← hzq] at hc
          clear hzq
          refine hc.mono ?_
          clear hc
          rintro e w11 ⟨Az, cz, rfl, s, g⟩
          clear s
          replace hg := hg.trans g
          replace hp := isSl.gn hp g
          replace hq := isSl.gn hq g
          replace hm := isSl.gn hm g
          replace hr := isSl.gn hr g
          replace hv := isSl.gn hv g
          clear g
          go_wp2_with fail
          skip
          have hc := p_degree Ap _ cp p w11 hp.sl (by omega)
          rw [← ha.out, show ((a + 1 : Nat) : Int) - 1 = (a : Int) from by omega] at hc
          refine hc.mono ?_
          clear hc
          rintro e w12 ⟨rfl, g⟩
          replace hg := hg.trans g
          replace hp := isSl.gn hp g
          replace hq := isSl.gn hq g
          replace hm := isSl.gn hm g
          replace hr := isSl.gn hr g
          replace hv := isSl.gn hv g
          clear g
          go_wp2_with fail
          skip
          obtain ⟨d, hd⟩ : ∃ d, d = trim (psub p q) := ⟨_, rfl⟩
          have hdl := psub_len p q
          have hdt := trim_trim (psub p q)
          rw [← hd, ← ha.out, ← hb.out] at hdl
          rw [← hd] at hdt
          replace hdt := Lib.hid hdt
          have hc := p_subL Ap Aq _ cp _ cq p q w12 hp.sl hq.sl (by omega) (by omega)
          rw [← hd] at hc
          clear hd
          refine hc.mono ?_
          clear hc
          rintro e w13 ⟨Ad, nd, cd, rfl, s, g⟩
          replace hg := hg.trans g
          replace hp := isSl.gn hp g
          replace hq := isSl.gn hq g
          replace hm := isSl.gn hm g
          replace hr := isSl.gn hr g
          replace hv := isSl.gn hv g
          clear g
          have hd : isSl d (.slice Ad nd cd) w13 := ⟨_, _, _, rfl, s⟩
          obtain rfl := s.len
          clear s
          by_cases hd0 : d.length = 0
          · skip
            have hb1 : ((d.length : Int) == 0) = true := by rw [hd0]; rfl
            clear hd0
            go_wp2_with fail
            skip
            go_ret
            exact ⟨rfl, hg⟩
          · skip
            have hb1 : ((d.length : Int) == 0) = false := by simp only [beq_eq_false_iff_ne]; omega
            go_wp2_with fail
            skip
            obtain ⟨z3, hzq⟩ : ∃ zs, zs = rts d r r.length := ⟨_, rfl⟩
            have z3l := rts_le d r r.length
            have z3b := rts_bound (p := d) hnd.out (fun e => hd0 (by rw [hdt.out] at e; rw [e]; rfl))
            rw [← hzq] at z3l z3b
            rw [hdt.out] at z3b
            have hc := p_roots Ad _ cd d Ar _ cr r w13 hd.sl hr.sl (by omega) (by omega)
            rw [← hzq] at hc
            clear hzq
            refine hc.mono ?_
            clear hc
            rintro e w14 ⟨Az, cz, rfl, s, g⟩
            clear s
            replace hg := hg.trans g
            replace hp := isSl.gn hp g
            replace hq := isSl.gn hq g
            replace hm := isSl.gn hm g
            replace hr := isSl.gn hr g
            replace hv := isSl.gn hv g
            replace hd := isSl.gn hd g
            clear g
            go_wp2_with fail
            skip
            have hc := p_degree Ap _ cp p w14 hp.sl (by omega)
            rw [← ha.out, show ((a + 1 : Nat) : Int) - 1 = (a : Int) from by omega] at hc
            refine hc.mono ?_
            clear hc
            rintro e w15 ⟨rfl, g⟩
            replace hg := hg.trans g
            replace hp := isSl.gn hp g
            replace hq := isSl.gn hq g
            replace hm := isSl.gn hm g
            replace hr := isSl.gn hr g
            replace hv := isSl.gn hv g
            replace hd := isSl.gn hd g
            clear g
            go_wp2_with fail
            skip
            have hc := p_degree Aq _ cq q w15 hq.sl (by omega)
            rw [← hb.out] at hc
            refine hc.mono ?_
            clear hc
            rintro e w16 ⟨rfl, g⟩
            replace hg := hg.trans g
            replace hp := isSl.gn hp g
            replace hq := isSl.gn hq g
            replace hm := isSl.gn hm g
            replace hr := isSl.gn hr g
            replace hv := isSl.gn hv g
            replace hd := isSl.gn hd g
            clear g
            go_wp2_with fail
            skip
            all_goals (go_ret; exact ⟨by first | rfl | (simp; omega), hg⟩)

set_option linter.unusedVariables false in
set_option maxRecDepth 100000 in
set_option maxHeartbeats 1000000 in
theorem lifted (os : Os) (started : os.Started) (H : Type) (enc : TypeId × Value → H) :
    ReturnsInHanded {} Try.checked os 9 .any (Rows.polyRootBoundSpec.pre6 enc Try.prog Try.f9 Rows.polyRootBoundRow.domain false) (Rows.polyRootBoundSpec.post enc Try.prog Try.f9 false true false false) := by
  refine returnsInHanded_of_change (C := Try.checked) own started (by kernel_rfl) Try.func9
    (ChangeSpec.witness6 (enc := enc) (C := Try.checked) false ⟨#[], #[.slice none 0 0, .slice none 0 0, .slice none 0 0], []⟩ 8 (by kernel_rfl) (by kernel_rfl) (by kernel_rfl) (by kernel_rfl)) ?_
  intro W base args ds gs before hval0 hW _ _
  have hval : ∀ (j : Nat) t v, Try.f9.params[j]? = some t → args[j]? = some v → Value.okWide Try.prog W .any base t v := hval0
  have hW' : DataW.Whole enc Try.prog Try.f9.params.toList Rows.polyRootBoundSpec.vars false W args.toList ds gs before := hW
  obtain ⟨p, q, hA0, hV, rfl, hfz, hnd⟩ := hW
  have hA : DataW.TrodAll enc Try.prog W 0 (fun _ => true) true Try.f9.params.toList args.toList ds p := hA0
  rw [Try.params9] at hA hval
  obtain ⟨v0, vs0, d0, ds0, p0, q0, hargs, rfl, rfl, h0, r0⟩ := trodAll_cons hA
  obtain ⟨v1, vs1, d1, ds1, p1, q1, rfl, rfl, rfl, h1, r1⟩ := trodAll_cons r0
  obtain ⟨v2, vs2, d2, ds2, p2, q2, rfl, rfl, rfl, h2, r2⟩ := trodAll_cons r1
  obtain ⟨rfl, rfl, rfl⟩ := trodAll_nil r2
  obtain rfl : args = #[v0, v1, v2] := by cases args; simp_all
  obtain ⟨rfl, rfl⟩ := trodVars_none hV
  obtain ⟨a0, len0, cap0, rfl⟩ := okWide_slice Try.underlying22 (hval 0 22 v0 rfl rfl)
  obtain ⟨x0, hz0⟩ := openExts h0
  obtain ⟨a1, len1, cap1, rfl⟩ := okWide_slice Try.underlying22 (hval 1 22 v1 rfl rfl)
  obtain ⟨x1, hz1⟩ := openExts h1
  obtain ⟨a2, len2, cap2, rfl⟩ := okWide_slice Try.underlying22 (hval 2 22 v2 rfl rfl)
  obtain ⟨x2, hz2⟩ := openExts h2
  refine (walk W a0 len0 cap0 x0 a1 len1 cap1 x1 a2 len2 cap2 x2 hz0 hz1 hz2).mono fun e W' ⟨he, bel⟩ => ?_
  subst he
  exact ⟨_, rfl, law_post laidOut hW' rfl (by kernel_rfl) rfl Try.underlying4 rfl bel⟩

theorem proved : Rows.PolyRootBoundSaid :=
  OpenClaim.holds_of_wide 9 Try.f9 rfl rfl rfl rfl rfl rfl rfl ⟨rfl, rfl, rfl, rfl, rfl⟩ rfl rfl rfl rfl rfl (by kernel_rfl) Try.func9 (by kernel_rfl)
    (of_decide_eq_true (by kernel_rfl)) (by unfold Func.isWrapper; first | (rw [if_pos (by decide +kernel)]; kernel_rfl) | (rw [if_neg (by decide +kernel)]; exact ⟨rfl, rfl⟩))
    (fun os started H enc _ => lifted os started H enc)
end Go.Proofs.Ytjchccpicddpoaa.lawPolyRootBound
