/- Two rows that grow by append, side by side; the walks of the reference's EncodeExt and At. -/
import Derived.Test.YtbfblckgcefaaaaGreatDoorRz1
namespace Go.Proofs.YtbfblckgcefaaaaGreatDoor
open Go.RowKit Att Att.CRing
structure TwoF (w : World) (base : Nat) (v1 : Value) (l1 : List F) (v2 : Value) (l2 : List F) : Prop where
  a : OF w base v1 l1
  b : OF w base v2 l2
  ne : ∀ k, v1.ownBlock = some k → v2.ownBlock ≠ some k
theorem TwoF.symm {w : World} {base : Nat} {v1 v2 : Value} {l1 l2 : List F} (h : TwoF w base v1 l1 v2 l2) : TwoF w base v2 l2 v1 l1 := ⟨h.b, h.a, fun k h2 h1 => h.ne k h1 h2⟩
theorem TwoF.up {w w' : World} {base : Nat} {v1 v2 : Value} {l1 l2 : List F} (h : TwoF w base v1 l1 v2 l2) (g : Gn w w') : TwoF w' base v1 l1 v2 l2 := ⟨h.a.up g, h.b.up g, h.ne⟩
theorem OF.own_lt {w : World} {base : Nat} {v : Value} {l : List F} (h : OF w base v l) {k : Nat} (hk : v.ownBlock = some k) : k < w.heap.size := by
  rcases h.2 with ⟨rfl, _⟩ | ⟨g, cap, cur, rfl, hb, hg, _⟩
  · cases hk
  · cases hk; exact blk_lt hg
theorem OF.kept {w w' : World} {base : Nat} {v : Value} {l : List F} (h : OF w base v l) {row : Option Nat} (hg : w.grownBy w' row) (hne : ∀ k, v.ownBlock = some k → row ≠ some k) : OF w' base v l := by
  rcases h with ⟨h1, h2 | ⟨g, cap, cur, hv, hb, hgc, hn, hc, hsz, htake⟩⟩
  · exact ⟨h1, .inl h2⟩
  · refine ⟨h1, .inr ⟨g, cap, cur, hv, hb, (hg.block g (blk_lt hgc) (fun e => hne g (by rw [hv]; rfl) e.symm)).trans hgc, hn, hc, hsz, htake⟩⟩
theorem TwoF.app {w w' : World} {base : Nat} {v1 v2 v' : Value} {l1 l2 l' : List F} (h : TwoF w base v1 l1 v2 l2) (ho : OF w' base v' l') (hg : w.grownBy w' v1.ownBlock) (hb : v'.ownBlock = v1.ownBlock ∨ v'.ownBlock = some w.heap.size) : TwoF w' base v' l' v2 l2 := by
  refine ⟨ho, h.b.kept hg (fun k hk e => h.ne k e hk), ?_⟩
  intro k hk hk2
  rcases hb with e | e
  · exact h.ne k (e.symm.trans hk) hk2
  · rw [e] at hk
    cases hk
    exact absurd (h.b.own_lt hk2) (by omega)
theorem OF.empty' {w : World} {base b : Nat} (h : w.heap[b]? = some (.cells #[] 39)) (hb : base ≤ b) : OF w base (.slice (some ⟨b, 0, none⟩) 0 0) [] :=
  ⟨rfl, .inr ⟨_, 0, #[], rfl, hb, h, Nat.le_refl _, by unfold maxLen; omega, rfl, rfl⟩⟩
theorem TwoF.empty {w : World} {b : Nat} (hb : b = w.heap.size) : TwoF ((w.alloc (.cells #[] 39)).alloc (.cells #[] 39)) b (.slice (some ⟨b, 0, none⟩) 0 0) [] (.slice (some ⟨b + 1, 0, none⟩) 0 0) [] := by
  subst hb
  have hz : (w.alloc (.cells #[] 39)).heap.size = w.heap.size + 1 := by simp
  refine ⟨OF.empty' ((Gn.al (w := w.alloc (.cells #[] 39)) _).block (hnew w _)) (Nat.le_refl _), OF.empty' (by rw [← hz]; exact hnew _ _) (by omega), ?_⟩
  intro k h1 h2
  simp [Value.ownBlock] at h1 h2
  omega
theorem wpList_app2F {ops : Array Oper} {rest : List Oper} {a : Act} {w : World} {Q : Exit → Act → World → Prop} {d : Option Nat} {ty : TypeId} {pos : String} {aft : Array Edge} (s x : Operand)
    {base : Nat} {v : Value} {l : List F} (hs : a.eval s = v) (ho : OF w base v l) (hbase : base ≤ w.heap.size) {A : Option Addr} {m c : Nat} {k : List F} (hx : a.eval x = .slice A m c) (hk : SF w A m c k) (h0 : 0 < m) (hn : l.length + m ≤ 1099511627776)
    (hK : ∀ v' w', OF w' base v' (l ++ k) → w.grownBy w' v.ownBlock → (v'.ownBlock = v.ownBlock ∨ v'.ownBlock = some w.heap.size) → wpList Tryz.prog ops Q rest (a.put d v') w') :
    wpList Tryz.prog ops Q (⟨d, .call { callee := .builtin .append, args := #[s, x], argTypes := #[22, 22] }, ty, pos, aft, none⟩ :: rest) a w := by
  obtain ⟨i0, hi, hz0, hz1, hz2⟩ := info_parts u64Info
  obtain ⟨b, o, rfl, hb, hc⟩ := hk.cells h0
  obtain ⟨v', w', hrun, h2, h3, _, h5⟩ := run_append_own_at (P := Tryz.prog) w base 22 ty 39 i0 _ 1 8 Tryz.underlying22 hi hz0 hz1 hz2 rfl (by omega) v l.length (ff l) ho ⟨b, o, none⟩ m c (ff k)
    (by rw [ff_length, hk.len, Nat.mul_one]) (by
      intro j u hu
      have hj : j < k.length := by rw [← ff_length]; exact (List.getElem?_eq_some_iff.1 hu).1
      have hx : k[j]? = some k[j] := List.getElem?_eq_getElem hj
      rw [ff_get hx] at hu
      cases hu
      have hadd : (⟨b, o, none⟩ : Addr).add j = ⟨b, o + j, none⟩ := by unfold Addr.add; split <;> simp_all
      rw [hadd]
      exact hc _ _ hx) (ff_one k) (by unfold maxLen; omega) (by omega) hbase
  refine wpList_plain rfl fun K hK' => ?_
  unfold Oper.wp execOp
  simp only [resolve, invoke, builtin, Sem.run_bind, Sem.run_pure, Result.andThen_ok, List.map_toArray, List.map_cons, List.map_nil, hs, hx, hrun]
  refine hK' _ _ (hK v' w' ?_ h3 h5)
  unfold OF
  rw [List.length_append, hk.len, ff_append]; exact h2
theorem ex_oneE {ops : Array Oper} {W : World} {o : Oper} {Γ : List Ent} {a : Act} {s : Operand} {x : Ext} (hx : Arg ops W o Γ a s (isV (.agg #[.int .u64 (Zm.i (Ext.a (x))), .int .u64 (Zm.i (Ext.b (x)))]))) (hop : o.op = .buildSlice 38 1 #[(0, s)]) (hw : ∀ V, Region.wanted o (yielded ops (fill Γ V a).tmps) = true) : ExS Tryz.prog ops W o Γ a (sv [x]) := by
  refine ⟨ex_bld (e := 41) hop hw fun V N X hΓ w hw hX => ?_⟩
  have h1 : (fill Γ V a).eval s = .agg #[.int .u64 (Zm.i (Ext.a (x))), .int .u64 (Zm.i (Ext.b (x)))] := hx V N X hΓ w hw hX
  obtain ⟨i0, hi, hz0, hz1, hz2⟩ := info_parts extInfo
  have hr := run_buildSlice (P := Tryz.prog) w 38 41 1 #[(0, .agg #[.int .u64 (Zm.i (Ext.a (x))), .int .u64 (Zm.i (Ext.b (x)))])] #[.int .u64 (Zm.i (Ext.a x)), .int .u64 (Zm.i (Ext.b x))] i0 _ Tryz.underlying38 hi hz0 (by rw [hz1]; decide) (by rw [hz1]; decide) (by rw [hz1]; kernel_rfl)
  refine ⟨_, ?_, _, _, _, rfl, (Blk.one x).sl (by simp)⟩
  rw [← hr]
  simp [h1]
open Classical in
set_option maxHeartbeats 4000000 in
theorem y_encodeExt (A : Option Addr) (n c : Nat) (l : List Ext) (b : Int) (w : World) (hl : Sl w A n c l) (hn : n ≤ 1000000) (hb : b ≤ 9223372036854775807) :
    Calls Tryz.prog 17 #[.slice A n c, .int .i64 b] w fun e w' => RetE e w w' (encE l b) := by
  have la : (partA l).length = n := by rw [partA_length, hl.len]
  have lb : (partB l).length = n := by rw [partB_length, hl.len]
  obtain ⟨ra, ea, hEa⟩ : ∃ r e, encOf (partA l) b = (r, e) := ⟨_, _, rfl⟩
  obtain ⟨rb, eb, hEb⟩ : ∃ r e, encOf (partB l) b = (r, e) := ⟨_, _, rfl⟩
  obtain ⟨E, hE⟩ : ∃ E, E = encE l b := ⟨_, rfl⟩
  have hcase : (ea = 0 ∧ rb.length = ra.length ∧ ra.length ≤ 65536 ∧ E = (zipE ra rb, 0)) ∨ (ea = 1 ∧ E = ([], 1)) := by
    rw [hE]
    by_cases hv : vrow n b
    · refine .inl ?_
      obtain ⟨a, m, m1, m4, hna, rfl, ham⟩ := id hv
      rw [encOf_pow (la.trans hna) m1 m4 ham] at hEa
      rw [encOf_pow (lb.trans hna) m1 m4 ham] at hEb
      injection hEa with h1 h2
      injection hEb with h3 h4
      subst h1 h2 h3 h4
      refine ⟨rfl, by rw [valP_length, valP_length], by rw [valP_length]; exact pow_lt ham, ?_⟩
      unfold encE
      rw [if_pos (by rw [hl.len]; exact hv), encOf_pow (la.trans hna) m1 m4 ham, encOf_pow (lb.trans hna) m1 m4 ham]
    · refine .inr ?_
      rw [encOf_bad (by rw [la]; exact hv)] at hEa
      injection hEa with h1 h2
      exact ⟨h2.symm, by unfold encE; rw [if_neg (by rw [hl.len]; exact hv)]⟩
  rw [← hE]
  clear hE
  replace la := Lib.hid la; replace lb := Lib.hid lb; replace hEa := Lib.hid hEa; replace hEb := Lib.hid hEb; replace hcase := Lib.hid hcase
  go_enter Tryz.func17, Tryz.ntmps17
  go_wp2_with fail
  have T0 := TwoF.empty (w := w) rfl
  have hg0 : Gn w ((w.alloc (.cells #[] 39)).alloc (.cells #[] 39)) := (Gn.al _).trans (Gn.al _)
  generalize (w.alloc (.cells #[] 39)).alloc (.cells #[] 39) = w1 at *
  go_loopw [6, 7, 8] (fun va vb i wr => ∃ k : Nat, k ≤ n ∧ i = .int .i64 k ∧ TwoF wr w.heap.size va (tab k (co (partA l))) vb (tab k (co (partB l))) ∧ Gn w wr) (fun _ _ i _ => n - (intOf i).toNat)
  case atStart => exact ⟨0, by omega, rfl, T0, hg0⟩
  case round =>
    clear T0 hg0
    obtain ⟨k, hk, rfl, ho, hg⟩ := hrel
    have lka : (tab k (co (partA l))).length = k := tab_length _ _
    have lkb : (tab k (co (partB l))).length = k := tab_length _ _
    by_cases h1 : k < n
    · obtain ⟨b1, o1, x, rfl, hx, q1, q2, q3⟩ := hl.at_ h1
      have hsa := tab_succ k (co (partA l))
      have hsb := tab_succ k (co (partB l))
      rw [co_partA, co_at hx] at hsa
      rw [co_partB, co_at hx] at hsb
      replace hsa := Lib.hid hsa; replace hsb := Lib.hid hsb
      generalize tab k (co (partA l)) = Ta at *
      generalize tab k (co (partB l)) = Tb at *
      clear hx
      generalize Ext.a x = y at *
      generalize Ext.b x = z at *
      have hcA : ∀ W, Gn w W → W.cell? ⟨b1, o1 + k * 2, none⟩ = some (.int .u64 (Zm.i (y))) := fun W g => (g.below.cell (p := ⟨b1, _, none⟩) q1).trans q2
      have hcB : ∀ W, Gn w W → W.cell? ⟨b1, o1 + k * 2 + 1, none⟩ = some (.int .u64 (Zm.i (z))) := fun W g => (g.below.cell (p := ⟨b1, _, none⟩) q1).trans q3
      have hcS : ∀ W, Gn w W → b1 < W.heap.size := fun W g => Nat.lt_of_lt_of_le q1 g.size
      clear q1 q2 q3 hl
      have q1 := hcA wr hg; have q3 := hcS wr hg
      replace hcB := Lib.hid hcB; replace hcS := Lib.hid hcS
      clear hcA
      have hbw := hg.size
      go_wp2_with (first
        | (at_builtin; refine wpList_app2F (.tmp 23) (.tmp 29) rfl (ho.up (Gn.al _)).a (by simp; omega) rfl ((BF.one y).sf (by simp)) (by simp) (by simp; omega) ?_; intro v4 w4 ho4 hg4 hb4; have hg5 := grown_gnF (hg.trans (Gn.al _)) (ho.up (Gn.al _)).a (Nat.le_refl _) hg4; have T4 := (ho.up (Gn.al _)).app ho4 hg4 hb4; have q4 := hcB.out w4 hg5; have q5 := hcS.out w4 hg5; clear hg4 ho4 hb4)
        | (at_builtin; refine wpList_app2F (.tmp 31) (.tmp 37) rfl (T4.up (Gn.al _)).b (by have := hg5.size; simp; omega) rfl ((BF.one z).sf (by simp)) (by simp) (by simp; omega) ?_; intro v6 w6 ho6 hg6 hb6; have hg7 := grown_gnF (hg5.trans (Gn.al _)) (T4.up (Gn.al _)).b (Nat.le_refl _) hg6; have T6 := ((T4.up (Gn.al _)).symm.app ho6 hg6 hb6).symm; clear hg6 ho6 hb6))
      exact ⟨⟨k + 1, by omega, by go_num, by rw [hsa.out, hsb.out]; exact T6, hg7⟩, by simp [intOf]; omega⟩
    · obtain rfl : k = n := by omega
      have ta : tab k (co (partA l)) = partA l := by have := tab_eq (partA l); rwa [la.out] at this
      have tb : tab k (co (partB l)) = partB l := by have := tab_eq (partB l); rwa [lb.out] at this
      rw [ta, tb] at ho
      obtain ⟨Aa, ca, rfl, ha⟩ := ho.a.sf
      obtain ⟨Ab, cb, rfl, hb'⟩ := ho.b.sf
      rw [la.out] at ha
      rw [lb.out] at hb'
      try rw [la.out]
      try rw [lb.out]
      clear ho ta tb hl
      go_wp2_with fail
      refine (y_encode _ _ _ _ _ _ ha hn hb).mono ?_
      rintro e w2 hR
      rw [hEa.out] at hR
      obtain ⟨Aq, cq, rfl, hq, g⟩ := hR.get rfl
      replace hg := hg.trans g; replace hb' := hb'.up g
      clear g hR ha
      go_wp2_with fail
      refine (y_encode _ _ _ _ _ _ hb' hn hb).mono ?_
      rintro e w3 hR
      rw [hEb.out] at hR
      obtain ⟨Ar, cr, rfl, hr, g⟩ := hR.get rfl
      replace hg := hg.trans g; replace hq := hq.up g
      clear g hR hb'
      rcases hcase.out with ⟨e1, e2, e3, e4⟩ | ⟨e1, e4⟩
      · subst e1 e4
        have hrl : rb.length = ra.length := e2
        obtain ⟨M, hM⟩ : ∃ M, M = ra.length := ⟨_, rfl⟩
        rw [hrl] at hr ⊢
        rw [← hM] at hr hq e3 ⊢
        replace hM := Lib.hid hM
        clear e2 hrl
        go_wp2_with fail
        go_loopw [13, 14] (fun v i wr => ∃ k : Nat, k ≤ M ∧ i = .int .i64 k ∧ Ow wr w3.heap.size v (tab k fun i => (⟨co ra i, co rb i⟩ : Ext)) ∧ Gn w3 wr) (fun _ i _ => M - (intOf i).toNat)
        case atStart => exact ⟨0, by omega, rfl, Ow.empty w3 (Nat.le_refl _), Gn.al _⟩
        case round =>
          obtain ⟨j, hj, rfl, ho, hs⟩ := hrel
          have lk : (tab j fun i => (⟨co ra i, co rb i⟩ : Ext)).length = j := tab_length _ _
          by_cases h2 : j < M
          · obtain ⟨b1, o1, x, E1, hx, p1, q1⟩ := (hq.up hs).at_ h2
            obtain ⟨b2, o2, y, E2, hy, p2, q2⟩ := (hr.up hs).at_ h2
            subst E1 E2
            have hst := tab_succ j fun i => (⟨co ra i, co rb i⟩ : Ext)
            rw [coF_get hx, coF_get hy] at hst
            replace hst := Lib.hid hst
            clear hx hy hq hr
            generalize (tab j fun i => (⟨co ra i, co rb i⟩ : Ext)) = T at *
            go_wp2_with fail
            try simp only [List.append_eq, List.cons_append, List.nil_append]
            refine Fk.wp_region_flow 11 (by kernel_rfl) (by kernel_rfl) ?_
            refine Fk.flow_one rfl (freeB_spec (by kernel_rfl)) ?_
            go_big_quiet_step (fail)
            refine wpQuiet_nil ?_
            refine Fk.flow_one rfl (freeB_spec (by kernel_rfl)) ?_
            go_big_quiet_step (fail)
            refine wpQuiet_nil ?_
            refine Fk.flow_one rfl (freeB_spec (by kernel_rfl)) ?_
            go_big_quiet_step (fail)
            refine wpQuiet_nil ?_
            refine Fk.flow_one rfl (freeB_spec (by kernel_rfl)) ?_
            go_big_quiet_step (fail)
            refine wpQuiet_nil ?_
            refine Fk.flow_one rfl (freeB_spec (by kernel_rfl)) ?_
            go_big_quiet_step (fail)
            refine wpQuiet_nil ?_
            refine Fk.flow_one rfl (freeB_spec (by kernel_rfl)) ?_
            go_big_quiet_step (fail)
            refine wpQuiet_nil ?_
            refine Fk.flow_one rfl (freeB_spec (by kernel_rfl)) ?_
            go_big_quiet_step (fail)
            refine wpQuiet_nil ?_
            refine Fk.flow_one rfl (freeB_spec (by kernel_rfl)) ?_
            go_big_quiet_step (fail)
            refine wpQuiet_nil ?_
            refine Fk.flow_one rfl (freeB_spec (by kernel_rfl)) ?_
            go_big_quiet_step (fail)
            refine wpQuiet_nil ?_
            refine Fk.flow_one rfl (freeB_spec (by kernel_rfl)) ?_
            go_big_quiet_step (fail)
            refine wpQuiet_nil ?_
            refine flow_exS _ rfl (ex_oneE (x := ⟨x, y⟩) (arg_v (by kernel_rfl) rfl) rfl (want_fill (by kernel_rfl) (by kernel_rfl))) ?_
            intro V N' X hΓ hdis g hX
            obtain ⟨Az, cz, vz, hz⟩ := end_sv hΓ hX 71 0 rfl
            clear hΓ hdis hX
            have hgn : Gn wr (gr wr g) := ⟨g, rfl⟩
            generalize gr wr g = w4 at *
            conv => arg 5; simp only [fill, Act.put, List.setIfInBounds_toArray, List.set_cons_succ, List.set_cons_zero, vz]
            clear vz
            replace hs := hs.trans hgn
            replace ho := ho.up hgn
            refine wpList_app (.tmp 61) (.tmp 71) rfl ho hs.size rfl hz (by simp; omega) ?_
            intro v5 w5 ho5 hg5
            have hg6 := grown_gn hs ho (Nat.le_refl _) hg5
            clear hg5 p1 q1 p2 q2
            go_wp2_with fail
            exact ⟨⟨j + 1, by omega, by go_num, by rw [hst.out]; exact ho5, hg6⟩, by simp [intOf]; omega⟩
          · obtain rfl : j = M := by omega
            have hz : (tab j fun i => (⟨co ra i, co rb i⟩ : Ext)) = zipE ra rb := by unfold zipE; rw [← hM.out]
            rw [hz] at ho lk
            obtain ⟨Av, cv, rfl, hsl⟩ := ho.sl
            rw [lk] at hsl
            clear ho hz
            go_wp2_with fail
            go_ret2
            refine ⟨⟨Av, cv, ?_, ?_⟩, hg.trans hs⟩
            · show _ = Ending.returned (.tuple #[.slice Av (zipE ra rb).length cv, .int .i64 0])
              rw [lk]; rfl
            · show Sl _ Av (zipE ra rb).length cv (zipE ra rb)
              rw [lk]; exact hsl
      · subst e1 e4
        go_wp2_with fail
        go_ret2
        exact ⟨⟨none, 0, rfl, Sl.nil _⟩, hg⟩
end Go.Proofs.YtbfblckgcefaaaaGreatDoor
