/- The walk of poly.At. -/
import Derived.Test.YtjchccpicddpoaaFb
import Derived.Test.YtjchccpicddpoaaPw14
import Derived.Test.YtjchccpicddpoaaIp
namespace Go.Proofs.Ytjchccpicddpoaa
open Go.RowKit Att Att.CRing
/-- the products before each node, and from each node on -/
def bfL (x : Ext) (n : Nat) : List Ext := tab (n + 1) fun i => pd i (fun k => x - nde k)
def afL (x : Ext) (n : Nat) : List Ext := tab (n + 1) fun i => pd (n - i) (fun k => x - nde (i + k))
theorem bfL_len (x : Ext) (n : Nat) : (bfL x n).length = n + 1 := tab_length _ _
theorem afL_len (x : Ext) (n : Nat) : (afL x n).length = n + 1 := tab_length _ _
theorem bfL_get (x : Ext) {n i : Nat} (h : i ≤ n) : (bfL x n)[i]? = some (pd i (fun k => x - nde k)) := by
  unfold bfL tab; rw [List.getElem?_map, List.getElem?_range (by omega)]; rfl
theorem afL_get (x : Ext) {n i : Nat} (h : i ≤ n) : (afL x n)[i]? = some (pd (n - i) (fun k => x - nde (i + k))) := by
  unfold afL tab; rw [List.getElem?_map, List.getElem?_range (by omega)]; rfl
theorem pd_after (x : Ext) {n i : Nat} (h : i < n) : pd (n - i) (fun k => x - nde (i + k)) = pd (n - (i + 1)) (fun k => x - nde (i + 1 + k)) * (x - nde i) := by
  rw [show n - i = (n - (i + 1)) + 1 from by omega, pd_front, mul_comm]
  congr 1
  exact pd_congr fun k _ => by rw [show i + (k + 1) = i + 1 + k from by omega]
theorem Fi_got (res : List Ext) {i j : Nat} (h : j < i) (hi : i ≤ res.length) : (Fi res i)[j]? = res[j]? := by
  unfold Fi; rw [List.getElem?_append_left (by simp; omega), List.getElem?_take_of_lt h]
theorem Bi_got (res : List Ext) {k i : Nat} (h : k ≤ i) : (Bi res k)[i]? = res[i]? := by
  unfold Bi
  rw [List.getElem?_append_right (by simp; omega), List.length_replicate, List.getElem?_drop, show k + (i - k) = i from by omega]
/-- two rows that a flow made -/
theorem end_mk2 {W : World} {Γ : List Ent} {V : Nat → Value} {N : Nat → Nat} {X : Nat → World} (h : ∀ e ∈ Γ, e.rel (V e.slot) (N e.slot) (X e.slot) ∧ Up W (X e.slot) ∧ W.heap.size ≤ N e.slot)
    (hd : ∀ e ∈ Γ, ∀ e' ∈ Γ, e.slot ≠ e'.slot → (X e.slot).heap.size ≤ N e'.slot ∨ (X e'.slot).heap.size ≤ N e.slot)
    {w : World} (hX : ∀ e ∈ Γ, Up (X e.slot) w) (s t m : Nat) (hs : ⟨s, mkRel m⟩ ∈ Γ) (ht : ⟨t, mkRel m⟩ ∈ Γ) (hne : s ≠ t) :
    ∃ b c, (V s = .slice (some ⟨b, 0, none⟩) m m ∧ V t = .slice (some ⟨c, 0, none⟩) m m) ∧ b ≠ c ∧ W.heap.size ≤ b ∧ W.heap.size ≤ c ∧ Blk w b (List.replicate m 0) ∧ Blk w c (List.replicate m 0) := by
  have h0 := h _ hs
  have k0 := h _ ht
  dsimp only at h0 k0
  obtain ⟨⟨b, b1, b2, b3⟩, _, b4⟩ := h0
  obtain ⟨⟨c, c1, c2, c3⟩, _, c4⟩ := k0
  have b5 := blk_lt b3
  have c5 := blk_lt c3
  refine ⟨b, c, ⟨b1, c1⟩, ?_, Nat.le_trans b4 b2, Nat.le_trans c4 c2, b3.up (Gn.of (hX _ hs)), c3.up (Gn.of (hX _ ht))⟩
  have := hd _ hs _ ht hne
  dsimp only at this
  omega
/-- the boxes and rows of At -/
structure Aw (w wr : World) (bb ba : Nat) (x : Ext) (p q : List Ext) : Prop where
  g : Gn w wr
  x : wr.heap[w.heap.size]? = some (.cells #[.int .u64 (Zm.i (Ext.a x)), .int .u64 (Zm.i (Ext.b x))] 25)
  r : wr.heap[w.heap.size + 1]? = some zeroExt
  p : Blk wr bb p
  q : Blk wr ba q
  hb : w.heap.size + 1 < bb
  ha : w.heap.size + 1 < ba
  ne : bb ≠ ba
section
variable {w wr w2 : World} {bb ba : Nat} {x : Ext} {p q : List Ext}
theorem Aw.up (h : Aw w wr bb ba x p q) (g : Gn wr w2) : Aw w w2 bb ba x p q := ⟨h.g.trans g, g.block h.x, g.block h.r, h.p.up g, h.q.up g, h.hb, h.ha, h.ne⟩
theorem Aw.setP (h : Aw w wr bb ba x p q) {i : Nat} (hi : i < p.length) (u : Ext) : Aw w (setE wr bb i u) bb ba x (p.set i u) q :=
  have h1 := h.hb; have h2 := h.ha; have h3 := h.ne
  ⟨setE_below h.g (by omega) u, (setE_other (by omega) u).trans h.x, (setE_other (by omega) u).trans h.r, h.p.set hi u, (setE_other (Ne.symm h3) u).trans h.q, h1, h2, h3⟩
theorem Aw.setQ (h : Aw w wr bb ba x p q) {i : Nat} (hi : i < q.length) (u : Ext) : Aw w (setE wr ba i u) bb ba x p (q.set i u) :=
  have h1 := h.hb; have h2 := h.ha; have h3 := h.ne
  ⟨setE_below h.g (by omega) u, (setE_other (by omega) u).trans h.x, (setE_other (by omega) u).trans h.r, (setE_other h3 u).trans h.p, h.q.set hi u, h1, h2, h3⟩
theorem Aw.other (h : Aw w wr bb ba x p q) {b : Nat} (h0 : w.heap.size + 1 < b) (h1 : b ≠ bb) (h2 : b ≠ ba) (u : Ext) : Aw w (set2 wr b u) bb ba x p q :=
  ⟨set2_below h.g (by omega) u, (set2_other (by omega) u).trans h.x, (set2_other (by omega) u).trans h.r, (set2_other (Ne.symm h1) u).trans h.p, (set2_other (Ne.symm h2) u).trans h.q, h.hb, h.ha, h.ne⟩
end
set_option maxHeartbeats 4000000 in
theorem p_atF (f : Ext → Ext) (hf : ∀ (x : Ext), x ≠ 0 → ∀ w, Calls Try.prog 68 #[.agg #[.int .u64 (Zm.i (Ext.a (x))), .int .u64 (Zm.i (Ext.b (x)))]] w fun e w' => e = .returned (.tuple #[.agg #[.int .u64 (Zm.i (Ext.a (f x))), .int .u64 (Zm.i (Ext.b (f x)))], .int .i64 0]) ∧ ∃ g, w' = gr w g)
    (A : Option Addr) (n c : Nat) (l : List Ext) (x : Ext) (w : World) (hl : Sl w A n c l) (hn : n ≤ 100000) :
    Calls Try.prog 35 #[.slice A n c, .agg #[.int .u64 (Zm.i (Ext.a (x))), .int .u64 (Zm.i (Ext.b (x)))]] w fun e w' => e = .returned (.agg #[.int .u64 (Zm.i (Ext.a (atS f l n x n))), .int .u64 (Zm.i (Ext.b (atS f l n x n)))]) ∧ ∃ g, w' = gr w g := by
  have n1 := hl.le; have n2 := hl.small
  go_enter Try.func35, Try.ntmps35
  go_wp2_with fail
  have g0 : Gn w ((w.alloc (.cells #[.int .u64 (Zm.i (Ext.a x)), .int .u64 (Zm.i (Ext.b x))] 25)).alloc zeroExt) := (Gn.al _).trans (Gn.al _)
  have x0 := (Gn.al zeroExt).block (hnew w (.cells #[.int .u64 (Zm.i (Ext.a x)), .int .u64 (Zm.i (Ext.b x))] 25))
  have r0 := hnew (w.alloc (.cells #[.int .u64 (Zm.i (Ext.a x)), .int .u64 (Zm.i (Ext.b x))] 25)) zeroExt
  have z0 : ((w.alloc (.cells #[.int .u64 (Zm.i (Ext.a x)), .int .u64 (Zm.i (Ext.b x))] 25)).alloc zeroExt).heap.size = w.heap.size + 1 + 1 := by simp
  simp only [World.size_alloc] at r0
  have e0 : (w.alloc (.cells #[.int .u64 (Zm.i (Ext.a x)), .int .u64 (Zm.i (Ext.b x))] 25)).alloc (.cells #[.int .u64 0, .int .u64 0] 25) = (w.alloc (.cells #[.int .u64 (Zm.i (Ext.a x)), .int .u64 (Zm.i (Ext.b x))] 25)).alloc zeroExt := rfl
  rw [e0]
  clear e0
  generalize (w.alloc (.cells #[.int .u64 (Zm.i (Ext.a x)), .int .u64 (Zm.i (Ext.b x))] 25)).alloc zeroExt = w1 at *
  replace z0 := Lib.hid z0
  try simp only [List.append_eq, List.cons_append, List.nil_append]
  refine Fc.wp_region_flow 7 6 17 (by kernel_rfl) (by kernel_rfl) (by kernel_rfl) (by simp) ?_
  refine Fc.flow_one rfl (by simp) (freeB_spec (by kernel_rfl)) ?_
  go_big_quiet_step (fail)
  refine wpQuiet_nil ?_
  refine Fc.flow_one rfl (by simp) (freeB_spec (by kernel_rfl)) ?_
  go_big_quiet_step (fail)
  refine wpQuiet_nil ?_
  refine Fc.flow_ex (mkRel (n + 1)) rfl (by simp) (ex_mk _ _ _ _ _ _ (n + 1) (fun V => congrArg (Value.int .i64) (by omega)) (fun V => congrArg (Value.int .i64) (by omega)) (by omega)) ?_
  refine Fc.flow_one rfl (by simp) (freeB_spec (by kernel_rfl)) ?_
  go_big_quiet_step (fail)
  refine wpQuiet_nil ?_
  refine Fc.flow_one rfl (by simp) (freeB_spec (by kernel_rfl)) ?_
  go_big_quiet_step (fail)
  refine wpQuiet_nil ?_
  refine Fc.flow_ex (mkRel (n + 1)) rfl (by simp) (ex_mk _ _ _ _ _ _ (n + 1) (fun V => congrArg (Value.int .i64) (by omega)) (fun V => congrArg (Value.int .i64) (by omega)) (by omega)) ?_
  refine Fc.flow_cp rfl ?_
  intro V N' X hcpy hΓ hdis g hX
  obtain ⟨b6, b7, ⟨v1, v2⟩, hne, n3, n4, hP0, hQ0⟩ := end_mk2 hΓ hdis hX 17 20 (n + 1) (by simp) (by simp) (by decide)
  have hgn : Gn w1 (gr w1 g) := ⟨g, rfl⟩
  clear hΓ hdis hX
  generalize gr w1 g = w2 at *
  conv => arg 5; simp only [fill, hcpy, v1, v2, Act.put, List.setIfInBounds_toArray, List.set_cons_succ, List.set_cons_zero]
  clear v1 v2 hcpy
  replace z0 := z0.out
  have hD : Aw w w2 b6 b7 x (List.replicate (n + 1) 0) (List.replicate (n + 1) 0) := ⟨g0.trans hgn, hgn.block x0, hgn.block r0, hP0, hQ0, by omega, by omega, hne⟩
  clear x0 r0 g0 hgn hP0 hQ0 z0 n3 n4
  go_wp2_with fail
  refine (p_node 1 (by omega) (by omega) _).mono ?_
  rintro e w3 ⟨rfl, g3⟩
  go_wp2_with fail
  refine (p_node 1 (by omega) (by omega) _).mono ?_
  rintro e w4 ⟨rfl, g4⟩
  have hD4 := hD.up (Gn.trans g3 g4)
  clear hD g3 g4
  have hB1 := Fi_zero (bfL x n)
  have hA1 := Bi_start (afL x n)
  rw [bfL_len] at hB1
  rw [afL_len] at hA1
  have hD4 : Aw w w4 b6 b7 x (Fi (bfL x n) 0) (Bi (afL x n) (n + 1)) := by rw [hB1, hA1]; exact hD4
  obtain ⟨c1, c2⟩ := hD4.p.cell (Fi_get (bfL x n) (i := 0) (by rw [bfL_len]; omega))
  have c3 := blk_lt hD4.p
  have c4 := box_fz (i := 0) hD4.p
  have c5 := box_fz (i := 1) hD4.p
  have i1 := int_one (K := Ext)
  have hS1 := hD4.setP (i := 0) (by rw [Fi_length _ (by rw [bfL_len]; omega), bfL_len]; omega) (int 1)
  rw [Fi_set (show (bfL x n)[0]? = some (int 1) by rw [i1]; exact bfL_get x (by omega))] at hS1
  obtain ⟨d1, d2⟩ := hS1.q.cell (Bi_get (afL x n) (k := n))
  have d3 := blk_lt hS1.q
  have d4 := box_fz (i := n * 2) hS1.q
  have d5 := box_fz (i := n * 2 + 1) hS1.q
  have hS2 := hS1.setQ (i := n) (by rw [Bi_length _ (by rw [afL_len]; omega), afL_len]; omega) (int 1)
  rw [Bi_set (show (afL x n)[n]? = some (int 1) by rw [i1, afL_get x (Nat.le_refl n), Nat.sub_self]; rfl)] at hS2
  unfold setE at d1 d2 d3 d4 d5 hS2
  clear hS1 i1 hB1 hA1
  go_wp2_with fail
  simp only [Nat.zero_mul, Nat.zero_add] at hS2
  generalize World.setCell (World.setCell _ ⟨b7, n * 2, none⟩ _) ⟨b7, n * 2 + 1, none⟩ _ = w5 at hS2 ⊢
  clear c1 c2 c3 c4 c5 d1 d2 d3 d4 d5 hD4
  go_loopw [29] (fun i wr => ∃ k : Nat, k ≤ n ∧ i = .int .i64 k ∧ Aw w wr b6 b7 x (Fi (bfL x n) (k + 1)) (Bi (afL x n) n)) (fun i _ => n - (intOf i).toNat)
  case atStart => exact ⟨0, by omega, rfl, hS2⟩
  case round =>
    clear hS2
    obtain ⟨k, hk, rfl, hD⟩ := hrel
    by_cases h1 : k < n
    · have hG : (Fi (bfL x n) (k + 1))[k]? = some (pd k fun k => x - nde k) := (Fi_got _ (by omega) (by rw [bfL_len]; omega)).trans (bfL_get x hk)
      have hil := Lib.hid (show k + 1 < (Fi (bfL x n) (k + 1)).length by rw [Fi_length _ (by rw [bfL_len]; omega), bfL_len]; omega)
      have hS : Hid ((Fi (bfL x n) (k + 1)).set (k + 1) ((pd k fun k => x - nde k) * (x - int (k : Int))) = Fi (bfL x n) (k + 1 + 1)) := Lib.hid (Fi_set (bfL_get x (i := k + 1) (by omega)))
      generalize (pd k fun k => x - nde k) = u at *
      obtain ⟨c1, c2⟩ := hD.p.cell hG
      have c3 := blk_lt hD.p
      have d1 := box_a hD.x
      have d2 := box_b hD.x
      have d3 := blk_lt hD.x
      clear hG
      have e1 : IntKind.i64.wrap ((k : Int) + 1) = (k : Int) + 1 := IntWalk.i64_in _ (by omega)
      have e2 : 0 ≤ (k : Int) + 1 := by omega
      have e3 : ((k : Int) + 1).toNat = k + 1 := by omega
      go_wp2_with fail
      try simp only [List.append_eq, List.cons_append, List.nil_append]
      refine wp_region_flow 13 (by kernel_rfl) (by kernel_rfl) ?_
      refine flow_one rfl (by simp) ?_
      go_big_quiet_step (fail)
      refine wpQuiet_nil ?_
      refine flow_one rfl (by simp) ?_
      go_big_quiet_step (fail)
      refine wpQuiet_nil ?_
      refine flow_one rfl (by simp) ?_
      go_big_quiet_step (fail)
      refine wpQuiet_nil ?_
      refine flow_one rfl (by simp) ?_
      go_big_quiet_step (fail)
      refine wpQuiet_nil ?_
      refine flow_one rfl (by simp) ?_
      go_big_quiet_step (fail)
      refine wpQuiet_nil ?_
      refine flow_one rfl (by simp) ?_
      go_big_quiet_step (fail)
      refine wpQuiet_nil ?_
      refine flow_one rfl (by simp) ?_
      go_big_quiet_step (fail)
      refine wpQuiet_nil ?_
      refine flow_one rfl (by simp) ?_
      go_big_quiet_step (fail)
      refine wpQuiet_nil ?_
      refine flow_one rfl (by simp) ?_
      go_big_quiet_step (fail)
      refine wpQuiet_nil ?_
      apply flow_is
      · simp
      · intro g K hK
        go_wp2_with fail
        refine (p_node (k : Int) (by omega) (by omega) _).mono ?_
        rintro e w' ⟨rfl, g', rfl⟩
        go_wp2_with fail
        exact hK _ (up_comp g g')
      · rfl
      apply flow_is
      · simp
      · intro g K hK
        go_wp2_with fail
        refine (e_sub x (int (k : Int)) _).mono ?_
        rintro e w' ⟨rfl, g', rfl⟩
        go_wp2_with fail
        exact hK _ (up_comp g g')
      · rfl
      apply flow_is
      · simp
      · intro g K hK
        go_wp2_with fail
        refine (e_mul u (x - int (k : Int)) _).mono ?_
        rintro e w' ⟨rfl, g', rfl⟩
        go_wp2_with fail
        exact hK _ (up_comp g g')
      · rfl
      refine flow_one rfl (by simp) ?_
      go_big_quiet_step (fail)
      refine wpQuiet_nil ?_
      intro V N' X hΓ hdis g hX
      clear hΓ hdis hX
      conv => arg 5; simp only [fill]
      have hgn : Gn wr (gr wr g) := ⟨g, rfl⟩
      have hD2 := hD.up hgn
      generalize gr wr g = w6 at *
      refine tail_storeE (b := b6) (i := k + 1) (x := u * (x - int (k : Int))) rfl rfl hD2.p hil.out ?_
      refine wpList_nil ?_
      have hD3 := hD2.setP hil.out (u * (x - int (k : Int)))
      rw [hS.out] at hD3
      generalize setE w6 b6 (k + 1) (u * (x - int (k : Int))) = w7 at hD3 ⊢
      clear c1 c2 c3 d1 d2 d3 e1 e2 e3 hD hD2
      go_wp2_with fail
      exact ⟨⟨k + 1, by omega, by go_num, hD3⟩, by simp [intOf]; omega⟩
    · obtain rfl : k = n := by omega
      have hF := Fi_end (bfL x k)
      rw [bfL_len] at hF
      rw [hF] at hD
      clear hF
      go_wp2_with fail
      generalize wr = w8 at hD ⊢
      go_loopw [9] (fun v wr => ∃ j : Nat, j ≤ k ∧ v = .int .i64 ((j : Int) - 1) ∧ Aw w wr b6 b7 x (bfL x k) (Bi (afL x k) j)) (fun v _ => (intOf v + 1).toNat)
      case atStart => exact ⟨k, Nat.le_refl _, rfl, hD⟩
      case round =>
        clear hD
        obtain ⟨j', hj, rfl, hD⟩ := hrel
        cases j' with
        | zero =>
          rw [Bi_end] at hD
          have p1 := blk_lt hD.p
          have p2 := blk_lt hD.q
          have p3 := hD.hb
          go_wp2_with fail
          have hD := hD.up (Gn.al zeroExt)
          have hs := hnew wr zeroExt
          have hz : (wr.alloc zeroExt).heap.size = wr.heap.size + 1 := by simp
          have e0 : wr.alloc (.cells #[.int .u64 0, .int .u64 0] 25) = wr.alloc zeroExt := rfl
          rw [e0]
          clear e0
          generalize wr.alloc zeroExt = w9 at *
          generalize wr.heap.size = bs at *
          refine (p_weightsB f hf k (by omega) _).mono ?_
          rintro e w10 ⟨rfl, hw, g10⟩
          have hD := hD.up g10
          have hs := g10.block hs
          clear g10
          rw [hz] at hw ⊢
          clear hz
          go_wp2_with fail
          go_loopw [68] (fun v wr => ∃ i : Nat, i ≤ k ∧ v = .int .i64 i ∧ Aw w wr b6 b7 x (bfL x k) (afL x k) ∧ wr.heap[bs]? = some (.cells #[.int .u64 (Zm.i (Ext.a (atS f l k x i))), .int .u64 (Zm.i (Ext.b (atS f l k x i)))] 25) ∧ Blk wr (bs + 1) (wtsF f k)) (fun v _ => k - (intOf v).toNat)
          case atStart => exact ⟨0, by omega, rfl, hD, hs, hw⟩
          case round =>
            clear hD hs hw
            obtain ⟨i, hi, rfl, hD, hs, hw⟩ := hrel
            by_cases h2 : i < k
            · obtain ⟨c1, c2⟩ := hw.cell (wtsF_get f h2)
              have c3 := blk_lt hw
              have hat : atS f l k x (i + 1) = atS f l k x i + co l i * f (wpr i k) * (pd i (fun k => x - nde k) * pd (k - (i + 1)) (fun m => x - nde (i + 1 + m))) := rfl
              have hGb := bfL_get x (n := k) hi
              have hGa := afL_get x (n := k) (i := i + 1) (by omega)
              have hAt := Lib.hid hat; clear hat
              generalize f (wpr i k) = y at *
              generalize pd i (fun k => x - nde k) = u at *
              generalize pd (k - (i + 1)) (fun m => x - nde (i + 1 + m)) = v at *
              generalize atS f l k x i = s at *
              obtain ⟨b0, o0, z, rfl, hz, -, -, -⟩ := (hl.up hD.g).at_ h2
              have HZ := Lib.hid (co_at hz); clear hz
              go_wp2_with fail
              have hb := hnew wr (.cells #[.int .u64 (Zm.i (Ext.a y)), .int .u64 (Zm.i (Ext.b y))] 25)
              have hD := hD.up (Gn.al (.cells #[.int .u64 (Zm.i (Ext.a y)), .int .u64 (Zm.i (Ext.b y))] 25))
              have hs := (Gn.al (.cells #[.int .u64 (Zm.i (Ext.a y)), .int .u64 (Zm.i (Ext.b y))] 25)).block hs
              have hw := hw.up (Gn.al (.cells #[.int .u64 (Zm.i (Ext.a y)), .int .u64 (Zm.i (Ext.b y))] 25))
              clear c1 c2 c3
              generalize wr.alloc (.cells #[.int .u64 (Zm.i (Ext.a y)), .int .u64 (Zm.i (Ext.b y))] 25) = w11 at *
              generalize wr.heap.size = by_ at *
              obtain ⟨b1, o1, z1, e1, hz1, r1, r2, r3⟩ := (hl.up hD.g).at_ h2
              cases e1
              obtain rfl : z1 = z := (co_at hz1).symm.trans HZ.out
              clear hz1
              have c1 := box_a hb
              have c2 := box_b hb
              have c3 := blk_lt hb
              have s1 := box_a hs
              have s2 := box_b hs
              have s3 := blk_lt hs
              obtain ⟨d1, d2⟩ := hD.p.cell hGb
              have d3 := blk_lt hD.p
              obtain ⟨f1, f2⟩ := hD.q.cell hGa
              have f3 := blk_lt hD.q
              have e1 : IntKind.i64.wrap ((i : Int) + 1) = (i : Int) + 1 := IntWalk.i64_in _ (by omega)
              have e2 : 0 ≤ (i : Int) + 1 := by omega
              have e3 : ((i : Int) + 1).toNat = i + 1 := by omega
              try simp only [List.append_eq, List.cons_append, List.nil_append]
              refine wp_region_flow 19 (by kernel_rfl) (by kernel_rfl) ?_
              refine flow_one rfl (by simp) ?_
              go_big_quiet_step (fail)
              refine wpQuiet_nil ?_
              refine flow_one rfl (by simp) ?_
              go_big_quiet_step (fail)
              refine wpQuiet_nil ?_
              refine flow_one rfl (by simp) ?_
              go_big_quiet_step (fail)
              refine wpQuiet_nil ?_
              refine flow_one rfl (by simp) ?_
              go_big_quiet_step (fail)
              refine wpQuiet_nil ?_
              refine flow_one rfl (by simp) ?_
              go_big_quiet_step (fail)
              refine wpQuiet_nil ?_
              refine flow_one rfl (by simp) ?_
              go_big_quiet_step (fail)
              refine wpQuiet_nil ?_
              apply flow_is
              · simp
              · intro g K hK
                go_wp2_with fail
                refine (e_mul z1 y _).mono ?_
                rintro e w' ⟨rfl, g', rfl⟩
                go_wp2_with fail
                exact hK _ (up_comp g g')
              · rfl
              refine flow_one rfl (by simp) ?_
              go_big_quiet_step (fail)
              refine wpQuiet_nil ?_
              refine flow_one rfl (by simp) ?_
              go_big_quiet_step (fail)
              refine wpQuiet_nil ?_
              refine flow_one rfl (by simp) ?_
              go_big_quiet_step (fail)
              refine wpQuiet_nil ?_
              refine flow_one rfl (by simp) ?_
              go_big_quiet_step (fail)
              refine wpQuiet_nil ?_
              refine flow_one rfl (by simp) ?_
              go_big_quiet_step (fail)
              refine wpQuiet_nil ?_
              refine flow_one rfl (by simp) ?_
              go_big_quiet_step (fail)
              refine wpQuiet_nil ?_
              refine flow_one rfl (by simp) ?_
              go_big_quiet_step (fail)
              refine wpQuiet_nil ?_
              refine flow_one rfl (by simp) ?_
              go_big_quiet_step (fail)
              refine wpQuiet_nil ?_
              refine flow_one rfl (by simp) ?_
              go_big_quiet_step (fail)
              refine wpQuiet_nil ?_
              apply flow_is
              · simp
              · intro g K hK
                go_wp2_with fail
                refine (e_mul u v _).mono ?_
                rintro e w' ⟨rfl, g', rfl⟩
                go_wp2_with fail
                exact hK _ (up_comp g g')
              · rfl
              apply flow_is
              · simp
              · intro g K hK
                go_wp2_with fail
                refine (e_mul (z1 * y) (u * v) _).mono ?_
                rintro e w' ⟨rfl, g', rfl⟩
                go_wp2_with fail
                exact hK _ (up_comp g g')
              · rfl
              apply flow_is
              · simp
              · intro g K hK
                go_wp2_with fail
                refine (e_add s (z1 * y * (u * v)) _).mono ?_
                rintro e w' ⟨rfl, g', rfl⟩
                go_wp2_with fail
                exact hK _ (up_comp g g')
              · rfl
              intro V N' X hΓ hdis g hX
              clear hΓ hdis hX
              conv => arg 5; simp only [fill]
              have hgn : Gn w11 (gr w11 g) := ⟨g, rfl⟩
              have hD2 := hD.up hgn
              have hs2 := hgn.block hs
              have hw2 := hw.up hgn
              generalize gr w11 g = w12 at *
              have s3' := s3
              clear s3
              refine tail_store (b := bs) (x := s + z1 * y * (u * v)) rfl rfl hs2 ?_
              refine wpList_nil ?_
              have hD3 := hD2.other (b := bs) (by omega) (by omega) (by omega) (s + z1 * y * (u * v))
              have hs3 := set2_same hs2 (s + z1 * y * (u * v))
              have hw3 : Blk (set2 w12 bs (s + z1 * y * (u * v))) (bs + 1) (wtsF f k) := (set2_other (by omega) _).trans hw2
              rw [← HZ.out, ← hAt.out] at hs3 hD3 hw3 ⊢
              generalize set2 w12 bs (atS f l k x (i + 1)) = w13 at *
              clear c1 c2 c3 s1 s2 s3' d1 d2 d3 f1 f2 f3 e1 e2 e3 r1 r2 r3
              go_wp2_with fail
              exact ⟨⟨i + 1, by omega, by go_num, hD3, hs3, hw3⟩, by simp [intOf]; omega⟩
            · obtain rfl : i = k := by omega
              generalize hs0 : atS f l i x i = s at *
              replace hs0 := Lib.hid hs0
              have s1 := box_a hs
              have s2 := box_b hs
              have s3 := blk_lt hs
              have t1 := box_a hD.r
              have t2 := box_b hD.r
              have t3 := box_fz (i := 0) hD.r
              have t4 := box_fz (i := 1) hD.r
              have hR := set2_same hD.r s
              have hg := set2_below hD.g (b := w.heap.size + 1) (by omega) s
              go_wp2_with fail
              have v1 := box_a hR
              have v2 := box_b hR
              unfold set2 at v1 v2 hg
              exact bodyPost_ret (v := .agg #[.int .u64 (Zm.i (Ext.a (s))), .int .u64 (Zm.i (Ext.b (s)))]) (by simp [results, Try.results35, go_sem, v1, v2]) rfl ⟨by rw [hs0.out], hg⟩
        | succ j =>
          have hG : (Bi (afL x k) (j + 1))[j + 1]? = some (pd (k - (j + 1)) fun m => x - nde (j + 1 + m)) := (Bi_got _ (Nat.le_refl _)).trans (afL_get x hj)
          have hil := Lib.hid (show j < (Bi (afL x k) (j + 1)).length by rw [Bi_length _ (by rw [afL_len]; omega), afL_len]; omega)
          have hS : Hid ((Bi (afL x k) (j + 1)).set j ((pd (k - (j + 1)) fun m => x - nde (j + 1 + m)) * (x - int (j : Int))) = Bi (afL x k) j) := Lib.hid (Bi_set (by rw [afL_get x (show j ≤ k by omega), pd_after x (show j < k by omega)]; rfl))
          generalize (pd (k - (j + 1)) fun m => x - nde (j + 1 + m)) = u at *
          obtain ⟨c1, c2⟩ := hD.q.cell hG
          have c3 := blk_lt hD.q
          have d1 := box_a hD.x
          have d2 := box_b hD.x
          have d3 := blk_lt hD.x
          clear hG
          rw [show ((j + 1 : Nat) : Int) - 1 = (j : Int) from by omega]
          have e1 : IntKind.i64.wrap ((j : Int) + 1) = (j : Int) + 1 := IntWalk.i64_in _ (by omega)
          have e2 : 0 ≤ (j : Int) + 1 := by omega
          have e3 : ((j : Int) + 1).toNat = j + 1 := by omega
          go_wp2_with fail
          try simp only [List.append_eq, List.cons_append, List.nil_append]
          refine wp_region_flow 13 (by kernel_rfl) (by kernel_rfl) ?_
          refine flow_one rfl (by simp) ?_
          go_big_quiet_step (fail)
          refine wpQuiet_nil ?_
          refine flow_one rfl (by simp) ?_
          go_big_quiet_step (fail)
          refine wpQuiet_nil ?_
          refine flow_one rfl (by simp) ?_
          go_big_quiet_step (fail)
          refine wpQuiet_nil ?_
          refine flow_one rfl (by simp) ?_
          go_big_quiet_step (fail)
          refine wpQuiet_nil ?_
          refine flow_one rfl (by simp) ?_
          go_big_quiet_step (fail)
          refine wpQuiet_nil ?_
          refine flow_one rfl (by simp) ?_
          go_big_quiet_step (fail)
          refine wpQuiet_nil ?_
          refine flow_one rfl (by simp) ?_
          go_big_quiet_step (fail)
          refine wpQuiet_nil ?_
          refine flow_one rfl (by simp) ?_
          go_big_quiet_step (fail)
          refine wpQuiet_nil ?_
          refine flow_one rfl (by simp) ?_
          go_big_quiet_step (fail)
          refine wpQuiet_nil ?_
          apply flow_is
          · simp
          · intro g K hK
            go_wp2_with fail
            refine (p_node (j : Int) (by omega) (by omega) _).mono ?_
            rintro e w' ⟨rfl, g', rfl⟩
            go_wp2_with fail
            exact hK _ (up_comp g g')
          · rfl
          apply flow_is
          · simp
          · intro g K hK
            go_wp2_with fail
            refine (e_sub x (int (j : Int)) _).mono ?_
            rintro e w' ⟨rfl, g', rfl⟩
            go_wp2_with fail
            exact hK _ (up_comp g g')
          · rfl
          apply flow_is
          · simp
          · intro g K hK
            go_wp2_with fail
            refine (e_mul u (x - int (j : Int)) _).mono ?_
            rintro e w' ⟨rfl, g', rfl⟩
            go_wp2_with fail
            exact hK _ (up_comp g g')
          · rfl
          refine flow_one rfl (by simp) ?_
          go_big_quiet_step (fail)
          refine wpQuiet_nil ?_
          intro V N' X hΓ hdis g hX
          clear hΓ hdis hX
          conv => arg 5; simp only [fill]
          have hgn : Gn wr (gr wr g) := ⟨g, rfl⟩
          have hD2 := hD.up hgn
          generalize gr wr g = w6 at *
          refine tail_storeE (b := b7) (i := j) (x := u * (x - int (j : Int))) rfl rfl hD2.q hil.out ?_
          refine wpList_nil ?_
          have hD3 := hD2.setQ hil.out (u * (x - int (j : Int)))
          rw [hS.out] at hD3
          generalize setE w6 b7 j (u * (x - int (j : Int))) = w7 at hD3 ⊢
          clear c1 c2 c3 d1 d2 d3 e1 e2 e3 hD hD2
          go_wp2_with fail
          exact ⟨⟨j, by omega, by go_num, hD3⟩, by simp [intOf]⟩
end Go.Proofs.Ytjchccpicddpoaa
