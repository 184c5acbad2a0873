/- The evaluation of one fixed query: Live. -/
import Derived.Test.YtgambglgkilgkaaGreatDoorTe3
import Derived.Test.YtgambglgkilgkaaGreatDoorRg3
import Derived.Maps.OwnIn
namespace Go.Proofs.YtgambglgkilgkaaGreatDoor
open Go.RowKit Go.ChangeMaps
attribute [local go_sem] Oper.semAt_some
/-- the cells of the first readings -/
def rl : Nat → List Value
  | 0 => []
  | k + 1 => rl k ++ [.int .i64 0, .int .i64 0, .int .i64 (rk k), .int .i64 (rv k)]
theorem readInfo : (Tryz.prog.info? 39).map (fun i => (i.zero, i.size, i.bytes)) = some (some (.agg #[.int .i64 0, .int .i64 0, .int .i64 0, .int .i64 0]), 4, 32) := by kernel_rfl
theorem row_up {a b : World} {base : Nat} {e : TypeId} {sz k j : Nat} {v : Value} {xs : List Value} (h : a.ownsRow base e sz v k xs) (g : a.grownBy b (some j)) (hj : j < base) : b.ownsRow base e sz v k xs := by
  rcases h with ⟨h1, h2 | ⟨r, cap, cur, hv, hb, hg, hn, hc, hsz, htake⟩⟩
  · exact ⟨h1, .inl h2⟩
  · exact ⟨h1, .inr ⟨r, cap, cur, hv, hb, (World.grownBy.block g r (blk_lt hg) (by simp; omega)).trans hg, hn, hc, hsz, htake⟩⟩
theorem row_slice {a : World} {base : Nat} {e : TypeId} {sz k : Nat} {v : Value} {xs : List Value} (h : a.ownsRow base e sz v (k + 1) xs) : ∃ g c, v = .slice (some ⟨g, 0, none⟩) (k + 1) c := by
  rcases h.2 with ⟨_, h0⟩ | ⟨r, cap, cur, hv, _⟩
  · omega
  · exact ⟨r, cap, hv⟩
theorem st_size2 (w : World) (p : Addr) (v : Value) : (w.setCell p v).heap.size = w.heap.size := by simp [World.setCell]
/-- the world in the rounds of Live -/
structure Li (w : World) (L G : Nat) (k : Nat) (W : World) : Prop where
  g : Below w.heap.size w W
  s : Lv (w.heap.size + 1 + 1) L G W
  r : ∃ v, W.heap[w.heap.size + 1]? = some (.cells #[v] 40) ∧ W.ownsRow (w.heap.size + 5) 39 4 v k (rl k)
theorem Li.by_ {w : World} {L G k : Nat} {W W' : World} {j : Nat} (h : Li w L G k W) (g : W.grownBy W' (some j)) (hL : L < w.heap.size) (hG : G < w.heap.size) (h1 : w.heap.size + 1 + 1 < j) (h2 : j < w.heap.size + 5) : Li w L G k W' := by
  obtain ⟨v, hv, ho⟩ := h.r
  have key : ∀ i o, W.heap[i]? = some o → i ≠ j → W'.heap[i]? = some o := fun i o hi hn => (World.grownBy.block g i (blk_lt hi) (by simpa using hn)).trans hi
  exact ⟨h.g.grown g h.g.size (by rintro _ ⟨rfl⟩; omega), ⟨key _ _ h.s.b (by omega), key _ _ h.s.l (by omega), key _ _ h.s.g (by omega)⟩, v, key _ _ hv (by omega), row_up ho g h2⟩
/-- block r begins with the three readings -/
structure Rdr (w : World) (r : Nat) : Prop where
  lt : r < w.heap.size
  c : ∀ i u, (rl 3)[i]? = some u → w.cell? ⟨r, i, none⟩ = some u
theorem row_base {w : World} {n r c : Nat} {e : TypeId} {sz k : Nat} {xs : List Value} (h : w.ownsRow (n + 5) e sz (.slice (some ⟨r, 0, none⟩) 3 c) k xs) : n ≤ r := by
  rcases h.2 with ⟨h0, _⟩ | ⟨g, cap, cur, hv, hb, _⟩
  · cases h0
  · cases hv
    omega
theorem Rdr.up {w w' : World} {r : Nat} (h : Rdr w r) (g : Gn w w') : Rdr w' r :=
  ⟨Nat.lt_of_lt_of_le h.lt g.size, fun i u hu => (g.below.cell (p := ⟨r, i, none⟩) h.lt).trans (h.c i u hu)⟩
theorem Rdr.of {w : World} {base r c D : Nat} {o : Obj} {x : Option (List Deferred)} (h : w.ownsRow base 39 4 (.slice (some ⟨r, 0, none⟩) 3 c) 3 (rl 3)) (hD : w.heap[D]? = some (.deferred x)) : Rdr (w.putObj D o) r := by
  rcases h.2 with ⟨h0, _⟩ | ⟨g, cap, cur, hv, hb, hg, hn, hc, hsz, htake⟩
  · cases h0
  · cases hv
    have hne : r ≠ D := by
      rintro rfl
      rw [hg] at hD
      cases hD
    have hg2 : (w.putObj D o).heap[r]? = _ := (World.putObj_heap_other hne).trans hg
    refine ⟨blk_lt hg2, fun i u hu => obj_cell hg2 i ?_⟩
    have hi : i < 12 := (List.getElem?_eq_some_iff.1 hu).1
    rw [← htake, List.getElem?_take_of_lt (by omega)] at hu
    simpa using hu
theorem r_live0 (L G : Nat) (w : World) : Calls Tryz.prog 63 #[.agg #[.slice (some ⟨L, 0, none⟩) 3 3, .slice (some ⟨G, 0, none⟩) 3 3]] w fun e w' =>
    e = .returned (.func (.func 91) #[] #[.pointer (some ⟨w.heap.size, 0, none⟩)]) ∧ w' = w.alloc (.cells #[.slice (some ⟨L, 0, none⟩) 3 3, .slice (some ⟨G, 0, none⟩) 3 3] 43) := by
  go_enter Tryz.func63, Tryz.ntmps63
  go_wp2_with fail
  go_ret
  exact ⟨rfl, rfl⟩
set_option maxRecDepth 100000 in
set_option maxHeartbeats 4000000 in
theorem r_live (L G : Nat) (w : World) (hl : ∀ B W, Below w.heap.size w W → W.heap[B]? = some (.cells #[.slice (some ⟨L, 0, none⟩) 3 3, .slice (some ⟨G, 0, none⟩) 3 3] 43) → Lv B L G W) (hL : L < w.heap.size) (hG : G < w.heap.size) :
    Calls Tryz.prog 28 #[.agg #[.slice (some ⟨L, 0, none⟩) 3 3, .slice (some ⟨G, 0, none⟩) 3 3]] w fun e w' => ∃ r c, e = .returned (.slice (some ⟨r, 0, none⟩) 3 c) ∧ Rdr w' r ∧ w.heap.size ≤ r ∧ Gn w w' := by
  refine (callsIn_wide (n := 9)).1 ?_
  refine callsIn_of_wp_marks Tryz.func28 rfl trivial ?_ rfl
  simp only [Tryz.ntmps28, List.size_toArray, List.length_cons, List.length_nil, Nat.reduceAdd, Nat.reduceSub, Array.replicate_succ, Array.replicate_zero, List.push_toArray, List.append_toArray, List.nil_append, List.cons_append]
  gi_wp2_with fail
  refine ⟨trivial, (callsIn_wide.2 (r_live0 L G _)).mono ?_⟩
  rintro e w' ⟨rfl, rfl⟩
  have hb1 := (Gn.al (w := w) (.cells #[.slice (some ⟨L, 0, none⟩) 3 3, .slice (some ⟨G, 0, none⟩) 3 3] 43)).trans (Gn.al (w := w.alloc (.cells #[.slice (some ⟨L, 0, none⟩) 3 3, .slice (some ⟨G, 0, none⟩) 3 3] 43)) (.cells #[.slice none 0 0] 40))
  have ho1 := hnew (w.alloc (.cells #[.slice (some ⟨L, 0, none⟩) 3 3, .slice (some ⟨G, 0, none⟩) 3 3] 43)) (.cells #[.slice none 0 0] 40)
  have hz1 : ((w.alloc (.cells #[.slice (some ⟨L, 0, none⟩) 3 3, .slice (some ⟨G, 0, none⟩) 3 3] 43)).alloc (.cells #[.slice none 0 0] 40)).heap.size = w.heap.size + 1 + 1 := by rw [al_size, al_size]
  rw [al_size] at ho1
  generalize (w.alloc (.cells #[.slice (some ⟨L, 0, none⟩) 3 3, .slice (some ⟨G, 0, none⟩) 3 3] 43)).alloc (.cells #[.slice none 0 0] 40) = W0 at *
  rw [hz1]
  have hS1 := hnew W0 (.cells #[.slice (some ⟨L, 0, none⟩) 3 3, .slice (some ⟨G, 0, none⟩) 3 3] 43)
  rw [hz1] at hS1
  have hs1 : (W0.alloc (.cells #[.slice (some ⟨L, 0, none⟩) 3 3, .slice (some ⟨G, 0, none⟩) 3 3] 43)).heap.size = w.heap.size + 3 := by rw [al_size, hz1]
  have hE : Li w L G 0 (W0.alloc (.cells #[.slice (some ⟨L, 0, none⟩) 3 3, .slice (some ⟨G, 0, none⟩) 3 3] 43)) := ⟨(hb1.trans (Gn.al _)).below, hl _ _ (hb1.trans (Gn.al _)).below hS1, _, Gn.block (Gn.al _) ho1, rfl, .inl ⟨rfl, rfl⟩⟩
  generalize W0.alloc (.cells #[.slice (some ⟨L, 0, none⟩) 3 3, .slice (some ⟨G, 0, none⟩) 3 3] 43) = W1 at *
  clear hb1 ho1 hz1 hS1 hl
  gi_wp2_with fail
  refine wp_range3 (m := 7) (gf := 91) (lb := #[.pointer (some ⟨w.heap.size + 1 + 1, 0, none⟩)]) rfl (fun _ _ => by kernel_rfl) (live_iter (w.heap.size + 1 + 1) L G) (fun _ => rfl) ?hH ?hKp
    (Li w L G) ?hI ?h0 ?hstep ?hIs
    (fun k W => ⟨#[.agg #[.slice (some ⟨L, 0, none⟩) 3 3, .slice (some ⟨G, 0, none⟩) 3 3], .pointer (some ⟨w.heap.size, 0, none⟩), .slice none 0 0, .pointer (some ⟨w.heap.size + 1, 0, none⟩), .pointer (some ⟨W.heap.size, 0, none⟩),
      .agg #[.slice (some ⟨L, 0, none⟩) 3 3, .slice (some ⟨G, 0, none⟩) 3 3], .func (.func 91) #[] #[.pointer (some ⟨w.heap.size + 1 + 1, 0, none⟩)], .agg #[.int .i64 0, .int .i64 0, .int .i64 (rk k), .int .i64 (rv k)], undef, undef, undef, undef, undef], []⟩)
    (fun k W => W.alloc (.cells #[.int .i64 0, .int .i64 0, .int .i64 (rk k), .int .i64 (rv k)] 39)) (fun k W => (Gn.al _).below) ?hassign ?hbody ?hdone
  case hH =>
    intro W hb
    rw [hs1] at hb
    have hs := hE.s
    exact ⟨(hb.block _ (by omega)).trans hs.b, (hb.block _ (by omega)).trans hs.l, (hb.block _ (by omega)).trans hs.g⟩
  case hKp =>
    rintro A' C D E' hA h hD hs
    rw [hs1] at hA hD
    have h2 := h ⟨(hA.block _ (by omega)).trans hs.b, (hA.block _ (by omega)).trans hs.l, (hA.block _ (by omega)).trans hs.g⟩
    exact ⟨(hD.block _ (by omega)).trans h2.b, (hD.block _ (by omega)).trans h2.l, (hD.block _ (by omega)).trans h2.g⟩
  case hI =>
    rintro k W W' h g
    rw [hs1] at g
    exact h.by_ g hL hG (by omega) (by omega)
  case h0 => exact hE
  case hstep =>
    rintro W W' ⟨g, rfl⟩
    exact KeepsBeyond.gr W g
  case hIs =>
    rintro k W W' h g
    exact h.by_ (Kb.of (b := w.heap.size + 4) g) hL hG (by omega) (by omega)
  case hassign =>
    intro r k W K hK
    simp
    gi_wp2
    exact hK
  case hbody =>
    rintro r k W W2 h hk hlt hsz hW
    have ha := (hW W.heap.size (Nat.le_refl _) (by simp)).trans (hnew W _)
    have hlt2 : W.heap.size < W2.heap.size := blk_lt ha
    clear hW hsz
    rw [hs1] at hlt ⊢
    obtain ⟨hg, hs, v, hv, hrow⟩ := h
    have a0 := obj_cell ha 0 rfl; have a1 := obj_cell ha 1 rfl; have a2 := obj_cell ha 2 rfl; have a3 := obj_cell ha 3 rfl
    have v0 := obj_cell hv 0 rfl; have lv := blk_lt hv; have fv : W2.frozen? ⟨w.heap.size + 1, 0, none⟩ = false := box_fz hv
    obtain ⟨i0, hi, hz0, hz1, hz2⟩ := info_parts readInfo
    have hob : ∀ r, v.ownBlock = some r → w.heap.size + 5 ≤ r := by
      rcases hrow.2 with ⟨rfl, _⟩ | ⟨g, cap, cur, rfl, hbb, _⟩
      · intro r e; simp [Value.ownBlock] at e
      · intro r e; simp [Value.ownBlock] at e; omega
    have hrow2 : (W2.alloc (.cells #[.int .i64 0, .int .i64 0, .int .i64 (rk k), .int .i64 (rv k)] 39)).ownsRow (w.heap.size + 5) 39 4 v k (rl k) := row_up hrow (Kb.of (b := 0) (Gn.al (.cells #[.int .i64 0, .int .i64 0, .int .i64 (rk k), .int .i64 (rv k)] 39))) (by omega)
    have hnb := hnew W2 (.cells #[.int .i64 0, .int .i64 0, .int .i64 (rk k), .int .i64 (rv k)] 39)
    have hgB := Gn.al (w := W2) (.cells #[.int .i64 0, .int .i64 0, .int .i64 (rk k), .int .i64 (rv k)] 39)
    have hzB : w.heap.size + 5 ≤ (W2.alloc (.cells #[.int .i64 0, .int .i64 0, .int .i64 (rk k), .int .i64 (rv k)] 39)).heap.size := by rw [al_size]; omega
    have hne1 : ∀ i, i < w.heap.size + 5 → some i ≠ v.ownBlock := fun i hi e => by have := hob i e.symm; omega
    have hnews : ∀ j u, [Value.int .i64 0, .int .i64 0, .int .i64 (rk k), .int .i64 (rv k)][j]? = some u → (W2.alloc (.cells #[.int .i64 0, .int .i64 0, .int .i64 (rk k), .int .i64 (rv k)] 39)).cell? ((⟨W2.heap.size, 0, none⟩ : Addr).add j) = some u := by
      intro j u hu
      have hj : j < 4 := (List.getElem?_eq_some_iff.1 hu).1
      have hadd : (⟨W2.heap.size, 0, none⟩ : Addr).add j = ⟨W2.heap.size, j, none⟩ := by unfold Addr.add; split <;> simp_all
      rw [hadd]
      exact obj_cell hnb j (by rw [← hu]; simp)
    have hone : ∀ u ∈ [Value.int .i64 0, .int .i64 0, .int .i64 (rk k), .int .i64 (rv k)], u.oneCell' = true := by simp [Value.oneCell']
    gi_wp2_with (gi_at_builtin; refine wpListIn_append_own_at _ rfl (.tmp 8) (.tmp 10) 40 rfl (w.heap.size + 5) 39 i0 _ 4 32 Tryz.underlying40 hi hz0 hz1 hz2 rfl (by omega) v k (rl k) rfl hrow2 ⟨W2.heap.size, 0, none⟩ 1 1 [.int .i64 0, .int .i64 0, .int .i64 (rk k), .int .i64 (rv k)] rfl rfl hnews hone (by unfold maxLen; omega) (by omega) hzB ?_; intro v' W3 h1 h2 h3 h4; obtain ⟨g2, c2, rfl⟩ := row_slice h1; clear h3 h4; have hv3 : W3.heap[w.heap.size + 1]? = some (.cells #[v] 40) := (World.grownBy.block h2 _ (blk_lt (Gn.block hgB hv)) (hne1 _ (by omega))).trans (Gn.block hgB hv); have u0 := obj_cell hv3 0 rfl; have uv := blk_lt hv3; have fu : W3.frozen? ⟨w.heap.size + 1, 0, none⟩ = false := box_fz hv3)
    have hg3 : Below w.heap.size w W3 := ((hg.trans ((hgB.below).mono hg.size)).grown h2 (Nat.le_trans hg.size hgB.size) (fun r e => by have := hob r e; omega))
    have key : ∀ i o, W2.heap[i]? = some o → i < w.heap.size + 5 → i ≠ w.heap.size + 1 → (W3.setCell ⟨w.heap.size + 1, 0, none⟩ (.slice (some ⟨g2, 0, none⟩) (k + 1) c2)).heap[i]? = some o := fun i o ho hi hn =>
      (Below.heap_setCell W3 ⟨w.heap.size + 1, 0, none⟩ (.slice (some ⟨g2, 0, none⟩) (k + 1) c2) i hn).trans ((World.grownBy.block h2 _ (blk_lt (Gn.block hgB ho)) (hne1 _ hi)).trans (Gn.block hgB ho))
    have hsF : Lv (w.heap.size + 1 + 1) L G (W3.setCell ⟨w.heap.size + 1, 0, none⟩ (.slice (some ⟨g2, 0, none⟩) (k + 1) c2)) := ⟨key _ _ hs.b (by omega) (by omega), key _ _ hs.l (by omega) (by omega), key _ _ hs.g (by omega) (by omega)⟩
    have keq : ∀ i, i < W2.heap.size → i < w.heap.size + 5 → i ≠ w.heap.size + 1 → (W3.setCell ⟨w.heap.size + 1, 0, none⟩ (.slice (some ⟨g2, 0, none⟩) (k + 1) c2)).heap[i]? = W2.heap[i]? := fun i h0 hi hn =>
      (Below.heap_setCell W3 ⟨w.heap.size + 1, 0, none⟩ (.slice (some ⟨g2, 0, none⟩) (k + 1) c2) i hn).trans ((World.grownBy.block h2 _ (Nat.lt_of_lt_of_le h0 hgB.size) (hne1 _ hi)).trans (hgB.below.block _ h0))
    refine ⟨⟨?_, keq _ (by omega) (by omega) (by omega), keq _ (by omega) (by omega) (by omega)⟩, ⟨hg3.setCell (by dsimp only; omega) _, hsF, _, psetg hv3 0 _, row_up h1 (Kb.set (b := w.heap.size + 1) W3 0 _) (by omega)⟩, fun _ => hsF⟩
    rw [st_size2]
    exact Nat.le_trans hgB.size h2.size
  case hdone =>
    rintro D W hD h hsz hW
    rw [hs1] at hD hsz
    obtain ⟨hg, hs, v, hv, hrow⟩ := h
    obtain ⟨g2, c2, rfl⟩ := row_slice hrow
    have v0 := obj_cell hv 0 rfl; have lv := blk_lt hv
    gi_wp2
    refine ⟨by simp, .inl ⟨_, _, rfl, run_takeDeferred hW, ?_⟩⟩
    exact ⟨.slice (some ⟨g2, 0, none⟩) 3 c2, by simp [results, Tryz.results28, go_sem], g2, c2, rfl, Rdr.of hrow hW, row_base hrow, Gn.of (hg.trans (below_putObj W D _ (by omega)))⟩
end Go.Proofs.YtgambglgkilgkaaGreatDoor
