/- The power in the extension: a range over the iterator of the exponent's bits. -/
import Derived.Test.YtfebohbhahaopaaEr2
import Derived.Test.YtfebohbhahaopaaRg
import Derived.BigFrameIn
import Derived.RegionIn
import Derived.BigRegionIn
namespace Go.Proofs.Ytfebohbhahaopaa
open Go.RowKit Att Att.CRing

/- the iterator of the bits -/
def cellNat (B : Nat) (W : World) : Nat := ((W.cell? ⟨B, 0, none⟩).map fun v => (intOf v).toNat).getD 0
def bitAt (n : Int) (k : Nat) : Bool := decide (n.toNat / 2 ^ k % 2 = 1)
def bitLen (n : Int) (N : Nat) : Prop := n.toNat / 2 ^ N = 0 ∧ ∀ k, k < N → n.toNat / 2 ^ k ≠ 0
structure BitH (B : Nat) (n : Int) (W : World) : Prop where
  lt : B < W.heap.size
  c : W.cell? ⟨B, 0, none⟩ = some (.int .u64 n)
  f : W.frozen? ⟨B, 0, none⟩ = false
def BitStep (B : Nat) (W W' : World) : Prop := ∃ v, W' = W.setCell ⟨B, 0, none⟩ v
def BitKp (B : Nat) (W W' : World) : Prop := B < W'.heap.size ∧ W'.cell? ⟨B, 0, none⟩ = W.cell? ⟨B, 0, none⟩ ∧ W'.frozen? ⟨B, 0, none⟩ = W.frozen? ⟨B, 0, none⟩

attribute [local go_sem] Oper.semAt_some
set_option maxHeartbeats 1000000 in
theorem bits_iter (B : Nat) (n : Int) (h0 : 0 ≤ n) (h1 : n < 18446744073709551616) (N : Nat) (hN : bitLen n N) :
    IterOk Try.prog 81 #[.pointer (some ⟨B, 0, none⟩)] (fun k => #[.bool (bitAt n k)]) N (BitH B n) (BitStep B) (BitKp B) := by
  intro m l J hS hY W hH hJ
  refine callsIn_of_wp Try.func81 rfl trivial ?_ rfl
  simp only [Try.ntmps81, List.size_toArray, List.length_cons, List.length_nil, Nat.reduceAdd, Nat.reduceSub, Array.replicate_succ, Array.replicate_zero, List.push_toArray, List.append_toArray, List.nil_append, List.cons_append]
  gi_wp2
  gi_loopw [3] (fun _ wr => ∃ k : Nat, k ≤ N ∧ J k wr ∧ B < wr.heap.size ∧ wr.cell? ⟨B, 0, none⟩ = some (.int .u64 ((n.toNat / 2 ^ k : Nat) : Int)) ∧ wr.frozen? ⟨B, 0, none⟩ = false) (fun _ wr => cellNat B wr)
  case atStart => exact ⟨0, Nat.zero_le _, hJ, hH.lt, by rw [hH.c]; congr 2; simp; omega, hH.f⟩
  case round =>
    obtain ⟨k, hk, hJk, hlt, hc, hf⟩ := hrel
    have hm : cellNat B wr = n.toNat / 2 ^ k := by unfold cellNat; rw [hc]; exact Int.toNat_natCast _
    rw [hm]
    clear hm
    have hdiv : n.toNat / 2 ^ (k + 1) = n.toNat / 2 ^ k / 2 := by rw [Nat.pow_succ, Nat.div_div_eq_div_mul]
    have hle : n.toNat / 2 ^ k ≤ n.toNat := Nat.div_le_self _ _
    have hxs : bitAt n k = decide (n.toNat / 2 ^ k % 2 = 1) := rfl
    have hend := hN.1
    have hpos := hN.2 k
    by_cases hz : n.toNat / 2 ^ k = 0
    · have hkN : k = N := by
        apply Nat.le_antisymm hk
        apply Nat.le_of_not_lt
        intro h; exact hpos h hz
      subst hkN
      rw [hz] at hc
      clear hpos hend hdiv hle hxs hz
      gi_wp2
      first | go_end0 | go_ret
      exact ⟨⟨_, rfl⟩, hJk⟩
    · have hkN : k < N := by
        apply Nat.lt_of_le_of_ne hk
        intro h; subst h; exact hz hend
      generalize hq : n.toNat / 2 ^ k = q at *
      have hq1 : (q : Int) < 18446744073709551616 := by omega
      have hand := andOne (q : Int) (by omega) hq1
      have ht : (bits .and .u64 (q : Int) 1 == 1) = bitAt n k := by
        rw [hand, hxs]
        by_cases h : q % 2 = 1
        · rw [decide_eq_true h]; simp; omega
        · rw [decide_eq_false h]; simp; omega
      have hqp : 0 < q := by omega
      obtain ⟨fn, tt, asg, bdy, hy, hr⟩ := hY k wr hkN hJk
      have Hdiv := Lib.hid hdiv
      clear hY hand hxs hend hpos hdiv hle hq hz
      gi_wp2
      refine hr.mono ?_
      rintro e W' ⟨rfl, hJ', hlt', hc', hf'⟩
      rw [hc] at hc'
      rw [hf] at hf'
      clear hr hy
      gi_wp2
      refine ⟨⟨k + 1, hkN, hS _ _ _ hJ' ⟨_, rfl⟩, by simpa using hlt', ?_, ?_⟩, ?_⟩
      · rw [World.cell?_setCell_same' _ _ _ (by rw [hc']; rfl), Hdiv.out]; rfl
      · rw [World.frozen?_setCell]; exact hf'
      · unfold cellNat
        rw [World.cell?_setCell_same' _ _ _ (by rw [hc']; rfl)]
        simp [intOf]; omega

theorem e_bits (n : Int) (w : World) :
    Calls Try.prog 78 #[.int .u64 n] w fun e w' => e = .returned (.func (.func 81) #[] #[.pointer (some ⟨w.heap.size, 0, none⟩)]) ∧ w' = w.alloc (.cells #[.int .u64 n] 22) := by
  go_enter Try.func78, Try.ntmps78
  go_wp2_with fail
  go_ret
  exact ⟨rfl, rfl⟩

/-- the world in the range's rounds: the result's block, the blocks of the value so far and of the power -/
structure EP (w W : World) (Bo Bp : Nat) (o p : Ext) : Prop where
  ne : Bo ≠ Bp
  lo : w.heap.size + 1 < Bo
  lp : w.heap.size + 1 < Bp
  ho : Bo < w.heap.size + 4
  hp : Bp < w.heap.size + 4
  big : w.heap.size + 4 ≤ W.heap.size
  ra : W.cell? ⟨w.heap.size + 1, 0, none⟩ = some (.int .u64 0)
  rb : W.cell? ⟨w.heap.size + 1, 1, none⟩ = some (.int .u64 0)
  rf : W.frozen? ⟨w.heap.size + 1, 0, none⟩ = false
  rg : W.frozen? ⟨w.heap.size + 1, 1, none⟩ = false
  oa : W.cell? ⟨Bo, 0, none⟩ = some (.int .u64 (Zm.i (Ext.a o)))
  ob : W.cell? ⟨Bo, 1, none⟩ = some (.int .u64 (Zm.i (Ext.b o)))
  of : W.frozen? ⟨Bo, 0, none⟩ = false
  og : W.frozen? ⟨Bo, 1, none⟩ = false
  pa : W.cell? ⟨Bp, 0, none⟩ = some (.int .u64 (Zm.i (Ext.a p)))
  pb : W.cell? ⟨Bp, 1, none⟩ = some (.int .u64 (Zm.i (Ext.b p)))
  pf : W.frozen? ⟨Bp, 0, none⟩ = false
  pg : W.frozen? ⟨Bp, 1, none⟩ = false
  bel : Below w.heap.size w W
theorem EP.below {w W W' : World} {Bo Bp : Nat} {o p : Ext} (h : EP w W Bo Bp o p) (hb : Below (w.heap.size + 4) W W') : EP w W' Bo Bp o p := by
  have := h.lo; have := h.lp; have := h.ho; have := h.hp; have := h.big; have hs := hb.size
  exact ⟨h.ne, h.lo, h.lp, h.ho, h.hp, by omega, (hb.cell (by dsimp only; omega)).trans h.ra, (hb.cell (by dsimp only; omega)).trans h.rb, (hb.frozen (by dsimp only; omega)).trans h.rf, (hb.frozen (by dsimp only; omega)).trans h.rg,
    (hb.cell (by dsimp only; omega)).trans h.oa, (hb.cell (by dsimp only; omega)).trans h.ob, (hb.frozen (by dsimp only; omega)).trans h.of, (hb.frozen (by dsimp only; omega)).trans h.og,
    (hb.cell (by dsimp only; omega)).trans h.pa, (hb.cell (by dsimp only; omega)).trans h.pb, (hb.frozen (by dsimp only; omega)).trans h.pf, (hb.frozen (by dsimp only; omega)).trans h.pg, h.bel.trans (hb.mono (by omega))⟩
theorem EP.gr {w W : World} {Bo Bp : Nat} {o p : Ext} (h : EP w W Bo Bp o p) (g : Grow W) : EP w (gr W g) Bo Bp o p := h.below ((gr_below W g).mono h.big)
theorem cell_far (W : World) (b c i j : Nat) (v : Value) (h : b ≠ c) : (W.setCell ⟨b, i, none⟩ v).cell? ⟨c, j, none⟩ = W.cell? ⟨c, j, none⟩ := World.cell?_setCell_far _ _ _ _ (by show b ≠ c; exact h)
theorem set_a (W : World) (b : Nat) (u x y : Value) (h : W.cell? ⟨b, 0, none⟩ = some u) : ((W.setCell ⟨b, 0, none⟩ x).setCell ⟨b, 1, none⟩ y).cell? ⟨b, 0, none⟩ = some x := by
  rw [World.cell?_setCell_other _ _ _ _ (by simp)]
  exact World.cell?_setCell_same' _ _ _ (by rw [h]; rfl)
theorem set_b (W : World) (b : Nat) (v x y : Value) (h' : W.cell? ⟨b, 1, none⟩ = some v) : ((W.setCell ⟨b, 0, none⟩ x).setCell ⟨b, 1, none⟩ y).cell? ⟨b, 1, none⟩ = some y := by
  refine World.cell?_setCell_same' _ _ _ ?_
  rw [World.cell?_setCell_other _ _ _ _ (by simp), h']; rfl
theorem EP.setO {w W : World} {Bo Bp : Nat} {o p : Ext} (h : EP w W Bo Bp o p) (o' : Ext) : EP w ((W.setCell ⟨Bo, 0, none⟩ (.int .u64 (Zm.i (Ext.a o')))).setCell ⟨Bo, 1, none⟩ (.int .u64 (Zm.i (Ext.b o')))) Bo Bp o' p := by
  have := h.lo; have hn := h.ne
  refine ⟨h.ne, h.lo, h.lp, h.ho, h.hp, by simpa using h.big, ?_, ?_, ?_, ?_, set_a _ _ _ _ _ h.oa, set_b _ _ _ _ _ h.ob, ?_, ?_, ?_, ?_, ?_, ?_, (h.bel.setCell (by simp; omega) _).setCell (by simp; omega) _⟩
  · rw [cell_far _ _ _ _ _ _ (by omega), cell_far _ _ _ _ _ _ (by omega)]; exact h.ra
  · rw [cell_far _ _ _ _ _ _ (by omega), cell_far _ _ _ _ _ _ (by omega)]; exact h.rb
  · rw [World.frozen?_setCell, World.frozen?_setCell]; exact h.rf
  · rw [World.frozen?_setCell, World.frozen?_setCell]; exact h.rg
  · rw [World.frozen?_setCell, World.frozen?_setCell]; exact h.of
  · rw [World.frozen?_setCell, World.frozen?_setCell]; exact h.og
  · rw [cell_far _ _ _ _ _ _ hn, cell_far _ _ _ _ _ _ hn]; exact h.pa
  · rw [cell_far _ _ _ _ _ _ hn, cell_far _ _ _ _ _ _ hn]; exact h.pb
  · rw [World.frozen?_setCell, World.frozen?_setCell]; exact h.pf
  · rw [World.frozen?_setCell, World.frozen?_setCell]; exact h.pg
theorem EP.swap {w W : World} {Bo Bp : Nat} {o p : Ext} (h : EP w W Bo Bp o p) : EP w W Bp Bo p o :=
  ⟨h.ne.symm, h.lp, h.lo, h.hp, h.ho, h.big, h.ra, h.rb, h.rf, h.rg, h.pa, h.pb, h.pf, h.pg, h.oa, h.ob, h.of, h.og, h.bel⟩
theorem EP.setP {w W : World} {Bo Bp : Nat} {o p : Ext} (h : EP w W Bo Bp o p) (p' : Ext) : EP w ((W.setCell ⟨Bp, 0, none⟩ (.int .u64 (Zm.i (Ext.a p')))).setCell ⟨Bp, 1, none⟩ (.int .u64 (Zm.i (Ext.b p')))) Bo Bp o p' := (h.swap.setO p').swap
theorem EP.setN {w W : World} {Bo Bp : Nat} {o p : Ext} (h : EP w W Bo Bp o p) (B : Nat) (hB : w.heap.size + 4 ≤ B) (v : Value) : EP w (W.setCell ⟨B, 0, none⟩ v) Bo Bp o p :=
  h.below ((Below.refl _ _).setCell hB _)

theorem exists_len (n : Int) : ∃ N, bitLen n N := by
  have h : ∀ m, n.toNat / 2 ^ m = 0 → ∃ N, bitLen n N := by
    intro m
    induction m with
    | zero => intro h; exact ⟨0, h, fun k hk => absurd hk (Nat.not_lt_zero k)⟩
    | succ m ih =>
      intro h
      by_cases hz : n.toNat / 2 ^ m = 0
      · exact ih hz
      · refine ⟨m + 1, h, fun k hk e => hz ?_⟩
        have := Nat.div_le_div_left (a := n.toNat) (Nat.pow_le_pow_right (n := 2) (by omega) (show k ≤ m by omega)) (Nat.pow_pos (by omega))
        rw [e] at this
        exact Nat.le_zero.1 this
  exact h n.toNat (Nat.div_eq_of_lt Nat.lt_two_pow_self)
theorem pow_round (x : Ext) (n k : Nat) : pw x (n % 2 ^ (k + 1)) = if n / 2 ^ k % 2 = 1 then pw x (2 ^ k) * pw x (n % 2 ^ k) else pw x (n % 2 ^ k) := by
  have e : n % 2 ^ (k + 1) = n % 2 ^ k + 2 ^ k * (n / 2 ^ k % 2) := by rw [Nat.pow_succ, Nat.mod_mul]
  rw [e]
  split
  · rename_i h; rw [h, Nat.mul_one, Nat.add_comm, pw_add]
  · rename_i h; rw [show n / 2 ^ k % 2 = 0 by omega, Nat.mul_zero, Nat.add_zero]
theorem pow_double (x : Ext) (k : Nat) : pw x (2 ^ (k + 1)) = pw x (2 ^ k) * pw x (2 ^ k) := by rw [← pw_add]; congr 1; omega
theorem pow_end (x : Ext) (n N : Nat) (h : n / 2 ^ N = 0) : pw x (n % 2 ^ N) = pw x n := by
  have := Nat.div_add_mod n (2 ^ N)
  rw [h, Nat.mul_zero, Nat.zero_add] at this
  rw [this]

theorem BitKp.refl {B : Nat} {W : World} (h : B < W.heap.size) : BitKp B W W := ⟨h, rfl, rfl⟩
theorem BitKp.gr {B : Nat} {W W' : World} (h : BitKp B W W') (g : Grow W') : BitKp B W (gr W' g) :=
  ⟨Nat.lt_of_lt_of_le h.1 (gr_size _ _), (gr_cell _ _ _ _ h.1).trans h.2.1, (gr_frozen _ _ _ _ h.1).trans h.2.2⟩
theorem BitKp.set {B : Nat} {W W' : World} (h : BitKp B W W') (b i : Nat) (v : Value) (hb : b ≠ B) : BitKp B W (W'.setCell ⟨b, i, none⟩ v) :=
  ⟨by simpa using h.1, (cell_far _ _ _ _ _ _ hb).trans h.2.1, (World.frozen?_setCell _ _ _ _).trans h.2.2⟩
theorem kb_gr {B : Nat} {W W' : World} (h : KeepsBeyond B W W') (g : Grow W') : KeepsBeyond B W (gr W' g) := h.trans (KeepsBeyond.gr _ g)
theorem kb_set {B : Nat} {W W' : World} (h : KeepsBeyond B W W') (b i : Nat) (v : Value) (hb : b < B) : KeepsBeyond B W (W'.setCell ⟨b, i, none⟩ v) := h.trans (KeepsBeyond.setCell (by exact hb) v)

set_option maxHeartbeats 2000000 in
theorem e_pow (x : Ext) (n : Int) (h0 : 0 ≤ n) (h1 : n < 18446744073709551616) (w : World) :
    Calls Try.prog 58 #[.agg #[.int .u64 (Zm.i (Ext.a (x))), .int .u64 (Zm.i (Ext.b (x)))], .int .u64 n] w fun e w' => e = .returned (.agg #[.int .u64 (Zm.i (Ext.a (pw x n.toNat))), .int .u64 (Zm.i (Ext.b (pw x n.toNat)))]) ∧ ∃ g, w' = gr w g := by
  refine calls_gr ?_
  obtain ⟨N, hN⟩ := exists_len n
  refine (callsIn_wide (n := 9)).1 ?_
  refine callsIn_of_wp_marks Try.func58 rfl trivial ?_ rfl
  simp only [Try.ntmps58, List.size_toArray, List.length_cons, List.length_nil, Nat.reduceAdd, Nat.reduceSub, Array.replicate_succ, Array.replicate_zero, List.push_toArray, List.append_toArray, List.nil_append, List.cons_append]
  gi_wp2
  gi_region
  · have hE : EP w (((((w.alloc (Obj.cells #[.int .u64 (Zm.i (Ext.a x)), .int .u64 (Zm.i (Ext.b x))] 42)).alloc (Obj.cells #[.int .u64 0, .int .u64 0] 42)).alloc (Obj.cells #[.int .u64 1, .int .u64 0] 42)).alloc (Obj.cells #[.int .u64 (Zm.i (Ext.a x)), .int .u64 (Zm.i (Ext.b x))] 67)).drew) (w.heap.size + 1 + 1) (w.heap.size + 1 + 1 + 1) 1 x := by
      have e0 : (Ext.a 1).i = 1 := rfl
      have e1 : (Ext.b 1).i = 0 := rfl
      refine ⟨by omega, by omega, by omega, by omega, by omega, by simp, ?_, ?_, ?_, ?_, ?_, ?_, ?_, ?_, ?_, ?_, ?_, ?_, (by repeat (first | assumption | exact Below.refl _ _ | apply Below.drew | apply below_drewN | apply up_gr | apply below_al | (refine below_gr ?_ (by first | (simp; done) | (simp; omega)) _) | (refine Below.alloc ?_ (by first | (simp; done) | (simp; omega)) _) | (refine Below.setCell ?_ (by first | (simp; done) | (simp; omega)) _)))⟩
      all_goals (try rw [e0]); (try rw [e1]); simp [go_sem]
    have hs : (((((w.alloc (Obj.cells #[.int .u64 (Zm.i (Ext.a x)), .int .u64 (Zm.i (Ext.b x))] 42)).alloc (Obj.cells #[.int .u64 0, .int .u64 0] 42)).alloc (Obj.cells #[.int .u64 1, .int .u64 0] 42)).alloc (Obj.cells #[.int .u64 (Zm.i (Ext.a x)), .int .u64 (Zm.i (Ext.b x))] 67)).drew).heap.size = w.heap.size + 4 := by simp
    generalize ((((w.alloc (Obj.cells #[.int .u64 (Zm.i (Ext.a x)), .int .u64 (Zm.i (Ext.b x))] 42)).alloc (Obj.cells #[.int .u64 0, .int .u64 0] 42)).alloc (Obj.cells #[.int .u64 1, .int .u64 0] 42)).alloc (Obj.cells #[.int .u64 (Zm.i (Ext.a x)), .int .u64 (Zm.i (Ext.b x))] 67)).drew = W0 at hE hs ⊢
    generalize w.heap.size + 1 + 1 + 1 = Bp at hE ⊢
    generalize w.heap.size + 1 + 1 = Bo at hE ⊢
    gi_wp2_with fail
    refine ⟨trivial, (callsIn_wide.2 (e_bits _ _)).mono ?_⟩
    rintro e w' ⟨rfl, rfl⟩
    gi_wp2_with fail
    refine wp_range (m := 7) (gf := 81) (lb := #[.pointer (some ⟨w.heap.size + 4, 0, none⟩)]) rfl (fun _ _ => by kernel_rfl) (bits_iter _ n h0 h1 N hN) (fun _ => rfl) ?hH ?hKp
      (fun k W => EP w W Bo Bp (pw x (n.toNat % 2 ^ k)) (pw x (2 ^ k))) ?hI ?h0 ?hstep ?hIs
      (fun k => ⟨#[.agg #[.int .u64 (Zm.i (Ext.a (x))), .int .u64 (Zm.i (Ext.b (x)))], .int .u64 n, .pointer (some ⟨w.heap.size, 0, none⟩), undef, .pointer (some ⟨w.heap.size + 1, 0, none⟩), .pointer (some ⟨Bo, 0, none⟩), .pointer (some ⟨Bp, 0, none⟩), .bool (bitAt n k), undef,
        .agg #[.int .u64 1, .int .u64 0], .agg #[.int .u64 (Zm.i (Ext.a (x))), .int .u64 (Zm.i (Ext.b (x)))], .int .u64 n, .func (.func 81) #[] #[.pointer (some ⟨w.heap.size + 4, 0, none⟩)], .bool (bitAt n k), undef, undef, undef, undef, undef, undef, undef, undef, undef, undef], []⟩) ?hassign ?hbody ?hdone
    case hH =>
      intro W hb
      simp only [World.size_alloc, hs] at hb
      refine ⟨by have := hb.size; simp at this; omega, ?_, ?_⟩
      · rw [hb.cell (by dsimp only; omega), ← hs]; simp
      · rw [hb.frozen (by dsimp only; omega), ← hs]; simp
    case hKp =>
      rintro A C D E' hA ⟨h1, h2, h3⟩ hD
      simp only [World.size_alloc, hs] at hA hD
      exact ⟨Nat.lt_of_lt_of_le h1 hD.size, (hD.cell (by dsimp only; omega)).trans (h2.trans (hA.cell (by dsimp only; omega))), (hD.frozen (by dsimp only; omega)).trans (h3.trans (hA.frozen (by dsimp only; omega)))⟩
    case hI =>
      intro k W W' h hb
      simp only [World.size_alloc, hs] at hb
      exact h.below (hb.mono (by omega))
    case h0 =>
      simp only [Nat.pow_zero, Nat.mod_one, pw_zero, pw_one]
      exact hE.below ((Below.refl _ _).alloc (by omega) _)
    case hstep =>
      rintro W W' ⟨v, rfl⟩
      exact KeepsBeyond.setCell (by simp [hs]) v
    case hIs =>
      rintro k W W' h ⟨v, rfl⟩
      exact h.setN _ (Nat.le_refl _) v
    case hassign =>
      intro l k W K hK
      simp
      gi_wp2
      exact hK
    case hbody =>
      intro l k W h hk hsz
      simp only [World.size_alloc, hs] at hsz ⊢
      have hrd := Lib.hid (pow_round x n.toNat k)
      have hdb := Lib.hid (pow_double x k)
      generalize pw x (2 ^ k) = p at h hrd hdb
      generalize pw x (n.toNat % 2 ^ k) = o at h hrd
      have hmf : ∀ (fn : Fn) (first cap : Array Value) (w : World), (Instr.makeFunc fn first cap).run Try.prog w = .ok (.func fn first cap) w := fun _ _ _ _ => rfl
      have hkp := BitKp.refl (B := w.heap.size + 4) (W := W) (by omega)
      have hkb := KeepsBeyond.refl (w.heap.size + 4 + 1) W
      obtain ⟨qne, qlo, qlp, qho, qhp, qbig, qra, qrb, qrf, qrg, qoa, qob, qof, qog, qpa, qpb, qpf, qpg, qbel⟩ := id h
      by_cases hbit : n.toNat / 2 ^ k % 2 = 1
      · have hb : bitAt n k = true := decide_eq_true hbit
        have Hb := Lib.hid hbit
        clear hbit
        rw [hb]
        gi_wp2_with fail
        refine ⟨trivial, (CallsIn.inRound l (callsIn_wide.2 (e_times _ _ _))).mono ?_⟩
        rintro e w' ⟨rfl, g, rfl⟩
        clear qbig qra qrb qrf qrg qoa qob qof qog qpa qpb qpf qpg
        have hz := (h.gr g).setO (p * o)
        obtain ⟨_, _, _, _, _, ybig, yra, yrb, yrf, yrg, yoa, yob, yof, yog, ypa, ypb, ypf, ypg, _⟩ := id (h.gr g)
        obtain ⟨_, _, _, _, _, zbig, zra, zrb, zrf, zrg, zoa, zob, zof, zog, zpa, zpb, zpf, zpg, _⟩ := id hz
        gi_wp2_with fail
        clear ybig yra yrb yrf yrg yoa yob yof yog ypa ypb ypf ypg
        refine ⟨trivial, (CallsIn.inRound l (callsIn_wide.2 (e_times _ _ _))).mono ?_⟩
        rintro e w' ⟨rfl, g2, rfl⟩
        obtain ⟨_, _, _, _, _, ubig, ura, urb, urf, urg, uoa, uob, uof, uog, upa, upb, upf, upg, _⟩ := id (hz.gr g2)
        gi_wp2_with fail
        rw [hrd.out, if_pos Hb.out, hdb.out]
        exact ⟨kb_set (kb_set (kb_gr (kb_set (kb_set (kb_gr hkb g) _ _ _ (by omega)) _ _ _ (by omega)) g2) _ _ _ (by omega)) _ _ _ (by omega),
          (hz.gr g2).setP (p * p),
          (((((hkp.gr g).set _ _ _ (by omega)).set _ _ _ (by omega)).gr g2).set _ _ _ (by omega)).set _ _ _ (by omega)⟩
      · have hb : bitAt n k = false := decide_eq_false hbit
        have Hb := Lib.hid hbit
        clear hbit
        rw [hb]
        gi_wp2_with fail
        refine ⟨trivial, (CallsIn.inRound l (callsIn_wide.2 (e_times _ _ _))).mono ?_⟩
        rintro e w' ⟨rfl, g2, rfl⟩
        obtain ⟨_, _, _, _, _, ubig, ura, urb, urf, urg, uoa, uob, uof, uog, upa, upb, upf, upg, _⟩ := id (h.gr g2)
        gi_wp2_with fail
        rw [hrd.out, if_neg Hb.out, hdb.out]
        exact ⟨kb_set (kb_set (kb_gr hkb g2) _ _ _ (by omega)) _ _ _ (by omega), (h.gr g2).setP (p * p), ((hkp.gr g2).set _ _ _ (by omega)).set _ _ _ (by omega)⟩
    case hdone =>
      intro D W hD h hsz hW
      obtain ⟨qne, qlo, qlp, qho, qhp, qbig, qra, qrb, qrf, qrg, qoa, qob, qof, qog, qpa, qpb, qpf, qpg, qbel⟩ := id h
      gi_wp2
      simp only [World.size_alloc, hs] at hD
      rw [pow_end x n.toNat N hN.1] at *
      have hW2 : ((W.setCell ⟨w.heap.size + 1, 0, none⟩ (.int .u64 (Zm.i (Ext.a (pw x n.toNat))))).setCell ⟨w.heap.size + 1, 1, none⟩ (.int .u64 (Zm.i (Ext.b (pw x n.toNat))))).heap[D]? = some (.deferred (some [])) :=
        ((Below.heap_setCell _ _ _ D (by dsimp only; omega)).trans (Below.heap_setCell _ _ _ D (by dsimp only; omega))).trans hW
      refine ⟨by simp, .inl ⟨_, _, rfl, run_takeDeferred hW2, ?_⟩⟩
      have hca : ((((W.setCell ⟨w.heap.size + 1, 0, none⟩ (.int .u64 (Zm.i (Ext.a (pw x n.toNat))))).setCell ⟨w.heap.size + 1, 1, none⟩ (.int .u64 (Zm.i (Ext.b (pw x n.toNat))))).putObj D (.deferred none))).cell? ⟨w.heap.size + 1, 0, none⟩ = some (.int .u64 (Zm.i (Ext.a (pw x n.toNat)))) :=
        (World.cell?_of_block (World.putObj_heap_other (by dsimp only; omega))).trans (set_a _ _ _ _ _ qra)
      have hcb : ((((W.setCell ⟨w.heap.size + 1, 0, none⟩ (.int .u64 (Zm.i (Ext.a (pw x n.toNat))))).setCell ⟨w.heap.size + 1, 1, none⟩ (.int .u64 (Zm.i (Ext.b (pw x n.toNat))))).putObj D (.deferred none))).cell? ⟨w.heap.size + 1, 1, none⟩ = some (.int .u64 (Zm.i (Ext.b (pw x n.toNat)))) :=
        (World.cell?_of_block (World.putObj_heap_other (by dsimp only; omega))).trans (set_b _ _ _ _ _ qrb)
      exact ⟨.agg #[.int .u64 (Zm.i (Ext.a (pw x n.toNat))), .int .u64 (Zm.i (Ext.b (pw x n.toNat)))], by simp [results, Try.results58, go_sem, hca, hcb], rfl, ((qbel.setCell (by dsimp only; omega) _).setCell (by dsimp only; omega) _).trans (below_putObj _ _ _ (by omega))⟩
  · have hE : EP w (((((w.alloc (Obj.cells #[.int .u64 (Zm.i (Ext.a x)), .int .u64 (Zm.i (Ext.b x))] 42)).alloc (Obj.cells #[.int .u64 0, .int .u64 0] 42)).alloc (Obj.cells #[.int .u64 (Zm.i (Ext.a x)), .int .u64 (Zm.i (Ext.b x))] 67)).alloc (Obj.cells #[.int .u64 1, .int .u64 0] 42)).drew) (w.heap.size + 1 + 1 + 1) (w.heap.size + 1 + 1) 1 x := by
      have e0 : (Ext.a 1).i = 1 := rfl
      have e1 : (Ext.b 1).i = 0 := rfl
      refine ⟨by omega, by omega, by omega, by omega, by omega, by simp, ?_, ?_, ?_, ?_, ?_, ?_, ?_, ?_, ?_, ?_, ?_, ?_, (by repeat (first | assumption | exact Below.refl _ _ | apply Below.drew | apply below_drewN | apply up_gr | apply below_al | (refine below_gr ?_ (by first | (simp; done) | (simp; omega)) _) | (refine Below.alloc ?_ (by first | (simp; done) | (simp; omega)) _) | (refine Below.setCell ?_ (by first | (simp; done) | (simp; omega)) _)))⟩
      all_goals (try rw [e0]); (try rw [e1]); simp [go_sem]
    have hs : (((((w.alloc (Obj.cells #[.int .u64 (Zm.i (Ext.a x)), .int .u64 (Zm.i (Ext.b x))] 42)).alloc (Obj.cells #[.int .u64 0, .int .u64 0] 42)).alloc (Obj.cells #[.int .u64 (Zm.i (Ext.a x)), .int .u64 (Zm.i (Ext.b x))] 67)).alloc (Obj.cells #[.int .u64 1, .int .u64 0] 42)).drew).heap.size = w.heap.size + 4 := by simp
    generalize ((((w.alloc (Obj.cells #[.int .u64 (Zm.i (Ext.a x)), .int .u64 (Zm.i (Ext.b x))] 42)).alloc (Obj.cells #[.int .u64 0, .int .u64 0] 42)).alloc (Obj.cells #[.int .u64 (Zm.i (Ext.a x)), .int .u64 (Zm.i (Ext.b x))] 67)).alloc (Obj.cells #[.int .u64 1, .int .u64 0] 42)).drew = W0 at hE hs ⊢
    generalize w.heap.size + 1 + 1 + 1 = Bo at hE ⊢
    generalize w.heap.size + 1 + 1 = Bp at hE ⊢
    gi_wp2_with fail
    refine ⟨trivial, (callsIn_wide.2 (e_bits _ _)).mono ?_⟩
    rintro e w' ⟨rfl, rfl⟩
    gi_wp2_with fail
    refine wp_range (m := 7) (gf := 81) (lb := #[.pointer (some ⟨w.heap.size + 4, 0, none⟩)]) rfl (fun _ _ => by kernel_rfl) (bits_iter _ n h0 h1 N hN) (fun _ => rfl) ?hH ?hKp
      (fun k W => EP w W Bo Bp (pw x (n.toNat % 2 ^ k)) (pw x (2 ^ k))) ?hI ?h0 ?hstep ?hIs
      (fun k => ⟨#[.agg #[.int .u64 (Zm.i (Ext.a (x))), .int .u64 (Zm.i (Ext.b (x)))], .int .u64 n, .pointer (some ⟨w.heap.size, 0, none⟩), undef, .pointer (some ⟨w.heap.size + 1, 0, none⟩), .pointer (some ⟨Bo, 0, none⟩), .pointer (some ⟨Bp, 0, none⟩), .bool (bitAt n k), undef,
        .agg #[.int .u64 1, .int .u64 0], .agg #[.int .u64 (Zm.i (Ext.a (x))), .int .u64 (Zm.i (Ext.b (x)))], .int .u64 n, .func (.func 81) #[] #[.pointer (some ⟨w.heap.size + 4, 0, none⟩)], .bool (bitAt n k), undef, undef, undef, undef, undef, undef, undef, undef, undef, undef], []⟩) ?hassign ?hbody ?hdone
    case hH =>
      intro W hb
      simp only [World.size_alloc, hs] at hb
      refine ⟨by have := hb.size; simp at this; omega, ?_, ?_⟩
      · rw [hb.cell (by dsimp only; omega), ← hs]; simp
      · rw [hb.frozen (by dsimp only; omega), ← hs]; simp
    case hKp =>
      rintro A C D E' hA ⟨h1, h2, h3⟩ hD
      simp only [World.size_alloc, hs] at hA hD
      exact ⟨Nat.lt_of_lt_of_le h1 hD.size, (hD.cell (by dsimp only; omega)).trans (h2.trans (hA.cell (by dsimp only; omega))), (hD.frozen (by dsimp only; omega)).trans (h3.trans (hA.frozen (by dsimp only; omega)))⟩
    case hI =>
      intro k W W' h hb
      simp only [World.size_alloc, hs] at hb
      exact h.below (hb.mono (by omega))
    case h0 =>
      simp only [Nat.pow_zero, Nat.mod_one, pw_zero, pw_one]
      exact hE.below ((Below.refl _ _).alloc (by omega) _)
    case hstep =>
      rintro W W' ⟨v, rfl⟩
      exact KeepsBeyond.setCell (by simp [hs]) v
    case hIs =>
      rintro k W W' h ⟨v, rfl⟩
      exact h.setN _ (Nat.le_refl _) v
    case hassign =>
      intro l k W K hK
      simp
      gi_wp2
      exact hK
    case hbody =>
      intro l k W h hk hsz
      simp only [World.size_alloc, hs] at hsz ⊢
      have hrd := Lib.hid (pow_round x n.toNat k)
      have hdb := Lib.hid (pow_double x k)
      generalize pw x (2 ^ k) = p at h hrd hdb
      generalize pw x (n.toNat % 2 ^ k) = o at h hrd
      have hmf : ∀ (fn : Fn) (first cap : Array Value) (w : World), (Instr.makeFunc fn first cap).run Try.prog w = .ok (.func fn first cap) w := fun _ _ _ _ => rfl
      have hkp := BitKp.refl (B := w.heap.size + 4) (W := W) (by omega)
      have hkb := KeepsBeyond.refl (w.heap.size + 4 + 1) W
      obtain ⟨qne, qlo, qlp, qho, qhp, qbig, qra, qrb, qrf, qrg, qoa, qob, qof, qog, qpa, qpb, qpf, qpg, qbel⟩ := id h
      by_cases hbit : n.toNat / 2 ^ k % 2 = 1
      · have hb : bitAt n k = true := decide_eq_true hbit
        have Hb := Lib.hid hbit
        clear hbit
        rw [hb]
        gi_wp2_with fail
        refine ⟨trivial, (CallsIn.inRound l (callsIn_wide.2 (e_times _ _ _))).mono ?_⟩
        rintro e w' ⟨rfl, g, rfl⟩
        clear qbig qra qrb qrf qrg qoa qob qof qog qpa qpb qpf qpg
        have hz := (h.gr g).setO (p * o)
        obtain ⟨_, _, _, _, _, ybig, yra, yrb, yrf, yrg, yoa, yob, yof, yog, ypa, ypb, ypf, ypg, _⟩ := id (h.gr g)
        obtain ⟨_, _, _, _, _, zbig, zra, zrb, zrf, zrg, zoa, zob, zof, zog, zpa, zpb, zpf, zpg, _⟩ := id hz
        gi_wp2_with fail
        clear ybig yra yrb yrf yrg yoa yob yof yog ypa ypb ypf ypg
        refine ⟨trivial, (CallsIn.inRound l (callsIn_wide.2 (e_times _ _ _))).mono ?_⟩
        rintro e w' ⟨rfl, g2, rfl⟩
        obtain ⟨_, _, _, _, _, ubig, ura, urb, urf, urg, uoa, uob, uof, uog, upa, upb, upf, upg, _⟩ := id (hz.gr g2)
        gi_wp2_with fail
        rw [hrd.out, if_pos Hb.out, hdb.out]
        exact ⟨kb_set (kb_set (kb_gr (kb_set (kb_set (kb_gr hkb g) _ _ _ (by omega)) _ _ _ (by omega)) g2) _ _ _ (by omega)) _ _ _ (by omega),
          (hz.gr g2).setP (p * p),
          (((((hkp.gr g).set _ _ _ (by omega)).set _ _ _ (by omega)).gr g2).set _ _ _ (by omega)).set _ _ _ (by omega)⟩
      · have hb : bitAt n k = false := decide_eq_false hbit
        have Hb := Lib.hid hbit
        clear hbit
        rw [hb]
        gi_wp2_with fail
        refine ⟨trivial, (CallsIn.inRound l (callsIn_wide.2 (e_times _ _ _))).mono ?_⟩
        rintro e w' ⟨rfl, g2, rfl⟩
        obtain ⟨_, _, _, _, _, ubig, ura, urb, urf, urg, uoa, uob, uof, uog, upa, upb, upf, upg, _⟩ := id (h.gr g2)
        gi_wp2_with fail
        rw [hrd.out, if_neg Hb.out, hdb.out]
        exact ⟨kb_set (kb_set (kb_gr hkb g2) _ _ _ (by omega)) _ _ _ (by omega), (h.gr g2).setP (p * p), ((hkp.gr g2).set _ _ _ (by omega)).set _ _ _ (by omega)⟩
    case hdone =>
      intro D W hD h hsz hW
      obtain ⟨qne, qlo, qlp, qho, qhp, qbig, qra, qrb, qrf, qrg, qoa, qob, qof, qog, qpa, qpb, qpf, qpg, qbel⟩ := id h
      gi_wp2
      simp only [World.size_alloc, hs] at hD
      rw [pow_end x n.toNat N hN.1] at *
      have hW2 : ((W.setCell ⟨w.heap.size + 1, 0, none⟩ (.int .u64 (Zm.i (Ext.a (pw x n.toNat))))).setCell ⟨w.heap.size + 1, 1, none⟩ (.int .u64 (Zm.i (Ext.b (pw x n.toNat))))).heap[D]? = some (.deferred (some [])) :=
        ((Below.heap_setCell _ _ _ D (by dsimp only; omega)).trans (Below.heap_setCell _ _ _ D (by dsimp only; omega))).trans hW
      refine ⟨by simp, .inl ⟨_, _, rfl, run_takeDeferred hW2, ?_⟩⟩
      have hca : ((((W.setCell ⟨w.heap.size + 1, 0, none⟩ (.int .u64 (Zm.i (Ext.a (pw x n.toNat))))).setCell ⟨w.heap.size + 1, 1, none⟩ (.int .u64 (Zm.i (Ext.b (pw x n.toNat))))).putObj D (.deferred none))).cell? ⟨w.heap.size + 1, 0, none⟩ = some (.int .u64 (Zm.i (Ext.a (pw x n.toNat)))) :=
        (World.cell?_of_block (World.putObj_heap_other (by dsimp only; omega))).trans (set_a _ _ _ _ _ qra)
      have hcb : ((((W.setCell ⟨w.heap.size + 1, 0, none⟩ (.int .u64 (Zm.i (Ext.a (pw x n.toNat))))).setCell ⟨w.heap.size + 1, 1, none⟩ (.int .u64 (Zm.i (Ext.b (pw x n.toNat))))).putObj D (.deferred none))).cell? ⟨w.heap.size + 1, 1, none⟩ = some (.int .u64 (Zm.i (Ext.b (pw x n.toNat)))) :=
        (World.cell?_of_block (World.putObj_heap_other (by dsimp only; omega))).trans (set_b _ _ _ _ _ qrb)
      exact ⟨.agg #[.int .u64 (Zm.i (Ext.a (pw x n.toNat))), .int .u64 (Zm.i (Ext.b (pw x n.toNat)))], by simp [results, Try.results58, go_sem, hca, hcb], rfl, ((qbel.setCell (by dsimp only; omega) _).setCell (by dsimp only; omega) _).trans (below_putObj _ _ _ (by omega))⟩
end Go.Proofs.Ytfebohbhahaopaa
