/- The reference's power in the extension: bits from the highest to the lowest. -/
import Derived.Test.YtfebohbhahaopaaEr1
import Derived.LoopTactic
namespace Go.Proofs.Ytfebohbhahaopaa
open Go.RowKit Att Att.CRing

theorem pow_bit (x : Ext) (n j : Nat) : pw x (n / 2 ^ j) = if n / 2 ^ j % 2 = 1 then (pw x (n / 2 ^ (j + 1)) * pw x (n / 2 ^ (j + 1))) * x else pw x (n / 2 ^ (j + 1)) * pw x (n / 2 ^ (j + 1)) := by
  have e : n / 2 ^ (j + 1) = n / 2 ^ j / 2 := by rw [Nat.pow_succ, Nat.div_div_eq_div_mul]
  rw [e]
  generalize n / 2 ^ j = m
  have h := Nat.mod_add_div m 2
  split
  · rename_i h1
    rw [← pw_add, ← pw_succ]; congr 1; omega
  · rw [← pw_add]; congr 1; omega
theorem shr_bit (n : Int) (h0 : 0 ≤ n) (j : Nat) : n / 2 ^ j % 2 = ((n.toNat / 2 ^ j % 2 : Nat) : Int) := by
  obtain ⟨m, rfl⟩ := Int.eq_ofNat_of_zero_le h0
  simp

/-- the world in the loop: the element's box, the result's block, the block B of the value so far -/
structure XP (w wr : World) (B : Nat) (x o : Ext) : Prop where
  lt : w.heap.size + 1 < B
  big : B < wr.heap.size
  xa : wr.cell? ⟨w.heap.size, 0, none⟩ = some (.int .u64 (Zm.i (Ext.a x)))
  xb : wr.cell? ⟨w.heap.size, 1, none⟩ = some (.int .u64 (Zm.i (Ext.b x)))
  ra : wr.cell? ⟨w.heap.size + 1, 0, none⟩ = some (.int .u64 0)
  rb : wr.cell? ⟨w.heap.size + 1, 1, none⟩ = some (.int .u64 0)
  rf : wr.frozen? ⟨w.heap.size + 1, 0, none⟩ = false
  rg : wr.frozen? ⟨w.heap.size + 1, 1, none⟩ = false
  oa : wr.cell? ⟨B, 0, none⟩ = some (.int .u64 (Zm.i (Ext.a o)))
  ob : wr.cell? ⟨B, 1, none⟩ = some (.int .u64 (Zm.i (Ext.b o)))
  of : wr.frozen? ⟨B, 0, none⟩ = false
  og : wr.frozen? ⟨B, 1, none⟩ = false
  bel : Below w.heap.size w wr
theorem XP.step {w wr : World} {B : Nat} {x o : Ext} (h : XP w wr B x o) (g : Grow wr) (o' : Ext) :
    XP w (((gr wr g).setCell ⟨B, 0, none⟩ (.int .u64 (Zm.i (Ext.a o')))).setCell ⟨B, 1, none⟩ (.int .u64 (Zm.i (Ext.b o')))) B x o' := by
  have hl := h.lt
  have hb := h.big
  have hs := gr_size wr g
  have far : ∀ b i, b < B → (((gr wr g).setCell ⟨B, 0, none⟩ (.int .u64 (Zm.i (Ext.a o')))).setCell ⟨B, 1, none⟩ (.int .u64 (Zm.i (Ext.b o')))).cell? ⟨b, i, none⟩ = wr.cell? ⟨b, i, none⟩ := by
    intro b i hi
    rw [World.cell?_setCell_far _ _ _ _ (by show B ≠ b; omega), World.cell?_setCell_far _ _ _ _ (by show B ≠ b; omega), gr_cell _ _ _ _ (by omega)]
  have fro : ∀ b i, b ≤ B → (((gr wr g).setCell ⟨B, 0, none⟩ (.int .u64 (Zm.i (Ext.a o')))).setCell ⟨B, 1, none⟩ (.int .u64 (Zm.i (Ext.b o')))).frozen? ⟨b, i, none⟩ = wr.frozen? ⟨b, i, none⟩ := by
    intro b i hi
    rw [World.frozen?_setCell, World.frozen?_setCell, gr_frozen _ _ _ _ (by omega)]
  have e0 : (gr wr g).cell? ⟨B, 0, none⟩ = some (.int .u64 (Zm.i (Ext.a o))) := (gr_cell _ _ _ _ hb).trans h.oa
  have e1 : (gr wr g).cell? ⟨B, 1, none⟩ = some (.int .u64 (Zm.i (Ext.b o))) := (gr_cell _ _ _ _ hb).trans h.ob
  refine ⟨hl, by simp; omega, (far _ _ (by omega)).trans h.xa, (far _ _ (by omega)).trans h.xb, (far _ _ hl).trans h.ra, (far _ _ hl).trans h.rb, (fro _ _ (by omega)).trans h.rf, (fro _ _ (by omega)).trans h.rg, ?_, ?_,
    (fro _ _ (by omega)).trans h.of, (fro _ _ (by omega)).trans h.og, ?_⟩
  · rw [World.cell?_setCell_other _ _ _ _ (by simp)]
    exact World.cell?_setCell_same' _ _ _ (by rw [e0]; rfl)
  · refine World.cell?_setCell_same' _ _ _ ?_
    rw [World.cell?_setCell_other _ _ _ _ (by simp), e1]; rfl
  · exact ((below_gr h.bel h.bel.size g).setCell (by simp; omega) _).setCell (by simp; omega) _

set_option maxHeartbeats 1000000 in
theorem x_pow (x : Ext) (n : Int) (h0 : 0 ≤ n) (h1 : n < 18446744073709551616) (w : World) :
    Calls Try.prog 59 #[.agg #[.int .u64 (Zm.i (Ext.a (x))), .int .u64 (Zm.i (Ext.b (x)))], .int .u64 n] w fun e w' => e = .returned (.agg #[.int .u64 (Zm.i (Ext.a (pw x n.toNat))), .int .u64 (Zm.i (Ext.b (pw x n.toNat)))]) ∧ ∃ g, w' = gr w g := by
  refine calls_gr ?_
  go_enter Try.func59, Try.ntmps59
  go_wp2_with fail
  refine (x_one _).mono ?_
  rintro e w' ⟨rfl, g, rfl⟩
  go_wp2_with fail
  have hX : XP w ((gr ((w.alloc (Obj.cells #[.int .u64 (Zm.i (Ext.a x)), .int .u64 (Zm.i (Ext.b x))] 42)).alloc (Obj.cells #[.int .u64 0, .int .u64 0] 42)) g).alloc (Obj.cells #[.int .u64 (Zm.i (Ext.a 1)), .int .u64 (Zm.i (Ext.b 1))] 42))
      (gr ((w.alloc (Obj.cells #[.int .u64 (Zm.i (Ext.a x)), .int .u64 (Zm.i (Ext.b x))] 42)).alloc (Obj.cells #[.int .u64 0, .int .u64 0] 42)) g).heap.size x 1 := by
    have hs := gr_size _ g
    simp only [World.size_alloc] at hs
    exact ⟨by omega, by simp, by simp [go_sem], by simp [go_sem], by simp [go_sem], by simp [go_sem], by simp [go_sem], by simp [go_sem], by simp [go_sem], by simp [go_sem], by simp [go_sem], by simp [go_sem], (by repeat (first | assumption | exact Below.refl _ _ | apply Below.drew | apply below_drewN | apply up_gr | apply below_al | (refine below_gr ?_ (by first | (simp; done) | (simp; omega)) _) | (refine Below.alloc ?_ (by first | (simp; done) | (simp; omega)) _) | (refine Below.setCell ?_ (by first | (simp; done) | (simp; omega)) _)))⟩
  generalize (gr ((w.alloc (Obj.cells #[.int .u64 (Zm.i (Ext.a x)), .int .u64 (Zm.i (Ext.b x))] 42)).alloc (Obj.cells #[.int .u64 0, .int .u64 0] 42)) g).alloc (Obj.cells #[.int .u64 (Zm.i (Ext.a 1)), .int .u64 (Zm.i (Ext.b 1))] 42) = W0 at hX ⊢
  generalize (gr ((w.alloc (Obj.cells #[.int .u64 (Zm.i (Ext.a x)), .int .u64 (Zm.i (Ext.b x))] 42)).alloc (Obj.cells #[.int .u64 0, .int .u64 0] 42)) g).heap.size = B at hX ⊢
  clear g
  have hz : n.toNat / 2 ^ 64 = 0 := Nat.div_eq_of_lt (by omega)
  go_loopw [6] (fun i wr => ∃ j : Nat, j ≤ 64 ∧ i = .int .i64 (j - 1) ∧ XP w wr B x (pw x (n.toNat / 2 ^ j))) (fun i _ => (intOf i + 1).toNat)
  case atStart => exact ⟨64, by omega, rfl, by rw [hz]; exact hX⟩
  case round =>
    obtain ⟨j, hj, rfl, hx⟩ := hrel
    clear hX hz
    have hx0 := hx
    obtain ⟨hlt, hbig, hxa, hxb, hra, hrb, hrf, hrg, hoa, hob, hof, hog, hbel⟩ := hx
    match j, hj with
    | 0, _ =>
      go_wp2_with fail
      exact bodyPost_ret (v := .agg #[.int .u64 (Zm.i (Ext.a (pw x n.toNat))), .int .u64 (Zm.i (Ext.b (pw x n.toNat)))]) (by simp [results, Try.results59, go_sem, hra, hrb]) rfl ⟨rfl, (by repeat (first | assumption | exact Below.refl _ _ | apply Below.drew | apply below_drewN | apply up_gr | apply below_al | (refine below_gr ?_ (by first | (simp; done) | (simp; omega)) _) | (refine Below.alloc ?_ (by first | (simp; done) | (simp; omega)) _) | (refine Below.setCell ?_ (by first | (simp; done) | (simp; omega)) _)))⟩
    | k + 1, hk =>
      have hq0 : 0 ≤ n / 2 ^ k := Int.ediv_nonneg h0 (Int.le_of_lt (Int.pow_pos (by omega)))
      have hq1 : n / 2 ^ k < 18446744073709551616 := Int.lt_of_le_of_lt (Int.ediv_le_self _ h0) h1
      have hand := andOne (n / 2 ^ k) hq0 hq1
      rw [shr_bit n h0 k] at hand
      have hpb := Lib.hid (pow_bit x n.toNat k)
      clear hq0 hq1
      by_cases hbit : n.toNat / 2 ^ k % 2 = 1
      · have ht : (bits .and .u64 (n / 2 ^ k) 1 == 1) = true := by rw [hand, hbit]; rfl
        have Hb := Lib.hid hbit
        clear hand hbit
        go_wp2_with fail
        refine (x_mul _ _ _).mono ?_
        rintro e w' ⟨rfl, g, rfl⟩
        have hz := hx0.step g (pw x (n.toNat / 2 ^ (k + 1)) * pw x (n.toNat / 2 ^ (k + 1)))
        have hz0 := hz
        obtain ⟨zlt, zbig, zxa, zxb, zra, zrb, zrf, zrg, zoa, zob, zof, zog, zbel⟩ := hz
        clear hx0
        go_wp2_with fail
        refine (x_mul _ _ _).mono ?_
        rintro e w' ⟨rfl, g2, rfl⟩
        have hy := hz0.step g2 (pw x (n.toNat / 2 ^ (k + 1)) * pw x (n.toNat / 2 ^ (k + 1)) * x)
        go_wp2_with fail
        exact ⟨⟨k, by omega, rfl, by rw [hpb.out, if_pos Hb.out]; exact hy⟩, by simp [intOf]⟩
      · have ht : (bits .and .u64 (n / 2 ^ k) 1 == 1) = false := by
          rw [hand]
          generalize n.toNat / 2 ^ k = q at hbit ⊢
          simp; omega
        have Hb := Lib.hid hbit
        clear hand hbit
        go_wp2_with fail
        refine (x_mul _ _ _).mono ?_
        rintro e w' ⟨rfl, g, rfl⟩
        have hz := hx0.step g (pw x (n.toNat / 2 ^ (k + 1)) * pw x (n.toNat / 2 ^ (k + 1)))
        go_wp2_with fail
        exact ⟨⟨k, by omega, rfl, by rw [hpb.out, if_neg Hb.out]; exact hz⟩, by simp [intOf]⟩
end Go.Proofs.Ytfebohbhahaopaa
