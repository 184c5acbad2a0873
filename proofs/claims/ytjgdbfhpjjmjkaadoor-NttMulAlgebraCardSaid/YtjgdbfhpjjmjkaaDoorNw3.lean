/- The iterator of the stages. -/
import Derived.Test.YtjgdbfhpjjmjkaaDoorNw2
import Derived.Test.YtjgdbfhpjjmjkaaDoorRg
import Derived.BigFrameIn
import Derived.RegionIn
import Derived.BigRegionIn
import Derived.RangeFuncCalls
import Derived.Shelf.RegionOpen
namespace Go.Proofs.YtjgdbfhpjjmjkaaDoor
open Go.RowKit Att Att.CRing
/-- what the iterator asks of memory: the boxes of the length and of the direction -/
structure StH (B C : Nat) (n : Int) (inv : Bool) (W : World) : Prop where
  b : B < W.heap.size
  c : C < W.heap.size
  cb : W.cell? ⟨B, 0, none⟩ = some (.int .i64 n)
  cc : W.cell? ⟨C, 0, none⟩ = some (.bool inv)
def StKp (B C : Nat) (W W' : World) : Prop := W.heap.size ≤ W'.heap.size ∧ W'.cell? ⟨B, 0, none⟩ = W.cell? ⟨B, 0, none⟩ ∧ W'.cell? ⟨C, 0, none⟩ = W.cell? ⟨C, 0, none⟩
theorem StH.gn {B C : Nat} {n : Int} {inv : Bool} {W W' : World} (h : StH B C n inv W) (g : Gn W W') : StH B C n inv W' :=
  ⟨Nat.lt_of_lt_of_le h.b g.size, Nat.lt_of_lt_of_le h.c g.size, (g.below.cell (p := ⟨B, 0, none⟩) h.b).trans h.cb, (g.below.cell (p := ⟨C, 0, none⟩) h.c).trans h.cc⟩
attribute [local go_sem] Oper.semAt_some
theorem root_pos (k : Nat) (hk : k ≤ 32) : 0 < Zm.i (root k) := by
  have h := i_nn (root k)
  rcases Int.lt_or_eq_of_le h with h' | h'
  · exact h'
  · exact absurd (i_inj (b := 0) h'.symm) (root_prim k hk).ne_zero
theorem f_invR (rt : Nat → F) (hrt : ∀ k, rt k = Fld.inv (root k)) (k : Nat) (hk : k ≤ 32) (w : World) :
    Calls Tryd.prog 36 #[.int .u64 (Zm.i (root k))] w fun e w' => e = .returned (.tuple #[.int .u64 (Zm.i (rt k)), .int .i64 0]) ∧ ∃ n, w' = w.drewN n := by
  have h := f_inv (Zm.i (root k)) (root_pos k hk) w
  rw [int_i] at h
  rw [hrt k]
  exact h
set_option maxHeartbeats 1000000 in
theorem stages_iterF (rt : Nat → F) (hrt : ∀ k, rt k = root k) (B C K : Nat) (hK : K ≤ 16) :
    IterOk Tryd.prog 53 #[.pointer (some ⟨B, 0, none⟩), .pointer (some ⟨C, 0, none⟩)] (fun k => #[.int .i64 ((2 : Int) ^ (k + 1)), .int .u64 (Zm.i (rt (k + 1)))]) K (StH B C ((2 : Int) ^ K) false) Gn (StKp B C) := by
  intro m r J hS hY W hH hJ
  refine callsIn_of_wp Tryd.func53 rfl trivial ?_ rfl
  simp only [Tryd.ntmps53, List.size_toArray, List.length_cons, List.length_nil, Nat.reduceAdd, Nat.reduceSub, Array.replicate_succ, Array.replicate_zero, List.push_toArray, List.append_toArray, List.nil_append, List.cons_append]
  gi_wp2
  gi_loopw [4] (fun v wr => ∃ k : Nat, k ≤ K ∧ v = .int .i64 ((k : Int) + 1) ∧ J k wr ∧ StH B C ((2 : Int) ^ K) false wr) (fun v _ => K + 1 - (intOf v).toNat)
  case atStart => exact ⟨0, Nat.zero_le _, rfl, hJ, hH⟩
  case round =>
    obtain ⟨k, hk, rfl, hJk, hHk⟩ := hrel
    obtain ⟨h1, h2, h3, h4⟩ := id hHk
    have hp := pow_lt (k := k) (by omega)
    have hcast : ∀ n : Nat, ((2 : Int) ^ n) = ((2 ^ n : Nat) : Int) := fun n => by rw [Int.natCast_pow]; rfl
    have hw : IntKind.i64.wrap ((2 : Int) ^ (k + 1)) = (2 : Int) ^ (k + 1) := by
      rw [hcast]; exact IntWalk.i64_in _ (by rw [Nat.pow_succ]; omega)
    have hd : decide ((2 : Int) ^ (k + 1) ≤ (2 : Int) ^ K) = decide (k < K) := by
      rw [Bool.eq_iff_iff, decide_eq_true_eq, decide_eq_true_eq, hcast, hcast, Int.ofNat_le]
      constructor
      · intro h; exact Nat.lt_of_succ_le ((Nat.pow_le_pow_iff_right (by omega)).1 h)
      · intro h; exact Nat.pow_le_pow_right (by omega) h
    have hgd : Gn wr wr.drew := Gn.of ⟨rfl, rfl, rfl, Nat.le_refl _, fun _ _ => rfl⟩
    have hJ1 := hS k wr wr.drew hJk hgd
    have hH1 := hHk.gn hgd
    have hmx : Tryd.prog.follows .mixedOrders = true := by kernel_rfl
    clear hcast
    have HW := Lib.hid hw; have HD := Lib.hid hd
    clear hw hd
    gi_wp2
    gi_region_with_o fail
    have hw := HW.out
    rw [hw, HD.out]
    generalize wr.drew = w1 at *
    clear h1 h2 h3 h4 hJk hHk hgd hmx HD HW
    obtain ⟨h1, h2, h3, h4⟩ := id hH1
    by_cases hlt : k < K
    · have hdt : decide (k < K) = true := decide_eq_true hlt
      rw [hdt]
      clear hdt
      obtain ⟨fn, tt, asg, bdy, hy, hr⟩ := hY k w1 hlt hJ1
      have hrt1 := hrt (k + 1)
      clear hY
      have hR := f_root ((k : Int) + 1) (by omega) (by omega) w1
      rw [show ((k : Int) + 1).toNat = k + 1 from by omega, ← hrt1] at hR
      clear hrt1
      generalize rt (k + 1) = z at *
      gi_wp2_with fail
      refine ⟨trivial, (callsIn_wide.2 hR).mono ?_⟩
      clear hR
      rintro e w' ⟨rfl, rfl⟩
      gi_wp2_with fail
      refine hr.mono ?_
      rintro e W' ⟨rfl, hJ', hsz, hcb, hcc⟩
      have hH2 : StH B C ((2 : Int) ^ K) false W' := ⟨Nat.lt_of_lt_of_le h1 hsz, Nat.lt_of_lt_of_le h2 hsz, hcb.trans h3, hcc.trans h4⟩
      clear hr hy hcb hcc h1 h2 h3 h4 hw
      gi_wp2
      exact ⟨⟨k + 1, by omega, by go_num, hJ', hH2⟩, by simp [intOf]; omega⟩
    · obtain rfl : k = K := by omega
      have hdt : decide (k < k) = false := decide_eq_false (Nat.lt_irrefl k)
      rw [hdt]
      clear hdt
      gi_wp2
      first | go_end0 | go_ret
      exact ⟨⟨_, rfl⟩, hJ1⟩
set_option maxHeartbeats 1000000 in
theorem stages_iterT (rt : Nat → F) (hrt : ∀ k, rt k = Fld.inv (root k)) (B C K : Nat) (hK : K ≤ 16) :
    IterOk Tryd.prog 53 #[.pointer (some ⟨B, 0, none⟩), .pointer (some ⟨C, 0, none⟩)] (fun k => #[.int .i64 ((2 : Int) ^ (k + 1)), .int .u64 (Zm.i (rt (k + 1)))]) K (StH B C ((2 : Int) ^ K) true) Gn (StKp B C) := by
  intro m r J hS hY W hH hJ
  refine callsIn_of_wp Tryd.func53 rfl trivial ?_ rfl
  simp only [Tryd.ntmps53, List.size_toArray, List.length_cons, List.length_nil, Nat.reduceAdd, Nat.reduceSub, Array.replicate_succ, Array.replicate_zero, List.push_toArray, List.append_toArray, List.nil_append, List.cons_append]
  gi_wp2
  gi_loopw [4] (fun v wr => ∃ k : Nat, k ≤ K ∧ v = .int .i64 ((k : Int) + 1) ∧ J k wr ∧ StH B C ((2 : Int) ^ K) true wr) (fun v _ => K + 1 - (intOf v).toNat)
  case atStart => exact ⟨0, Nat.zero_le _, rfl, hJ, hH⟩
  case round =>
    obtain ⟨k, hk, rfl, hJk, hHk⟩ := hrel
    obtain ⟨h1, h2, h3, h4⟩ := id hHk
    have hp := pow_lt (k := k) (by omega)
    have hcast : ∀ n : Nat, ((2 : Int) ^ n) = ((2 ^ n : Nat) : Int) := fun n => by rw [Int.natCast_pow]; rfl
    have hw : IntKind.i64.wrap ((2 : Int) ^ (k + 1)) = (2 : Int) ^ (k + 1) := by
      rw [hcast]; exact IntWalk.i64_in _ (by rw [Nat.pow_succ]; omega)
    have hd : decide ((2 : Int) ^ (k + 1) ≤ (2 : Int) ^ K) = decide (k < K) := by
      rw [Bool.eq_iff_iff, decide_eq_true_eq, decide_eq_true_eq, hcast, hcast, Int.ofNat_le]
      constructor
      · intro h; exact Nat.lt_of_succ_le ((Nat.pow_le_pow_iff_right (by omega)).1 h)
      · intro h; exact Nat.pow_le_pow_right (by omega) h
    have hgd : Gn wr wr.drew := Gn.of ⟨rfl, rfl, rfl, Nat.le_refl _, fun _ _ => rfl⟩
    have hJ1 := hS k wr wr.drew hJk hgd
    have hH1 := hHk.gn hgd
    have hmx : Tryd.prog.follows .mixedOrders = true := by kernel_rfl
    clear hcast
    have HW := Lib.hid hw; have HD := Lib.hid hd
    clear hw hd
    gi_wp2
    gi_region_with_o fail
    have hw := HW.out
    rw [hw, HD.out]
    generalize wr.drew = w1 at *
    clear h1 h2 h3 h4 hJk hHk hgd hmx HD HW
    obtain ⟨h1, h2, h3, h4⟩ := id hH1
    by_cases hlt : k < K
    · have hdt : decide (k < K) = true := decide_eq_true hlt
      rw [hdt]
      clear hdt
      have hR := f_root ((k : Int) + 1) (by omega) (by omega) w1
      rw [show ((k : Int) + 1).toNat = k + 1 from by omega] at hR
      have hI := f_invR rt hrt (k + 1) (by omega)
      clear hrt
      generalize root (k + 1) = z0 at *
      gi_wp2_with fail
      refine ⟨trivial, (callsIn_wide.2 hR).mono ?_⟩
      clear hR
      rintro e w' ⟨rfl, rfl⟩
      gi_wp2_with fail
      refine ⟨trivial, (callsIn_wide.2 (hI _)).mono ?_⟩
      clear hI
      rintro e w' ⟨rfl, q, rfl⟩
      have hg2 : Gn w1 (w1.drewN q) := Gn.of ⟨rfl, rfl, rfl, Nat.le_refl _, fun _ _ => rfl⟩
      have hJ2 := hS k w1 _ hJ1 hg2
      have hH2 := hH1.gn hg2
      generalize w1.drewN q = w2 at *
      clear hg2 hJ1 hH1 h1 h2 h3 h4
      obtain ⟨h1, h2, h3, h4⟩ := id hH2
      obtain ⟨fn, tt, asg, bdy, hy, hr⟩ := hY k w2 hlt hJ2
      clear hY
      generalize rt (k + 1) = z at *
      gi_wp2_with fail
      refine hr.mono ?_
      rintro e W' ⟨rfl, hJ', hsz, hcb, hcc⟩
      have hH3 : StH B C ((2 : Int) ^ K) true W' := ⟨Nat.lt_of_lt_of_le h1 hsz, Nat.lt_of_lt_of_le h2 hsz, hcb.trans h3, hcc.trans h4⟩
      clear hr hy hcb hcc h1 h2 h3 h4 hw
      gi_wp2
      exact ⟨⟨k + 1, by omega, by go_num, hJ', hH3⟩, by simp [intOf]; omega⟩
    · obtain rfl : k = K := by omega
      have hdt : decide (k < k) = false := decide_eq_false (Nat.lt_irrefl k)
      rw [hdt]
      clear hdt
      gi_wp2
      first | go_end0 | go_ret
      exact ⟨⟨_, rfl⟩, hJ1⟩
end Go.Proofs.YtjgdbfhpjjmjkaaDoor
