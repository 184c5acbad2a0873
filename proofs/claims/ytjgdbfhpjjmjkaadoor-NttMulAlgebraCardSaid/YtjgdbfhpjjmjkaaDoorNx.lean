/- The fixed examples of law04.sanity, plain. -/
import Derived.Test.YtjgdbfhpjjmjkaaDoorNw12
namespace Go.Proofs.YtjgdbfhpjjmjkaaDoor
open Go.RowKit Att Att.CRing
abbrev fo (x : Nat) : F := Zm.of x
theorem i_fo {x : Nat} (h : x < 18446744069414584321) : Zm.i (fo x) = (x : Int) := by
  have e := Zm.n_of (m := P) x
  show ((fo x).n : Int) = (x : Int)
  rw [e, Nat.mod_eq_of_lt (by rw [P_eq]; exact h)]
theorem litB {w : World} (l : List Nat) (h : (l.all fun x => decide (x < 18446744069414584321)) = true) : BF (w.alloc (.cells (l.map fun x : Nat => Value.int .u64 (x : Int)).toArray 34)) w.heap.size (l.map fo) := by
  have e : ff (l.map fo) = l.map fun x : Nat => Value.int .u64 (x : Int) := by
    unfold ff
    rw [List.map_map]
    refine List.map_congr_left fun x hx => ?_
    have := List.all_eq_true.1 h x hx
    simp only [decide_eq_true_eq] at this
    show Value.int .u64 (Zm.i (fo x)) = _
    rw [i_fo this]
  have h2 := hnew w (.cells (l.map fun x : Nat => Value.int .u64 (x : Int)).toArray 34)
  unfold BF
  rw [e]; exact h2
theorem litF {w : World} (l : List Nat) (h : (l.all fun x => decide (x < 18446744069414584321)) = true) (hl : l.length ≤ 9223372036854775807) : SF (w.alloc (.cells (l.map fun x : Nat => Value.int .u64 (x : Int)).toArray 34)) (some ⟨w.heap.size, 0, none⟩) l.length l.length (l.map fo) := by
  have := (litB (w := w) l h).sf (by rw [List.length_map]; exact hl)
  rwa [List.length_map] at this
theorem Ret4.get {e : Ending} {w w' : World} {l : List F} {z : Int} {n : Nat} (h : Ret4 e w w' (l, z)) (hn : l.length = n) : ∃ A c, e = .returned (.tuple #[.slice A n c, .int .i64 z]) ∧ SF w' A n c l ∧ Gn w w' := by
  obtain ⟨⟨A, c, rfl, hs⟩, g⟩ := h
  subst hn
  exact ⟨A, c, rfl, hs, g⟩
theorem root_two : root 2 = fo 281474976710656 :=
  pow_by 7 4611686017353646080 281474976710656 (by decide) (by decide +kernel)
theorem root_one' : root 1 = fo 18446744069414584320 := by rw [root_one]; decide +kernel
theorem ex4a : fwdOf [fo 5, fo 7] = ([fo 12, fo 18446744069414584319], 0) := by
  rw [fwdOf_pow (k := 1) rfl (by decide), root_one']
  congr 1
theorem ex4b : invOf [fo 12, fo 18446744069414584319] = ([fo 5, fo 7], 0) := by
  have h := inv_fwd (l := [fo 5, fo 7]) (k := 1) rfl (by decide)
  rwa [ex4a] at h
theorem ex4c : extOf [fo 3] 4 = ([fo 3, fo 3, fo 3, fo 3], 0) := by
  have h := extOf_pow (l := [fo 3]) (k := 0) (m := 2) rfl (by decide)
  rw [root_two] at h
  refine Eq.trans h ?_
  congr 1
theorem ex4d : mulOf [fo 1, fo 2] [fo 3, fo 4, fo 5] = ([fo 3, fo 10, fo 13, fo 10], 0) := by
  rw [mulOf_ok (by decide) (by decide) (by decide)]
  congr 1
theorem ex4e : fwdOf [fo 0, fo 1, fo 0, fo 0] = ([fo 1, fo 281474976710656, fo 18446744069414584320, fo 18446462594437873665], 0) := by
  rw [fwdOf_pow (k := 2) rfl (by decide), root_two]
  congr 1
theorem pow3 (k : Nat) : 3 ≠ 2 ^ k := by
  rcases k with _ | _ | k
  · decide
  · decide
  · rw [Nat.pow_succ, Nat.pow_succ]; omega
theorem pow0 (k : Nat) : 0 ≠ 2 ^ k := by have := Nat.two_pow_pos k; omega
theorem ex4f (l : List F) (h : l.length = 3) : fwdOf l = ([], 1) := fwdOf_bad (by rw [h]; rintro ⟨k, _, e⟩; exact pow3 k e)
theorem ex4g : invOf [] = ([], 1) := invOf_bad (by rintro ⟨k, _, e⟩; exact pow0 k e)
theorem ex4h (l : List F) : extOf l 3 = ([], 1) := extOf_bad (by
  rintro ⟨k, m, _, h, _⟩
  rw [cast_pow] at h
  exact pow3 m (by omega))
theorem ex4i (l : List F) : extOf l 131072 = ([], 1) := extOf_bad (by
  rintro ⟨k, m, _, h, hk⟩
  rw [cast_pow] at h
  have : (2 : Nat) ^ m = 2 ^ 17 := by omega
  have := pow_inj2 this
  omega)
theorem ex4j (l : List F) : mulOf [] l = ([], 0) := mulOf_nil (.inl rfl)
theorem r_same_true {A B : Option Addr} {n c m d : Nat} {l k : List F} {w : World} (hl : SF w A n c l) (hk : SF w B m d k) (e : l = k) :
    Calls Tryd.prog 22 #[.slice A n c, .slice B m d] w fun e w' => e = .returned (.bool true) ∧ Gn w w' := by
  subst e
  refine (r_same4 A B n c m d l l w hl hk).mono ?_
  rintro e w' ⟨rfl, g⟩
  exact ⟨by rw [decide_eq_true rfl], g⟩
end Go.Proofs.YtjgdbfhpjjmjkaaDoor
