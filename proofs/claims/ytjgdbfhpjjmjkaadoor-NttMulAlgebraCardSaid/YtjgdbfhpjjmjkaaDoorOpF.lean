/- Opening an argument that is a slice of raw numbers. -/
import Derived.Test.YtjgdbfhpjjmjkaaDoorFrm
import Derived.Test.YtjgdbfhpjjmjkaaDoorSu
import Derived.Deep.SlicePairs
namespace Go.Proofs.YtjgdbfhpjjmjkaaDoor
open Go.ChangeShapes Go.WideShapes Go.ChangeAt Go.RowKit Go.Deep Att Att.CRing
theorem wf_u64' {z : Int} (h : (Lit.int .u64 z).wf = true) : In64 z := by
  simp only [Lit.wf, IntKind.min, IntKind.max, IntKind.signed, IntKind.bits] at h
  simp at h
  exact ⟨by omega, by omega⟩
theorem openU64s {H : Type} {enc : TypeId × Value → H} {w : World} {spare : Nat → Bool} {held : Bool} {a : Option Addr} {len cap : Nat} {d : DataW H} {p : List MemPlace}
    (h : DataW.Trod enc Tryd.prog w 0 spare held 22 (.slice a len cap) d p) : ∃ l : List Int, SW w a len cap l := by
  obtain ⟨fuel, h⟩ := h
  rcases open_slice1 Tryd.underlying22 (by kernel_rfl) h with ⟨hc, _⟩ | ⟨a', len', cap', m, n, V, D, Pl, hc, hb, hl, hm, hmm, hx, hall⟩
  · simp only [Value.cells, List.cons.injEq, and_true] at hc
    injection hc with e1 e2 e3
    subst e1 e2 e3
    exact ⟨[], rfl, Nat.le_refl _, by omega, by simp, fun h => absurd h (by omega)⟩
  · simp only [Value.cells, List.cons.injEq, and_true] at hc
    injection hc with e1 e2 e3
    subst e1 e2 e3
    have hlm : len ≤ m := by rw [hmm]; split <;> omega
    have each : ∀ i, i < len → ∃ q : Int, w.cell? (a'.add i) = some (.int .u64 q) ∧ In64 q := by
      intro i hi
      obtain ⟨h1, h2⟩ := hall i (by omega)
      obtain ⟨z0, e0, _, w0⟩ := DataW.trod_int (show Tryd.prog.underlying 34 = some (.int .u64) from by kernel_rfl) h2
      simp only [List.cons.injEq, and_true] at e0
      exact ⟨z0, by rw [h1, e0], wf_u64' w0⟩
    obtain ⟨Q, hQ⟩ : ∃ Q : Nat → Int, ∀ i, i < len → w.cell? (a'.add i) = some (.int .u64 (Q i)) ∧ In64 (Q i) :=
      ⟨fun i => if h : i < len then (each i h).choose else 0, fun i hi => by simp only [dif_pos hi]; exact (each i hi).choose_spec⟩
    refine ⟨(List.range len).map Q, by simp, hl, by unfold maxLen at hm; omega, ?_, ?_⟩
    · intro q hq
      simp only [List.mem_map, List.mem_range] at hq
      obtain ⟨i, hi, rfl⟩ := hq
      exact (hQ i hi).2
    · intro h0
      have hs := (hQ 0 h0).1
      obtain ⟨b, o, sp⟩ := a'
      have hsp : sp = none := by
        simp only [Addr.add, if_true] at hs
        unfold World.cell? at hs
        split at hs
        · cases sp with
          | none => rfl
          | some s => simp at hs
        · cases hs
      subst hsp
      have hadd : ∀ j, (⟨b, o, none⟩ : Addr).add j = ⟨b, o + j, none⟩ := by intro j; unfold Addr.add; split <;> simp_all
      refine ⟨b, o, rfl, ?_, ?_⟩
      · rw [hadd] at hs
        unfold World.cell? at hs
        split at hs
        · rename_i hh
          exact (Array.getElem?_eq_some_iff.1 hh).1
        · cases hs
      · intro i q hq
        have hi : i < len := by have := (List.getElem?_eq_some_iff.1 hq).1; simpa using this
        rw [List.getElem?_map, List.getElem?_range hi] at hq
        obtain rfl := Option.some.inj hq
        have := hQ i hi
        rw [hadd] at this
        exact this.1
end Go.Proofs.YtjgdbfhpjjmjkaaDoor
