/- Opening an argument that is a slice of elements. -/
import Derived.Test.YtgambglgkilgkaaGreatDoorGf
import Derived.Test.YtgambglgkilgkaaGreatDoorGe
import Derived.Deep.SlicePairs
namespace Go.Proofs.YtgambglgkilgkaaGreatDoor
open Go.ChangeShapes Go.WideShapes Go.ChangeAt Go.RowKit Go.Deep Att Att.CRing
theorem wf_u64 {z : Int} (h : (Lit.int .u64 z).wf = true) : In64 z := by
  simp only [Lit.wf, IntKind.min, IntKind.max, IntKind.signed, IntKind.bits] at h
  simp at h
  exact ⟨by omega, by omega⟩
theorem ext_struct : ∃ f0 f1, Tryz.prog.underlying 30 = some (.struct #[f0, f1]) ∧ f0.offset = 0 ∧ f1.offset = 1 ∧ Tryz.prog.cellsOf f0.type = 1 ∧ Tryz.prog.cellsOf f1.type = 1 ∧ Tryz.prog.underlying f0.type = some (.int .u64) ∧ Tryz.prog.underlying f1.type = some (.int .u64) :=
  ⟨_, _, Tryz.underlying30, by kernel_rfl, by kernel_rfl, by kernel_rfl, by kernel_rfl, by kernel_rfl, by kernel_rfl⟩
theorem openExts {H : Type} {enc : TypeId × Value → H} {w : World} {spare : Nat → Bool} {held : Bool} {a : Option Addr} {len cap : Nat} {d : DataW H} {p : List MemPlace}
    (h : DataW.Trod enc Tryz.prog w 0 spare held 22 (.slice a len cap) d p) : ∃ l : List (Int × Int), SlR w a len cap l := by
  obtain ⟨fuel, h⟩ := h
  obtain ⟨f0, f1, he, o0, o1, c0, c1, u0, u1⟩ := ext_struct
  rcases open_slice_pairs Tryz.underlying22 he (by kernel_rfl) o0 o1 c0 c1 h with ⟨hc, _⟩ | ⟨a', len', cap', m, n, V0, V1, D0, D1, P0, P1, hc, hb, hl, hm, hmm, hx, hall⟩
  · simp only [Value.cells, List.cons.injEq, and_true] at hc
    injection hc with e1 e2 e3
    subst e1 e2 e3
    exact ⟨[], rfl, Nat.le_refl _, by omega, by simp, fun h => absurd h (by omega)⟩
  · simp only [Value.cells, List.cons.injEq, and_true] at hc
    injection hc with e1 e2 e3
    subst e1 e2 e3
    have hlm : len ≤ m := by rw [hmm]; split <;> omega
    have each : ∀ i, i < len → ∃ q : Int × Int, w.cell? (a'.add (i * 2)) = some (.int .u64 q.1) ∧ w.cell? (a'.add (i * 2 + 1)) = some (.int .u64 q.2) ∧ In64 q.1 ∧ In64 q.2 := by
      intro i hi
      obtain ⟨h1, h2, h3, h4⟩ := hall i (by omega)
      obtain ⟨z0, e0, _, w0⟩ := DataW.trod_int u0 h3
      obtain ⟨z1, e1, _, w1⟩ := DataW.trod_int u1 h4
      simp only [List.cons.injEq, and_true] at e0 e1
      exact ⟨(z0, z1), by rw [h1, e0], by rw [h2, e1], wf_u64 w0, wf_u64 w1⟩
    obtain ⟨Q, hQ⟩ : ∃ Q : Nat → Int × Int, ∀ i, i < len → w.cell? (a'.add (i * 2)) = some (.int .u64 (Q i).1) ∧ w.cell? (a'.add (i * 2 + 1)) = some (.int .u64 (Q i).2) ∧ In64 (Q i).1 ∧ In64 (Q i).2 :=
      ⟨fun i => if h : i < len then (each i h).choose else (0, 0), fun i hi => by simp only [dif_pos hi]; exact (each i hi).choose_spec⟩
    refine ⟨(List.range len).map Q, by simp, hl, by unfold maxLen at hm; omega, ?_, ?_⟩
    · intro q hq
      simp only [List.mem_map, List.mem_range] at hq
      obtain ⟨i, hi, rfl⟩ := hq
      exact (hQ i hi).2.2
    · intro h0
      have hs := (hQ 0 h0).1
      obtain ⟨b, o, sp⟩ := a'
      have hsp : sp = none := by
        simp only [Nat.zero_mul, Addr.add, if_true] at hs
        unfold World.cell? at hs
        split at hs
        · cases sp with
          | none => rfl
          | some s => simp at hs
        · cases hs
      subst hsp
      have hadd : ∀ j, (⟨b, o, none⟩ : Addr).add j = ⟨b, o + j, none⟩ := by intro j; unfold Addr.add; split <;> simp_all
      refine ⟨b, o, rfl, ?_, ?_⟩
      · rw [hadd] at hs
        unfold World.cell? at hs
        split at hs
        · rename_i hh
          exact (Array.getElem?_eq_some_iff.1 hh).1
        · cases hs
      · intro i q hq
        have hi : i < len := by have := (List.getElem?_eq_some_iff.1 hq).1; simpa using this
        rw [List.getElem?_map, List.getElem?_range hi] at hq
        obtain rfl := Option.some.inj hq
        have := hQ i hi
        rw [hadd, hadd] at this
        exact ⟨this.1, by rw [Nat.add_assoc]; exact this.2.1⟩
end Go.Proofs.YtgambglgkilgkaaGreatDoor
