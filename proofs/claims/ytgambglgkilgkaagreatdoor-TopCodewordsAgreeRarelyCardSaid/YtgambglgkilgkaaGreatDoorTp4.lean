/- The tables of the query language: forms, columns, columnMax. Maps with known entries. -/
import Derived.Test.YtgambglgkilgkaaGreatDoorTp2
namespace Go.Proofs.YtgambglgkilgkaaGreatDoor
open Go.RowKit Go.ChangeMaps
theorem put_ex {P : Program} {w : World} {t k e : TypeId} (ht : P.underlying t = some (.map k e)) (hk : P.underlying k = some (.int .i64)) {b : Nat} {es : Array MapEntry} {clock : Nat}
    (hb : w.heap[b]? = some (.map es clock)) (z : Int) (val : Value) (hf : Instr.findNow (.int .i64) (.int .i64 z) es.toList 0 = some none) :
    ∃ w', (Instr.mapUpdate t (.map (some b)) (.int .i64 z) val).run P w = .ok () w' ∧ w'.heap[b]? = some (.map (es.push { key := .int .i64 z, val := val, born := clock }) (clock + 1)) ∧ Kb b w w' := by
  have hc : (Instr.checkKey false 10000 k (.int .i64 z)).run P w = .ok () w := MapKept.run_checkKey (k := .int .i64 z) hk (by simp [MapKept.IsKey]) false 9999
  refine ⟨setBlock w b (.map (es.push { key := .int .i64 z, val := val, born := clock }) (clock + 1)), ?_, heap_setBlock_same hb _, ⟨rfl, rfl, rfl, by simp [setBlock], fun i _ hi => heap_setBlock_other hb _ (fun e => hi (by rw [e]))⟩⟩
  simp [Instr.mapUpdate, run_underlying ht, MapKept.run_getObj_map hb, hc, MapKept.run_findKey hk hf, MapKept.run_setObj_map _ hb, Result.andThen, setBlock]
theorem run_lookI {P : Program} {w : World} {t k e : TypeId} (ht : P.underlying t = some (.map k e)) (hk : P.underlying k = some (.int .i64)) {b : Nat} {es : Array MapEntry} {clock : Nat} {z : Int} {i : Nat} {val : Value}
    (hb : w.heap[b]? = some (.map es clock)) (hf : Instr.findNow (.int .i64) (.int .i64 z) es.toList 0 = some (some (i, val))) (c : Bool) :
    (Instr.lookup t (.map (some b)) (.int .i64 z) c).run P w = .ok (if c then .tuple #[val, .bool true] else val) w := by
  have hc : (Instr.checkKey es.isEmpty 10000 k (.int .i64 z)).run P w = .ok () w := MapKept.run_checkKey (k := .int .i64 z) hk (by simp [MapKept.IsKey]) _ 9999
  cases c <;> simp [Instr.lookup, run_underlying ht, MapKept.run_getObj_map hb, hc, MapKept.run_findKey hk hf, Result.andThen]
/-- the entries of forms -/
def fms : Array MapEntry := #[{ key := .int .i64 1, val := .agg #[.string ⟨#[99, 111, 117, 110, 116]⟩, .bool false, .int .i64 0, .int .i64 1], born := 0 }, { key := .int .i64 2, val := .agg #[.string ⟨#[116, 111, 116, 97, 108]⟩, .bool true, .int .i64 0, .int .i64 1], born := 1 }, { key := .int .i64 3, val := .agg #[.string ⟨#[109, 111, 109, 101, 110, 116]⟩, .bool true, .int .i64 6, .int .i64 1], born := 2 }, { key := .int .i64 4, val := .agg #[.string ⟨#[103, 114, 111, 117, 112, 115]⟩, .bool true, .int .i64 0, .int .i64 1], born := 3 }, { key := .int .i64 5, val := .agg #[.string ⟨#[100, 105, 115, 116, 105, 110, 99, 116]⟩, .bool true, .int .i64 0, .int .i64 1], born := 4 }, { key := .int .i64 6, val := .agg #[.string ⟨#[115, 109, 97, 108, 108, 101, 115, 116]⟩, .bool true, .int .i64 65536, .int .i64 1], born := 5 }, { key := .int .i64 7, val := .agg #[.string ⟨#[112, 97, 105, 114, 115]⟩, .bool false, .int .i64 0, .int .i64 2], born := 6 }]
set_option maxRecDepth 100000 in
set_option maxHeartbeats 4000000 in
theorem q_forms (w : World) : Calls Tryz.prog 36 #[] w fun e w' => e = .returned (.map (some w.heap.size)) ∧ w'.heap[w.heap.size]? = some (.map fms 7) ∧ Gn w w' := by
  have hmm := @run_makeMap Tryz.prog
  go_enter Tryz.func36, Tryz.ntmps36
  have uk := Tryz.underlying3
  have ut := Tryz.underlying84
  have hm := hnew w (.map #[] 0)
  have hg : Kb w.heap.size w _ := Kb.of (Gn.al (w := w) (.map #[] 0))
  obtain ⟨w1, e1, hm, g1⟩ := put_ex ut uk hm 1 (.agg #[.string ⟨#[99, 111, 117, 110, 116]⟩, .bool false, .int .i64 0, .int .i64 1]) rfl
  replace hg := hg.trans g1
  obtain ⟨w2, e2, hm, g2⟩ := put_ex ut uk hm 2 (.agg #[.string ⟨#[116, 111, 116, 97, 108]⟩, .bool true, .int .i64 0, .int .i64 1]) rfl
  replace hg := hg.trans g2
  obtain ⟨w3, e3, hm, g3⟩ := put_ex ut uk hm 3 (.agg #[.string ⟨#[109, 111, 109, 101, 110, 116]⟩, .bool true, .int .i64 6, .int .i64 1]) rfl
  replace hg := hg.trans g3
  obtain ⟨w4, e4, hm, g4⟩ := put_ex ut uk hm 4 (.agg #[.string ⟨#[103, 114, 111, 117, 112, 115]⟩, .bool true, .int .i64 0, .int .i64 1]) rfl
  replace hg := hg.trans g4
  obtain ⟨w5, e5, hm, g5⟩ := put_ex ut uk hm 5 (.agg #[.string ⟨#[100, 105, 115, 116, 105, 110, 99, 116]⟩, .bool true, .int .i64 0, .int .i64 1]) rfl
  replace hg := hg.trans g5
  obtain ⟨w6, e6, hm, g6⟩ := put_ex ut uk hm 6 (.agg #[.string ⟨#[115, 109, 97, 108, 108, 101, 115, 116]⟩, .bool true, .int .i64 65536, .int .i64 1]) rfl
  replace hg := hg.trans g6
  obtain ⟨w7, e7, hm, g7⟩ := put_ex ut uk hm 7 (.agg #[.string ⟨#[112, 97, 105, 114, 115]⟩, .bool false, .int .i64 0, .int .i64 2]) rfl
  replace hg := hg.trans g7
  clear uk ut
  go_wp2_with fail
  go_ret
  exact ⟨rfl, hm, Gn.of (Below.grown (Below.refl _ _) hg (Nat.le_refl _) (by rintro _ ⟨rfl⟩; exact Nat.le_refl _))⟩
end Go.Proofs.YtgambglgkilgkaaGreatDoor
