/- The evaluation of one fixed query: column, power, Match. -/
import Derived.Test.YtgambglgkilgkaaGreatDoorTp7
namespace Go.Proofs.YtgambglgkilgkaaGreatDoor
open Go.RowKit Go.ChangeMaps
/-- a reading of the fixed stream -/
def rd (k v : Int) : Value := .agg #[.int .i64 0, .int .i64 0, .int .i64 k, .int .i64 v]
theorem v_value (k v : Int) (w : World) : Calls Tryz.prog 90 #[.agg #[.int .i64 0, .int .i64 0, .int .i64 k, .int .i64 v]] w fun e w' => e = .returned (.int .i64 v) ∧ Gn w w' := by
  go_enter Tryz.func90, Tryz.ntmps90
  go_wp2_with fail
  go_ret
  exact ⟨rfl, Gn.al _⟩
set_option maxRecDepth 100000 in
set_option maxHeartbeats 4000000 in
theorem e_column (k v : Int) (w : World) : Calls Tryz.prog 58 #[.agg #[.int .i64 0, .int .i64 0, .int .i64 k, .int .i64 v], .int .i64 3] w fun e w' => e = .returned (.int .i64 v) ∧ Gn w w' := by
  have hV : ∀ w, Calls Tryz.prog 90 #[.agg #[.int .i64 0, .int .i64 0, .int .i64 k, .int .i64 v]] w fun e w' => e = .returned (.int .i64 v) ∧ ∃ g', w' = gr w g' := v_value k v
  go_enter Tryz.func58, Tryz.ntmps58
  go_wp2_with fail
  have hq := hnew w (.cells #[.int .i64 0, .int .i64 0, .int .i64 k, .int .i64 v] 39)
  have g := Gn.al (w := w) (.cells #[.int .i64 0, .int .i64 0, .int .i64 k, .int .i64 v] 39)
  generalize w.alloc (.cells #[.int .i64 0, .int .i64 0, .int .i64 k, .int .i64 v] 39) = w1 at *
  generalize ebq : w.heap.size = bq at *
  replace ebq := Lib.hid ebq
  have lq := blk_lt hq
  have q0 := obj_cell hq 0 rfl; have q1 := obj_cell hq 1 rfl; have q2 := obj_cell hq 2 rfl; have q3 := obj_cell hq 3 rfl
  have hix : ∀ w, (Instr.index 134 (.agg #[.func (.func 87) #[] #[], .func (.func 88) #[] #[], .func (.func 89) #[] #[], .func (.func 90) #[] #[]]) (.int .i64 3)).run Tryz.prog w = .ok (.func (.func 90) #[] #[]) w := fun _ => by kernel_rfl
  try simp only [List.append_eq, List.cons_append, List.nil_append]
  refine wp_region_gr (by kernel_rfl) (lex_of_chk (by kernel_rfl) (by kernel_rfl)) ?_
  repeat (go_big_quiet_step (first | (go_at_call 90; with_reducible apply qg (hV _); rfl)))
  refine wpQuiet_nil ?_
  intro w3 kk
  go_wp2_with fail
  go_ret
  exact ⟨rfl, g.trans kk⟩
theorem e_power (v p : Int) (h : IntKind.i64.wrap v = v) (hp : IntKind.i64.wrap (v * v) = p) (w : World) : Calls Tryz.prog 60 #[.int .i64 v, .int .i64 2] w fun e w' => e = .returned (.int .i64 p) ∧ Gn w w' := by
  have h1 : IntKind.i64.wrap (1 * v) = v := by rw [Int.one_mul, h]
  go_enter Tryz.func60, Tryz.ntmps60
  go_wp2_with fail
  refine wp_loop_rounds 3 ?_
  rw [rounds_succ]
  go_wp2_with fail
  rw [rounds_succ]
  go_wp2_with fail
  rw [rounds_succ]
  go_wp2_with fail
  go_ret
  exact ⟨rfl, Gn.refl _⟩
set_option maxRecDepth 100000 in
set_option maxHeartbeats 4000000 in
theorem e_match1_5 (u v : Nat) (w : World) (hv : w.heap[u]? = some (.cells #[.int .i64 0, .int .i64 0, .int .i64 5, .int .i64 v] 110)) :
    Calls Tryz.prog 64 #[.agg #[.int .i64 2, .int .i64 5, .int .i64 5], .pointer (some ⟨u, 0, none⟩)] w fun e w' => e = .returned (.bool false) ∧ Gn w w' := by
  go_enter Tryz.func64, Tryz.ntmps64
  go_wp2_with fail
  have hq := hnew w (.cells #[.int .i64 2, .int .i64 5, .int .i64 5] 101)
  have g := Gn.al (w := w) (.cells #[.int .i64 2, .int .i64 5, .int .i64 5] 101)
  replace hv := Gn.block g hv
  generalize w.alloc (.cells #[.int .i64 2, .int .i64 5, .int .i64 5] 101) = w1 at *
  generalize ebq : w.heap.size = bq at *
  replace ebq := Lib.hid ebq
  have lq := blk_lt hq; have lv := blk_lt hv
  have q0 := obj_cell hq 0 rfl; have q1 := obj_cell hq 1 rfl; have q2 := obj_cell hq 2 rfl; have v2 := obj_cell hv 2 rfl
  try simp only [List.append_eq, List.cons_append, List.nil_append]
  refine wp_region_gr (by kernel_rfl) (lex_of_chk (by kernel_rfl) (by kernel_rfl)) ?_
  repeat (go_big_quiet_step (fail))
  refine wpQuiet_nil ?_
  intro w3 kk
  go_wp2_with fail
  go_ret
  exact ⟨rfl, g.trans kk⟩
theorem e_index_5 (b c u v : Nat) (w : World) (h : Cs w b) (hv : w.heap[u]? = some (.cells #[.int .i64 0, .int .i64 0, .int .i64 5, .int .i64 v] 110)) :
    Calls Tryz.prog 80 #[.slice (some ⟨b, 0, none⟩) 1 c, .func (.func 64) #[] #[.pointer (some ⟨u, 0, none⟩)]] w fun e w' => e = .returned (.int .i64 (-1)) ∧ Gn w w' := by
  have c0 := h.c0; have c1 := h.c1; have c2 := h.c2; have lt := h.lt
  go_enter Tryz.func80, Tryz.ntmps80
  go_wp2_with fail
  refine wp_loop_rounds 2 ?_
  rw [rounds_succ]
  go_wp2_with fail
  refine (e_match1_5 u v _ hv).mono ?_
  rintro e w1 ⟨rfl, g⟩
  clear c0 c1 c2 lt h
  go_wp2_with fail
  rw [rounds_succ]
  go_wp2_with fail
  go_ret
  exact ⟨rfl, g⟩
theorem e_contains_5 (b c u v : Nat) (w : World) (h : Cs w b) (hv : w.heap[u]? = some (.cells #[.int .i64 0, .int .i64 0, .int .i64 5, .int .i64 v] 110)) :
    Calls Tryz.prog 47 #[.slice (some ⟨b, 0, none⟩) 1 c, .func (.func 64) #[] #[.pointer (some ⟨u, 0, none⟩)]] w fun e w' => e = .returned (.bool false) ∧ Gn w w' := by
  go_enter Tryz.func47, Tryz.ntmps47
  go_wp2_with fail
  refine (e_index_5 b c u v _ h hv).mono ?_
  rintro e w1 ⟨rfl, g⟩
  go_wp2_with fail
  go_ret
  exact ⟨rfl, g⟩
theorem e_match_5 (b c v : Nat) (w : World) (h : Cs w b) :
    Calls Tryz.prog 29 #[.slice (some ⟨b, 0, none⟩) 1 c, .agg #[.int .i64 0, .int .i64 0, .int .i64 5, .int .i64 v]] w fun e w' => e = .returned (.bool true) ∧ Gn w w' := by
  go_enter Tryz.func29, Tryz.ntmps29
  go_wp2_with fail
  have g := (Gn.al (w := w) (.cells #[.int .i64 0, .int .i64 0, .int .i64 5, .int .i64 v] 39)).trans (Gn.al (w := w.alloc (.cells #[.int .i64 0, .int .i64 0, .int .i64 5, .int .i64 v] 39)) (.cells #[.int .i64 0, .int .i64 0, .int .i64 5, .int .i64 v] 110))
  have hv := hnew (w.alloc (.cells #[.int .i64 0, .int .i64 0, .int .i64 5, .int .i64 v] 39)) (.cells #[.int .i64 0, .int .i64 0, .int .i64 5, .int .i64 v] 110)
  rw [al_size] at hv
  refine (e_contains_5 b c _ v _ (h.up g) hv).mono ?_
  rintro e w1 ⟨rfl, k⟩
  go_wp2_with fail
  go_ret
  exact ⟨rfl, g.trans k⟩
set_option maxRecDepth 100000 in
set_option maxHeartbeats 4000000 in
theorem e_match1_4 (u v : Nat) (w : World) (hv : w.heap[u]? = some (.cells #[.int .i64 0, .int .i64 0, .int .i64 4, .int .i64 v] 110)) :
    Calls Tryz.prog 64 #[.agg #[.int .i64 2, .int .i64 5, .int .i64 5], .pointer (some ⟨u, 0, none⟩)] w fun e w' => e = .returned (.bool true) ∧ Gn w w' := by
  go_enter Tryz.func64, Tryz.ntmps64
  go_wp2_with fail
  have hq := hnew w (.cells #[.int .i64 2, .int .i64 5, .int .i64 5] 101)
  have g := Gn.al (w := w) (.cells #[.int .i64 2, .int .i64 5, .int .i64 5] 101)
  replace hv := Gn.block g hv
  generalize w.alloc (.cells #[.int .i64 2, .int .i64 5, .int .i64 5] 101) = w1 at *
  generalize ebq : w.heap.size = bq at *
  replace ebq := Lib.hid ebq
  have lq := blk_lt hq; have lv := blk_lt hv
  have q0 := obj_cell hq 0 rfl; have q1 := obj_cell hq 1 rfl; have q2 := obj_cell hq 2 rfl; have v2 := obj_cell hv 2 rfl
  try simp only [List.append_eq, List.cons_append, List.nil_append]
  refine wp_region_gr (by kernel_rfl) (lex_of_chk (by kernel_rfl) (by kernel_rfl)) ?_
  repeat (go_big_quiet_step (fail))
  refine wpQuiet_nil ?_
  intro w3 kk
  go_wp2_with fail
  go_ret
  exact ⟨rfl, g.trans kk⟩
theorem e_index_4 (b c u v : Nat) (w : World) (h : Cs w b) (hv : w.heap[u]? = some (.cells #[.int .i64 0, .int .i64 0, .int .i64 4, .int .i64 v] 110)) :
    Calls Tryz.prog 80 #[.slice (some ⟨b, 0, none⟩) 1 c, .func (.func 64) #[] #[.pointer (some ⟨u, 0, none⟩)]] w fun e w' => e = .returned (.int .i64 0) ∧ Gn w w' := by
  have c0 := h.c0; have c1 := h.c1; have c2 := h.c2; have lt := h.lt
  go_enter Tryz.func80, Tryz.ntmps80
  go_wp2_with fail
  refine wp_loop_rounds 1 ?_
  rw [rounds_succ]
  go_wp2_with fail
  refine (e_match1_4 u v _ hv).mono ?_
  rintro e w1 ⟨rfl, g⟩
  clear c0 c1 c2 lt h
  go_wp2_with fail
  go_ret
  exact ⟨rfl, g⟩
theorem e_contains_4 (b c u v : Nat) (w : World) (h : Cs w b) (hv : w.heap[u]? = some (.cells #[.int .i64 0, .int .i64 0, .int .i64 4, .int .i64 v] 110)) :
    Calls Tryz.prog 47 #[.slice (some ⟨b, 0, none⟩) 1 c, .func (.func 64) #[] #[.pointer (some ⟨u, 0, none⟩)]] w fun e w' => e = .returned (.bool true) ∧ Gn w w' := by
  go_enter Tryz.func47, Tryz.ntmps47
  go_wp2_with fail
  refine (e_index_4 b c u v _ h hv).mono ?_
  rintro e w1 ⟨rfl, g⟩
  go_wp2_with fail
  go_ret
  exact ⟨rfl, g⟩
theorem e_match_4 (b c v : Nat) (w : World) (h : Cs w b) :
    Calls Tryz.prog 29 #[.slice (some ⟨b, 0, none⟩) 1 c, .agg #[.int .i64 0, .int .i64 0, .int .i64 4, .int .i64 v]] w fun e w' => e = .returned (.bool false) ∧ Gn w w' := by
  go_enter Tryz.func29, Tryz.ntmps29
  go_wp2_with fail
  have g := (Gn.al (w := w) (.cells #[.int .i64 0, .int .i64 0, .int .i64 4, .int .i64 v] 39)).trans (Gn.al (w := w.alloc (.cells #[.int .i64 0, .int .i64 0, .int .i64 4, .int .i64 v] 39)) (.cells #[.int .i64 0, .int .i64 0, .int .i64 4, .int .i64 v] 110))
  have hv := hnew (w.alloc (.cells #[.int .i64 0, .int .i64 0, .int .i64 4, .int .i64 v] 39)) (.cells #[.int .i64 0, .int .i64 0, .int .i64 4, .int .i64 v] 110)
  rw [al_size] at hv
  refine (e_contains_4 b c _ v _ (h.up g) hv).mono ?_
  rintro e w1 ⟨rfl, k⟩
  go_wp2_with fail
  go_ret
  exact ⟨rfl, g.trans k⟩
end Go.Proofs.YtgambglgkilgkaaGreatDoor
