/- The walks of package ext, but for Pow. -/
import Derived.Test.YtjchccpicddpoaaExt
import Derived.Test.YtjchccpicddpoaaGr
import Derived.Test.YtjchccpicddpoaaFw3
import Derived.Deep.RegionHeld3
namespace Go.Proofs.Ytjchccpicddpoaa
open Go.RowKit Att Att.CRing

theorem agg_ret {x : Ext} {p q : Int} (h : p = x.a.i) (k : q = x.b.i) : Ending.returned (.agg #[.int .u64 p, .int .u64 q]) = .returned (.agg #[.int .u64 (Zm.i (Ext.a (x))), .int .u64 (Zm.i (Ext.b (x)))]) := by rw [h, k]

/- IsZero -/
theorem dec_zero (x : Ext) : decide (x = 0) = (decide (x.a.i = 0) && decide (x.b.i = 0)) := by
  have h1 : x.a.i = 0 ↔ x.a = 0 := ⟨fun h => i_inj h, fun h => by rw [h]; rfl⟩
  have h2 : x.b.i = 0 ↔ x.b = 0 := ⟨fun h => i_inj h, fun h => by rw [h]; rfl⟩
  by_cases hx : x = 0
  · rw [decide_eq_true hx]
    subst hx
    rfl
  · rw [decide_eq_false hx]
    by_cases ha : x.a = 0
    · have hb : ¬ x.b = 0 := fun hb => hx (Ext.ext ha hb)
      rw [decide_eq_false (fun h => hb (h2.1 h)), Bool.and_false]
    · rw [decide_eq_false (fun h => ha (h1.1 h)), Bool.false_and]
theorem e_isZero (x : Ext) (w : World) :
    Calls Try.prog 46 #[.agg #[.int .u64 (Zm.i (Ext.a (x))), .int .u64 (Zm.i (Ext.b (x)))]] w fun e w' => e = .returned (.bool (decide (x = 0))) ∧ ∃ g, w' = gr w g := by
  refine calls_gr ?_
  rw [dec_zero]
  by_cases ha : x.a.i = 0 <;> by_cases hb : x.b.i = 0
  all_goals
    go_enter Try.func46, Try.ntmps46
    go_wp2_with fail
    go_ret
    exact ⟨by simp [*], (by repeat (first | assumption | exact Below.refl _ _ | apply Below.drew | apply below_drewN | apply up_gr | apply below_al | (refine below_gr ?_ (by first | (simp; done) | (simp; omega)) _) | (refine Below.alloc ?_ (by first | (simp; done) | (simp; omega)) _) | (refine Below.setCell ?_ (by first | (simp; done) | (simp; omega)) _)))⟩

theorem e_fromBase (x : F) (w : World) :
    Calls Try.prog 78 #[.int .u64 (Zm.i (x))] w fun e w' => e = .returned (.agg #[.int .u64 (Zm.i (Ext.a (Ext.base x))), .int .u64 (Zm.i (Ext.b (Ext.base x)))]) ∧ ∃ g, w' = gr w g := by
  refine calls_gr ?_
  go_enter Try.func78, Try.ntmps78
  go_wp2_with fail
  exact bodyPost_ret (v := .agg #[.int .u64 (Zm.i (x)), .int .u64 0]) (by simp [results, Try.results78, go_sem]) rfl ⟨rfl, (by repeat (first | assumption | exact Below.refl _ _ | apply Below.drew | apply below_drewN | apply up_gr | apply below_al | (refine below_gr ?_ (by first | (simp; done) | (simp; omega)) _) | (refine Below.alloc ?_ (by first | (simp; done) | (simp; omega)) _) | (refine Below.setCell ?_ (by first | (simp; done) | (simp; omega)) _)))⟩

theorem e_fromInt (n : Int) (h0 : -9223372036854775808 ≤ n) (h1 : n ≤ 9223372036854775807) (w : World) :
    Calls Try.prog 67 #[.int .i64 n] w fun e w' => e = .returned (.agg #[.int .u64 (Zm.i (Ext.a ((int n : Ext)))), .int .u64 (Zm.i (Ext.b ((int n : Ext))))]) ∧ ∃ g, w' = gr w g := by
  refine calls_gr ?_
  rw [← Ext.base_int]
  go_enter Try.func67, Try.ntmps67
  go_wp2_with fail
  refine (f_fromInt _ h0 h1 _).mono ?_
  rintro e w' ⟨rfl, rfl⟩
  go_wp2_with fail
  refine (e_fromBase _ _).mono ?_
  rintro e w' ⟨rfl, g, rfl⟩
  go_wp2_with fail
  exact bodyPost_ret (v := .agg #[.int .u64 (Zm.i (Ext.a (Ext.base (int n)))), .int .u64 (Zm.i (Ext.b (Ext.base (int n))))]) (by simp [results, Try.results67, go_sem]) rfl ⟨rfl, (by repeat (first | assumption | exact Below.refl _ _ | apply Below.drew | apply below_drewN | apply up_gr | apply below_al | (refine below_gr ?_ (by first | (simp; done) | (simp; omega)) _) | (refine Below.alloc ?_ (by first | (simp; done) | (simp; omega)) _) | (refine Below.setCell ?_ (by first | (simp; done) | (simp; omega)) _)))⟩

theorem e_conj (x : Ext) (w : World) :
    Calls Try.prog 83 #[.agg #[.int .u64 (Zm.i (Ext.a (x))), .int .u64 (Zm.i (Ext.b (x)))]] w fun e w' => e = .returned (.agg #[.int .u64 (Zm.i (Ext.a (Ext.conj x))), .int .u64 (Zm.i (Ext.b (Ext.conj x)))]) ∧ ∃ g, w' = gr w g := by
  refine calls_gr ?_
  go_enter Try.func83, Try.ntmps83
  go_wp2_with fail
  go_region_held3 (fun w' => w'.cell? ⟨w.heap.size, 0, none⟩ = some (.int .u64 (Zm.i (Ext.a x))) ∧ w'.cell? ⟨w.heap.size, 1, none⟩ = some (.int .u64 (Zm.i (Ext.b x)))) (go_keep) (first | (go_at_call 88; refine (f_neg _ _).mono ?_; rintro e w' ⟨rfl, rfl⟩))
  go_wp2_with fail
  exact bodyPost_ret (v := .agg #[.int .u64 (Zm.i (Ext.a x)), .int .u64 (Zm.i (- Ext.b x))]) (by simp [results, Try.results83, go_sem]) rfl ⟨rfl, (by repeat (first | assumption | exact Below.refl _ _ | apply Below.drew | apply below_drewN | apply up_gr | apply below_al | (refine below_gr ?_ (by first | (simp; done) | (simp; omega)) _) | (refine Below.alloc ?_ (by first | (simp; done) | (simp; omega)) _) | (refine Below.setCell ?_ (by first | (simp; done) | (simp; omega)) _)))⟩

theorem e_norm (x : Ext) (w : World) :
    Calls Try.prog 81 #[.agg #[.int .u64 (Zm.i (Ext.a (x))), .int .u64 (Zm.i (Ext.b (x)))]] w fun e w' => e = .returned (.int .u64 (Zm.i (Ext.norm x))) ∧ ∃ g, w' = gr w g := by
  refine calls_gr ?_
  go_enter Try.func81, Try.ntmps81
  go_wp2_with fail
  go_quiet (first
    | (go_at_call 77; first | exact qs (f_mul _ _ _) rfl | exact qs2 (f_mul _ _ _) rfl)
    | (go_at_call 64; first | exact qs (f_sub _ _ _) rfl | exact qs2 (f_sub _ _ _) rfl))
  go_wp2_with fail
  go_ret
  exact ⟨ret_int (by simp only [int_i]; rfl), (by repeat (first | assumption | exact Below.refl _ _ | apply Below.drew | apply below_drewN | apply up_gr | apply below_al | (refine below_gr ?_ (by first | (simp; done) | (simp; omega)) _) | (refine Below.alloc ?_ (by first | (simp; done) | (simp; omega)) _) | (refine Below.setCell ?_ (by first | (simp; done) | (simp; omega)) _)))⟩

theorem e_mulBase (x : Ext) (c : F) (w : World) :
    Calls Try.prog 82 #[.agg #[.int .u64 (Zm.i (Ext.a (x))), .int .u64 (Zm.i (Ext.b (x)))], .int .u64 (Zm.i (c))] w fun e w' => e = .returned (.agg #[.int .u64 (Zm.i (Ext.a (x * Ext.base c))), .int .u64 (Zm.i (Ext.b (x * Ext.base c)))]) ∧ ∃ g, w' = gr w g := by
  refine calls_gr ?_
  have h1 : (x.a * c).i = (x * Ext.base c).a.i := by
    rw [i_eq]; exact ring_of [Ext.seven, x.a, x.b, c] (v1 * v3) (v1 * v3 + v0 * (v2 * 0)) rfl
  have h2 : (x.b * c).i = (x * Ext.base c).b.i := by
    rw [i_eq]; exact ring_of [x.a, x.b, c] (v1 * v2) (v0 * 0 + v1 * v2) rfl
  have H1 := Lib.hid h1; clear h1
  have H2 := Lib.hid h2; clear h2
  go_enter Try.func82, Try.ntmps82
  go_wp2_with fail
  go_region_held3 (fun w' => w'.cell? ⟨w.heap.size, 0, none⟩ = some (.int .u64 (Zm.i (Ext.a x))) ∧ w'.cell? ⟨w.heap.size, 1, none⟩ = some (.int .u64 (Zm.i (Ext.b x)))) (go_keep) (first | (go_at_call 77; refine (f_mul _ _ _).mono ?_; rintro e w' ⟨rfl, rfl⟩))
  go_wp2_with fail
  exact bodyPost_ret (v := .agg #[.int .u64 (Zm.i (Ext.a x * c)), .int .u64 (Zm.i (Ext.b x * c))]) (by simp [results, Try.results82, go_sem]) rfl ⟨agg_ret H1.out H2.out, (by repeat (first | assumption | exact Below.refl _ _ | apply Below.drew | apply below_drewN | apply up_gr | apply below_al | (refine below_gr ?_ (by first | (simp; done) | (simp; omega)) _) | (refine Below.alloc ?_ (by first | (simp; done) | (simp; omega)) _) | (refine Below.setCell ?_ (by first | (simp; done) | (simp; omega)) _)))⟩

theorem e_times (x y : Ext) (w : World) :
    Calls Try.prog 65 #[.agg #[.int .u64 (Zm.i (Ext.a (x))), .int .u64 (Zm.i (Ext.b (x)))], .agg #[.int .u64 (Zm.i (Ext.a (y))), .int .u64 (Zm.i (Ext.b (y)))]] w fun e w' => e = .returned (.agg #[.int .u64 (Zm.i (Ext.a (x * y))), .int .u64 (Zm.i (Ext.b (x * y)))]) ∧ ∃ g, w' = gr w g := by
  refine calls_gr ?_
  have h2 : ((x.a + x.b) * (y.a + y.b) - x.a * y.a - x.b * y.b).i = (x * y).b.i := by
    rw [i_eq]; exact ring_of [x.a, x.b, y.a, y.b] ((v0 + v1) * (v2 + v3) - v0 * v2 - v1 * v3) (v0 * v3 + v1 * v2) rfl
  have H2 := Lib.hid h2; clear h2
  go_enter Try.func65, Try.ntmps65
  go_wp2_with fail
  go_quiet ((go_at_call 77; first | exact qs (f_mul _ _ _) rfl | exact qs2 (f_mul _ _ _) rfl))
  go_wp2_with fail
  go_quiet (first
    | (go_at_call 77; first | exact qs (f_mul _ _ _) rfl | exact qs2 (f_mul _ _ _) rfl)
    | (go_at_call 63; first | exact qs (f_add _ _ _) rfl | exact qs2 (f_add _ _ _) rfl))
  go_wp2_with (first
    | (go_at_call 77; refine (f_mul _ _ _).mono ?_; rintro e w' ⟨rfl, rfl⟩)
    | (go_at_call 63; refine (f_add _ _ _).mono ?_; rintro e w' ⟨rfl, rfl⟩)
    | (go_at_call 64; refine (f_sub _ _ _).mono ?_; rintro e w' ⟨rfl, rfl⟩))
  exact bodyPost_ret (v := .agg #[.int .u64 (Zm.i (Ext.a x * Ext.a y + int 7 * (Ext.b x * Ext.b y))), .int .u64 (Zm.i ((Ext.a x + Ext.b x) * (Ext.a y + Ext.b y) - Ext.a x * Ext.a y - Ext.b x * Ext.b y))]) (by simp [results, Try.results65, go_sem]) rfl ⟨agg_ret rfl H2.out, (by repeat (first | assumption | exact Below.refl _ _ | apply Below.drew | apply below_drewN | apply up_gr | apply below_al | (refine below_gr ?_ (by first | (simp; done) | (simp; omega)) _) | (refine Below.alloc ?_ (by first | (simp; done) | (simp; omega)) _) | (refine Below.setCell ?_ (by first | (simp; done) | (simp; omega)) _)))⟩

theorem e_mul (x y : Ext) (w : World) :
    Calls Try.prog 52 #[.agg #[.int .u64 (Zm.i (Ext.a (x))), .int .u64 (Zm.i (Ext.b (x)))], .agg #[.int .u64 (Zm.i (Ext.a (y))), .int .u64 (Zm.i (Ext.b (y)))]] w fun e w' => e = .returned (.agg #[.int .u64 (Zm.i (Ext.a (x * y))), .int .u64 (Zm.i (Ext.b (x * y)))]) ∧ ∃ g, w' = gr w g := by
  refine calls_gr ?_
  go_enter Try.func52, Try.ntmps52
  go_wp2_with fail
  refine (e_times _ _ _).mono ?_
  rintro e w' ⟨rfl, g, rfl⟩
  go_wp2_with fail
  exact bodyPost_ret (v := .agg #[.int .u64 (Zm.i (Ext.a (x * y))), .int .u64 (Zm.i (Ext.b (x * y)))]) (by simp [results, Try.results52, go_sem]) rfl ⟨rfl, (by repeat (first | assumption | exact Below.refl _ _ | apply Below.drew | apply below_drewN | apply up_gr | apply below_al | (refine below_gr ?_ (by first | (simp; done) | (simp; omega)) _) | (refine Below.alloc ?_ (by first | (simp; done) | (simp; omega)) _) | (refine Below.setCell ?_ (by first | (simp; done) | (simp; omega)) _)))⟩

/- Inv -/
theorem i_pos {a : F} (h : a ≠ 0) : 0 < a.i := by
  have h0 := i_nn a
  have h1 : a.i ≠ (0 : F).i := fun e => h (i_inj e)
  have h2 : (0 : F).i = 0 := rfl
  omega
theorem norm_zero : (Ext.norm 0).i = 0 := rfl
theorem e_inv0 (w : World) :
    Calls Try.prog 68 #[.agg #[.int .u64 (Zm.i (Ext.a ((0 : Ext)))), .int .u64 (Zm.i (Ext.b ((0 : Ext))))]] w fun e w' => e = .returned (.tuple #[.agg #[.int .u64 (Zm.i (Ext.a ((0 : Ext)))), .int .u64 (Zm.i (Ext.b ((0 : Ext))))], .int .i64 3]) ∧ ∃ g, w' = gr w g := by
  refine calls_gr ?_
  go_enter Try.func68, Try.ntmps68
  go_wp2_with fail
  refine (e_norm 0 _).mono ?_
  rintro e w' ⟨rfl, g, rfl⟩
  rw [norm_zero]
  go_wp2_with fail
  refine (f_inv0 _).mono ?_
  rintro e w' ⟨rfl, rfl⟩
  go_wp2_with fail
  exact bodyPost_ret (v := .tuple #[.agg #[.int .u64 0, .int .u64 0], .int .i64 3]) (by simp [results, Try.results68, go_sem]) rfl ⟨rfl, (by repeat (first | assumption | exact Below.refl _ _ | apply Below.drew | apply below_drewN | apply up_gr | apply below_al | (refine below_gr ?_ (by first | (simp; done) | (simp; omega)) _) | (refine Below.alloc ?_ (by first | (simp; done) | (simp; omega)) _) | (refine Below.setCell ?_ (by first | (simp; done) | (simp; omega)) _)))⟩
theorem e_inv (x : Ext) (h : x ≠ 0) (w : World) :
    Calls Try.prog 68 #[.agg #[.int .u64 (Zm.i (Ext.a (x))), .int .u64 (Zm.i (Ext.b (x)))]] w fun e w' => e = .returned (.tuple #[.agg #[.int .u64 (Zm.i (Ext.a (Fld.inv x))), .int .u64 (Zm.i (Ext.b (Fld.inv x)))], .int .i64 0]) ∧ ∃ g, w' = gr w g := by
  refine calls_gr ?_
  have hp := i_pos (Ext.norm_ne_zero h)
  clear h
  go_enter Try.func68, Try.ntmps68
  go_wp2_with fail
  refine (e_norm x _).mono ?_
  rintro e w' ⟨rfl, g, rfl⟩
  go_wp2_with fail
  refine (f_inv _ hp _).mono ?_
  rintro e w' ⟨rfl, n, rfl⟩
  go_wp2_with fail
  refine (e_conj _ _).mono ?_
  rintro e w' ⟨rfl, g2, rfl⟩
  go_wp2_with fail
  refine (e_mulBase _ _ _).mono ?_
  rintro e w' ⟨rfl, g3, rfl⟩
  go_wp2_with fail
  exact bodyPost_ret (v := .tuple #[.agg #[.int .u64 (Zm.i (Ext.a (Ext.conj x * Ext.base (Fld.inv (Ext.norm x))))), .int .u64 (Zm.i (Ext.b (Ext.conj x * Ext.base (Fld.inv (Ext.norm x)))))], .int .i64 0]) (by simp [results, Try.results68, go_sem]) rfl ⟨rfl, (by repeat (first | assumption | exact Below.refl _ _ | apply Below.drew | apply below_drewN | apply up_gr | apply below_al | (refine below_gr ?_ (by first | (simp; done) | (simp; omega)) _) | (refine Below.alloc ?_ (by first | (simp; done) | (simp; omega)) _) | (refine Below.setCell ?_ (by first | (simp; done) | (simp; omega)) _)))⟩

/- Add, Sub: the closure, then the function -/
theorem e_compAdd (x y : Ext) (b : Nat) (w : World) (h : w.cell? ⟨b, 0, none⟩ = some (.func (Fn.func 63) #[] #[])) (hb : b < w.heap.size) :
    Calls Try.prog 74 #[.agg #[.int .u64 (Zm.i (Ext.a (x))), .int .u64 (Zm.i (Ext.b (x)))], .agg #[.int .u64 (Zm.i (Ext.a (y))), .int .u64 (Zm.i (Ext.b (y)))], .pointer (some ⟨b, 0, none⟩)] w fun e w' => e = .returned (.agg #[.int .u64 (Zm.i (Ext.a (x + y))), .int .u64 (Zm.i (Ext.b (x + y)))]) ∧ ∃ g, w' = gr w g := by
  refine calls_gr ?_
  have hb1 : b < w.heap.size + 1 := by omega
  have hb2 : b < w.heap.size + 1 + 1 := by omega
  go_enter Try.func74, Try.ntmps74
  go_wp2_with fail
  go_region_held3 (fun w' => w'.cell? ⟨w.heap.size, 0, none⟩ = some (.int .u64 (Zm.i (Ext.a x))) ∧ w'.cell? ⟨w.heap.size, 1, none⟩ = some (.int .u64 (Zm.i (Ext.b x))) ∧ w'.cell? ⟨w.heap.size + 1, 0, none⟩ = some (.int .u64 (Zm.i (Ext.a y))) ∧ w'.cell? ⟨w.heap.size + 1, 1, none⟩ = some (.int .u64 (Zm.i (Ext.b y))) ∧
     w'.cell? ⟨b, 0, none⟩ = some (.func (Fn.func 63) #[] #[])) (((try dsimp only); (repeat' apply And.intro) <;> first | (simp [*, World.cell?_alloc_past]; done) | go_keep)) (first | (go_at_call 63; refine (f_add _ _ _).mono ?_; rintro e w' ⟨rfl, rfl⟩))
  go_wp2_with fail
  exact bodyPost_ret (v := .agg #[.int .u64 (Zm.i (Ext.a x + Ext.a y)), .int .u64 (Zm.i (Ext.b x + Ext.b y))]) (by simp [results, Try.results74, go_sem]) rfl ⟨rfl, (by repeat (first | assumption | exact Below.refl _ _ | apply Below.drew | apply below_drewN | apply up_gr | apply below_al | (refine below_gr ?_ (by first | (simp; done) | (simp; omega)) _) | (refine Below.alloc ?_ (by first | (simp; done) | (simp; omega)) _) | (refine Below.setCell ?_ (by first | (simp; done) | (simp; omega)) _)))⟩
theorem e_compSub (x y : Ext) (b : Nat) (w : World) (h : w.cell? ⟨b, 0, none⟩ = some (.func (Fn.func 64) #[] #[])) (hb : b < w.heap.size) :
    Calls Try.prog 74 #[.agg #[.int .u64 (Zm.i (Ext.a (x))), .int .u64 (Zm.i (Ext.b (x)))], .agg #[.int .u64 (Zm.i (Ext.a (y))), .int .u64 (Zm.i (Ext.b (y)))], .pointer (some ⟨b, 0, none⟩)] w fun e w' => e = .returned (.agg #[.int .u64 (Zm.i (Ext.a (x - y))), .int .u64 (Zm.i (Ext.b (x - y)))]) ∧ ∃ g, w' = gr w g := by
  refine calls_gr ?_
  have hb1 : b < w.heap.size + 1 := by omega
  have hb2 : b < w.heap.size + 1 + 1 := by omega
  go_enter Try.func74, Try.ntmps74
  go_wp2_with fail
  go_region_held3 (fun w' => w'.cell? ⟨w.heap.size, 0, none⟩ = some (.int .u64 (Zm.i (Ext.a x))) ∧ w'.cell? ⟨w.heap.size, 1, none⟩ = some (.int .u64 (Zm.i (Ext.b x))) ∧ w'.cell? ⟨w.heap.size + 1, 0, none⟩ = some (.int .u64 (Zm.i (Ext.a y))) ∧ w'.cell? ⟨w.heap.size + 1, 1, none⟩ = some (.int .u64 (Zm.i (Ext.b y))) ∧
     w'.cell? ⟨b, 0, none⟩ = some (.func (Fn.func 64) #[] #[])) (((try dsimp only); (repeat' apply And.intro) <;> first | (simp [*, World.cell?_alloc_past]; done) | go_keep)) (first | (go_at_call 64; refine (f_sub _ _ _).mono ?_; rintro e w' ⟨rfl, rfl⟩))
  go_wp2_with fail
  exact bodyPost_ret (v := .agg #[.int .u64 (Zm.i (Ext.a x - Ext.a y)), .int .u64 (Zm.i (Ext.b x - Ext.b y))]) (by simp [results, Try.results74, go_sem]) rfl ⟨rfl, (by repeat (first | assumption | exact Below.refl _ _ | apply Below.drew | apply below_drewN | apply up_gr | apply below_al | (refine below_gr ?_ (by first | (simp; done) | (simp; omega)) _) | (refine Below.alloc ?_ (by first | (simp; done) | (simp; omega)) _) | (refine Below.setCell ?_ (by first | (simp; done) | (simp; omega)) _)))⟩

theorem e_add (x y : Ext) (w : World) :
    Calls Try.prog 50 #[.agg #[.int .u64 (Zm.i (Ext.a (x))), .int .u64 (Zm.i (Ext.b (x)))], .agg #[.int .u64 (Zm.i (Ext.a (y))), .int .u64 (Zm.i (Ext.b (y)))]] w fun e w' => e = .returned (.agg #[.int .u64 (Zm.i (Ext.a (x + y))), .int .u64 (Zm.i (Ext.b (x + y)))]) ∧ ∃ g, w' = gr w g := by
  refine calls_gr ?_
  go_enter Try.func50, Try.ntmps50
  go_wp2_with fail
  go_region_held3 (fun w' => w'.cell? ⟨w.heap.size, 0, none⟩ = some (.int .u64 (Zm.i (Ext.a x))) ∧ w'.cell? ⟨w.heap.size, 1, none⟩ = some (.int .u64 (Zm.i (Ext.b x))) ∧ w'.cell? ⟨w.heap.size + 1, 0, none⟩ = some (.int .u64 (Zm.i (Ext.a y))) ∧ w'.cell? ⟨w.heap.size + 1, 1, none⟩ = some (.int .u64 (Zm.i (Ext.b y))))
    (((try dsimp only); (repeat' apply And.intro) <;> first | (simp [*, World.cell?_alloc_past, World.cell?_setCell_far]; done) | go_keep))
    (first | (go_at_call 62; go_in) | (go_at_call 74; refine (e_compAdd _ _ _ _ (by simp [go_sem]) (by simp)).mono ?_; rintro e w' ⟨rfl, g, rfl⟩))
  go_wp2_with fail
  exact bodyPost_ret (v := .agg #[.int .u64 (Zm.i (Ext.a (x + y))), .int .u64 (Zm.i (Ext.b (x + y)))]) (by simp [results, Try.results50, go_sem]) rfl ⟨rfl, (by repeat (first | assumption | exact Below.refl _ _ | apply Below.drew | apply below_drewN | apply up_gr | apply below_al | (refine below_gr ?_ (by first | (simp; done) | (simp; omega)) _) | (refine Below.alloc ?_ (by first | (simp; done) | (simp; omega)) _) | (refine Below.setCell ?_ (by first | (simp; done) | (simp; omega)) _)))⟩
theorem e_sub (x y : Ext) (w : World) :
    Calls Try.prog 51 #[.agg #[.int .u64 (Zm.i (Ext.a (x))), .int .u64 (Zm.i (Ext.b (x)))], .agg #[.int .u64 (Zm.i (Ext.a (y))), .int .u64 (Zm.i (Ext.b (y)))]] w fun e w' => e = .returned (.agg #[.int .u64 (Zm.i (Ext.a (x - y))), .int .u64 (Zm.i (Ext.b (x - y)))]) ∧ ∃ g, w' = gr w g := by
  refine calls_gr ?_
  go_enter Try.func51, Try.ntmps51
  go_wp2_with fail
  go_region_held3 (fun w' => w'.cell? ⟨w.heap.size, 0, none⟩ = some (.int .u64 (Zm.i (Ext.a x))) ∧ w'.cell? ⟨w.heap.size, 1, none⟩ = some (.int .u64 (Zm.i (Ext.b x))) ∧ w'.cell? ⟨w.heap.size + 1, 0, none⟩ = some (.int .u64 (Zm.i (Ext.a y))) ∧ w'.cell? ⟨w.heap.size + 1, 1, none⟩ = some (.int .u64 (Zm.i (Ext.b y))))
    (((try dsimp only); (repeat' apply And.intro) <;> first | (simp [*, World.cell?_alloc_past, World.cell?_setCell_far]; done) | go_keep))
    (first | (go_at_call 62; go_in) | (go_at_call 74; refine (e_compSub _ _ _ _ (by simp [go_sem]) (by simp)).mono ?_; rintro e w' ⟨rfl, g, rfl⟩))
  go_wp2_with fail
  exact bodyPost_ret (v := .agg #[.int .u64 (Zm.i (Ext.a (x - y))), .int .u64 (Zm.i (Ext.b (x - y)))]) (by simp [results, Try.results51, go_sem]) rfl ⟨rfl, (by repeat (first | assumption | exact Below.refl _ _ | apply Below.drew | apply below_drewN | apply up_gr | apply below_al | (refine below_gr ?_ (by first | (simp; done) | (simp; omega)) _) | (refine Below.alloc ?_ (by first | (simp; done) | (simp; omega)) _) | (refine Below.setCell ?_ (by first | (simp; done) | (simp; omega)) _)))⟩
end Go.Proofs.Ytjchccpicddpoaa
