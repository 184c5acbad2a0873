/- The walks of the reference of package ext, but for Pow. -/
import Derived.Test.YtjchccpicddpoaaEw1
namespace Go.Proofs.Ytjchccpicddpoaa
open Go.RowKit Att Att.CRing

@[simp, go_sem] theorem run_field_a (a b : Int) (w : World) : (Instr.field 25 (.agg #[.int .u64 a, .int .u64 b]) 0).run Try.prog w = .ok (.int .u64 a) w := by kernel_rfl
@[simp, go_sem] theorem run_field_b (a b : Int) (w : World) : (Instr.field 25 (.agg #[.int .u64 a, .int .u64 b]) 1).run Try.prog w = .ok (.int .u64 b) w := by kernel_rfl


theorem x_isZero (x : Ext) (w : World) :
    Calls Try.prog 48 #[.agg #[.int .u64 (Zm.i (Ext.a (x))), .int .u64 (Zm.i (Ext.b (x)))]] w fun e w' => e = .returned (.bool (decide (x = 0))) ∧ ∃ g, w' = gr w g := by
  refine calls_gr ?_
  rw [dec_zero]
  by_cases ha : x.a.i = 0
  · have h1 : (x.a.i == 0) = true := by simp [ha]
    by_cases hb : x.b.i = 0
    · have h2 : (x.b.i == 0) = true := by simp [hb]
      go_enter Try.func48, Try.ntmps48
      go_wp2_with fail
      go_ret
      exact ⟨by simp [*], (by repeat (first | assumption | exact Below.refl _ _ | apply Below.drew | apply below_drewN | apply up_gr | apply below_al | (refine below_gr ?_ (by first | (simp; done) | (simp; omega)) _) | (refine Below.alloc ?_ (by first | (simp; done) | (simp; omega)) _) | (refine Below.setCell ?_ (by first | (simp; done) | (simp; omega)) _)))⟩
    · have h2 : (x.b.i == 0) = false := by simp [hb]
      go_enter Try.func48, Try.ntmps48
      go_wp2_with fail
      go_ret
      exact ⟨by simp [*], (by repeat (first | assumption | exact Below.refl _ _ | apply Below.drew | apply below_drewN | apply up_gr | apply below_al | (refine below_gr ?_ (by first | (simp; done) | (simp; omega)) _) | (refine Below.alloc ?_ (by first | (simp; done) | (simp; omega)) _) | (refine Below.setCell ?_ (by first | (simp; done) | (simp; omega)) _)))⟩
  · have h1 : (x.a.i == 0) = false := by simp [ha]
    go_enter Try.func48, Try.ntmps48
    go_wp2_with fail
    go_ret
    exact ⟨by simp [*], (by repeat (first | assumption | exact Below.refl _ _ | apply Below.drew | apply below_drewN | apply up_gr | apply below_al | (refine below_gr ?_ (by first | (simp; done) | (simp; omega)) _) | (refine Below.alloc ?_ (by first | (simp; done) | (simp; omega)) _) | (refine Below.setCell ?_ (by first | (simp; done) | (simp; omega)) _)))⟩

theorem x_fromBase (x : F) (w : World) :
    Calls Try.prog 85 #[.int .u64 (Zm.i (x))] w fun e w' => e = .returned (.agg #[.int .u64 (Zm.i (Ext.a (Ext.base x))), .int .u64 (Zm.i (Ext.b (Ext.base x)))]) ∧ ∃ g, w' = gr w g := by
  refine calls_gr ?_
  go_enter Try.func85, Try.ntmps85
  go_wp2_with fail
  exact bodyPost_ret (v := .agg #[.int .u64 (Zm.i (x)), .int .u64 0]) (by simp [results, Try.results85, go_sem]) rfl ⟨rfl, (by repeat (first | assumption | exact Below.refl _ _ | apply Below.drew | apply below_drewN | apply up_gr | apply below_al | (refine below_gr ?_ (by first | (simp; done) | (simp; omega)) _) | (refine Below.alloc ?_ (by first | (simp; done) | (simp; omega)) _) | (refine Below.setCell ?_ (by first | (simp; done) | (simp; omega)) _)))⟩

theorem x_fromInt (n : Int) (h0 : -9223372036854775808 ≤ n) (h1 : n ≤ 9223372036854775807) (w : World) :
    Calls Try.prog 40 #[.int .i64 n] w fun e w' => e = .returned (.agg #[.int .u64 (Zm.i (Ext.a ((int n : Ext)))), .int .u64 (Zm.i (Ext.b ((int n : Ext))))]) ∧ ∃ g, w' = gr w g := by
  refine calls_gr ?_
  rw [← Ext.base_int]
  go_enter Try.func40, Try.ntmps40
  go_wp2_with fail
  refine (r_fromInt _ h0 h1 _).mono ?_
  rintro e w' ⟨rfl, rfl⟩
  go_wp2_with fail
  exact bodyPost_ret (v := .agg #[.int .u64 (Zm.i ((int n : F))), .int .u64 0]) (by simp [results, Try.results40, go_sem]) rfl ⟨rfl, (by repeat (first | assumption | exact Below.refl _ _ | apply Below.drew | apply below_drewN | apply up_gr | apply below_al | (refine below_gr ?_ (by first | (simp; done) | (simp; omega)) _) | (refine Below.alloc ?_ (by first | (simp; done) | (simp; omega)) _) | (refine Below.setCell ?_ (by first | (simp; done) | (simp; omega)) _)))⟩

theorem x_add (x y : Ext) (w : World) :
    Calls Try.prog 37 #[.agg #[.int .u64 (Zm.i (Ext.a (x))), .int .u64 (Zm.i (Ext.b (x)))], .agg #[.int .u64 (Zm.i (Ext.a (y))), .int .u64 (Zm.i (Ext.b (y)))]] w fun e w' => e = .returned (.agg #[.int .u64 (Zm.i (Ext.a (x + y))), .int .u64 (Zm.i (Ext.b (x + y)))]) ∧ ∃ g, w' = gr w g := by
  refine calls_gr ?_
  go_enter Try.func37, Try.ntmps37
  go_wp2_with fail
  go_region_held3 (fun w' => w'.cell? ⟨w.heap.size, 0, none⟩ = some (.int .u64 (Zm.i (Ext.a x))) ∧ w'.cell? ⟨w.heap.size, 1, none⟩ = some (.int .u64 (Zm.i (Ext.b x))) ∧ w'.cell? ⟨w.heap.size + 1, 0, none⟩ = some (.int .u64 (Zm.i (Ext.a y))) ∧ w'.cell? ⟨w.heap.size + 1, 1, none⟩ = some (.int .u64 (Zm.i (Ext.b y)))) (go_keep)
    (first | (go_at_call 58; refine (r_add _ _ _).mono ?_; rintro e w' ⟨rfl, rfl⟩))
  go_wp2_with fail
  exact bodyPost_ret (v := .agg #[.int .u64 (Zm.i (Ext.a x + Ext.a y)), .int .u64 (Zm.i (Ext.b x + Ext.b y))]) (by simp [results, Try.results37, go_sem]) rfl ⟨rfl, (by repeat (first | assumption | exact Below.refl _ _ | apply Below.drew | apply below_drewN | apply up_gr | apply below_al | (refine below_gr ?_ (by first | (simp; done) | (simp; omega)) _) | (refine Below.alloc ?_ (by first | (simp; done) | (simp; omega)) _) | (refine Below.setCell ?_ (by first | (simp; done) | (simp; omega)) _)))⟩

theorem x_neg (x : Ext) (w : World) :
    Calls Try.prog 42 #[.agg #[.int .u64 (Zm.i (Ext.a (x))), .int .u64 (Zm.i (Ext.b (x)))]] w fun e w' => e = .returned (.agg #[.int .u64 (Zm.i (Ext.a (-x))), .int .u64 (Zm.i (Ext.b (-x)))]) ∧ ∃ g, w' = gr w g := by
  refine calls_gr ?_
  go_enter Try.func42, Try.ntmps42
  go_wp2_with fail
  go_region_held3 (fun w' => w'.cell? ⟨w.heap.size, 0, none⟩ = some (.int .u64 (Zm.i (Ext.a x))) ∧ w'.cell? ⟨w.heap.size, 1, none⟩ = some (.int .u64 (Zm.i (Ext.b x)))) (go_keep)
    (first | (go_at_call 61; refine (r_neg _ _).mono ?_; rintro e w' ⟨rfl, rfl⟩))
  go_wp2_with fail
  exact bodyPost_ret (v := .agg #[.int .u64 (Zm.i (- Ext.a x)), .int .u64 (Zm.i (- Ext.b x))]) (by simp [results, Try.results42, go_sem]) rfl ⟨rfl, (by repeat (first | assumption | exact Below.refl _ _ | apply Below.drew | apply below_drewN | apply up_gr | apply below_al | (refine below_gr ?_ (by first | (simp; done) | (simp; omega)) _) | (refine Below.alloc ?_ (by first | (simp; done) | (simp; omega)) _) | (refine Below.setCell ?_ (by first | (simp; done) | (simp; omega)) _)))⟩

theorem x_conj (x : Ext) (w : World) :
    Calls Try.prog 69 #[.agg #[.int .u64 (Zm.i (Ext.a (x))), .int .u64 (Zm.i (Ext.b (x)))]] w fun e w' => e = .returned (.agg #[.int .u64 (Zm.i (Ext.a (Ext.conj x))), .int .u64 (Zm.i (Ext.b (Ext.conj x)))]) ∧ ∃ g, w' = gr w g := by
  refine calls_gr ?_
  go_enter Try.func69, Try.ntmps69
  go_wp2_with fail
  go_region_held3 (fun w' => w'.cell? ⟨w.heap.size, 0, none⟩ = some (.int .u64 (Zm.i (Ext.a x))) ∧ w'.cell? ⟨w.heap.size, 1, none⟩ = some (.int .u64 (Zm.i (Ext.b x)))) (go_keep)
    (first | (go_at_call 61; refine (r_neg _ _).mono ?_; rintro e w' ⟨rfl, rfl⟩))
  go_wp2_with fail
  exact bodyPost_ret (v := .agg #[.int .u64 (Zm.i (Ext.a x)), .int .u64 (Zm.i (- Ext.b x))]) (by simp [results, Try.results69, go_sem]) rfl ⟨rfl, (by repeat (first | assumption | exact Below.refl _ _ | apply Below.drew | apply below_drewN | apply up_gr | apply below_al | (refine below_gr ?_ (by first | (simp; done) | (simp; omega)) _) | (refine Below.alloc ?_ (by first | (simp; done) | (simp; omega)) _) | (refine Below.setCell ?_ (by first | (simp; done) | (simp; omega)) _)))⟩

set_option maxHeartbeats 1000000 in
theorem x_mul (x y : Ext) (w : World) :
    Calls Try.prog 39 #[.agg #[.int .u64 (Zm.i (Ext.a (x))), .int .u64 (Zm.i (Ext.b (x)))], .agg #[.int .u64 (Zm.i (Ext.a (y))), .int .u64 (Zm.i (Ext.b (y)))]] w fun e w' => e = .returned (.agg #[.int .u64 (Zm.i (Ext.a (x * y))), .int .u64 (Zm.i (Ext.b (x * y)))]) ∧ ∃ g, w' = gr w g := by
  refine calls_gr ?_
  go_enter Try.func39, Try.ntmps39
  go_wp2_with fail
  go_region_held3 (fun w' => w'.cell? ⟨w.heap.size, 0, none⟩ = some (.int .u64 (Zm.i (Ext.a x))) ∧ w'.cell? ⟨w.heap.size, 1, none⟩ = some (.int .u64 (Zm.i (Ext.b x))) ∧ w'.cell? ⟨w.heap.size + 1, 0, none⟩ = some (.int .u64 (Zm.i (Ext.a y))) ∧ w'.cell? ⟨w.heap.size + 1, 1, none⟩ = some (.int .u64 (Zm.i (Ext.b y)))) (go_keep)
    (first
      | (go_at_call 58; refine (r_add _ _ _).mono ?_; rintro e w' ⟨rfl, rfl⟩)
      | (go_at_call 59; refine (r_mul _ _ _).mono ?_; rintro e w' ⟨rfl, rfl⟩))
  go_wp2_with fail
  exact bodyPost_ret (v := .agg #[.int .u64 (Zm.i (Ext.a x * Ext.a y + int 7 * (Ext.b x * Ext.b y))), .int .u64 (Zm.i (Ext.a x * Ext.b y + Ext.b x * Ext.a y))]) (by simp [results, Try.results39, go_sem]) rfl ⟨rfl, (by repeat (first | assumption | exact Below.refl _ _ | apply Below.drew | apply below_drewN | apply up_gr | apply below_al | (refine below_gr ?_ (by first | (simp; done) | (simp; omega)) _) | (refine Below.alloc ?_ (by first | (simp; done) | (simp; omega)) _) | (refine Below.setCell ?_ (by first | (simp; done) | (simp; omega)) _)))⟩

theorem x_sub (x y : Ext) (w : World) :
    Calls Try.prog 38 #[.agg #[.int .u64 (Zm.i (Ext.a (x))), .int .u64 (Zm.i (Ext.b (x)))], .agg #[.int .u64 (Zm.i (Ext.a (y))), .int .u64 (Zm.i (Ext.b (y)))]] w fun e w' => e = .returned (.agg #[.int .u64 (Zm.i (Ext.a (x - y))), .int .u64 (Zm.i (Ext.b (x - y)))]) ∧ ∃ g, w' = gr w g := by
  refine calls_gr ?_
  rw [sub_eq]
  go_enter Try.func38, Try.ntmps38
  go_wp2_with fail
  go_region_held3 (fun w' => w'.cell? ⟨w.heap.size, 0, none⟩ = some (.int .u64 (Zm.i (Ext.a x))) ∧ w'.cell? ⟨w.heap.size, 1, none⟩ = some (.int .u64 (Zm.i (Ext.b x))) ∧ w'.cell? ⟨w.heap.size + 1, 0, none⟩ = some (.int .u64 (Zm.i (Ext.a y))) ∧ w'.cell? ⟨w.heap.size + 1, 1, none⟩ = some (.int .u64 (Zm.i (Ext.b y)))) (((try dsimp only); (repeat' apply And.intro) <;> first | (simp [*, World.cell?_alloc_past, World.cell?_setCell_far]; done) | go_keep))
    (first
      | (go_at_call 42; refine (x_neg _ _).mono ?_; rintro e w' ⟨rfl, g, rfl⟩)
      | (go_at_call 37; refine (x_add _ _ _).mono ?_; rintro e w' ⟨rfl, g, rfl⟩))
  go_wp2_with fail
  exact bodyPost_ret (v := .agg #[.int .u64 (Zm.i (Ext.a (x + -y))), .int .u64 (Zm.i (Ext.b (x + -y)))]) (by simp [results, Try.results38, go_sem]) rfl ⟨rfl, (by repeat (first | assumption | exact Below.refl _ _ | apply Below.drew | apply below_drewN | apply up_gr | apply below_al | (refine below_gr ?_ (by first | (simp; done) | (simp; omega)) _) | (refine Below.alloc ?_ (by first | (simp; done) | (simp; omega)) _) | (refine Below.setCell ?_ (by first | (simp; done) | (simp; omega)) _)))⟩

theorem x_mulBase (x : Ext) (c : F) (w : World) :
    Calls Try.prog 71 #[.agg #[.int .u64 (Zm.i (Ext.a (x))), .int .u64 (Zm.i (Ext.b (x)))], .int .u64 (Zm.i (c))] w fun e w' => e = .returned (.agg #[.int .u64 (Zm.i (Ext.a (x * Ext.base c))), .int .u64 (Zm.i (Ext.b (x * Ext.base c)))]) ∧ ∃ g, w' = gr w g := by
  refine calls_gr ?_
  go_enter Try.func71, Try.ntmps71
  go_wp2_with fail
  go_region_held3 (fun w' => w'.cell? ⟨w.heap.size, 0, none⟩ = some (.int .u64 (Zm.i (Ext.a x))) ∧ w'.cell? ⟨w.heap.size, 1, none⟩ = some (.int .u64 (Zm.i (Ext.b x)))) (((try dsimp only); (repeat' apply And.intro) <;> first | (simp [*, World.cell?_alloc_past, World.cell?_setCell_far]; done) | go_keep))
    (first
      | (go_at_call 85; refine (x_fromBase _ _).mono ?_; rintro e w' ⟨rfl, g, rfl⟩)
      | (go_at_call 39; refine (x_mul _ _ _).mono ?_; rintro e w' ⟨rfl, g, rfl⟩))
  go_wp2_with fail
  exact bodyPost_ret (v := .agg #[.int .u64 (Zm.i (Ext.a (x * Ext.base c))), .int .u64 (Zm.i (Ext.b (x * Ext.base c)))]) (by simp [results, Try.results71, go_sem]) rfl ⟨rfl, (by repeat (first | assumption | exact Below.refl _ _ | apply Below.drew | apply below_drewN | apply up_gr | apply below_al | (refine below_gr ?_ (by first | (simp; done) | (simp; omega)) _) | (refine Below.alloc ?_ (by first | (simp; done) | (simp; omega)) _) | (refine Below.setCell ?_ (by first | (simp; done) | (simp; omega)) _)))⟩

theorem mul_conj_a (x : Ext) : (x * Ext.conj x).a = Ext.norm x := congrArg Ext.a (Ext.mul_conj x)
theorem x_inv0 (w : World) :
    Calls Try.prog 57 #[.agg #[.int .u64 (Zm.i (Ext.a ((0 : Ext)))), .int .u64 (Zm.i (Ext.b ((0 : Ext))))]] w fun e w' => e = .returned (.tuple #[.agg #[.int .u64 (Zm.i (Ext.a ((0 : Ext)))), .int .u64 (Zm.i (Ext.b ((0 : Ext))))], .int .i64 3]) ∧ ∃ g, w' = gr w g := by
  refine calls_gr ?_
  go_enter Try.func57, Try.ntmps57
  go_wp2_with fail
  refine (x_isZero 0 _).mono ?_
  rintro e w' ⟨rfl, g, rfl⟩
  rw [show decide ((0 : Ext) = 0) = true from decide_eq_true rfl]
  go_wp2_with fail
  exact bodyPost_ret (v := .tuple #[.agg #[.int .u64 0, .int .u64 0], .int .i64 3]) (by simp [results, Try.results57, go_sem]) rfl ⟨rfl, (by repeat (first | assumption | exact Below.refl _ _ | apply Below.drew | apply below_drewN | apply up_gr | apply below_al | (refine below_gr ?_ (by first | (simp; done) | (simp; omega)) _) | (refine Below.alloc ?_ (by first | (simp; done) | (simp; omega)) _) | (refine Below.setCell ?_ (by first | (simp; done) | (simp; omega)) _)))⟩
theorem x_inv (x : Ext) (h : x ≠ 0) (w : World) :
    Calls Try.prog 57 #[.agg #[.int .u64 (Zm.i (Ext.a (x))), .int .u64 (Zm.i (Ext.b (x)))]] w fun e w' => e = .returned (.tuple #[.agg #[.int .u64 (Zm.i (Ext.a (Fld.inv x))), .int .u64 (Zm.i (Ext.b (Fld.inv x)))], .int .i64 0]) ∧ ∃ g, w' = gr w g := by
  refine calls_gr ?_
  have hp := i_pos (Ext.norm_ne_zero h)
  rw [← mul_conj_a] at hp
  have hd : decide (x = 0) = false := decide_eq_false h
  have hm := Lib.hid (mul_conj_a x)
  clear h
  go_enter Try.func57, Try.ntmps57
  go_wp2_with fail
  refine (x_isZero x _).mono ?_
  rintro e w' ⟨rfl, g, rfl⟩
  rw [hd]
  clear hd
  go_wp2_with fail
  refine (x_conj _ _).mono ?_
  rintro e w' ⟨rfl, g2, rfl⟩
  go_wp2_with fail
  refine (x_mul _ _ _).mono ?_
  rintro e w' ⟨rfl, g3, rfl⟩
  go_wp2_with fail
  refine (r_inv _ hp _).mono ?_
  rintro e w' ⟨rfl, rfl⟩
  go_wp2_with fail
  refine (x_mulBase _ _ _).mono ?_
  rintro e w' ⟨rfl, g4, rfl⟩
  go_wp2_with fail
  exact bodyPost_ret (v := .tuple #[.agg #[.int .u64 (Zm.i (Ext.a (Ext.conj x * Ext.base (Fld.inv (x * Ext.conj x).a)))), .int .u64 (Zm.i (Ext.b (Ext.conj x * Ext.base (Fld.inv (x * Ext.conj x).a))))], .int .i64 0]) (by simp [results, Try.results57, go_sem]) rfl ⟨by rw [hm.out]; rfl, (by repeat (first | assumption | exact Below.refl _ _ | apply Below.drew | apply below_drewN | apply up_gr | apply below_al | (refine below_gr ?_ (by first | (simp; done) | (simp; omega)) _) | (refine Below.alloc ?_ (by first | (simp; done) | (simp; omega)) _) | (refine Below.setCell ?_ (by first | (simp; done) | (simp; omega)) _)))⟩

theorem x_made (p q : Int) [In64 p] [In64 q] (w : World) :
    Calls Try.prog 13 #[.agg #[.int .u64 p, .int .u64 q]] w fun e w' => e = .returned (.agg #[.int .u64 (Zm.i (Ext.a ((⟨int p, int q⟩ : Ext)))), .int .u64 (Zm.i (Ext.b ((⟨int p, int q⟩ : Ext))))]) ∧ ∃ g, w' = gr w g := by
  refine calls_gr ?_
  go_enter Try.func13, Try.ntmps13
  go_wp2_with fail
  go_region_held3 (fun w' => w'.cell? ⟨w.heap.size, 0, none⟩ = some (.int .u64 p) ∧ w'.cell? ⟨w.heap.size, 1, none⟩ = some (.int .u64 q)) (go_keep)
    (first | (go_at_call 45; refine (r_reduce _ _).mono ?_; rintro e w' ⟨rfl, rfl⟩))
  go_wp2_with fail
  exact bodyPost_ret (v := .agg #[.int .u64 (Zm.i ((int p : F))), .int .u64 (Zm.i ((int q : F)))]) (by simp [results, Try.results13, go_sem]) rfl ⟨rfl, (by repeat (first | assumption | exact Below.refl _ _ | apply Below.drew | apply below_drewN | apply up_gr | apply below_al | (refine below_gr ?_ (by first | (simp; done) | (simp; omega)) _) | (refine Below.alloc ?_ (by first | (simp; done) | (simp; omega)) _) | (refine Below.setCell ?_ (by first | (simp; done) | (simp; omega)) _)))⟩
end Go.Proofs.Ytjchccpicddpoaa
