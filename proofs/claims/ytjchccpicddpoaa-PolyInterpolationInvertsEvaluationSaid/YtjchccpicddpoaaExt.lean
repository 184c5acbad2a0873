/- The quadratic extension of F by a root of 7: a field; conjugation; the power P is the conjugate. No program in sight. -/
import Derived.Test.YtjchccpicddpoaaPrm
namespace Att
open CRing

structure Ext where
  a : F
  b : F
namespace Ext
theorem ext {x y : Ext} (h : x.a = y.a) (k : x.b = y.b) : x = y := by cases x; cases y; cases h; cases k; rfl
instance : DecidableEq Ext := fun x y => if h : x.a = y.a ∧ x.b = y.b then isTrue (ext h.1 h.2) else isFalse fun e => h (e ▸ ⟨rfl, rfl⟩)
def seven : F := int 7
instance : Zero Ext := ⟨⟨0, 0⟩⟩
instance : One Ext := ⟨⟨1, 0⟩⟩
instance : Add Ext := ⟨fun x y => ⟨x.a + y.a, x.b + y.b⟩⟩
instance : Sub Ext := ⟨fun x y => ⟨x.a - y.a, x.b - y.b⟩⟩
instance : Neg Ext := ⟨fun x => ⟨-x.a, -x.b⟩⟩
instance : Mul Ext := ⟨fun x y => ⟨x.a * y.a + seven * (x.b * y.b), x.a * y.b + x.b * y.a⟩⟩
theorem zero_a : (0 : Ext).a = 0 := rfl
theorem zero_b : (0 : Ext).b = 0 := rfl
theorem one_a : (1 : Ext).a = 1 := rfl
theorem one_b : (1 : Ext).b = 0 := rfl
theorem add_a (x y : Ext) : (x + y).a = x.a + y.a := rfl
theorem add_b (x y : Ext) : (x + y).b = x.b + y.b := rfl
theorem sub_a (x y : Ext) : (x - y).a = x.a - y.a := rfl
theorem sub_b (x y : Ext) : (x - y).b = x.b - y.b := rfl
theorem neg_a (x : Ext) : (-x).a = -x.a := rfl
theorem neg_b (x : Ext) : (-x).b = -x.b := rfl
theorem mul_a (x y : Ext) : (x * y).a = x.a * y.a + seven * (x.b * y.b) := rfl
theorem mul_b (x y : Ext) : (x * y).b = x.a * y.b + x.b * y.a := rfl
instance : CRing Ext where
  add_assoc _ _ _ := ext (CRing.add_assoc _ _ _) (CRing.add_assoc _ _ _)
  add_comm _ _ := ext (CRing.add_comm _ _) (CRing.add_comm _ _)
  add_zero _ := ext (CRing.add_zero _) (CRing.add_zero _)
  add_neg _ := ext (CRing.add_neg _) (CRing.add_neg _)
  sub_eq _ _ := ext (CRing.sub_eq _ _) (CRing.sub_eq _ _)
  mul_assoc x y z := ext
    (ring_of [seven, x.a, x.b, y.a, y.b, z.a, z.b] ((v1 * v3 + v0 * (v2 * v4)) * v5 + v0 * ((v1 * v4 + v2 * v3) * v6)) (v1 * (v3 * v5 + v0 * (v4 * v6)) + v0 * (v2 * (v3 * v6 + v4 * v5))) rfl)
    (ring_of [seven, x.a, x.b, y.a, y.b, z.a, z.b] ((v1 * v3 + v0 * (v2 * v4)) * v6 + (v1 * v4 + v2 * v3) * v5) (v1 * (v3 * v6 + v4 * v5) + v2 * (v3 * v5 + v0 * (v4 * v6))) rfl)
  mul_comm x y := ext
    (ring_of [seven, x.a, x.b, y.a, y.b] (v1 * v3 + v0 * (v2 * v4)) (v3 * v1 + v0 * (v4 * v2)) rfl)
    (ring_of [seven, x.a, x.b, y.a, y.b] (v1 * v4 + v2 * v3) (v3 * v2 + v4 * v1) rfl)
  mul_one x := ext
    (ring_of [seven, x.a, x.b] (v1 * 1 + v0 * (v2 * 0)) v1 rfl)
    (ring_of [seven, x.a, x.b] (v1 * 0 + v2 * 1) v2 rfl)
  mul_add x y z := ext
    (ring_of [seven, x.a, x.b, y.a, y.b, z.a, z.b] (v1 * (v3 + v5) + v0 * (v2 * (v4 + v6))) ((v1 * v3 + v0 * (v2 * v4)) + (v1 * v5 + v0 * (v2 * v6))) rfl)
    (ring_of [seven, x.a, x.b, y.a, y.b, z.a, z.b] (v1 * (v4 + v6) + v2 * (v3 + v5)) ((v1 * v4 + v2 * v3) + (v1 * v6 + v2 * v5)) rfl)

/-- the base field in it -/
def base (a : F) : Ext := ⟨a, 0⟩
theorem base_add (a b : F) : base (a + b) = base a + base b := ext rfl (CRing.add_zero _).symm
theorem base_mul (a b : F) : base (a * b) = base a * base b := ext
  (ring_of [seven, a, b] (v1 * v2) (v1 * v2 + v0 * (0 * 0)) rfl) (ring_of [a, b] 0 (v0 * 0 + 0 * v1) rfl)
theorem base_zero : base 0 = 0 := rfl
theorem base_one : base 1 = 1 := rfl
theorem base_inj {a b : F} (h : base a = base b) : a = b := congrArg Ext.a h
theorem base_pw (a : F) (n : Nat) : base (pw a n) = pw (base a) n := by
  induction n with
  | zero => rfl
  | succ n ih => rw [pw_succ, pw_succ, base_mul, ih]
theorem base_nat (n : Nat) : base (nat n) = nat n := by
  induction n with
  | zero => rfl
  | succ n ih => rw [nat, nat, base_add, ih, base_one]
theorem base_neg (a : F) : base (-a) = -base a := ext rfl CRing.neg_zero.symm
theorem base_int (z : Int) : base (int z) = int z := by
  cases z with
  | ofNat n => exact base_nat n
  | negSucc n => show base (-nat (n + 1)) = -nat (n + 1); rw [base_neg, base_nat]

def conj (x : Ext) : Ext := ⟨x.a, -x.b⟩
theorem conj_add (x y : Ext) : conj (x + y) = conj x + conj y := ext rfl (neg_add_rev _ _)
theorem conj_mul (x y : Ext) : conj (x * y) = conj x * conj y := ext
  (ring_of [seven, x.a, x.b, y.a, y.b] (v1 * v3 + v0 * (v2 * v4)) (v1 * v3 + v0 * (-v2 * -v4)) rfl)
  (ring_of [seven, x.a, x.b, y.a, y.b] (-(v1 * v4 + v2 * v3)) (v1 * -v4 + -v2 * v3) rfl)
theorem conj_conj (x : Ext) : conj (conj x) = x := ext rfl (neg_neg _)
def norm (x : Ext) : F := x.a * x.a - seven * (x.b * x.b)
theorem mul_conj (x : Ext) : x * conj x = base (norm x) := ext
  (ring_of [seven, x.a, x.b] (v1 * v1 + v0 * (v2 * -v2)) (v1 * v1 - v0 * (v2 * v2)) rfl)
  (ring_of [x.a, x.b] (v0 * -v1 + v1 * v0) 0 rfl)

theorem seven_eq : seven = Zm.of 7 := int_n 7
/-- 7 is no square -/
theorem seven_no_sq (c : F) : c * c ≠ seven := by
  intro h
  have e := seven_half
  rw [← seven_eq, ← h, ← pw_two, ← pw_mul] at e
  by_cases hc : c = 0
  · rw [hc, zero_pw _ (by omega)] at e
    exact absurd e (by decide)
  · have e2 : pw c (2 * 9223372034707292160) = 1 := F.fermat1 c hc
    rw [e2] at e
    exact one_ne_neg e
theorem norm_ne_zero {x : Ext} (h : x ≠ 0) : norm x ≠ 0 := by
  intro e
  unfold norm at e
  by_cases hb : x.b = 0
  · rw [hb, mul_zero, mul_zero, CRing.sub_zero] at e
    have ha : x.a = 0 := (mul_eq_zero.1 e).elim id id
    exact h (ext ha hb)
  · apply seven_no_sq (x.a * Fld.inv x.b)
    have e1 : x.a * x.a = seven * (x.b * x.b) := eq_of_sub e
    have e2 : x.a * Fld.inv x.b * (x.a * Fld.inv x.b) = x.a * x.a * (Fld.inv x.b * Fld.inv x.b) :=
      ring_of [x.a, Fld.inv x.b] (v0 * v1 * (v0 * v1)) (v0 * v0 * (v1 * v1)) rfl
    rw [e2, e1]
    have e3 : seven * (x.b * x.b) * (Fld.inv x.b * Fld.inv x.b) = seven * ((x.b * Fld.inv x.b) * (x.b * Fld.inv x.b)) :=
      ring_of [seven, x.b, Fld.inv x.b] (v0 * (v1 * v1) * (v2 * v2)) (v0 * ((v1 * v2) * (v1 * v2))) rfl
    rw [e3, Fld.mul_inv _ hb, CRing.mul_one, CRing.mul_one]
/-- the inverse -/
def inv (x : Ext) : Ext := conj x * base (Fld.inv (norm x))
theorem mul_inv (x : Ext) (h : x ≠ 0) : x * inv x = 1 := by
  unfold inv
  rw [← CRing.mul_assoc, mul_conj, ← base_mul, Fld.mul_inv _ (norm_ne_zero h), base_one]
theorem conj_zero : conj 0 = 0 := ext rfl CRing.neg_zero
theorem conj_zero_mul (c : Ext) : conj 0 * c = 0 := by rw [conj_zero, CRing.zero_mul]
theorem inv_zero : inv 0 = 0 := conj_zero_mul (base (Fld.inv (norm 0)))
instance : Fld Ext where
  inv := inv
  zero_ne_one h := F.zero_ne_one (congrArg Ext.a h)
  mul_inv := mul_inv
  inv_zero := inv_zero
  deq := inferInstance
theorem inv_def (x : Ext) : Fld.inv x = conj x * base (Fld.inv (norm x)) := rfl
theorem base_inv (a : F) : base (Fld.inv a) = Fld.inv (base a) := by
  by_cases h : a = 0
  · rw [h, base_zero, Fld.inv_zero, Fld.inv_zero, base_zero]
  · apply inv_unique
    rw [← base_mul, Fld.mul_inv _ h, base_one]

/-- the root of 7 -/
def X : Ext := ⟨0, 1⟩
theorem X_sq : X * X = base seven := ext
  (ring_of [seven] (0 * 0 + v0 * (1 * 1)) v0 rfl) (ring_of [seven] (0 * 1 + 1 * 0) 0 rfl)
theorem split (x : Ext) : x = base x.a + base x.b * X := ext
  (ring_of [seven, x.a, x.b] v1 (v1 + (v2 * 0 + v0 * (0 * 1))) rfl) (ring_of [x.a, x.b] v1 (0 + (v1 * 1 + 0 * 0)) rfl)
theorem nat_P : (nat P : Ext) = 0 := by rw [← base_nat, F.nat_P, base_zero]
theorem X_pow' (n p : Nat) (hp : p = 2 * n + 1) (h : pw seven n = -1) : pw X p = -X := by
  subst hp
  rw [pw_succ, pw_mul, pw_two, X_sq, ← base_pw, h, base_neg, base_one, neg_mul, CRing.one_mul]
theorem seven_half' : pw seven 9223372034707292160 = -1 := by rw [seven_eq]; exact seven_half
theorem X_pow : pw X P = -X := X_pow' 9223372034707292160 P rfl seven_half'
/-- the power P is the conjugate -/
theorem frob (x : Ext) : pw x P = conj x := by
  conv => lhs; rw [split x]
  rw [frobenius P P_pos P_dvd_mul nat_P, mul_pw, ← base_pw, ← base_pw, F.fermat, F.fermat, X_pow]
  exact ext (ring_of [seven, x.a, x.b] (v1 + (v2 * -0 + v0 * (0 * -1))) v1 rfl) (ring_of [x.a, x.b] (0 + (v1 * -1 + 0 * -0)) (-v1) rfl)
/-- the power P^2 - 1 of an element other than 0 is 1 -/
theorem order (x : Ext) (h : x ≠ 0) : pw (pw x (P - 1)) (P + 1) = 1 := by
  rw [← pw_mul, Nat.mul_comm, pw_mul, pw_succ, frob, CRing.mul_comm, mul_conj, ← base_pw, F.fermat1 _ (norm_ne_zero h), base_one]
end Ext
end Att
