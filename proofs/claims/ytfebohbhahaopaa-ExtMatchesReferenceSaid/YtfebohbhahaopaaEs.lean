/- The sanity function of the laws on package ext: its fixed examples hold. -/
import Derived.Test.YtfebohbhahaopaaEw2
import Derived.Test.YtfebohbhahaopaaLex
namespace Go.Proofs.Ytfebohbhahaopaa
open Go.RowKit Att Att.CRing

theorem o_of (p q : Int) (w : World) :
    Calls Try.prog 66 #[.int .u64 p, .int .u64 q] w fun e w' => e = .returned (.agg #[.int .u64 p, .int .u64 q]) ∧ ∃ g, w' = gr w g := by
  refine calls_gr ?_
  go_enter Try.func66, Try.ntmps66
  go_wp2_with fail
  exact bodyPost_ret (v := .agg #[.int .u64 p, .int .u64 q]) (by simp [results, Try.results66, go_sem]) rfl ⟨rfl, (by repeat (first | assumption | exact Below.refl _ _ | apply Below.drew | apply below_drewN | apply up_gr | apply below_al | (refine below_gr ?_ (by first | (simp; done) | (simp; omega)) _) | (refine Below.alloc ?_ (by first | (simp; done) | (simp; omega)) _) | (refine Below.setCell ?_ (by first | (simp; done) | (simp; omega)) _)))⟩
theorem o_prime (w : World) :
    Calls Try.prog 67 #[] w fun e w' => e = .returned (.int .u64 18446744069414584321) ∧ ∃ g, w' = gr w g := by
  refine calls_gr ?_
  go_enter Try.func67, Try.ntmps67
  go_wp2_with fail
  go_ret
  exact ⟨rfl, (by repeat (first | assumption | exact Below.refl _ _ | apply Below.drew | apply below_drewN | apply up_gr | apply below_al | (refine below_gr ?_ (by first | (simp; done) | (simp; omega)) _) | (refine Below.alloc ?_ (by first | (simp; done) | (simp; omega)) _) | (refine Below.setCell ?_ (by first | (simp; done) | (simp; omega)) _)))⟩

abbrev L (p q : Int) : Value := .agg #[.int .u64 p, .int .u64 q]
theorem s_mul1 (w : World) : Calls Try.prog 52 #[L 1 2, L 3 4] w fun e w' => e = .returned (L 59 10) ∧ ∃ g, w' = gr w g := e_mul ⟨int 1, int 2⟩ ⟨int 3, int 4⟩ w
theorem s_conj1 (w : World) : Calls Try.prog 56 #[L 1 2] w fun e w' => e = .returned (L 1 18446744069414584319) ∧ ∃ g, w' = gr w g := e_conj ⟨int 1, int 2⟩ w
theorem sev : Ext.seven = int 7 := rfl
theorem lit {p : Int} (h : 0 ≤ p ∧ p < 18446744069414584321) : (int p : F).i = p := by rw [i_int]; exact Int.emod_eq_of_lt h.1 h.2
theorem lit_a (p q r s : Int) : (int p * int r + Ext.seven * (int q * int s)).i = (p * r + 7 * (q * s)) % 18446744069414584321 := by
  rw [sev, ← int_mul p r, ← int_mul q s, ← int_mul 7 (q * s), ← int_add, i_int]
theorem lit_b (p q r s : Int) : (int p * int s + int q * int r : F).i = (p * s + q * r) % 18446744069414584321 := by
  rw [← int_mul p s, ← int_mul q r, ← int_add, i_int]
theorem mk_mul (p q r s u v : Int) (w : World) (hp : 0 ≤ p ∧ p < 18446744069414584321) (hq : 0 ≤ q ∧ q < 18446744069414584321) (hr : 0 ≤ r ∧ r < 18446744069414584321) (hs : 0 ≤ s ∧ s < 18446744069414584321)
    (hu : (p * r + 7 * (q * s)) % 18446744069414584321 = u) (hv : (p * s + q * r) % 18446744069414584321 = v) :
    Calls Try.prog 52 #[L p q, L r s] w fun e w' => e = .returned (L u v) ∧ ∃ g, w' = gr w g := by
  have ha := lit hp; have hb := lit hq; have hc := lit hr; have hd := lit hs
  have h1 := (lit_a p q r s).trans hu
  have h2 := (lit_b p q r s).trans hv
  generalize (int p : F) = a at *
  generalize (int q : F) = b at *
  generalize (int r : F) = c at *
  generalize (int s : F) = d at *
  subst ha hb hc hd h1 h2
  exact e_mul ⟨a, b⟩ ⟨c, d⟩ w
theorem mk_add (a b c d : F) (w : World) (p q r s u v : Int) (ha : a.i = p) (hb : b.i = q) (hc : c.i = r) (hd : d.i = s) (hu : (a + c).i = u) (hv : (b + d).i = v) :
    Calls Try.prog 46 #[L p q, L r s] w fun e w' => e = .returned (L u v) ∧ ∃ g, w' = gr w g := by
  subst ha hb hc hd hu hv
  exact e_add ⟨a, b⟩ ⟨c, d⟩ w
theorem mk_inv (a c : F) (w : World) (p r : Int) (ha : a.i = p) (hc : c.i = r) (h : a * c = 1) :
    Calls Try.prog 44 #[L p 0] w fun e w' => e = .returned (.tuple #[L r 0, .int .i64 0]) ∧ ∃ g, w' = gr w g := by
  subst ha hc
  have hn : (⟨a, 0⟩ : Ext) ≠ 0 := by
    intro e
    have e2 : a = 0 := congrArg Ext.a e
    rw [e2, zero_mul] at h
    exact absurd h (fun e3 => by have := congrArg Zm.i e3; exact absurd this (by decide))
  have hi : Fld.inv (⟨a, 0⟩ : Ext) = ⟨c, 0⟩ := by
    symm
    apply inv_unique
    exact ((Ext.base_mul a c).symm.trans (congrArg Ext.base h)).trans Ext.base_one
  have := e_inv ⟨a, 0⟩ hn w
  rw [hi] at this
  exact this
theorem s_mul2 (w : World) : Calls Try.prog 52 #[L 1 2, L 1 18446744069414584319] w fun e w' => e = .returned (L 18446744069414584294 0) ∧ ∃ g, w' = gr w g :=
  mk_mul 1 2 1 18446744069414584319 _ _ w (by omega) (by omega) (by omega) (by omega) (by omega) (by omega)
theorem s_inv0 (w : World) : Calls Try.prog 44 #[L 0 0] w fun e w' => e = .returned (.tuple #[L 0 0, .int .i64 3]) ∧ ∃ g, w' = gr w g := e_inv0 w
theorem s_inv1 (w : World) : Calls Try.prog 44 #[L 2 0] w fun e w' => e = .returned (.tuple #[L 9223372034707292161 0, .int .i64 0]) ∧ ∃ g, w' = gr w g :=
  mk_inv (int 2) (int 9223372034707292161) w _ _ (by rw [i_int]; rfl) (by rw [i_int]; rfl) (i_inj (by rw [i_mul_int]; rfl))
theorem s_conj2 (w : World) : Calls Try.prog 56 #[L 59 10] w fun e w' => e = .returned (L 59 18446744069414584311) ∧ ∃ g, w' = gr w g := e_conj ⟨int 59, int 10⟩ w
theorem s_pow2 (w : World) : Calls Try.prog 58 #[L 0 1, .int .u64 2] w fun e w' => e = .returned (L 7 0) ∧ ∃ g, w' = gr w g := e_pow ⟨int 0, int 1⟩ 2 (by omega) (by omega) w
theorem s_pow3 (w : World) : Calls Try.prog 58 #[L 0 1, .int .u64 3] w fun e w' => e = .returned (L 0 7) ∧ ∃ g, w' = gr w g := e_pow ⟨int 0, int 1⟩ 3 (by omega) (by omega) w
theorem s_pow0 (w : World) : Calls Try.prog 58 #[L 0 0, .int .u64 0] w fun e w' => e = .returned (L 1 0) ∧ ∃ g, w' = gr w g := e_pow 0 0 (by omega) (by omega) w
theorem s_add (w : World) : Calls Try.prog 46 #[L 1 18446744069414584320, L 2 3] w fun e w' => e = .returned (L 3 2) ∧ ∃ g, w' = gr w g :=
  mk_add (int 1) (int 18446744069414584320) (int 2) (int 3) w _ _ _ _ _ _ (by rw [i_int]; rfl) (by rw [i_int]; rfl) (by rw [i_int]; rfl) (by rw [i_int]; rfl) (by rw [i_add_int]; rfl) (by rw [i_add_int]; rfl)
theorem s_sub (w : World) : Calls Try.prog 48 #[L 1 2, L 2 2] w fun e w' => e = .returned (L 18446744069414584320 0) ∧ ∃ g, w' = gr w g := e_sub ⟨int 1, int 2⟩ ⟨int 2, int 2⟩ w
theorem s_neg (w : World) : Calls Try.prog 50 #[L 0 1] w fun e w' => e = .returned (L 0 18446744069414584320) ∧ ∃ g, w' = gr w g := e_neg ⟨int 0, int 1⟩ w
theorem s_fromInt (w : World) : Calls Try.prog 64 #[.int .i64 (-1)] w fun e w' => e = .returned (L 18446744069414584320 0) ∧ ∃ g, w' = gr w g := by
  have h := e_fromInt (-1) (by omega) (by omega) w
  rw [← Ext.base_int] at h
  exact h
theorem s_fromBase (w : World) : Calls Try.prog 62 #[.int .u64 5] w fun e w' => e = .returned (L 5 0) ∧ ∃ g, w' = gr w g := e_fromBase (int 5) w
theorem s_mulBase (w : World) : Calls Try.prog 54 #[L 2 3, .int .u64 4] w fun e w' => e = .returned (L 8 12) ∧ ∃ g, w' = gr w g := e_mulBase ⟨int 2, int 3⟩ (int 4) w
theorem s_valid1 (w : World) : Calls Try.prog 41 #[L 18446744069414584320 0] w fun e w' => e = .returned (.bool true) ∧ ∃ g, w' = gr w g := e_valid _ _ w
theorem s_valid2 (w : World) : Calls Try.prog 41 #[L 0 18446744069414584321] w fun e w' => e = .returned (.bool false) ∧ ∃ g, w' = gr w g := e_valid _ _ w
theorem s_isZero1 (w : World) : Calls Try.prog 60 #[L 0 0] w fun e w' => e = .returned (.bool true) ∧ ∃ g, w' = gr w g := by
  have h := e_isZero 0 w
  rw [show decide ((0 : Ext) = 0) = true from decide_eq_true rfl] at h
  exact h
theorem s_isZero2 (w : World) : Calls Try.prog 60 #[L 0 1] w fun e w' => e = .returned (.bool false) ∧ ∃ g, w' = gr w g := by
  have h := e_isZero ⟨int 0, int 1⟩ w
  rw [dec_zero] at h
  exact h

set_option maxHeartbeats 4000000 in
set_option maxRecDepth 100000 in
theorem e_sanity (w : World) :
    Calls Try.prog 40 #[] w fun e w' => e = .returned (.bool true) ∧ ∃ g, w' = gr w g := by
  refine calls_gr ?_
  go_enter Try.func40, Try.ntmps40
  go_wp2_with fail
  refine (o_of _ _ _).mono ?_
  rintro e w' ⟨rfl, _, rfl⟩
  go_wp2_with fail
  refine (o_of _ _ _).mono ?_
  rintro e w' ⟨rfl, _, rfl⟩
  go_wp2_with fail
  refine (s_mul1 _).mono ?_
  rintro e w' ⟨rfl, _, rfl⟩
  go_wp2_with fail
  refine (o_of _ _ _).mono ?_
  rintro e w' ⟨rfl, _, rfl⟩
  go_wp2_with fail
  refine (o_of _ _ _).mono ?_
  rintro e w' ⟨rfl, _, rfl⟩
  go_wp2_with fail
  refine (s_conj1 _).mono ?_
  rintro e w' ⟨rfl, _, rfl⟩
  go_wp2_with fail
  refine (s_mul2 _).mono ?_
  rintro e w' ⟨rfl, _, rfl⟩
  go_wp2_with fail
  refine (s_inv0 _).mono ?_
  rintro e w' ⟨rfl, _, rfl⟩
  go_wp2_with fail
  refine (o_of _ _ _).mono ?_
  rintro e w' ⟨rfl, _, rfl⟩
  go_wp2_with fail
  refine (s_inv1 _).mono ?_
  rintro e w' ⟨rfl, _, rfl⟩
  go_wp2_with fail
  try simp only [List.append_eq, List.cons_append, List.nil_append]
  refine wp_region_gr (by kernel_rfl) (lex_of_chk (by kernel_rfl) (by kernel_rfl)) ?_
  repeat (go_big_quiet_step ((first
    | (go_at_call 66; with_reducible exact qg (o_of _ _ _) rfl)
    | (go_at_call 67; with_reducible exact qg (o_prime _) rfl)
    | (go_at_call 56; with_reducible exact qg (s_conj2 _) rfl)
    | (go_at_call 58; with_reducible exact qg (s_pow2 _) rfl)
    | (go_at_call 58; with_reducible exact qg (s_pow3 _) rfl)
    | (go_at_call 58; with_reducible exact qg (s_pow0 _) rfl)
    | (go_at_call 46; with_reducible exact qg (s_add _) rfl)
    | (go_at_call 48; with_reducible exact qg (s_sub _) rfl)
    | (go_at_call 50; with_reducible exact qg (s_neg _) rfl)
    | (go_at_call 64; with_reducible exact qg (s_fromInt _) rfl)
    | (go_at_call 62; with_reducible exact qg (s_fromBase _) rfl)
    | (go_at_call 54; with_reducible exact qg (s_mulBase _) rfl)
    | (go_at_call 41; with_reducible exact qg (s_valid1 _) rfl)
    | (go_at_call 41; with_reducible exact qg (s_valid2 _) rfl)
    | (go_at_call 60; with_reducible exact qg (s_isZero1 _) rfl)
    | (go_at_call 60; with_reducible exact qg (s_isZero2 _) rfl))))
  refine wpQuiet_nil ?_
  intro _ hw'
  obtain ⟨g, hw''⟩ := hw'
  subst hw''
  go_wp2_with fail
  go_ret
  exact ⟨rfl, (by repeat (first | assumption | exact Below.refl _ _ | apply Below.drew | apply below_drewN | apply up_gr | apply below_al | (refine below_gr ?_ (by first | (simp; done) | (simp; omega)) _) | (refine Below.alloc ?_ (by first | (simp; done) | (simp; omega)) _) | (refine Below.setCell ?_ (by first | (simp; done) | (simp; omega)) _)))⟩
end Go.Proofs.Ytfebohbhahaopaa
