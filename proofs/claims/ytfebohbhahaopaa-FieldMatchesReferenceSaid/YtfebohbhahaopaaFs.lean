/- The sanity function of the laws on package field: its fixed examples hold. -/
import Derived.Test.YtfebohbhahaopaaFw3
namespace Go.Proofs.Ytfebohbhahaopaa
open Go.RowKit Att Att.CRing

instance : In 18446744069414584320 := ⟨by omega, by omega⟩
instance : In 4294967296 := ⟨by omega, by omega⟩
theorem q_inv2 : (Fld.inv (int 2) : F).i = 9223372034707292161 := by
  have e : (int 2 * int 9223372034707292161 : F) = 1 := i_inj (by rw [i_mul_int]; rfl)
  rw [← inv_unique e, i_int]; rfl
theorem q_root1 : (root (1 : Int).toNat).i = 18446744069414584320 := by
  show (root 1).i = _
  rw [root_one]; rfl
theorem q_root0 : (root (0 : Int).toNat).i = 1 := by
  show (root 0).i = 1
  have e := root_full 0 (by omega)
  rw [Nat.pow_zero, pw_one] at e
  rw [e]; rfl
theorem q_root32 : (root (32 : Int).toNat).i = 1753635133440165772 := by
  show (root 32).i = _
  have e : root 32 = Zm.of 1753635133440165772 := pow_by 7 4294967295 1753635133440165772 (by decide) (by decide)
  rw [e]; rfl
theorem q_red : (int 18446744073709551615 : F).i = 4294967294 := by rw [i_int]; rfl
theorem q_from1 : (int (-1) : F).i = 18446744069414584320 := by rw [i_int]; rfl
theorem q_from2 : (int (-9223372036854775808) : F).i = 9223372032559808513 := by rw [i_int]; rfl
theorem q_from3 : (int 5 : F).i = 5 := by rw [i_int]; rfl
theorem q_add : (int 18446744069414584320 + int 2 : F).i = 1 := by rw [i_add_int]; rfl
theorem q_sub : (int 0 - int 1 : F).i = 18446744069414584320 := by rw [i_sub_int]; rfl
theorem q_neg0 : (- int 0 : F).i = 0 := by rw [i_neg_int]; rfl
theorem q_neg1 : (- int 1 : F).i = 18446744069414584320 := by rw [i_neg_int]; rfl
theorem q_mul1 : (int 4294967296 * int 4294967296 : F).i = 4294967295 := by rw [i_mul_int]; rfl
theorem q_mul2 : (int 18446744069414584320 * int 18446744069414584320 : F).i = 1 := by rw [i_mul_int]; rfl
theorem q_pow1 : (pw (int 0) (0 : Int).toNat : F).i = 1 := rfl
theorem q_pow2 : (pw (int 7) (5 : Int).toNat : F).i = 16807 := by decide

set_option maxHeartbeats 1000000 in
set_option maxRecDepth 100000 in
theorem f_sanity (w : World) :
    Calls Try.prog 19 #[] w fun e w' => e = .returned (.bool true) ∧ ∃ n, w' = w.drewN n := by
  go_enter Try.func19, Try.ntmps19
  go_wp2_with fail
  refine (f_inv 2 (by omega) _).mono ?_
  rintro e w' ⟨rfl, n0, rfl⟩
  rw [q_inv2]
  go_wp2_with fail
  refine (f_inv0 _).mono ?_
  rintro e w' ⟨rfl, rfl⟩
  go_wp2_with fail
  refine (f_root 1 (by omega) (by omega) _).mono ?_
  rintro e w' ⟨rfl, rfl⟩
  rw [q_root1]
  go_wp2_with fail
  refine (f_root 0 (by omega) (by omega) _).mono ?_
  rintro e w' ⟨rfl, rfl⟩
  rw [q_root0]
  go_wp2_with fail
  refine (f_root 32 (by omega) (by omega) _).mono ?_
  rintro e w' ⟨rfl, rfl⟩
  rw [q_root32]
  go_wp2_with fail
  refine (f_root_bad 33 (by omega) _).mono ?_
  rintro e w' ⟨rfl, rfl⟩
  go_wp2_with fail
  refine (f_root_bad (-1) (by omega) _).mono ?_
  rintro e w' ⟨rfl, rfl⟩
  go_wp2_with fail
  refine (f_valid _ _).mono ?_
  rintro e w' ⟨rfl, rfl⟩
  go_wp2_with fail
  refine (f_valid _ _).mono ?_
  rintro e w' ⟨rfl, rfl⟩
  go_wp2_with fail
  refine (f_reduce _ (by omega) (by omega) _).mono ?_
  rintro e w' ⟨rfl, rfl⟩
  rw [q_red]
  go_wp2_with fail
  refine (f_fromInt _ (by omega) (by omega) _).mono ?_
  rintro e w' ⟨rfl, rfl⟩
  rw [q_from1]
  go_wp2_with fail
  refine (f_fromInt _ (by omega) (by omega) _).mono ?_
  rintro e w' ⟨rfl, rfl⟩
  rw [q_from2]
  go_wp2_with fail
  refine (f_fromInt _ (by omega) (by omega) _).mono ?_
  rintro e w' ⟨rfl, rfl⟩
  rw [q_from3]
  go_wp2_with fail
  refine (f_add _ _ _).mono ?_
  rintro e w' ⟨rfl, rfl⟩
  rw [q_add]
  go_wp2_with fail
  refine (f_sub _ _ _).mono ?_
  rintro e w' ⟨rfl, rfl⟩
  rw [q_sub]
  go_wp2_with fail
  refine (f_neg _ _).mono ?_
  rintro e w' ⟨rfl, rfl⟩
  rw [q_neg0]
  go_wp2_with fail
  refine (f_neg _ _).mono ?_
  rintro e w' ⟨rfl, rfl⟩
  rw [q_neg1]
  go_wp2_with fail
  refine (f_mul _ _ _).mono ?_
  rintro e w' ⟨rfl, rfl⟩
  rw [q_mul1]
  go_wp2_with fail
  refine (f_mul _ _ _).mono ?_
  rintro e w' ⟨rfl, rfl⟩
  rw [q_mul2]
  go_wp2_with fail
  refine (f_pow _ _ (by omega) (by omega) _).mono ?_
  rintro e w' ⟨rfl, rfl⟩
  rw [q_pow1]
  go_wp2_with fail
  refine (f_pow _ _ (by omega) (by omega) _).mono ?_
  rintro e w' ⟨rfl, rfl⟩
  rw [q_pow2]
  go_wp2_with fail
  go_ret
  exact ⟨rfl, _, rfl⟩
end Go.Proofs.Ytfebohbhahaopaa
