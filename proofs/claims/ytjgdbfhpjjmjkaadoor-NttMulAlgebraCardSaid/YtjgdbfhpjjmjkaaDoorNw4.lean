/- The walks of the reference of ntt: Eval, values; the call of stages. -/
import Derived.Test.YtjgdbfhpjjmjkaaDoorNw3
import Derived.Test.YtjgdbfhpjjmjkaaDoorFk
namespace Go.Proofs.YtjgdbfhpjjmjkaaDoor
open Go.RowKit Att Att.CRing
theorem n_stages (n : Int) (inv : Bool) (w : World) :
    Calls Tryd.prog 44 #[.int .i64 n, .bool inv] w fun e w' => e = .returned (.func (.func 53) #[] #[.pointer (some ⟨w.heap.size, 0, none⟩), .pointer (some ⟨w.heap.size + 1, 0, none⟩)]) ∧ w' = (w.alloc (.cells #[.int .i64 n] 3)).alloc (.cells #[.bool inv] 4) := by
  go_enter Tryd.func44, Tryd.ntmps44
  go_wp2_with fail
  go_ret
  exact ⟨rfl, rfl⟩
/-- products and sums of field elements, as the reference answers -/
theorem r_mulF (x y : F) (w : World) : Calls Tryd.prog 26 #[.int .u64 (Zm.i (x)), .int .u64 (Zm.i (y))] w fun e w' => e = .returned (.int .u64 (Zm.i (x * y))) ∧ w = w' := by
  have h := r_mul (Zm.i x) (Zm.i y) w
  rwa [int_i, int_i] at h
theorem r_addF (x y : F) (w : World) : Calls Tryd.prog 25 #[.int .u64 (Zm.i (x)), .int .u64 (Zm.i (y))] w fun e w' => e = .returned (.int .u64 (Zm.i (x + y))) ∧ w = w' := by
  have h := r_add (Zm.i x) (Zm.i y) w
  rwa [int_i, int_i] at h
theorem f_mulF (x y : F) (w : World) : Calls Tryd.prog 37 #[.int .u64 (Zm.i (x)), .int .u64 (Zm.i (y))] w fun e w' => e = .returned (.int .u64 (Zm.i (x * y))) ∧ w = w' := by
  have h := f_mul (Zm.i x) (Zm.i y) w
  rwa [int_i, int_i] at h
theorem f_addF (x y : F) (w : World) : Calls Tryd.prog 45 #[.int .u64 (Zm.i (x)), .int .u64 (Zm.i (y))] w fun e w' => e = .returned (.int .u64 (Zm.i (x + y))) ∧ w = w' := by
  have h := f_add (Zm.i x) (Zm.i y) w
  rwa [int_i, int_i] at h
theorem f_subF (x y : F) (w : World) : Calls Tryd.prog 46 #[.int .u64 (Zm.i (x)), .int .u64 (Zm.i (y))] w fun e w' => e = .returned (.int .u64 (Zm.i (x - y))) ∧ w = w' := by
  have h := f_sub (Zm.i x) (Zm.i y) w
  rwa [int_i, int_i] at h
theorem ev_dropF {l : List F} {j : Nat} {y : F} (h : l[j]? = some y) (x : F) : ev (l.drop j) x = ev (l.drop (j + 1)) x * x + y := by
  have hj : j < l.length := (List.getElem?_eq_some_iff.1 h).1
  have hy : l[j] = y := Option.some.inj ((List.getElem?_eq_getElem hj).symm.trans h)
  rw [List.drop_eq_getElem_cons hj, hy]
  rfl
set_option maxHeartbeats 1000000 in
theorem x_eval4 (A : Option Addr) (n c : Nat) (l : List F) (x : F) (w : World) (hl : SF w A n c l) (hn : n ≤ 1000000) :
    Calls Tryd.prog 29 #[.slice A n c, .int .u64 (Zm.i (x))] w fun e w' => e = .returned (.int .u64 (Zm.i (ev l x))) ∧ ∃ g, w' = gr w g := by
  have n1 := hl.le; have n2 := hl.small
  have l1 := Lib.hid hl.len
  go_enter Tryd.func29, Tryd.ntmps29
  go_wp2_with fail
  go_loopw [5, 6] (fun v i wr => ∃ k : Nat, k ≤ n ∧ i = .int .i64 ((k : Int) - 1) ∧ v = .int .u64 (Zm.i (ev (l.drop k) x)) ∧ Gn w wr) (fun _ i _ => (intOf i + 1).toNat)
  case atStart => exact ⟨n, Nat.le_refl _, rfl, by rw [List.drop_of_length_le (by rw [l1.out]; exact Nat.le_refl _)]; rfl, Gn.refl w⟩
  case round =>
    obtain ⟨k, hk, rfl, rfl, hg⟩ := hrel
    cases k with
    | zero =>
      go_wp2_with fail
      go_ret
      exact ⟨rfl, hg⟩
    | succ j =>
      obtain ⟨b, o, y, rfl, hy, q1, q2⟩ := (hl.up hg).at_ (j := j) (by omega)
      have HE := Lib.hid (ev_dropF hy x)
      clear hy
      generalize ev (l.drop (j + 1)) x = v at *
      rw [show ((j + 1 : Nat) : Int) - 1 = (j : Int) from by omega]
      go_wp2_with fail
      refine wp_region_gr (by kernel_rfl) (lex_of_chk (by kernel_rfl) (by kernel_rfl)) ?_
      repeat (go_big_quiet_step ((first | (go_at_call 26; with_reducible apply qa (r_mulF _ _ _); rfl) | (go_at_call 25; with_reducible apply qa (r_addF _ _ _); rfl))))
      refine wpQuiet_nil ?_
      intro wr2 hg2
      go_wp2_with fail
      exact ⟨⟨j, by omega, by go_num, by rw [HE.out], hg.trans hg2⟩, by simp [intOf]⟩
/-- the values at the powers of u -/
def valP (l : List F) (u : F) (n : Nat) : List F := tab n fun i => ev l (pw u i)
set_option maxHeartbeats 1000000 in
theorem x_values (A : Option Addr) (n c : Nat) (l : List F) (u : F) (m : Nat) (w : World) (hl : SF w A n c l) (hn : n ≤ 1000000) (hm : m ≤ 1000000) :
    Calls Tryd.prog 35 #[.slice A n c, .int .u64 (Zm.i (u)), .int .i64 m] w (fun e w' => ∃ v, e = .returned v ∧ OF w' w.heap.size v (valP l u m) ∧ Gn w w') := by
  have n1 := hl.le; have n2 := hl.small
  go_enter Tryd.func35, Tryd.ntmps35
  go_wp2_with fail
  go_loopw [7, 8, 9] (fun v y i wr => ∃ k : Nat, k ≤ m ∧ i = .int .i64 k ∧ y = .int .u64 (Zm.i (pw u k)) ∧ OF wr w.heap.size v (valP l u k) ∧ Gn w wr) (fun _ _ i _ => m - (intOf i).toNat)
  case atStart => exact ⟨0, by omega, rfl, rfl, OF.empty w (Nat.le_refl _), Gn.al _⟩
  case round =>
    obtain ⟨k, hk, rfl, rfl, ho, hg⟩ := hrel
    have lk : (valP l u k).length ≤ k := by unfold valP; rw [tab_length]; exact Nat.le_refl _
    by_cases h1 : k < m
    · have hst := Lib.hid (show valP l u (k + 1) = valP l u k ++ [ev l (pw u k)] from tab_succ _ _)
      have hpw := Lib.hid (pw_succ u k)
      generalize valP l u k = L at *
      generalize pw u k = y at *
      go_wp2_with fail
      refine (x_eval4 A n c l y _ (hl.up hg) hn).mono ?_
      generalize ev l y = z at *
      rintro e w2 ⟨rfl, g2⟩
      have ho2 := ho.up g2
      have hg2 := hg.trans g2
      go_wp2_with (at_builtin; refine wpList_appF (.tmp 16) (.tmp 20) rfl (ho2.up (Gn.al _)) (by have := hg2.size; simp; omega) rfl ((BF.one z).sf (by simp)) (by simp; omega) ?_; intro v4 w4 ho4 hg4; have hg5 := grown_gnF (hg2.trans (Gn.al _)) (ho2.up (Gn.al _)) (Nat.le_refl _) hg4; clear hg4)
      refine (r_mulF y u _).mono ?_
      rintro e w5 ⟨rfl, rfl⟩
      go_wp2_with fail
      exact ⟨⟨k + 1, by omega, by go_num, by rw [hpw.out], by rw [hst.out]; exact ho4, hg5⟩, by simp [intOf]; omega⟩
    · obtain rfl : k = m := by omega
      go_wp2_with fail
      go_ret
      exact ⟨_, rfl, ho, hg⟩
end Go.Proofs.YtjgdbfhpjjmjkaaDoor
