/- ExtBaseField: for every two numbers of 64 bits and every two integers of 32 bits the law on the embedded base field returns true; no conditions. -/
import Derived.Test.YtfebohbhahaopaaFrm
import Derived.Test.YtfebohbhahaopaaEs
import Derived.Test.YtfebohbhahaopaaSt
namespace Go.Proofs.Ytfebohbhahaopaa.lawExtBaseField
open Go.ChangeShapes Go.WideShapes Go.ChangeAt Go.RowKit Att Att.CRing
theorem o_one  (w : World) : Calls Try.prog 66 #[.int .u64 1, .int .u64 0] w fun e w' => e = .returned (.agg #[.int .u64 (Zm.i (Ext.a ((1 : Ext)))), .int .u64 (Zm.i (Ext.b ((1 : Ext))))]) ∧ ∃ g, w' = gr w g := by
  exact o_of 1 0 w
theorem ez : (Zm.i (Ext.a 0) == 0) = true ∧ (Zm.i (Ext.b 0) == 0) = true := ⟨rfl, rfl⟩
theorem is_z {x : Ext} : x = 0 ↔ x.a.i = 0 ∧ x.b.i = 0 := by
  constructor
  · rintro rfl; exact ⟨rfl, rfl⟩
  · rintro ⟨h, k⟩; exact Ext.ext (i_inj h) (i_inj k)
theorem zcase (x : Ext) : (x = 0 ∧ (Zm.i (Ext.a x) == 0) = true ∧ (Zm.i (Ext.b x) == 0) = true) ∨ (x ≠ 0 ∧ (Zm.i (Ext.a x) == 0) = false ∧ True) ∨ (x ≠ 0 ∧ (Zm.i (Ext.a x) == 0) = true ∧ (Zm.i (Ext.b x) == 0) = false) := by
  by_cases h1 : x.a.i = 0
  · by_cases h2 : x.b.i = 0
    · exact .inl ⟨is_z.2 ⟨h1, h2⟩, by simp [h1], by simp [h2]⟩
    · exact .inr (.inr ⟨fun h => h2 (is_z.1 h).2, by simp [h1], by simp [h2]⟩)
  · exact .inr (.inl ⟨fun h => h1 (is_z.1 h).1, by simp [h1], trivial⟩)
theorem isz (x : Ext) (h : x = 0) (w : World) : Calls Try.prog 60 #[.agg #[.int .u64 (Zm.i (Ext.a (x))), .int .u64 (Zm.i (Ext.b (x)))]] w fun e w' => e = .returned (.bool true) ∧ ∃ g, w' = gr w g := by
  have := e_isZero x w; rwa [decide_eq_true h] at this
theorem isn (x : Ext) (h : x ≠ 0) (w : World) : Calls Try.prog 60 #[.agg #[.int .u64 (Zm.i (Ext.a (x))), .int .u64 (Zm.i (Ext.b (x)))]] w fun e w' => e = .returned (.bool false) ∧ ∃ g, w' = gr w g := by
  have := e_isZero x w; rwa [decide_eq_false h] at this
theorem prod (m n : Int) (m0 : -2147483648 ≤ m) (m1 : m ≤ 2147483647) (n0 : -2147483648 ≤ n) (n1 : n ≤ 2147483647) : -9223372036854775808 ≤ m * n ∧ m * n ≤ 9223372036854775807 := by
  have h : (m * n).natAbs ≤ 2147483648 * 2147483648 := by
    rw [Int.natAbs_mul]; exact Nat.mul_le_mul (by omega) (by omega)
  omega
theorem i_ps {a : F} (h : a ≠ 0) : 0 < a.i := by
  have h0 := i_nn a
  have h1 : a.i ≠ (0 : F).i := fun e => h (i_inj e)
  have h2 : (0 : F).i = 0 := rfl
  omega
def mkF (a b : F) : Ext := ⟨a, b⟩
theorem v0 (a : F) (h : a = 0) (w : World) : Calls Try.prog 44 #[.agg #[.int .u64 (Zm.i (Ext.a (Ext.base a))), .int .u64 (Zm.i (Ext.b (Ext.base a)))]] w fun e w' => e = .returned (.tuple #[.agg #[.int .u64 (Zm.i (Ext.a ((0 : Ext)))), .int .u64 (Zm.i (Ext.b ((0 : Ext))))], .int .i64 3]) ∧ ∃ g, w' = gr w g := by
  subst h; exact e_inv0 w
theorem v1 (a c : F) (h : a ≠ 0) (hc : c = Fld.inv a) (w : World) : Calls Try.prog 44 #[.agg #[.int .u64 (Zm.i (Ext.a (Ext.base a))), .int .u64 (Zm.i (Ext.b (Ext.base a)))]] w fun e w' => e = .returned (.tuple #[.agg #[.int .u64 (Zm.i (Ext.a (Ext.base c))), .int .u64 (Zm.i (Ext.b (Ext.base c)))], .int .i64 0]) ∧ ∃ g, w' = gr w g := by
  have := e_inv (Ext.base a) (fun e => h (Ext.base_inj e)) w; rwa [← Ext.base_inv, ← hc] at this
theorem b1 (a b : F) (w : World) : Calls Try.prog 46 #[.agg #[.int .u64 (Zm.i (Ext.a (Ext.base a))), .int .u64 (Zm.i (Ext.b (Ext.base a)))], .agg #[.int .u64 (Zm.i (Ext.a (Ext.base b))), .int .u64 (Zm.i (Ext.b (Ext.base b)))]] w fun e w' => e = .returned (.agg #[.int .u64 (Zm.i (Ext.a (Ext.base (a + b)))), .int .u64 (Zm.i (Ext.b (Ext.base (a + b))))]) ∧ ∃ g, w' = gr w g := by
  have := e_add (Ext.base a) (Ext.base b) w; rwa [← Ext.base_add] at this
theorem b2 (a b : F) (w : World) : Calls Try.prog 52 #[.agg #[.int .u64 (Zm.i (Ext.a (Ext.base a))), .int .u64 (Zm.i (Ext.b (Ext.base a)))], .agg #[.int .u64 (Zm.i (Ext.a (Ext.base b))), .int .u64 (Zm.i (Ext.b (Ext.base b)))]] w fun e w' => e = .returned (.agg #[.int .u64 (Zm.i (Ext.a (Ext.base (a * b)))), .int .u64 (Zm.i (Ext.b (Ext.base (a * b))))]) ∧ ∃ g, w' = gr w g := by
  have := e_mul (Ext.base a) (Ext.base b) w; rwa [← Ext.base_mul] at this
theorem b3  (w : World) : Calls Try.prog 62 #[.int .u64 0] w fun e w' => e = .returned (.agg #[.int .u64 (Zm.i (Ext.a ((0 : Ext)))), .int .u64 (Zm.i (Ext.b ((0 : Ext))))]) ∧ ∃ g, w' = gr w g := by
  exact e_fromBase 0 w
theorem b4 (a b : F) (w : World) : Calls Try.prog 66 #[.int .u64 (Zm.i (a)), .int .u64 (Zm.i (b))] w fun e w' => e = .returned (.agg #[.int .u64 (Zm.i (Ext.a (mkF a b))), .int .u64 (Zm.i (Ext.b (mkF a b)))]) ∧ ∃ g, w' = gr w g := by
  exact o_of a.i b.i w
theorem b5 (m n : Int) (w : World) : Calls Try.prog 46 #[.agg #[.int .u64 (Zm.i (Ext.a ((int m : Ext)))), .int .u64 (Zm.i (Ext.b ((int m : Ext))))], .agg #[.int .u64 (Zm.i (Ext.a ((int n : Ext)))), .int .u64 (Zm.i (Ext.b ((int n : Ext))))]] w fun e w' => e = .returned (.agg #[.int .u64 (Zm.i (Ext.a ((int (m + n) : Ext)))), .int .u64 (Zm.i (Ext.b ((int (m + n) : Ext))))]) ∧ ∃ g, w' = gr w g := by
  have := e_add (int m) (int n) w; rwa [← int_add m n] at this
theorem b6 (m n : Int) (w : World) : Calls Try.prog 52 #[.agg #[.int .u64 (Zm.i (Ext.a ((int m : Ext)))), .int .u64 (Zm.i (Ext.b ((int m : Ext))))], .agg #[.int .u64 (Zm.i (Ext.a ((int n : Ext)))), .int .u64 (Zm.i (Ext.b ((int n : Ext))))]] w fun e w' => e = .returned (.agg #[.int .u64 (Zm.i (Ext.a ((int (m * n) : Ext)))), .int .u64 (Zm.i (Ext.b ((int (m * n) : Ext))))]) ∧ ∃ g, w' = gr w g := by
  have := e_mul (int m) (int n) w; rwa [← int_mul m n] at this
theorem fv (a c : F) (h : 0 < a.i) (hc : c = Fld.inv a) (w : World) : Calls Try.prog 21 #[.int .u64 (Zm.i (a))] w fun e w' => e = .returned (.tuple #[.int .u64 (Zm.i (c)), .int .i64 0]) ∧ ∃ n, w' = w.drewN n := by
  have := f_inv (Zm.i a) h w
  rwa [int_i, ← hc] at this
theorem fz (a : F) (h : a = 0) (w : World) : Calls Try.prog 21 #[.int .u64 (Zm.i (a))] w fun e w' => e = .returned (.tuple #[.int .u64 0, .int .i64 3]) ∧ w = w' := by
  subst h; exact f_inv0 w
set_option maxRecDepth 100000 in
set_option maxHeartbeats 4000000 in
theorem walk (x0 : Int) (x1 : Int) (x2a : Int) (x2b : Int) (h_x0 : In64 x0) (h_x1 : In64 x1) (l_x2a : -2147483648 ≤ x2a) (u_x2a : x2a ≤ 2147483647) (l_x2b : -2147483648 ≤ x2b) (u_x2b : x2b ≤ 2147483647) (w : World) :
    Calls Try.prog 16 #[.int .u64 x0, .int .u64 x1, .agg #[.int .i32 x2a, .int .i32 x2b]] w fun e w' => e = .returned (.bool true) ∧ Below w.heap.size w w' := by
  obtain ⟨p0, p1⟩ := prod x2a x2b l_x2a u_x2a l_x2b u_x2b
  refine Calls.mono (R := fun e w' => e = .returned (.bool true) ∧ Gn w w') ?_ (fun e w' h => ⟨h.1, h.2.below⟩)
  go_enter Try.func16, Try.ntmps16
  go_wp2_with fail
  refine (e_sanity _).mono ?_
  rintro e w0 ⟨rfl, k0⟩
  have H0 := (Holds.al (Holds.nil w) (Obj.cells #[.int .i32 x2a, .int .i32 x2b] 59)).up k0
  have G0 := Gn.trans (Gn.al _) k0
  clear k0
  go_wp2_with fail
  refine (r_reduce _ _).mono ?_
  rintro e w' ⟨rfl, rfl⟩
  go_wp2_with fail
  refine (r_reduce _ _).mono ?_
  rintro e w' ⟨rfl, rfl⟩
  generalize (int x0 : F) = a at *
  generalize (int x1 : F) = b at *
  by_cases ha : a = 0
  · have HA := Lib.hid ha
    have ea : a.i = 0 := by rw [ha]; rfl
    obtain ⟨ez1, ez2⟩ := ez
    clear ha
    clear ea
    go_wp2_with fail
    refine (fz a HA.out _).mono ?_
    rintro e w' ⟨rfl, rfl⟩
    go_wp2_with fail
    refine (e_fromBase a _).mono ?_
    rintro e w1 ⟨rfl, k1⟩
    have H1 := Holds.up k1 H0
    have G1 := Gn.trans G0 k1
    clear k1 H0 G0
    go_wp2_with fail
    refine (v0 a HA.out _).mono ?_
    rintro e w2 ⟨rfl, k2⟩
    have H2 := Holds.up k2 H1
    have G2 := Gn.trans G1 k2
    clear k2 H1 G1
    go_wp2_with fail
    have H3 := Holds.box H2 (0 : Ext)
    have G3 : Gn w (w2.alloc (Obj.cells #[.int .u64 (Zm.i (Ext.a (0 : Ext))), .int .u64 (Zm.i (Ext.b (0 : Ext)))] 42)) := Gn.trans G2 (Gn.al _)
    generalize w2.alloc (Obj.cells #[.int .u64 (Zm.i (Ext.a (0 : Ext))), .int .u64 (Zm.i (Ext.b (0 : Ext)))] 42) = w3 at H3 G3 ⊢
    clear H2 G2
    have q0 := obj_cell H3.2.1 0 rfl
    have q1 := obj_cell H3.2.1 1 rfl
    have ql := blk_lt H3.2.1
    try simp only [List.append_eq, List.cons_append, List.nil_append]
    refine wp_region_gr (by kernel_rfl) (lex_of_chk (by kernel_rfl) (by kernel_rfl)) ?_
    repeat (go_big_quiet_step ((first
      | fail)))
    refine wpQuiet_nil ?_
    intro w4 k4
    have G4 := Gn.trans G3 k4
    have H4 := Holds.up k4 H3
    clear k4 G3 H3
    clear q0 q1 ql
    obtain ⟨ra0, rb0, rl0⟩ := open_box H4.1
    go_wp2_with fail
    try simp only [List.append_eq, List.cons_append, List.nil_append]
    refine wp_region_gr (by kernel_rfl) (lex_of_chk (by kernel_rfl) (by kernel_rfl)) ?_
    repeat (go_big_quiet_step ((first
      | (go_at_call 46; with_reducible apply qg (b1 a b _); rfl)
      | (go_at_call 52; with_reducible apply qg (b2 a b _); rfl)
      | (go_at_call 62; with_reducible apply qg (b3 _); rfl)
      | (go_at_call 52; with_reducible apply qg (e_mul _ _ _); rfl)
      | (go_at_call 46; with_reducible apply qg (e_add _ _ _); rfl)
      | (go_at_call 48; with_reducible apply qg (e_sub _ _ _); rfl)
      | (go_at_call 50; with_reducible apply qg (e_neg _ _); rfl)
      | (go_at_call 56; with_reducible apply qg (e_conj _ _); rfl)
      | (go_at_call 62; with_reducible apply qg (e_fromBase _ _); rfl)
      | (go_at_call 60; with_reducible apply qg (e_isZero _ _); rfl)
      | (go_at_call 54; with_reducible apply qg (e_mulBase _ _ _); rfl)
      | (go_at_call 36; with_reducible apply qa (f_mul _ _ _); rfl)
      | (go_at_call 30; with_reducible apply qa (f_add _ _ _); rfl)
      | (go_at_call 67; with_reducible apply qg (o_prime _); rfl)
      | (go_at_call 66; with_reducible apply qg (o_one _); rfl)
      | (go_at_call 66; with_reducible apply qg (o_of _ _ _); rfl))))
    refine wpQuiet_nil ?_
    intro w5 k5
    have G5 := Gn.trans G4 k5
    have H5 := Holds.up k5 H4
    clear k5 G4 H4
    clear ra0 rb0 rl0
    go_wp2_with fail
    refine (b4 a b _).mono ?_
    rintro e w6 ⟨rfl, k6⟩
    have H6 := Holds.up k6 H5
    have G6 := Gn.trans G5 k6
    clear k6 H5 G5
    go_wp2_with fail
    refine (e_mulBase (mkF a b) b _).mono ?_
    rintro e w7 ⟨rfl, k7⟩
    have H7 := Holds.up k7 H6
    have G7 := Gn.trans G6 k7
    clear k7 H6 G6
    go_wp2_with fail
    refine (b4 a b _).mono ?_
    rintro e w8 ⟨rfl, k8⟩
    have H8 := Holds.up k8 H7
    have G8 := Gn.trans G7 k8
    clear k8 H7 G7
    go_wp2_with fail
    refine (e_fromBase b _).mono ?_
    rintro e w9 ⟨rfl, k9⟩
    have H9 := Holds.up k9 H8
    have G9 := Gn.trans G8 k9
    clear k9 H8 G8
    go_wp2_with fail
    refine (e_mul (mkF a b) (Ext.base b) _).mono ?_
    rintro e w10 ⟨rfl, k10⟩
    have H10 := Holds.up k10 H9
    have G10 := Gn.trans G9 k10
    clear k10 H9 G9
    go_wp2_with fail
    refine (e_fromInt x2a (by omega) (by omega) _).mono ?_
    rintro e w11 ⟨rfl, k11⟩
    have H11 := Holds.up k11 H10
    have G11 := Gn.trans G10 k11
    clear k11 H10 G10
    go_wp2_with fail
    refine (e_fromInt x2b (by omega) (by omega) _).mono ?_
    rintro e w12 ⟨rfl, k12⟩
    have H12 := Holds.up k12 H11
    have G12 := Gn.trans G11 k12
    clear k12 H11 G11
    go_wp2_with fail
    refine (b5 x2a x2b _).mono ?_
    rintro e w13 ⟨rfl, k13⟩
    have H13 := Holds.up k13 H12
    have G13 := Gn.trans G12 k13
    clear k13 H12 G12
    go_wp2_with fail
    refine (e_fromInt (x2a + x2b) (by omega) (by omega) _).mono ?_
    rintro e w14 ⟨rfl, k14⟩
    have H14 := Holds.up k14 H13
    have G14 := Gn.trans G13 k14
    clear k14 H13 G13
    go_wp2_with fail
    refine (e_fromInt x2a (by omega) (by omega) _).mono ?_
    rintro e w15 ⟨rfl, k15⟩
    have H15 := Holds.up k15 H14
    have G15 := Gn.trans G14 k15
    clear k15 H14 G14
    go_wp2_with fail
    refine (e_fromInt x2b (by omega) (by omega) _).mono ?_
    rintro e w16 ⟨rfl, k16⟩
    have H16 := Holds.up k16 H15
    have G16 := Gn.trans G15 k16
    clear k16 H15 G15
    go_wp2_with fail
    refine (b6 x2a x2b _).mono ?_
    rintro e w17 ⟨rfl, k17⟩
    have H17 := Holds.up k17 H16
    have G17 := Gn.trans G16 k17
    clear k17 H16 G16
    go_wp2_with fail
    refine (e_fromInt (x2a * x2b) p0 p1 _).mono ?_
    rintro e w18 ⟨rfl, k18⟩
    have H18 := Holds.up k18 H17
    have G18 := Gn.trans G17 k18
    clear k18 H17 G17
    go_wp2_with fail
    go_ret
    exact ⟨rfl, G18⟩
  · have hp := i_ps ha
    have HA := Lib.hid ha; clear ha
    go_wp2_with fail
    obtain ⟨c, hc⟩ : ∃ c, c = Fld.inv a := ⟨_, rfl⟩
    have HC := Lib.hid hc; clear hc
    refine (fv a c hp HC.out _).mono ?_
    rintro e w9 ⟨rfl, n, hn⟩
    have HN := Holds.up (Gn.of (Up.draws (Up.refl w0) n)) H0
    have GN := Gn.trans G0 (Gn.of (Up.draws (Up.refl w0) n))
    rw [← hn] at HN GN
    clear hn H0 G0 hp
    have H0 := HN; have G0 := GN; clear HN GN
    clear w0
    obtain ⟨w0, rfl⟩ : ∃ w0, w0 = w9 := ⟨_, rfl⟩
    go_wp2_with fail
    refine (e_fromBase a _).mono ?_
    rintro e w1 ⟨rfl, k1⟩
    have H1 := Holds.up k1 H0
    have G1 := Gn.trans G0 k1
    clear k1 H0 G0
    go_wp2_with fail
    refine (v1 a c HA.out HC.out _).mono ?_
    rintro e w2 ⟨rfl, k2⟩
    have H2 := Holds.up k2 H1
    have G2 := Gn.trans G1 k2
    clear k2 H1 G1
    go_wp2_with fail
    have H3 := Holds.box H2 (Ext.base c)
    have G3 : Gn w (w2.alloc (Obj.cells #[.int .u64 (Zm.i (Ext.a (Ext.base c))), .int .u64 (Zm.i (Ext.b (Ext.base c)))] 42)) := Gn.trans G2 (Gn.al _)
    generalize w2.alloc (Obj.cells #[.int .u64 (Zm.i (Ext.a (Ext.base c))), .int .u64 (Zm.i (Ext.b (Ext.base c)))] 42) = w3 at H3 G3 ⊢
    clear H2 G2
    have q0 := obj_cell H3.2.1 0 rfl
    have q1 := obj_cell H3.2.1 1 rfl
    have ql := blk_lt H3.2.1
    try simp only [List.append_eq, List.cons_append, List.nil_append]
    refine wp_region_gr (by kernel_rfl) (lex_of_chk (by kernel_rfl) (by kernel_rfl)) ?_
    repeat (go_big_quiet_step ((first
      | fail)))
    refine wpQuiet_nil ?_
    intro w4 k4
    have G4 := Gn.trans G3 k4
    have H4 := Holds.up k4 H3
    clear k4 G3 H3
    clear q0 q1 ql
    obtain ⟨ra0, rb0, rl0⟩ := open_box H4.1
    go_wp2_with fail
    try simp only [List.append_eq, List.cons_append, List.nil_append]
    refine wp_region_gr (by kernel_rfl) (lex_of_chk (by kernel_rfl) (by kernel_rfl)) ?_
    repeat (go_big_quiet_step ((first
      | (go_at_call 46; with_reducible apply qg (b1 a b _); rfl)
      | (go_at_call 52; with_reducible apply qg (b2 a b _); rfl)
      | (go_at_call 62; with_reducible apply qg (b3 _); rfl)
      | (go_at_call 52; with_reducible apply qg (e_mul _ _ _); rfl)
      | (go_at_call 46; with_reducible apply qg (e_add _ _ _); rfl)
      | (go_at_call 48; with_reducible apply qg (e_sub _ _ _); rfl)
      | (go_at_call 50; with_reducible apply qg (e_neg _ _); rfl)
      | (go_at_call 56; with_reducible apply qg (e_conj _ _); rfl)
      | (go_at_call 62; with_reducible apply qg (e_fromBase _ _); rfl)
      | (go_at_call 60; with_reducible apply qg (e_isZero _ _); rfl)
      | (go_at_call 54; with_reducible apply qg (e_mulBase _ _ _); rfl)
      | (go_at_call 36; with_reducible apply qa (f_mul _ _ _); rfl)
      | (go_at_call 30; with_reducible apply qa (f_add _ _ _); rfl)
      | (go_at_call 67; with_reducible apply qg (o_prime _); rfl)
      | (go_at_call 66; with_reducible apply qg (o_one _); rfl)
      | (go_at_call 66; with_reducible apply qg (o_of _ _ _); rfl))))
    refine wpQuiet_nil ?_
    intro w5 k5
    have G5 := Gn.trans G4 k5
    have H5 := Holds.up k5 H4
    clear k5 G4 H4
    clear ra0 rb0 rl0
    go_wp2_with fail
    refine (b4 a b _).mono ?_
    rintro e w6 ⟨rfl, k6⟩
    have H6 := Holds.up k6 H5
    have G6 := Gn.trans G5 k6
    clear k6 H5 G5
    go_wp2_with fail
    refine (e_mulBase (mkF a b) b _).mono ?_
    rintro e w7 ⟨rfl, k7⟩
    have H7 := Holds.up k7 H6
    have G7 := Gn.trans G6 k7
    clear k7 H6 G6
    go_wp2_with fail
    refine (b4 a b _).mono ?_
    rintro e w8 ⟨rfl, k8⟩
    have H8 := Holds.up k8 H7
    have G8 := Gn.trans G7 k8
    clear k8 H7 G7
    go_wp2_with fail
    refine (e_fromBase b _).mono ?_
    rintro e w9 ⟨rfl, k9⟩
    have H9 := Holds.up k9 H8
    have G9 := Gn.trans G8 k9
    clear k9 H8 G8
    go_wp2_with fail
    refine (e_mul (mkF a b) (Ext.base b) _).mono ?_
    rintro e w10 ⟨rfl, k10⟩
    have H10 := Holds.up k10 H9
    have G10 := Gn.trans G9 k10
    clear k10 H9 G9
    go_wp2_with fail
    refine (e_fromInt x2a (by omega) (by omega) _).mono ?_
    rintro e w11 ⟨rfl, k11⟩
    have H11 := Holds.up k11 H10
    have G11 := Gn.trans G10 k11
    clear k11 H10 G10
    go_wp2_with fail
    refine (e_fromInt x2b (by omega) (by omega) _).mono ?_
    rintro e w12 ⟨rfl, k12⟩
    have H12 := Holds.up k12 H11
    have G12 := Gn.trans G11 k12
    clear k12 H11 G11
    go_wp2_with fail
    refine (b5 x2a x2b _).mono ?_
    rintro e w13 ⟨rfl, k13⟩
    have H13 := Holds.up k13 H12
    have G13 := Gn.trans G12 k13
    clear k13 H12 G12
    go_wp2_with fail
    refine (e_fromInt (x2a + x2b) (by omega) (by omega) _).mono ?_
    rintro e w14 ⟨rfl, k14⟩
    have H14 := Holds.up k14 H13
    have G14 := Gn.trans G13 k14
    clear k14 H13 G13
    go_wp2_with fail
    refine (e_fromInt x2a (by omega) (by omega) _).mono ?_
    rintro e w15 ⟨rfl, k15⟩
    have H15 := Holds.up k15 H14
    have G15 := Gn.trans G14 k15
    clear k15 H14 G14
    go_wp2_with fail
    refine (e_fromInt x2b (by omega) (by omega) _).mono ?_
    rintro e w16 ⟨rfl, k16⟩
    have H16 := Holds.up k16 H15
    have G16 := Gn.trans G15 k16
    clear k16 H15 G15
    go_wp2_with fail
    refine (b6 x2a x2b _).mono ?_
    rintro e w17 ⟨rfl, k17⟩
    have H17 := Holds.up k17 H16
    have G17 := Gn.trans G16 k17
    clear k17 H16 G16
    go_wp2_with fail
    refine (e_fromInt (x2a * x2b) p0 p1 _).mono ?_
    rintro e w18 ⟨rfl, k18⟩
    have H18 := Holds.up k18 H17
    have G18 := Gn.trans G17 k18
    clear k18 H17 G17
    go_wp2_with fail
    go_ret
    exact ⟨rfl, G18⟩

set_option linter.unusedVariables false in
set_option maxRecDepth 100000 in
set_option maxHeartbeats 1000000 in
theorem lifted (os : Os) (started : os.Started) (H : Type) (enc : TypeId × Value → H) :
    ReturnsInHanded {} Try.checked os 16 .any (Rows.extBaseFieldSpec.pre6 enc Try.prog Try.f16 Rows.extBaseFieldRow.domain false) (Rows.extBaseFieldSpec.post enc Try.prog Try.f16 false true false false) := by
  refine returnsInHanded_of_change (C := Try.checked) own started (by kernel_rfl) Try.func16
    (ChangeSpec.witness6 (enc := enc) (C := Try.checked) false ⟨#[], #[.int .u64 0, .int .u64 0, .agg #[.int .i32 0, .int .i32 0]], []⟩ 8 (by kernel_rfl) (by kernel_rfl) (by kernel_rfl) (by kernel_rfl)) ?_
  intro W base args ds gs before hval0 hW _ _
  have hval : ∀ (j : Nat) t v, Try.f16.params[j]? = some t → args[j]? = some v → Value.okWide Try.prog W .any base t v := hval0
  have hW' : DataW.Whole enc Try.prog Try.f16.params.toList Rows.extBaseFieldSpec.vars false W args.toList ds gs before := hW
  obtain ⟨p, q, hA0, hV, rfl, hfz, hnd⟩ := hW
  have hA : DataW.TrodAll enc Try.prog W 0 (fun _ => true) true Try.f16.params.toList args.toList ds p := hA0
  rw [Try.params16] at hA hval
  obtain ⟨v0, vs0, d0, ds0, p0, q0, hargs, rfl, rfl, h0, r0⟩ := trodAll_cons hA
  obtain ⟨v1, vs1, d1, ds1, p1, q1, rfl, rfl, rfl, h1, r1⟩ := trodAll_cons r0
  obtain ⟨v2, vs2, d2, ds2, p2, q2, rfl, rfl, rfl, h2, r2⟩ := trodAll_cons r1
  obtain ⟨rfl, rfl, rfl⟩ := trodAll_nil r2
  obtain rfl : args = #[v0, v1, v2] := by cases args; simp_all
  obtain ⟨rfl, rfl⟩ := trodVars_none hV
  obtain ⟨x0, rfl, hz0⟩ := int_open Try.underlying22 (hval 0 22 v0 rfl rfl)
  obtain ⟨x1, rfl, hz1⟩ := int_open Try.underlying22 (hval 1 22 v1 rfl rfl)
  obtain ⟨zs2, hlen2, rfl, hz2⟩ := aggs_open (k := .i32) (ts := [21, 21]) (n := 2) (by kernel_rfl) (by kernel_rfl) (by kernel_rfl) (by kernel_rfl) (hval 2 59 v2 rfl rfl)
  obtain ⟨x2a, x2b, rfl⟩ := list2 zs2 hlen2
  refine (walk x0 x1 x2a x2b ⟨(has_u64 hz0).1, (has_u64 hz0).2⟩ ⟨(has_u64 hz1).1, (has_u64 hz1).2⟩ (has_i32 (hz2 x2a (by simp))).1 (has_i32 (hz2 x2a (by simp))).2 (has_i32 (hz2 x2b (by simp))).1 (has_i32 (hz2 x2b (by simp))).2 W).mono fun e W' ⟨he, bel⟩ => ?_
  subst he
  exact ⟨_, rfl, law_post laidOut hW' rfl (by kernel_rfl) rfl Try.underlying4 rfl bel⟩

theorem proved : Rows.ExtBaseFieldSaid :=
  OpenClaim.holds_of_wide 16 Try.f16 rfl rfl rfl rfl rfl rfl rfl ⟨rfl, rfl, rfl, rfl, rfl⟩ rfl rfl rfl rfl rfl (by kernel_rfl) Try.func16 (by kernel_rfl)
    (of_decide_eq_true (by kernel_rfl)) (by unfold Func.isWrapper; first | (rw [if_pos (by decide +kernel)]; kernel_rfl) | (rw [if_neg (by decide +kernel)]; exact ⟨rfl, rfl⟩))
    (fun os started H enc _ => lifted os started H enc)
end Go.Proofs.Ytfebohbhahaopaa.lawExtBaseField
