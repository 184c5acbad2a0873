/- ExtPowers: for every pair of numbers of 64 bits and every two exponents of 32 bits the law on powers returns true; no conditions. -/
import Derived.Test.YtfebohbhahaopaaFrm
import Derived.Test.YtfebohbhahaopaaEs
import Derived.Test.YtfebohbhahaopaaSt
namespace Go.Proofs.Ytfebohbhahaopaa.lawExtPowers
open Go.ChangeShapes Go.WideShapes Go.ChangeAt Go.RowKit Att Att.CRing
theorem o_one  (w : World) : Calls Try.prog 66 #[.int .u64 1, .int .u64 0] w fun e w' => e = .returned (.agg #[.int .u64 (Zm.i (Ext.a ((1 : Ext)))), .int .u64 (Zm.i (Ext.b ((1 : Ext))))]) ∧ ∃ g, w' = gr w g := by
  exact o_of 1 0 w
theorem ez : (Zm.i (Ext.a 0) == 0) = true ∧ (Zm.i (Ext.b 0) == 0) = true := ⟨rfl, rfl⟩
theorem is_z {x : Ext} : x = 0 ↔ x.a.i = 0 ∧ x.b.i = 0 := by
  constructor
  · rintro rfl; exact ⟨rfl, rfl⟩
  · rintro ⟨h, k⟩; exact Ext.ext (i_inj h) (i_inj k)
theorem zcase (x : Ext) : (x = 0 ∧ (Zm.i (Ext.a x) == 0) = true ∧ (Zm.i (Ext.b x) == 0) = true) ∨ (x ≠ 0 ∧ (Zm.i (Ext.a x) == 0) = false ∧ True) ∨ (x ≠ 0 ∧ (Zm.i (Ext.a x) == 0) = true ∧ (Zm.i (Ext.b x) == 0) = false) := by
  by_cases h1 : x.a.i = 0
  · by_cases h2 : x.b.i = 0
    · exact .inl ⟨is_z.2 ⟨h1, h2⟩, by simp [h1], by simp [h2]⟩
    · exact .inr (.inr ⟨fun h => h2 (is_z.1 h).2, by simp [h1], by simp [h2]⟩)
  · exact .inr (.inl ⟨fun h => h1 (is_z.1 h).1, by simp [h1], trivial⟩)
theorem isz (x : Ext) (h : x = 0) (w : World) : Calls Try.prog 60 #[.agg #[.int .u64 (Zm.i (Ext.a (x))), .int .u64 (Zm.i (Ext.b (x)))]] w fun e w' => e = .returned (.bool true) ∧ ∃ g, w' = gr w g := by
  have := e_isZero x w; rwa [decide_eq_true h] at this
theorem isn (x : Ext) (h : x ≠ 0) (w : World) : Calls Try.prog 60 #[.agg #[.int .u64 (Zm.i (Ext.a (x))), .int .u64 (Zm.i (Ext.b (x)))]] w fun e w' => e = .returned (.bool false) ∧ ∃ g, w' = gr w g := by
  have := e_isZero x w; rwa [decide_eq_false h] at this
theorem mul32 (m n : Int) (m0 : 0 ≤ m) (m1 : m ≤ 4294967295) (n0 : 0 ≤ n) (n1 : n ≤ 4294967295) : 0 ≤ m * n ∧ m * n < 18446744073709551616 := by
  have h := Int.mul_le_mul m1 n1 n0 (by omega)
  exact ⟨Int.mul_nonneg m0 n0, by omega⟩
theorem n_add (m n : Int) (h : 0 ≤ m) (k : 0 ≤ n) : (m + n).toNat = m.toNat + n.toNat := by omega
theorem p1 (x : Ext) (m n : Int) (h : 0 ≤ m) (k : 0 ≤ n) (w : World) : Calls Try.prog 52 #[.agg #[.int .u64 (Zm.i (Ext.a (pw x m.toNat))), .int .u64 (Zm.i (Ext.b (pw x m.toNat)))], .agg #[.int .u64 (Zm.i (Ext.a (pw x n.toNat))), .int .u64 (Zm.i (Ext.b (pw x n.toNat)))]] w fun e w' => e = .returned (.agg #[.int .u64 (Zm.i (Ext.a (pw x (m + n).toNat))), .int .u64 (Zm.i (Ext.b (pw x (m + n).toNat)))]) ∧ ∃ g, w' = gr w g := by
  have := e_mul (pw x m.toNat) (pw x n.toNat) w; rwa [← pw_add, ← n_add m n h k] at this
theorem p2 (x : Ext) (m n : Int) (h : 0 ≤ m) (k : 0 ≤ n) (k2 : n ≤ 4294967295) (w : World) : Calls Try.prog 58 #[.agg #[.int .u64 (Zm.i (Ext.a (pw x m.toNat))), .int .u64 (Zm.i (Ext.b (pw x m.toNat)))], .int .u64 n] w fun e w' => e = .returned (.agg #[.int .u64 (Zm.i (Ext.a (pw x (m * n).toNat))), .int .u64 (Zm.i (Ext.b (pw x (m * n).toNat)))]) ∧ ∃ g, w' = gr w g := by
  have := e_pow (pw x m.toNat) n k (by omega) w; rwa [← pw_mul, ← Int.toNat_mul h k] at this
theorem p4 (x : Ext) (w : World) : Calls Try.prog 58 #[.agg #[.int .u64 (Zm.i (Ext.a (x))), .int .u64 (Zm.i (Ext.b (x)))], .int .u64 1] w fun e w' => e = .returned (.agg #[.int .u64 (Zm.i (Ext.a (x))), .int .u64 (Zm.i (Ext.b (x)))]) ∧ ∃ g, w' = gr w g := by
  have := e_pow x 1 (by omega) (by omega) w; rwa [show pw x (1 : Int).toNat = x from pw_one x] at this
theorem p5 (x : Ext) (w : World) : Calls Try.prog 58 #[.agg #[.int .u64 (Zm.i (Ext.a (x))), .int .u64 (Zm.i (Ext.b (x)))], .int .u64 0] w fun e w' => e = .returned (.agg #[.int .u64 (Zm.i (Ext.a ((1 : Ext)))), .int .u64 (Zm.i (Ext.b ((1 : Ext))))]) ∧ ∃ g, w' = gr w g := by
  exact e_pow x 0 (by omega) (by omega) w
theorem p6 (x : Ext) (h : Ext.a x ≠ 0) (w : World) : Calls Try.prog 58 #[.agg #[.int .u64 (Zm.i (Ext.a x)), .int .u64 0], .int .u64 18446744069414584320] w fun e w' => e = .returned (.agg #[.int .u64 (Zm.i (Ext.a ((1 : Ext)))), .int .u64 (Zm.i (Ext.b ((1 : Ext))))]) ∧ ∃ g, w' = gr w g := by
  have := e_pow (Ext.base (Ext.a x)) 18446744069414584320 (by omega) (by omega) w; rwa [← Ext.base_pw, show pw (Ext.a x) (18446744069414584320 : Int).toNat = 1 from F.fermat1 _ h, Ext.base_one] at this
def top (x : Ext) : Ext := pw x (P - 1)
theorem p7 (x : Ext) (w : World) : Calls Try.prog 58 #[.agg #[.int .u64 (Zm.i (Ext.a (x))), .int .u64 (Zm.i (Ext.b (x)))], .int .u64 18446744069414584320] w fun e w' => e = .returned (.agg #[.int .u64 (Zm.i (Ext.a (top x))), .int .u64 (Zm.i (Ext.b (top x)))]) ∧ ∃ g, w' = gr w g := by
  exact e_pow x 18446744069414584320 (by omega) (by omega) w
theorem p8 (x : Ext) (h : x ≠ 0) (w : World) : Calls Try.prog 58 #[.agg #[.int .u64 (Zm.i (Ext.a (top x))), .int .u64 (Zm.i (Ext.b (top x)))], .int .u64 18446744069414584322] w fun e w' => e = .returned (.agg #[.int .u64 (Zm.i (Ext.a ((1 : Ext)))), .int .u64 (Zm.i (Ext.b ((1 : Ext))))]) ∧ ∃ g, w' = gr w g := by
  have := e_pow (top x) 18446744069414584322 (by omega) (by omega) w; rwa [show pw (top x) (18446744069414584322 : Int).toNat = 1 from Ext.order x h] at this
set_option maxRecDepth 100000 in
set_option maxHeartbeats 4000000 in
theorem walk (x0a : Int) (x0b : Int) (x1 : Int) (x2 : Int) (h_x0a : In64 x0a) (h_x0b : In64 x0b) (l_x1 : 0 ≤ x1) (u_x1 : x1 ≤ 4294967295) (l_x2 : 0 ≤ x2) (u_x2 : x2 ≤ 4294967295) (w : World) :
    Calls Try.prog 15 #[.agg #[.int .u64 x0a, .int .u64 x0b], .int .u32 x1, .int .u32 x2] w fun e w' => e = .returned (.bool true) ∧ Below w.heap.size w w' := by
  obtain ⟨mm0, mm1⟩ := mul32 x1 x2 l_x1 u_x1 l_x2 u_x2
  refine Calls.mono (R := fun e w' => e = .returned (.bool true) ∧ Gn w w') ?_ (fun e w' h => ⟨h.1, h.2.below⟩)
  go_enter Try.func15, Try.ntmps15
  go_wp2_with fail
  refine (e_sanity _).mono ?_
  rintro e w0 ⟨rfl, k0⟩
  have H0 := (Holds.al (Holds.nil w) (Obj.cells #[.int .u64 x0a, .int .u64 x0b] 42)).up k0
  have G0 := Gn.trans (Gn.al _) k0
  clear k0
  have q0 := obj_cell H0.1 0 rfl
  have q1 := obj_cell H0.1 1 rfl
  have ql := blk_lt H0.1
  go_wp2_with fail
  refine (x_mk _ _ _).mono ?_
  rintro e w1 ⟨rfl, k1⟩
  have H1 := Holds.up k1 H0
  have G1 := Gn.trans G0 k1
  clear k1 H0 G0
  clear q0 q1 ql
  generalize mk x0a x0b = x at *
  go_wp2_with fail
  have H2 := Holds.box H1 x
  have G2 : Gn w (w1.alloc (Obj.cells #[.int .u64 (Zm.i (Ext.a x)), .int .u64 (Zm.i (Ext.b x))] 42)) := Gn.trans G1 (Gn.al _)
  generalize w1.alloc (Obj.cells #[.int .u64 (Zm.i (Ext.a x)), .int .u64 (Zm.i (Ext.b x))] 42) = w2 at H2 G2 ⊢
  clear H1 G1
  obtain ⟨ra0, rb0, rl0⟩ := open_box H2.1
  try simp only [List.append_eq, List.cons_append, List.nil_append]
  refine wp_region_flow 10 (by kernel_rfl) (by kernel_rfl) ?_
  refine flow_one rfl (by simp) ?_
  go_big_quiet_step (fail)
  refine wpQuiet_nil ?_
  refine flow_one rfl (by simp) ?_
  go_big_quiet_step (fail)
  refine wpQuiet_nil ?_
  refine flow_one rfl (by simp) ?_
  go_big_quiet_step (fail)
  refine wpQuiet_nil ?_
  apply flow_is
  · simp
  · intro g K hK
    go_wp2_with fail
    refine (e_pow x x1 (by omega) (by omega) _).mono ?_
    rintro e w' ⟨rfl, g', rfl⟩
    go_wp2_with fail
    exact hK _ (up_comp g g')
  · rfl
  refine flow_one rfl (by simp) ?_
  go_big_quiet_step (fail)
  refine wpQuiet_nil ?_
  refine flow_one rfl (by simp) ?_
  go_big_quiet_step (fail)
  refine wpQuiet_nil ?_
  refine flow_one rfl (by simp) ?_
  go_big_quiet_step (fail)
  refine wpQuiet_nil ?_
  apply flow_is
  · simp
  · intro g K hK
    go_wp2_with fail
    refine (e_pow x x2 (by omega) (by omega) _).mono ?_
    rintro e w' ⟨rfl, g', rfl⟩
    go_wp2_with fail
    exact hK _ (up_comp g g')
  · rfl
  refine flow_ex newBox rfl (ex_alloc _ _ _ _) ?_
  refine flow_ex newBox rfl (ex_alloc _ _ _ _) ?_
  intro V N X hΓ hdis g hX
  obtain ⟨b1, b2, ⟨v1, v2⟩, ne12, n1, n2, z1, z2⟩ := end_boxes2 hΓ hdis hX 9 10 (by simp) (by simp) (by decide)
  have J : Gn w2 (gr w2 g) := ⟨g, rfl⟩
  clear hΓ hdis hX
  generalize gr w2 g = wm at *
  conv => arg 5; simp only [fill, v1, v2, Act.put, List.setIfInBounds_toArray, List.set_cons_succ, List.set_cons_zero]
  clear v1 v2
  refine tail_store (b := b1) (x := pw x x1.toNat) rfl rfl (z1) ?_
  refine tail_store (b := b2) (x := pw x x2.toNat) rfl rfl (set2_keep _ (z2) (by omega)) ?_
  refine wpList_nil ?_
  have f1 : (Fact.box b1 (pw x x1.toNat)).At (set2 (set2 (wm) b1 (pw x x1.toNat)) b2 (pw x x2.toNat)) := set2_keep _ (set2_same (z1) _) (by omega)
  have f2 : (Fact.box b2 (pw x x2.toNat)).At (set2 (set2 (wm) b1 (pw x x1.toNat)) b2 (pw x x2.toNat)) := set2_same (set2_keep _ (z2) (by omega)) _
  have JJ : Gn w2 (set2 (set2 (wm) b1 (pw x x1.toNat)) b2 (pw x x2.toNat)) := (set2_below ((set2_below (J) n1 _)) n2 _)
  generalize set2 (set2 (wm) b1 (pw x x1.toNat)) b2 (pw x x2.toNat) = w3 at f1 f2 JJ ⊢
  have G3 := Gn.trans G2 JJ
  have H3 : Holds w3 (.box b1 (pw x x1.toNat) :: .box b2 (pw x x2.toNat) :: _) := ⟨f1, f2, Holds.up JJ H2⟩
  clear f1 z1 n1 f2 z2 n2 J JJ G2 H2
  clear ra0 rb0 rl0
  obtain ⟨ra0, rb0, rl0⟩ := open_box H3.1
  obtain ⟨ra1, rb1, rl1⟩ := open_box H3.2.1
  obtain ⟨ra2, rb2, rl2⟩ := open_box H3.2.2.1
  go_wp2_with fail
  try simp only [List.append_eq, List.cons_append, List.nil_append]
  refine wp_region_gr (by kernel_rfl) (lex_of_chk (by kernel_rfl) (by kernel_rfl)) ?_
  repeat (go_big_quiet_step ((first
    | (go_at_call 52; with_reducible apply qg (p1 x x1 x2 l_x1 l_x2 _); rfl)
    | (go_at_call 58; with_reducible apply qg (p2 x x1 x2 l_x1 l_x2 u_x2 _); rfl)
    | (go_at_call 58; with_reducible apply qg (e_pow x (x1 + x2) (by omega) (by omega) _); rfl)
    | (go_at_call 58; with_reducible apply qg (e_pow x (x1 * x2) mm0 mm1 _); rfl)
    | (go_at_call 58; with_reducible apply qg (p4 x _); rfl)
    | (go_at_call 58; with_reducible apply qg (p5 x _); rfl)
    | (go_at_call 52; with_reducible apply qg (e_mul _ _ _); rfl)
    | (go_at_call 46; with_reducible apply qg (e_add _ _ _); rfl)
    | (go_at_call 48; with_reducible apply qg (e_sub _ _ _); rfl)
    | (go_at_call 50; with_reducible apply qg (e_neg _ _); rfl)
    | (go_at_call 56; with_reducible apply qg (e_conj _ _); rfl)
    | (go_at_call 62; with_reducible apply qg (e_fromBase _ _); rfl)
    | (go_at_call 60; with_reducible apply qg (e_isZero _ _); rfl)
    | (go_at_call 54; with_reducible apply qg (e_mulBase _ _ _); rfl)
    | (go_at_call 36; with_reducible apply qa (f_mul _ _ _); rfl)
    | (go_at_call 30; with_reducible apply qa (f_add _ _ _); rfl)
    | (go_at_call 67; with_reducible apply qg (o_prime _); rfl)
    | (go_at_call 66; with_reducible apply qg (o_one _); rfl)
    | (go_at_call 66; with_reducible apply qg (o_of _ _ _); rfl))))
  refine wpQuiet_nil ?_
  intro w4 k4
  have G4 := Gn.trans G3 k4
  have H4 := Holds.up k4 H3
  clear k4 G3 H3
  clear ra0 rb0 rl0 ra1 rb1 rl1 ra2 rb2 rl2
  rcases zcase x with ⟨hx, z1, z2⟩ | hx
  · have HX := Lib.hid hx; clear hx
    obtain ⟨ra2, rb2, rl2⟩ := open_box H4.2.2.1
    go_wp2_with fail
    refine (isz x HX.out _).mono ?_
    rintro e w5 ⟨rfl, k5⟩
    have H5 := Holds.up k5 H4
    have G5 := Gn.trans G4 k5
    clear k5 H4 G4
    clear ra2 rb2 rl2
    go_wp2_with fail
    go_ret
    exact ⟨rfl, G5⟩
  · rcases hx with ⟨hx, z1, z2⟩ | ⟨hx, z1, z2⟩
    · have HX := Lib.hid hx; clear hx
      have ha : Ext.a x ≠ 0 := fun h => by rw [h] at z1; exact absurd z1 (by decide)
      have HA := Lib.hid ha; clear ha
      obtain ⟨ra2, rb2, rl2⟩ := open_box H4.2.2.1
      go_wp2_with fail
      refine (isn x HX.out _).mono ?_
      rintro e w5 ⟨rfl, k5⟩
      have H5 := Holds.up k5 H4
      have G5 := Gn.trans G4 k5
      clear k5 H4 G4
      clear ra2 rb2 rl2
      obtain ⟨ra2, rb2, rl2⟩ := open_box H5.2.2.1
      go_wp2_with fail
      refine (o_of _ _ _).mono ?_
      rintro e w6 ⟨rfl, k6⟩
      have H6 := Holds.up k6 H5
      have G6 := Gn.trans G5 k6
      clear k6 H5 G5
      clear ra2 rb2 rl2
      go_wp2_with fail
      refine (o_prime _).mono ?_
      rintro e w7 ⟨rfl, k7⟩
      have H7 := Holds.up k7 H6
      have G7 := Gn.trans G6 k7
      clear k7 H6 G6
      go_wp2_with fail
      refine (p6 x HA.out _).mono ?_
      rintro e w8 ⟨rfl, k8⟩
      have H8 := Holds.up k8 H7
      have G8 := Gn.trans G7 k8
      clear k8 H7 G7
      go_wp2_with fail
      refine (o_one _).mono ?_
      rintro e w9 ⟨rfl, k9⟩
      have H9 := Holds.up k9 H8
      have G9 := Gn.trans G8 k9
      clear k9 H8 G8
      obtain ⟨ra2, rb2, rl2⟩ := open_box H9.2.2.1
      go_wp2_with fail
      try simp only [List.append_eq, List.cons_append, List.nil_append]
      refine wp_region_gr (by kernel_rfl) (lex_of_chk (by kernel_rfl) (by kernel_rfl)) ?_
      repeat (go_big_quiet_step ((first
        | (go_at_call 58; with_reducible apply qg (p8 x HX.out _); rfl)
        | (go_at_call 58; with_reducible apply qg (p7 x _); rfl)
        | (go_at_call 52; with_reducible apply qg (e_mul _ _ _); rfl)
        | (go_at_call 46; with_reducible apply qg (e_add _ _ _); rfl)
        | (go_at_call 48; with_reducible apply qg (e_sub _ _ _); rfl)
        | (go_at_call 50; with_reducible apply qg (e_neg _ _); rfl)
        | (go_at_call 56; with_reducible apply qg (e_conj _ _); rfl)
        | (go_at_call 62; with_reducible apply qg (e_fromBase _ _); rfl)
        | (go_at_call 60; with_reducible apply qg (e_isZero _ _); rfl)
        | (go_at_call 54; with_reducible apply qg (e_mulBase _ _ _); rfl)
        | (go_at_call 36; with_reducible apply qa (f_mul _ _ _); rfl)
        | (go_at_call 30; with_reducible apply qa (f_add _ _ _); rfl)
        | (go_at_call 67; with_reducible apply qg (o_prime _); rfl)
        | (go_at_call 66; with_reducible apply qg (o_one _); rfl)
        | (go_at_call 66; with_reducible apply qg (o_of _ _ _); rfl))))
      refine wpQuiet_nil ?_
      intro w10 k10
      have G10 := Gn.trans G9 k10
      have H10 := Holds.up k10 H9
      clear k10 G9 H9
      clear ra2 rb2 rl2
      go_wp2_with fail
      go_ret
      exact ⟨rfl, G10⟩
    · have HX := Lib.hid hx; clear hx
      obtain ⟨ra2, rb2, rl2⟩ := open_box H4.2.2.1
      go_wp2_with fail
      refine (isn x HX.out _).mono ?_
      rintro e w5 ⟨rfl, k5⟩
      have H5 := Holds.up k5 H4
      have G5 := Gn.trans G4 k5
      clear k5 H4 G4
      clear ra2 rb2 rl2
      obtain ⟨ra2, rb2, rl2⟩ := open_box H5.2.2.1
      go_wp2_with fail
      try simp only [List.append_eq, List.cons_append, List.nil_append]
      refine wp_region_gr (by kernel_rfl) (lex_of_chk (by kernel_rfl) (by kernel_rfl)) ?_
      repeat (go_big_quiet_step ((first
        | (go_at_call 58; with_reducible apply qg (p8 x HX.out _); rfl)
        | (go_at_call 58; with_reducible apply qg (p7 x _); rfl)
        | (go_at_call 52; with_reducible apply qg (e_mul _ _ _); rfl)
        | (go_at_call 46; with_reducible apply qg (e_add _ _ _); rfl)
        | (go_at_call 48; with_reducible apply qg (e_sub _ _ _); rfl)
        | (go_at_call 50; with_reducible apply qg (e_neg _ _); rfl)
        | (go_at_call 56; with_reducible apply qg (e_conj _ _); rfl)
        | (go_at_call 62; with_reducible apply qg (e_fromBase _ _); rfl)
        | (go_at_call 60; with_reducible apply qg (e_isZero _ _); rfl)
        | (go_at_call 54; with_reducible apply qg (e_mulBase _ _ _); rfl)
        | (go_at_call 36; with_reducible apply qa (f_mul _ _ _); rfl)
        | (go_at_call 30; with_reducible apply qa (f_add _ _ _); rfl)
        | (go_at_call 67; with_reducible apply qg (o_prime _); rfl)
        | (go_at_call 66; with_reducible apply qg (o_one _); rfl)
        | (go_at_call 66; with_reducible apply qg (o_of _ _ _); rfl))))
      refine wpQuiet_nil ?_
      intro w6 k6
      have G6 := Gn.trans G5 k6
      have H6 := Holds.up k6 H5
      clear k6 G5 H5
      clear ra2 rb2 rl2
      go_wp2_with fail
      go_ret
      exact ⟨rfl, G6⟩

set_option linter.unusedVariables false in
set_option maxRecDepth 100000 in
set_option maxHeartbeats 1000000 in
theorem lifted (os : Os) (started : os.Started) (H : Type) (enc : TypeId × Value → H) :
    ReturnsInHanded {} Try.checked os 15 .any (Rows.extPowersSpec.pre6 enc Try.prog Try.f15 Rows.extPowersRow.domain false) (Rows.extPowersSpec.post enc Try.prog Try.f15 false true false false) := by
  refine returnsInHanded_of_change (C := Try.checked) own started (by kernel_rfl) Try.func15
    (ChangeSpec.witness6 (enc := enc) (C := Try.checked) false ⟨#[], #[.agg #[.int .u64 0, .int .u64 0], .int .u32 0, .int .u32 0], []⟩ 8 (by kernel_rfl) (by kernel_rfl) (by kernel_rfl) (by kernel_rfl)) ?_
  intro W base args ds gs before hval0 hW _ _
  have hval : ∀ (j : Nat) t v, Try.f15.params[j]? = some t → args[j]? = some v → Value.okWide Try.prog W .any base t v := hval0
  have hW' : DataW.Whole enc Try.prog Try.f15.params.toList Rows.extPowersSpec.vars false W args.toList ds gs before := hW
  obtain ⟨p, q, hA0, hV, rfl, hfz, hnd⟩ := hW
  have hA : DataW.TrodAll enc Try.prog W 0 (fun _ => true) true Try.f15.params.toList args.toList ds p := hA0
  rw [Try.params15] at hA hval
  obtain ⟨v0, vs0, d0, ds0, p0, q0, hargs, rfl, rfl, h0, r0⟩ := trodAll_cons hA
  obtain ⟨v1, vs1, d1, ds1, p1, q1, rfl, rfl, rfl, h1, r1⟩ := trodAll_cons r0
  obtain ⟨v2, vs2, d2, ds2, p2, q2, rfl, rfl, rfl, h2, r2⟩ := trodAll_cons r1
  obtain ⟨rfl, rfl, rfl⟩ := trodAll_nil r2
  obtain rfl : args = #[v0, v1, v2] := by cases args; simp_all
  obtain ⟨rfl, rfl⟩ := trodVars_none hV
  obtain ⟨zs0, hlen0, rfl, hz0⟩ := aggs_open (k := .u64) (ts := [22, 22]) (n := 2) (by kernel_rfl) (by kernel_rfl) (by kernel_rfl) (by kernel_rfl) (hval 0 42 v0 rfl rfl)
  obtain ⟨x0a, x0b, rfl⟩ := list2 zs0 hlen0
  obtain ⟨x1, rfl, hz1⟩ := int_open Try.underlying37 (hval 1 37 v1 rfl rfl)
  obtain ⟨x2, rfl, hz2⟩ := int_open Try.underlying37 (hval 2 37 v2 rfl rfl)
  refine (walk x0a x0b x1 x2 ⟨(has_u64 (hz0 x0a (by simp))).1, (has_u64 (hz0 x0a (by simp))).2⟩ ⟨(has_u64 (hz0 x0b (by simp))).1, (has_u64 (hz0 x0b (by simp))).2⟩ (by have := has_u32 hz1; omega) (by have := has_u32 hz1; omega) (by have := has_u32 hz2; omega) (by have := has_u32 hz2; omega) W).mono fun e W' ⟨he, bel⟩ => ?_
  subst he
  exact ⟨_, rfl, law_post laidOut hW' rfl (by kernel_rfl) rfl Try.underlying4 rfl bel⟩

theorem proved : Rows.ExtPowersSaid :=
  OpenClaim.holds_of_wide 15 Try.f15 rfl rfl rfl rfl rfl rfl rfl ⟨rfl, rfl, rfl, rfl, rfl⟩ rfl rfl rfl rfl rfl (by kernel_rfl) Try.func15 (by kernel_rfl)
    (of_decide_eq_true (by kernel_rfl)) (by unfold Func.isWrapper; first | (rw [if_pos (by decide +kernel)]; kernel_rfl) | (rw [if_neg (by decide +kernel)]; exact ⟨rfl, rfl⟩))
    (fun os started H enc _ => lifted os started H enc)
end Go.Proofs.Ytfebohbhahaopaa.lawExtPowers
