/- ExtConjugation: for every two pairs of numbers of 64 bits the law on conjugation returns true; no conditions. -/
import Derived.Test.YtfebohbhahaopaaFrm
import Derived.Test.YtfebohbhahaopaaEs
import Derived.Test.YtfebohbhahaopaaSt
namespace Go.Proofs.Ytfebohbhahaopaa.lawExtConjugation
open Go.ChangeShapes Go.WideShapes Go.ChangeAt Go.RowKit Att Att.CRing
theorem o_one  (w : World) : Calls Try.prog 66 #[.int .u64 1, .int .u64 0] w fun e w' => e = .returned (.agg #[.int .u64 (Zm.i (Ext.a ((1 : Ext)))), .int .u64 (Zm.i (Ext.b ((1 : Ext))))]) ∧ ∃ g, w' = gr w g := by
  exact o_of 1 0 w
theorem ez : (Zm.i (Ext.a 0) == 0) = true ∧ (Zm.i (Ext.b 0) == 0) = true := ⟨rfl, rfl⟩
theorem is_z {x : Ext} : x = 0 ↔ x.a.i = 0 ∧ x.b.i = 0 := by
  constructor
  · rintro rfl; exact ⟨rfl, rfl⟩
  · rintro ⟨h, k⟩; exact Ext.ext (i_inj h) (i_inj k)
theorem zcase (x : Ext) : (x = 0 ∧ (Zm.i (Ext.a x) == 0) = true ∧ (Zm.i (Ext.b x) == 0) = true) ∨ (x ≠ 0 ∧ (Zm.i (Ext.a x) == 0) = false ∧ True) ∨ (x ≠ 0 ∧ (Zm.i (Ext.a x) == 0) = true ∧ (Zm.i (Ext.b x) == 0) = false) := by
  by_cases h1 : x.a.i = 0
  · by_cases h2 : x.b.i = 0
    · exact .inl ⟨is_z.2 ⟨h1, h2⟩, by simp [h1], by simp [h2]⟩
    · exact .inr (.inr ⟨fun h => h2 (is_z.1 h).2, by simp [h1], by simp [h2]⟩)
  · exact .inr (.inl ⟨fun h => h1 (is_z.1 h).1, by simp [h1], trivial⟩)
theorem isz (x : Ext) (h : x = 0) (w : World) : Calls Try.prog 60 #[.agg #[.int .u64 (Zm.i (Ext.a (x))), .int .u64 (Zm.i (Ext.b (x)))]] w fun e w' => e = .returned (.bool true) ∧ ∃ g, w' = gr w g := by
  have := e_isZero x w; rwa [decide_eq_true h] at this
theorem isn (x : Ext) (h : x ≠ 0) (w : World) : Calls Try.prog 60 #[.agg #[.int .u64 (Zm.i (Ext.a (x))), .int .u64 (Zm.i (Ext.b (x)))]] w fun e w' => e = .returned (.bool false) ∧ ∃ g, w' = gr w g := by
  have := e_isZero x w; rwa [decide_eq_false h] at this
theorem i1 (a b : Ext) (w : World) : Calls Try.prog 46 #[.agg #[.int .u64 (Zm.i (Ext.a (Ext.conj a))), .int .u64 (Zm.i (Ext.b (Ext.conj a)))], .agg #[.int .u64 (Zm.i (Ext.a (Ext.conj b))), .int .u64 (Zm.i (Ext.b (Ext.conj b)))]] w fun e w' => e = .returned (.agg #[.int .u64 (Zm.i (Ext.a (Ext.conj (a + b)))), .int .u64 (Zm.i (Ext.b (Ext.conj (a + b))))]) ∧ ∃ g, w' = gr w g := by
  have := e_add (Ext.conj a) (Ext.conj b) w; rwa [← Ext.conj_add] at this
theorem i2 (a b : Ext) (w : World) : Calls Try.prog 52 #[.agg #[.int .u64 (Zm.i (Ext.a (Ext.conj a))), .int .u64 (Zm.i (Ext.b (Ext.conj a)))], .agg #[.int .u64 (Zm.i (Ext.a (Ext.conj b))), .int .u64 (Zm.i (Ext.b (Ext.conj b)))]] w fun e w' => e = .returned (.agg #[.int .u64 (Zm.i (Ext.a (Ext.conj (a * b)))), .int .u64 (Zm.i (Ext.b (Ext.conj (a * b))))]) ∧ ∃ g, w' = gr w g := by
  have := e_mul (Ext.conj a) (Ext.conj b) w; rwa [← Ext.conj_mul] at this
theorem i3 (a : Ext) (w : World) : Calls Try.prog 56 #[.agg #[.int .u64 (Zm.i (Ext.a (Ext.conj a))), .int .u64 (Zm.i (Ext.b (Ext.conj a)))]] w fun e w' => e = .returned (.agg #[.int .u64 (Zm.i (Ext.a (a))), .int .u64 (Zm.i (Ext.b (a)))]) ∧ ∃ g, w' = gr w g := by
  have := e_conj (Ext.conj a) w; rwa [Ext.conj_conj] at this
theorem i4 (a : Ext) (w : World) : Calls Try.prog 58 #[.agg #[.int .u64 (Zm.i (Ext.a (a))), .int .u64 (Zm.i (Ext.b (a)))], .int .u64 18446744069414584321] w fun e w' => e = .returned (.agg #[.int .u64 (Zm.i (Ext.a (Ext.conj a))), .int .u64 (Zm.i (Ext.b (Ext.conj a)))]) ∧ ∃ g, w' = gr w g := by
  have := e_pow a 18446744069414584321 (by omega) (by omega) w; rwa [show pw a (18446744069414584321 : Int).toNat = Ext.conj a from Ext.frob a] at this
theorem k1 (a : Ext) : (Zm.i (Ext.a (Ext.conj a)) == Zm.i (Ext.a a)) = true := by simp [Ext.conj]
theorem neg_self (x : F) (h : -x = x) : x = 0 := by
  have e : x + x = 0 := by conv => lhs; rhs; rw [← h]
                           exact add_neg x
  have e2 : (1 + 1) * x = 0 := by rw [add_mul, one_mul]; exact e
  rcases mul_eq_zero.1 e2 with h | h
  · exact absurd h (by decide)
  · exact h
theorem k2 (a : Ext) (h : Ext.b a = 0) : (Zm.i (Ext.b (Ext.conj a)) == Zm.i (Ext.b a)) = true ∧ (Zm.i (Ext.b a) == 0) = true := by
  constructor
  · show (Zm.i (-Ext.b a) == Zm.i (Ext.b a)) = true
    rw [h]; rfl
  · rw [h]; rfl
theorem k3 (a : Ext) (h : Ext.b a ≠ 0) : (Zm.i (Ext.b (Ext.conj a)) == Zm.i (Ext.b a)) = false ∧ (Zm.i (Ext.b a) == 0) = false := by
  constructor
  · show (Zm.i (-Ext.b a) == Zm.i (Ext.b a)) = false
    rw [beq_eq_false_iff_ne]
    intro e
    exact h (neg_self _ (i_inj e))
  · rw [beq_eq_false_iff_ne]
    intro e
    exact h (i_inj e)
theorem k4 (a : Ext) : (Zm.i (Ext.b (a + Ext.conj a)) == 0) = true := by
  have e : Ext.b (a + Ext.conj a) = 0 := add_neg _
  rw [e]; rfl
theorem k5 (a : Ext) : (Zm.i (Ext.b (a * Ext.conj a)) == 0) = true := by
  have e : Ext.b (a * Ext.conj a) = 0 := congrArg Ext.b (Ext.mul_conj a)
  rw [e]; rfl
set_option maxRecDepth 100000 in
set_option maxHeartbeats 4000000 in
theorem walk (x0a : Int) (x0b : Int) (x0c : Int) (x0d : Int) (h_x0a : In64 x0a) (h_x0b : In64 x0b) (h_x0c : In64 x0c) (h_x0d : In64 x0d) (w : World) :
    Calls Try.prog 14 #[.agg #[.int .u64 x0a, .int .u64 x0b, .int .u64 x0c, .int .u64 x0d]] w fun e w' => e = .returned (.bool true) ∧ Below w.heap.size w w' := by
  refine Calls.mono (R := fun e w' => e = .returned (.bool true) ∧ Gn w w') ?_ (fun e w' h => ⟨h.1, h.2.below⟩)
  go_enter Try.func14, Try.ntmps14
  go_wp2_with fail
  refine (e_sanity _).mono ?_
  rintro e w0 ⟨rfl, k0⟩
  have H0 := (Holds.al (Holds.nil w) (Obj.cells #[.int .u64 x0a, .int .u64 x0b, .int .u64 x0c, .int .u64 x0d] 43)).up k0
  have G0 := Gn.trans (Gn.al _) k0
  clear k0
  have q0 := obj_cell H0.1 0 rfl
  have q1 := obj_cell H0.1 1 rfl
  have q2 := obj_cell H0.1 2 rfl
  have q3 := obj_cell H0.1 3 rfl
  have ql := blk_lt H0.1
  go_wp2_with fail
  try simp only [List.append_eq, List.cons_append, List.nil_append]
  refine wp_region_flow 8 (by kernel_rfl) (by kernel_rfl) ?_
  refine flow_one rfl (by simp) ?_
  go_big_quiet_step (fail)
  refine wpQuiet_nil ?_
  refine flow_one rfl (by simp) ?_
  go_big_quiet_step (fail)
  refine wpQuiet_nil ?_
  apply flow_is
  · simp
  · intro g K hK
    go_wp2_with fail
    refine (x_mk _ _ _).mono ?_
    rintro e w' ⟨rfl, g', rfl⟩
    go_wp2_with fail
    exact hK _ (up_comp g g')
  · rfl
  refine flow_one rfl (by simp) ?_
  go_big_quiet_step (fail)
  refine wpQuiet_nil ?_
  refine flow_one rfl (by simp) ?_
  go_big_quiet_step (fail)
  refine wpQuiet_nil ?_
  apply flow_is
  · simp
  · intro g K hK
    go_wp2_with fail
    refine (x_mk _ _ _).mono ?_
    rintro e w' ⟨rfl, g', rfl⟩
    go_wp2_with fail
    exact hK _ (up_comp g g')
  · rfl
  refine flow_ex newBox rfl (ex_alloc _ _ _ _) ?_
  refine flow_ex newBox rfl (ex_alloc _ _ _ _) ?_
  intro V N X hΓ hdis g hX
  obtain ⟨b1, b2, ⟨v1, v2⟩, ne12, n1, n2, z1, z2⟩ := end_boxes2 hΓ hdis hX 4 5 (by simp) (by simp) (by decide)
  have J : Gn w0 (gr w0 g) := ⟨g, rfl⟩
  clear hΓ hdis hX
  generalize gr w0 g = wm at *
  conv => arg 5; simp only [fill, v1, v2, Act.put, List.setIfInBounds_toArray, List.set_cons_succ, List.set_cons_zero]
  clear v1 v2
  refine tail_store (b := b1) (x := mk x0a x0b) rfl rfl (z1) ?_
  refine tail_store (b := b2) (x := mk x0c x0d) rfl rfl (set2_keep _ (z2) (by omega)) ?_
  refine wpList_nil ?_
  have f1 : (Fact.box b1 (mk x0a x0b)).At (set2 (set2 (wm) b1 (mk x0a x0b)) b2 (mk x0c x0d)) := set2_keep _ (set2_same (z1) _) (by omega)
  have f2 : (Fact.box b2 (mk x0c x0d)).At (set2 (set2 (wm) b1 (mk x0a x0b)) b2 (mk x0c x0d)) := set2_same (set2_keep _ (z2) (by omega)) _
  have JJ : Gn w0 (set2 (set2 (wm) b1 (mk x0a x0b)) b2 (mk x0c x0d)) := (set2_below ((set2_below (J) n1 _)) n2 _)
  generalize set2 (set2 (wm) b1 (mk x0a x0b)) b2 (mk x0c x0d) = w1 at f1 f2 JJ ⊢
  have G1 := Gn.trans G0 JJ
  have H1 : Holds w1 (.box b1 (mk x0a x0b) :: .box b2 (mk x0c x0d) :: _) := ⟨f1, f2, Holds.up JJ H0⟩
  clear f1 z1 n1 f2 z2 n2 J JJ G0 H0
  clear q0 q1 q2 q3 ql
  generalize mk x0a x0b = a at *
  generalize mk x0c x0d = b at *
  have E1 := k1 a
  have E4 := k4 a
  have E5 := k5 a
  by_cases hb : Ext.b a = 0
  · obtain ⟨E2, E3⟩ := k2 a hb
    clear hb
    obtain ⟨ra0, rb0, rl0⟩ := open_box H1.1
    obtain ⟨ra1, rb1, rl1⟩ := open_box H1.2.1
    go_wp2_with fail
    refine (e_conj a _).mono ?_
    rintro e w2 ⟨rfl, k2⟩
    have H2 := Holds.up k2 H1
    have G2 := Gn.trans G1 k2
    clear k2 H1 G1
    clear ra0 rb0 rl0 ra1 rb1 rl1
    go_wp2_with fail
    have H3 := Holds.box H2 (Ext.conj a)
    have G3 : Gn w (w2.alloc (Obj.cells #[.int .u64 (Zm.i (Ext.a (Ext.conj a))), .int .u64 (Zm.i (Ext.b (Ext.conj a)))] 42)) := Gn.trans G2 (Gn.al _)
    generalize w2.alloc (Obj.cells #[.int .u64 (Zm.i (Ext.a (Ext.conj a))), .int .u64 (Zm.i (Ext.b (Ext.conj a)))] 42) = w3 at H3 G3 ⊢
    clear H2 G2
    obtain ⟨ra0, rb0, rl0⟩ := open_box H3.1
    obtain ⟨ra1, rb1, rl1⟩ := open_box H3.2.1
    obtain ⟨ra2, rb2, rl2⟩ := open_box H3.2.2.1
    try simp only [List.append_eq, List.cons_append, List.nil_append]
    refine wp_region_gr (by kernel_rfl) (lex_of_chk (by kernel_rfl) (by kernel_rfl)) ?_
    repeat (go_big_quiet_step ((first
      | (go_at_call 46; with_reducible apply qg (i1 a b _); rfl)
      | (go_at_call 52; with_reducible apply qg (i2 a b _); rfl)
      | (go_at_call 56; with_reducible apply qg (i3 a _); rfl)
      | (go_at_call 58; with_reducible apply qg (i4 a _); rfl)
      | (go_at_call 52; with_reducible apply qg (e_mul _ _ _); rfl)
      | (go_at_call 46; with_reducible apply qg (e_add _ _ _); rfl)
      | (go_at_call 48; with_reducible apply qg (e_sub _ _ _); rfl)
      | (go_at_call 50; with_reducible apply qg (e_neg _ _); rfl)
      | (go_at_call 56; with_reducible apply qg (e_conj _ _); rfl)
      | (go_at_call 62; with_reducible apply qg (e_fromBase _ _); rfl)
      | (go_at_call 60; with_reducible apply qg (e_isZero _ _); rfl)
      | (go_at_call 54; with_reducible apply qg (e_mulBase _ _ _); rfl)
      | (go_at_call 36; with_reducible apply qa (f_mul _ _ _); rfl)
      | (go_at_call 30; with_reducible apply qa (f_add _ _ _); rfl)
      | (go_at_call 67; with_reducible apply qg (o_prime _); rfl)
      | (go_at_call 66; with_reducible apply qg (o_one _); rfl)
      | (go_at_call 66; with_reducible apply qg (o_of _ _ _); rfl))))
    refine wpQuiet_nil ?_
    intro w4 k4
    have G4 := Gn.trans G3 k4
    have H4 := Holds.up k4 H3
    clear k4 G3 H3
    clear ra0 rb0 rl0 ra1 rb1 rl1 ra2 rb2 rl2
    obtain ⟨ra0, rb0, rl0⟩ := open_box H4.1
    obtain ⟨ra1, rb1, rl1⟩ := open_box H4.2.1
    obtain ⟨ra2, rb2, rl2⟩ := open_box H4.2.2.1
    go_wp2_with fail
    try simp only [List.append_eq, List.cons_append, List.nil_append]
    refine wp_region_gr (by kernel_rfl) (lex_of_chk (by kernel_rfl) (by kernel_rfl)) ?_
    repeat (go_big_quiet_step ((first
      | (go_at_call 46; with_reducible apply qg (i1 a b _); rfl)
      | (go_at_call 52; with_reducible apply qg (i2 a b _); rfl)
      | (go_at_call 56; with_reducible apply qg (i3 a _); rfl)
      | (go_at_call 58; with_reducible apply qg (i4 a _); rfl)
      | (go_at_call 52; with_reducible apply qg (e_mul _ _ _); rfl)
      | (go_at_call 46; with_reducible apply qg (e_add _ _ _); rfl)
      | (go_at_call 48; with_reducible apply qg (e_sub _ _ _); rfl)
      | (go_at_call 50; with_reducible apply qg (e_neg _ _); rfl)
      | (go_at_call 56; with_reducible apply qg (e_conj _ _); rfl)
      | (go_at_call 62; with_reducible apply qg (e_fromBase _ _); rfl)
      | (go_at_call 60; with_reducible apply qg (e_isZero _ _); rfl)
      | (go_at_call 54; with_reducible apply qg (e_mulBase _ _ _); rfl)
      | (go_at_call 36; with_reducible apply qa (f_mul _ _ _); rfl)
      | (go_at_call 30; with_reducible apply qa (f_add _ _ _); rfl)
      | (go_at_call 67; with_reducible apply qg (o_prime _); rfl)
      | (go_at_call 66; with_reducible apply qg (o_one _); rfl)
      | (go_at_call 66; with_reducible apply qg (o_of _ _ _); rfl))))
    refine wpQuiet_nil ?_
    intro w5 k5
    have G5 := Gn.trans G4 k5
    have H5 := Holds.up k5 H4
    clear k5 G4 H4
    go_wp2_with fail
    go_ret
    exact ⟨rfl, G5⟩
  · obtain ⟨E2, E3⟩ := k3 a hb
    clear hb
    obtain ⟨ra0, rb0, rl0⟩ := open_box H1.1
    obtain ⟨ra1, rb1, rl1⟩ := open_box H1.2.1
    go_wp2_with fail
    refine (e_conj a _).mono ?_
    rintro e w2 ⟨rfl, k2⟩
    have H2 := Holds.up k2 H1
    have G2 := Gn.trans G1 k2
    clear k2 H1 G1
    clear ra0 rb0 rl0 ra1 rb1 rl1
    go_wp2_with fail
    have H3 := Holds.box H2 (Ext.conj a)
    have G3 : Gn w (w2.alloc (Obj.cells #[.int .u64 (Zm.i (Ext.a (Ext.conj a))), .int .u64 (Zm.i (Ext.b (Ext.conj a)))] 42)) := Gn.trans G2 (Gn.al _)
    generalize w2.alloc (Obj.cells #[.int .u64 (Zm.i (Ext.a (Ext.conj a))), .int .u64 (Zm.i (Ext.b (Ext.conj a)))] 42) = w3 at H3 G3 ⊢
    clear H2 G2
    obtain ⟨ra0, rb0, rl0⟩ := open_box H3.1
    obtain ⟨ra1, rb1, rl1⟩ := open_box H3.2.1
    obtain ⟨ra2, rb2, rl2⟩ := open_box H3.2.2.1
    try simp only [List.append_eq, List.cons_append, List.nil_append]
    refine wp_region_gr (by kernel_rfl) (lex_of_chk (by kernel_rfl) (by kernel_rfl)) ?_
    repeat (go_big_quiet_step ((first
      | (go_at_call 46; with_reducible apply qg (i1 a b _); rfl)
      | (go_at_call 52; with_reducible apply qg (i2 a b _); rfl)
      | (go_at_call 56; with_reducible apply qg (i3 a _); rfl)
      | (go_at_call 58; with_reducible apply qg (i4 a _); rfl)
      | (go_at_call 52; with_reducible apply qg (e_mul _ _ _); rfl)
      | (go_at_call 46; with_reducible apply qg (e_add _ _ _); rfl)
      | (go_at_call 48; with_reducible apply qg (e_sub _ _ _); rfl)
      | (go_at_call 50; with_reducible apply qg (e_neg _ _); rfl)
      | (go_at_call 56; with_reducible apply qg (e_conj _ _); rfl)
      | (go_at_call 62; with_reducible apply qg (e_fromBase _ _); rfl)
      | (go_at_call 60; with_reducible apply qg (e_isZero _ _); rfl)
      | (go_at_call 54; with_reducible apply qg (e_mulBase _ _ _); rfl)
      | (go_at_call 36; with_reducible apply qa (f_mul _ _ _); rfl)
      | (go_at_call 30; with_reducible apply qa (f_add _ _ _); rfl)
      | (go_at_call 67; with_reducible apply qg (o_prime _); rfl)
      | (go_at_call 66; with_reducible apply qg (o_one _); rfl)
      | (go_at_call 66; with_reducible apply qg (o_of _ _ _); rfl))))
    refine wpQuiet_nil ?_
    intro w4 k4
    have G4 := Gn.trans G3 k4
    have H4 := Holds.up k4 H3
    clear k4 G3 H3
    clear ra0 rb0 rl0 ra1 rb1 rl1 ra2 rb2 rl2
    obtain ⟨ra0, rb0, rl0⟩ := open_box H4.1
    obtain ⟨ra1, rb1, rl1⟩ := open_box H4.2.1
    obtain ⟨ra2, rb2, rl2⟩ := open_box H4.2.2.1
    go_wp2_with fail
    try simp only [List.append_eq, List.cons_append, List.nil_append]
    refine wp_region_gr (by kernel_rfl) (lex_of_chk (by kernel_rfl) (by kernel_rfl)) ?_
    repeat (go_big_quiet_step ((first
      | (go_at_call 46; with_reducible apply qg (i1 a b _); rfl)
      | (go_at_call 52; with_reducible apply qg (i2 a b _); rfl)
      | (go_at_call 56; with_reducible apply qg (i3 a _); rfl)
      | (go_at_call 58; with_reducible apply qg (i4 a _); rfl)
      | (go_at_call 52; with_reducible apply qg (e_mul _ _ _); rfl)
      | (go_at_call 46; with_reducible apply qg (e_add _ _ _); rfl)
      | (go_at_call 48; with_reducible apply qg (e_sub _ _ _); rfl)
      | (go_at_call 50; with_reducible apply qg (e_neg _ _); rfl)
      | (go_at_call 56; with_reducible apply qg (e_conj _ _); rfl)
      | (go_at_call 62; with_reducible apply qg (e_fromBase _ _); rfl)
      | (go_at_call 60; with_reducible apply qg (e_isZero _ _); rfl)
      | (go_at_call 54; with_reducible apply qg (e_mulBase _ _ _); rfl)
      | (go_at_call 36; with_reducible apply qa (f_mul _ _ _); rfl)
      | (go_at_call 30; with_reducible apply qa (f_add _ _ _); rfl)
      | (go_at_call 67; with_reducible apply qg (o_prime _); rfl)
      | (go_at_call 66; with_reducible apply qg (o_one _); rfl)
      | (go_at_call 66; with_reducible apply qg (o_of _ _ _); rfl))))
    refine wpQuiet_nil ?_
    intro w5 k5
    have G5 := Gn.trans G4 k5
    have H5 := Holds.up k5 H4
    clear k5 G4 H4
    go_wp2_with fail
    go_ret
    exact ⟨rfl, G5⟩

set_option linter.unusedVariables false in
set_option maxRecDepth 100000 in
set_option maxHeartbeats 1000000 in
theorem lifted (os : Os) (started : os.Started) (H : Type) (enc : TypeId × Value → H) :
    ReturnsInHanded {} Try.checked os 14 .any (Rows.extConjugationSpec.pre6 enc Try.prog Try.f14 Rows.extConjugationRow.domain false) (Rows.extConjugationSpec.post enc Try.prog Try.f14 false true false false) := by
  refine returnsInHanded_of_change (C := Try.checked) own started (by kernel_rfl) Try.func14
    (ChangeSpec.witness6 (enc := enc) (C := Try.checked) false ⟨#[], #[.agg #[.int .u64 0, .int .u64 0, .int .u64 0, .int .u64 0]], []⟩ 8 (by kernel_rfl) (by kernel_rfl) (by kernel_rfl) (by kernel_rfl)) ?_
  intro W base args ds gs before hval0 hW _ _
  have hval : ∀ (j : Nat) t v, Try.f14.params[j]? = some t → args[j]? = some v → Value.okWide Try.prog W .any base t v := hval0
  have hW' : DataW.Whole enc Try.prog Try.f14.params.toList Rows.extConjugationSpec.vars false W args.toList ds gs before := hW
  obtain ⟨p, q, hA0, hV, rfl, hfz, hnd⟩ := hW
  have hA : DataW.TrodAll enc Try.prog W 0 (fun _ => true) true Try.f14.params.toList args.toList ds p := hA0
  rw [Try.params14] at hA hval
  obtain ⟨v0, vs0, d0, ds0, p0, q0, hargs, rfl, rfl, h0, r0⟩ := trodAll_cons hA
  obtain ⟨rfl, rfl, rfl⟩ := trodAll_nil r0
  obtain rfl : args = #[v0] := by cases args; simp_all
  obtain ⟨rfl, rfl⟩ := trodVars_none hV
  obtain ⟨zs0, hlen0, rfl, hz0⟩ := aggs_open (k := .u64) (ts := [22, 22, 22, 22]) (n := 4) (by kernel_rfl) (by kernel_rfl) (by kernel_rfl) (by kernel_rfl) (hval 0 43 v0 rfl rfl)
  obtain ⟨x0a, x0b, x0c, x0d, rfl⟩ := list4 zs0 hlen0
  refine (walk x0a x0b x0c x0d ⟨(has_u64 (hz0 x0a (by simp))).1, (has_u64 (hz0 x0a (by simp))).2⟩ ⟨(has_u64 (hz0 x0b (by simp))).1, (has_u64 (hz0 x0b (by simp))).2⟩ ⟨(has_u64 (hz0 x0c (by simp))).1, (has_u64 (hz0 x0c (by simp))).2⟩ ⟨(has_u64 (hz0 x0d (by simp))).1, (has_u64 (hz0 x0d (by simp))).2⟩ W).mono fun e W' ⟨he, bel⟩ => ?_
  subst he
  exact ⟨_, rfl, law_post laidOut hW' rfl (by kernel_rfl) rfl Try.underlying4 rfl bel⟩

theorem proved : Rows.ExtConjugationSaid :=
  OpenClaim.holds_of_wide 14 Try.f14 rfl rfl rfl rfl rfl rfl rfl ⟨rfl, rfl, rfl, rfl, rfl⟩ rfl rfl rfl rfl rfl (by kernel_rfl) Try.func14 (by kernel_rfl)
    (of_decide_eq_true (by kernel_rfl)) (by unfold Func.isWrapper; first | (rw [if_pos (by decide +kernel)]; kernel_rfl) | (rw [if_neg (by decide +kernel)]; exact ⟨rfl, rfl⟩))
    (fun os started H enc _ => lifted os started H enc)
end Go.Proofs.Ytfebohbhahaopaa.lawExtConjugation
