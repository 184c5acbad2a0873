/- ExtInverses: for every two pairs of numbers of 64 bits the law on multiplicative inverses in the extension returns true; no conditions. -/
import Derived.Test.YtfebohbhahaopaaFrm
import Derived.Test.YtfebohbhahaopaaEs
import Derived.Test.YtfebohbhahaopaaSt
namespace Go.Proofs.Ytfebohbhahaopaa.lawExtInverses
open Go.ChangeShapes Go.WideShapes Go.ChangeAt Go.RowKit Att Att.CRing
theorem o_one  (w : World) : Calls Try.prog 66 #[.int .u64 1, .int .u64 0] w fun e w' => e = .returned (.agg #[.int .u64 (Zm.i (Ext.a ((1 : Ext)))), .int .u64 (Zm.i (Ext.b ((1 : Ext))))]) ∧ ∃ g, w' = gr w g := by
  exact o_of 1 0 w
theorem ez : (Zm.i (Ext.a 0) == 0) = true ∧ (Zm.i (Ext.b 0) == 0) = true := ⟨rfl, rfl⟩
theorem is_z {x : Ext} : x = 0 ↔ x.a.i = 0 ∧ x.b.i = 0 := by
  constructor
  · rintro rfl; exact ⟨rfl, rfl⟩
  · rintro ⟨h, k⟩; exact Ext.ext (i_inj h) (i_inj k)
theorem zcase (x : Ext) : (x = 0 ∧ (Zm.i (Ext.a x) == 0) = true ∧ (Zm.i (Ext.b x) == 0) = true) ∨ (x ≠ 0 ∧ (Zm.i (Ext.a x) == 0) = false ∧ True) ∨ (x ≠ 0 ∧ (Zm.i (Ext.a x) == 0) = true ∧ (Zm.i (Ext.b x) == 0) = false) := by
  by_cases h1 : x.a.i = 0
  · by_cases h2 : x.b.i = 0
    · exact .inl ⟨is_z.2 ⟨h1, h2⟩, by simp [h1], by simp [h2]⟩
    · exact .inr (.inr ⟨fun h => h2 (is_z.1 h).2, by simp [h1], by simp [h2]⟩)
  · exact .inr (.inl ⟨fun h => h1 (is_z.1 h).1, by simp [h1], trivial⟩)
theorem isz (x : Ext) (h : x = 0) (w : World) : Calls Try.prog 60 #[.agg #[.int .u64 (Zm.i (Ext.a (x))), .int .u64 (Zm.i (Ext.b (x)))]] w fun e w' => e = .returned (.bool true) ∧ ∃ g, w' = gr w g := by
  have := e_isZero x w; rwa [decide_eq_true h] at this
theorem isn (x : Ext) (h : x ≠ 0) (w : World) : Calls Try.prog 60 #[.agg #[.int .u64 (Zm.i (Ext.a (x))), .int .u64 (Zm.i (Ext.b (x)))]] w fun e w' => e = .returned (.bool false) ∧ ∃ g, w' = gr w g := by
  have := e_isZero x w; rwa [decide_eq_false h] at this
theorem v0 (a : Ext) (h : a = 0) (w : World) : Calls Try.prog 44 #[.agg #[.int .u64 (Zm.i (Ext.a (a))), .int .u64 (Zm.i (Ext.b (a)))]] w fun e w' => e = .returned (.tuple #[.agg #[.int .u64 (Zm.i (Ext.a ((0 : Ext)))), .int .u64 (Zm.i (Ext.b ((0 : Ext))))], .int .i64 3]) ∧ ∃ g, w' = gr w g := by
  subst h; exact e_inv0 w
theorem v2 (a : Ext) (h : a ≠ 0) (w : World) : Calls Try.prog 44 #[.agg #[.int .u64 (Zm.i (Ext.a (Fld.inv a))), .int .u64 (Zm.i (Ext.b (Fld.inv a)))]] w fun e w' => e = .returned (.tuple #[.agg #[.int .u64 (Zm.i (Ext.a (a))), .int .u64 (Zm.i (Ext.b (a)))], .int .i64 0]) ∧ ∃ g, w' = gr w g := by
  have := e_inv (Fld.inv a) (inv_ne_zero h) w; rwa [inv_inv] at this
theorem m1 (a : Ext) (h : a ≠ 0) (w : World) : Calls Try.prog 52 #[.agg #[.int .u64 (Zm.i (Ext.a (a))), .int .u64 (Zm.i (Ext.b (a)))], .agg #[.int .u64 (Zm.i (Ext.a (Fld.inv a))), .int .u64 (Zm.i (Ext.b (Fld.inv a)))]] w fun e w' => e = .returned (.agg #[.int .u64 (Zm.i (Ext.a ((1 : Ext)))), .int .u64 (Zm.i (Ext.b ((1 : Ext))))]) ∧ ∃ g, w' = gr w g := by
  have := e_mul a (Fld.inv a) w; rwa [Fld.mul_inv a h] at this
theorem m2 (a b : Ext) (h : a ≠ 0) (w : World) : Calls Try.prog 52 #[.agg #[.int .u64 (Zm.i (Ext.a (b * a))), .int .u64 (Zm.i (Ext.b (b * a)))], .agg #[.int .u64 (Zm.i (Ext.a (Fld.inv a))), .int .u64 (Zm.i (Ext.b (Fld.inv a)))]] w fun e w' => e = .returned (.agg #[.int .u64 (Zm.i (Ext.a (b))), .int .u64 (Zm.i (Ext.b (b)))]) ∧ ∃ g, w' = gr w g := by
  have := e_mul (b * a) (Fld.inv a) w; rwa [mul_assoc, Fld.mul_inv a h, mul_one] at this
set_option maxRecDepth 100000 in
set_option maxHeartbeats 4000000 in
theorem walk (x0a : Int) (x0b : Int) (x0c : Int) (x0d : Int) (h_x0a : In64 x0a) (h_x0b : In64 x0b) (h_x0c : In64 x0c) (h_x0d : In64 x0d) (w : World) :
    Calls Try.prog 13 #[.agg #[.int .u64 x0a, .int .u64 x0b, .int .u64 x0c, .int .u64 x0d]] w fun e w' => e = .returned (.bool true) ∧ Below w.heap.size w w' := by
  refine Calls.mono (R := fun e w' => e = .returned (.bool true) ∧ Gn w w') ?_ (fun e w' h => ⟨h.1, h.2.below⟩)
  go_enter Try.func13, Try.ntmps13
  go_wp2_with fail
  refine (e_sanity _).mono ?_
  rintro e w0 ⟨rfl, k0⟩
  have H0 := (Holds.al (Holds.nil w) (Obj.cells #[.int .u64 x0a, .int .u64 x0b, .int .u64 x0c, .int .u64 x0d] 43)).up k0
  have G0 := Gn.trans (Gn.al _) k0
  clear k0
  have q0 := obj_cell H0.1 0 rfl
  have q1 := obj_cell H0.1 1 rfl
  have q2 := obj_cell H0.1 2 rfl
  have q3 := obj_cell H0.1 3 rfl
  have ql := blk_lt H0.1
  go_wp2_with fail
  try simp only [List.append_eq, List.cons_append, List.nil_append]
  refine wp_region_flow 8 (by kernel_rfl) (by kernel_rfl) ?_
  refine flow_one rfl (by simp) ?_
  go_big_quiet_step (fail)
  refine wpQuiet_nil ?_
  refine flow_one rfl (by simp) ?_
  go_big_quiet_step (fail)
  refine wpQuiet_nil ?_
  apply flow_is
  · simp
  · intro g K hK
    go_wp2_with fail
    refine (x_mk _ _ _).mono ?_
    rintro e w' ⟨rfl, g', rfl⟩
    go_wp2_with fail
    exact hK _ (up_comp g g')
  · rfl
  refine flow_one rfl (by simp) ?_
  go_big_quiet_step (fail)
  refine wpQuiet_nil ?_
  refine flow_one rfl (by simp) ?_
  go_big_quiet_step (fail)
  refine wpQuiet_nil ?_
  apply flow_is
  · simp
  · intro g K hK
    go_wp2_with fail
    refine (x_mk _ _ _).mono ?_
    rintro e w' ⟨rfl, g', rfl⟩
    go_wp2_with fail
    exact hK _ (up_comp g g')
  · rfl
  refine flow_ex newBox rfl (ex_alloc _ _ _ _) ?_
  refine flow_ex newBox rfl (ex_alloc _ _ _ _) ?_
  intro V N X hΓ hdis g hX
  obtain ⟨b1, b2, ⟨v1, v2⟩, ne12, n1, n2, z1, z2⟩ := end_boxes2 hΓ hdis hX 4 5 (by simp) (by simp) (by decide)
  have J : Gn w0 (gr w0 g) := ⟨g, rfl⟩
  clear hΓ hdis hX
  generalize gr w0 g = wm at *
  conv => arg 5; simp only [fill, v1, v2, Act.put, List.setIfInBounds_toArray, List.set_cons_succ, List.set_cons_zero]
  clear v1 v2
  refine tail_store (b := b1) (x := mk x0a x0b) rfl rfl (z1) ?_
  refine tail_store (b := b2) (x := mk x0c x0d) rfl rfl (set2_keep _ (z2) (by omega)) ?_
  refine wpList_nil ?_
  have f1 : (Fact.box b1 (mk x0a x0b)).At (set2 (set2 (wm) b1 (mk x0a x0b)) b2 (mk x0c x0d)) := set2_keep _ (set2_same (z1) _) (by omega)
  have f2 : (Fact.box b2 (mk x0c x0d)).At (set2 (set2 (wm) b1 (mk x0a x0b)) b2 (mk x0c x0d)) := set2_same (set2_keep _ (z2) (by omega)) _
  have JJ : Gn w0 (set2 (set2 (wm) b1 (mk x0a x0b)) b2 (mk x0c x0d)) := (set2_below ((set2_below (J) n1 _)) n2 _)
  generalize set2 (set2 (wm) b1 (mk x0a x0b)) b2 (mk x0c x0d) = w1 at f1 f2 JJ ⊢
  have G1 := Gn.trans G0 JJ
  have H1 : Holds w1 (.box b1 (mk x0a x0b) :: .box b2 (mk x0c x0d) :: _) := ⟨f1, f2, Holds.up JJ H0⟩
  clear f1 z1 n1 f2 z2 n2 J JJ G0 H0
  clear q0 q1 q2 q3 ql
  generalize mk x0a x0b = a at *
  generalize mk x0c x0d = b at *
  rcases zcase a with ⟨ha, za1, za2⟩ | ha
  · have HA := Lib.hid ha; clear ha
    obtain ⟨ez1, ez2⟩ := ez
    obtain ⟨ra0, rb0, rl0⟩ := open_box H1.1
    obtain ⟨ra1, rb1, rl1⟩ := open_box H1.2.1
    go_wp2_with fail
    refine (v0 a HA.out _).mono ?_
    rintro e w2 ⟨rfl, k2⟩
    have H2 := Holds.up k2 H1
    have G2 := Gn.trans G1 k2
    clear k2 H1 G1
    clear ra0 rb0 rl0 ra1 rb1 rl1
    obtain ⟨ra0, rb0, rl0⟩ := open_box H2.1
    obtain ⟨ra1, rb1, rl1⟩ := open_box H2.2.1
    go_wp2_with fail
    refine (e_mul a b _).mono ?_
    rintro e w3 ⟨rfl, k3⟩
    have H3 := Holds.up k3 (Holds.box H2 0)
    have G3 := Gn.trans (Gn.trans G2 (Gn.al _)) k3
    clear k3 H2 G2
    clear ra0 rb0 rl0 ra1 rb1 rl1
    go_wp2_with fail
    refine (isz (a * b) (by rw [HA.out, zero_mul]) _).mono ?_
    rintro e w4 ⟨rfl, k4⟩
    have H4 := Holds.up k4 H3
    have G4 := Gn.trans G3 k4
    clear k4 H3 G3
    obtain ⟨ra0, rb0, rl0⟩ := open_box H4.1
    go_wp2_with fail
    go_ret
    exact ⟨rfl, G4⟩
  · rcases zcase b with ⟨hb, zb1, zb2⟩ | hb
    · rcases ha with ⟨ha, za1, za2⟩ | ⟨ha, za1, za2⟩
      all_goals
        have HA := Lib.hid ha; clear ha
        have HB := Lib.hid hb; clear hb
        obtain ⟨ra0, rb0, rl0⟩ := open_box H1.1
        obtain ⟨ra1, rb1, rl1⟩ := open_box H1.2.1
        go_wp2_with fail
        refine (e_inv a HA.out _).mono ?_
        rintro e w2 ⟨rfl, k2⟩
        have H2 := Holds.up k2 H1
        have G2 := Gn.trans G1 k2
        clear k2 H1 G1
        clear ra0 rb0 rl0 ra1 rb1 rl1
        obtain ⟨ra0, rb0, rl0⟩ := open_box H2.1
        obtain ⟨ra1, rb1, rl1⟩ := open_box H2.2.1
        go_wp2_with fail
        refine (e_mul a b _).mono ?_
        rintro e w3 ⟨rfl, k3⟩
        have H3 := Holds.up k3 (Holds.box H2 (Fld.inv a))
        have G3 := Gn.trans (Gn.trans G2 (Gn.al _)) k3
        clear k3 H2 G2
        clear ra0 rb0 rl0 ra1 rb1 rl1
        go_wp2_with fail
        refine (isz (a * b) (by rw [HB.out, mul_zero]) _).mono ?_
        rintro e w4 ⟨rfl, k4⟩
        have H4 := Holds.up k4 H3
        have G4 := Gn.trans G3 k4
        clear k4 H3 G3
        obtain ⟨ra0, rb0, rl0⟩ := open_box H4.1
        obtain ⟨ra2, rb2, rl2⟩ := open_box H4.2.2.1
        go_wp2_with fail
        refine (v2 a HA.out _).mono ?_
        rintro e w5 ⟨rfl, k5⟩
        have H5 := Holds.up k5 H4
        have G5 := Gn.trans G4 k5
        clear k5 H4 G4
        clear ra0 rb0 rl0 ra2 rb2 rl2
        go_wp2_with fail
        have H6 := Holds.box H5 a
        have G6 : Gn w (w5.alloc (Obj.cells #[.int .u64 (Zm.i (Ext.a a)), .int .u64 (Zm.i (Ext.b a))] 42)) := Gn.trans G5 (Gn.al _)
        generalize w5.alloc (Obj.cells #[.int .u64 (Zm.i (Ext.a a)), .int .u64 (Zm.i (Ext.b a))] 42) = w6 at H6 G6 ⊢
        clear H5 G5
        obtain ⟨ra0, rb0, rl0⟩ := open_box H6.1
        obtain ⟨ra1, rb1, rl1⟩ := open_box H6.2.1
        obtain ⟨ra2, rb2, rl2⟩ := open_box H6.2.2.1
        obtain ⟨ra3, rb3, rl3⟩ := open_box H6.2.2.2.1
        try simp only [List.append_eq, List.cons_append, List.nil_append]
        refine wp_region_gr (by kernel_rfl) (lex_of_chk (by kernel_rfl) (by kernel_rfl)) ?_
        repeat (go_big_quiet_step ((first
          | (go_at_call 52; with_reducible apply qg (m1 a HA.out _); rfl)
          | (go_at_call 52; with_reducible apply qg (m2 a b HA.out _); rfl)
          | (go_at_call 52; with_reducible apply qg (e_mul _ _ _); rfl)
          | (go_at_call 46; with_reducible apply qg (e_add _ _ _); rfl)
          | (go_at_call 48; with_reducible apply qg (e_sub _ _ _); rfl)
          | (go_at_call 50; with_reducible apply qg (e_neg _ _); rfl)
          | (go_at_call 56; with_reducible apply qg (e_conj _ _); rfl)
          | (go_at_call 62; with_reducible apply qg (e_fromBase _ _); rfl)
          | (go_at_call 60; with_reducible apply qg (e_isZero _ _); rfl)
          | (go_at_call 54; with_reducible apply qg (e_mulBase _ _ _); rfl)
          | (go_at_call 36; with_reducible apply qa (f_mul _ _ _); rfl)
          | (go_at_call 30; with_reducible apply qa (f_add _ _ _); rfl)
          | (go_at_call 67; with_reducible apply qg (o_prime _); rfl)
          | (go_at_call 66; with_reducible apply qg (o_one _); rfl)
          | (go_at_call 66; with_reducible apply qg (o_of _ _ _); rfl))))
        refine wpQuiet_nil ?_
        intro w7 k7
        have G7 := Gn.trans G6 k7
        have H7 := Holds.up k7 H6
        clear k7 G6 H6
        clear ra0 rb0 rl0 ra1 rb1 rl1 ra2 rb2 rl2 ra3 rb3 rl3
        go_wp2_with fail
        go_ret
        exact ⟨rfl, G7⟩
    · rcases ha with ⟨ha, za1, za2⟩ | ⟨ha, za1, za2⟩ <;> rcases hb with ⟨hb, zb1, zb2⟩ | ⟨hb, zb1, zb2⟩
      all_goals
        have HA := Lib.hid ha; clear ha
        have HB := Lib.hid hb; clear hb
        obtain ⟨ra0, rb0, rl0⟩ := open_box H1.1
        obtain ⟨ra1, rb1, rl1⟩ := open_box H1.2.1
        go_wp2_with fail
        refine (e_inv a HA.out _).mono ?_
        rintro e w2 ⟨rfl, k2⟩
        have H2 := Holds.up k2 H1
        have G2 := Gn.trans G1 k2
        clear k2 H1 G1
        clear ra0 rb0 rl0 ra1 rb1 rl1
        obtain ⟨ra0, rb0, rl0⟩ := open_box H2.1
        obtain ⟨ra1, rb1, rl1⟩ := open_box H2.2.1
        go_wp2_with fail
        refine (e_mul a b _).mono ?_
        rintro e w3 ⟨rfl, k3⟩
        have H3 := Holds.up k3 (Holds.box H2 (Fld.inv a))
        have G3 := Gn.trans (Gn.trans G2 (Gn.al _)) k3
        clear k3 H2 G2
        clear ra0 rb0 rl0 ra1 rb1 rl1
        go_wp2_with fail
        refine (isn (a * b) (mul_ne_zero HA.out HB.out) _).mono ?_
        rintro e w4 ⟨rfl, k4⟩
        have H4 := Holds.up k4 H3
        have G4 := Gn.trans G3 k4
        clear k4 H3 G3
        obtain ⟨ra0, rb0, rl0⟩ := open_box H4.1
        obtain ⟨ra2, rb2, rl2⟩ := open_box H4.2.2.1
        go_wp2_with fail
        refine (v2 a HA.out _).mono ?_
        rintro e w5 ⟨rfl, k5⟩
        have H5 := Holds.up k5 H4
        have G5 := Gn.trans G4 k5
        clear k5 H4 G4
        clear ra0 rb0 rl0 ra2 rb2 rl2
        go_wp2_with fail
        have H6 := Holds.box H5 a
        have G6 : Gn w (w5.alloc (Obj.cells #[.int .u64 (Zm.i (Ext.a a)), .int .u64 (Zm.i (Ext.b a))] 42)) := Gn.trans G5 (Gn.al _)
        generalize w5.alloc (Obj.cells #[.int .u64 (Zm.i (Ext.a a)), .int .u64 (Zm.i (Ext.b a))] 42) = w6 at H6 G6 ⊢
        clear H5 G5
        obtain ⟨ra0, rb0, rl0⟩ := open_box H6.1
        obtain ⟨ra1, rb1, rl1⟩ := open_box H6.2.1
        obtain ⟨ra2, rb2, rl2⟩ := open_box H6.2.2.1
        obtain ⟨ra3, rb3, rl3⟩ := open_box H6.2.2.2.1
        try simp only [List.append_eq, List.cons_append, List.nil_append]
        refine wp_region_gr (by kernel_rfl) (lex_of_chk (by kernel_rfl) (by kernel_rfl)) ?_
        repeat (go_big_quiet_step ((first
          | (go_at_call 52; with_reducible apply qg (m1 a HA.out _); rfl)
          | (go_at_call 52; with_reducible apply qg (m2 a b HA.out _); rfl)
          | (go_at_call 52; with_reducible apply qg (e_mul _ _ _); rfl)
          | (go_at_call 46; with_reducible apply qg (e_add _ _ _); rfl)
          | (go_at_call 48; with_reducible apply qg (e_sub _ _ _); rfl)
          | (go_at_call 50; with_reducible apply qg (e_neg _ _); rfl)
          | (go_at_call 56; with_reducible apply qg (e_conj _ _); rfl)
          | (go_at_call 62; with_reducible apply qg (e_fromBase _ _); rfl)
          | (go_at_call 60; with_reducible apply qg (e_isZero _ _); rfl)
          | (go_at_call 54; with_reducible apply qg (e_mulBase _ _ _); rfl)
          | (go_at_call 36; with_reducible apply qa (f_mul _ _ _); rfl)
          | (go_at_call 30; with_reducible apply qa (f_add _ _ _); rfl)
          | (go_at_call 67; with_reducible apply qg (o_prime _); rfl)
          | (go_at_call 66; with_reducible apply qg (o_one _); rfl)
          | (go_at_call 66; with_reducible apply qg (o_of _ _ _); rfl))))
        refine wpQuiet_nil ?_
        intro w7 k7
        have G7 := Gn.trans G6 k7
        have H7 := Holds.up k7 H6
        clear k7 G6 H6
        clear ra0 rb0 rl0 ra1 rb1 rl1 ra2 rb2 rl2 ra3 rb3 rl3
        go_wp2_with fail
        go_ret
        exact ⟨rfl, G7⟩

set_option linter.unusedVariables false in
set_option maxRecDepth 100000 in
set_option maxHeartbeats 1000000 in
theorem lifted (os : Os) (started : os.Started) (H : Type) (enc : TypeId × Value → H) :
    ReturnsInHanded {} Try.checked os 13 .any (Rows.extInversesSpec.pre6 enc Try.prog Try.f13 Rows.extInversesRow.domain false) (Rows.extInversesSpec.post enc Try.prog Try.f13 false true false false) := by
  refine returnsInHanded_of_change (C := Try.checked) own started (by kernel_rfl) Try.func13
    (ChangeSpec.witness6 (enc := enc) (C := Try.checked) false ⟨#[], #[.agg #[.int .u64 0, .int .u64 0, .int .u64 0, .int .u64 0]], []⟩ 8 (by kernel_rfl) (by kernel_rfl) (by kernel_rfl) (by kernel_rfl)) ?_
  intro W base args ds gs before hval0 hW _ _
  have hval : ∀ (j : Nat) t v, Try.f13.params[j]? = some t → args[j]? = some v → Value.okWide Try.prog W .any base t v := hval0
  have hW' : DataW.Whole enc Try.prog Try.f13.params.toList Rows.extInversesSpec.vars false W args.toList ds gs before := hW
  obtain ⟨p, q, hA0, hV, rfl, hfz, hnd⟩ := hW
  have hA : DataW.TrodAll enc Try.prog W 0 (fun _ => true) true Try.f13.params.toList args.toList ds p := hA0
  rw [Try.params13] at hA hval
  obtain ⟨v0, vs0, d0, ds0, p0, q0, hargs, rfl, rfl, h0, r0⟩ := trodAll_cons hA
  obtain ⟨rfl, rfl, rfl⟩ := trodAll_nil r0
  obtain rfl : args = #[v0] := by cases args; simp_all
  obtain ⟨rfl, rfl⟩ := trodVars_none hV
  obtain ⟨zs0, hlen0, rfl, hz0⟩ := aggs_open (k := .u64) (ts := [22, 22, 22, 22]) (n := 4) (by kernel_rfl) (by kernel_rfl) (by kernel_rfl) (by kernel_rfl) (hval 0 43 v0 rfl rfl)
  obtain ⟨x0a, x0b, x0c, x0d, rfl⟩ := list4 zs0 hlen0
  refine (walk x0a x0b x0c x0d ⟨(has_u64 (hz0 x0a (by simp))).1, (has_u64 (hz0 x0a (by simp))).2⟩ ⟨(has_u64 (hz0 x0b (by simp))).1, (has_u64 (hz0 x0b (by simp))).2⟩ ⟨(has_u64 (hz0 x0c (by simp))).1, (has_u64 (hz0 x0c (by simp))).2⟩ ⟨(has_u64 (hz0 x0d (by simp))).1, (has_u64 (hz0 x0d (by simp))).2⟩ W).mono fun e W' ⟨he, bel⟩ => ?_
  subst he
  exact ⟨_, rfl, law_post laidOut hW' rfl (by kernel_rfl) rfl Try.underlying4 rfl bel⟩

theorem proved : Rows.ExtInversesSaid :=
  OpenClaim.holds_of_wide 13 Try.f13 rfl rfl rfl rfl rfl rfl rfl ⟨rfl, rfl, rfl, rfl, rfl⟩ rfl rfl rfl rfl rfl (by kernel_rfl) Try.func13 (by kernel_rfl)
    (of_decide_eq_true (by kernel_rfl)) (by unfold Func.isWrapper; first | (rw [if_pos (by decide +kernel)]; kernel_rfl) | (rw [if_neg (by decide +kernel)]; exact ⟨rfl, rfl⟩))
    (fun os started H enc _ => lifted os started H enc)
end Go.Proofs.Ytfebohbhahaopaa.lawExtInverses
