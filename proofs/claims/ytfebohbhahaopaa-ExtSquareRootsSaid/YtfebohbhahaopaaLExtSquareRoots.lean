/- ExtSquareRoots: for every two pairs of numbers of 64 bits and every byte the law on square roots returns true; no conditions. -/
import Derived.Test.YtfebohbhahaopaaFrm
import Derived.Test.YtfebohbhahaopaaEs
import Derived.Test.YtfebohbhahaopaaSt
namespace Go.Proofs.Ytfebohbhahaopaa.lawExtSquareRoots
open Go.ChangeShapes Go.WideShapes Go.ChangeAt Go.RowKit Att Att.CRing
theorem o_one  (w : World) : Calls Try.prog 66 #[.int .u64 1, .int .u64 0] w fun e w' => e = .returned (.agg #[.int .u64 (Zm.i (Ext.a ((1 : Ext)))), .int .u64 (Zm.i (Ext.b ((1 : Ext))))]) ∧ ∃ g, w' = gr w g := by
  exact o_of 1 0 w
theorem ez : (Zm.i (Ext.a 0) == 0) = true ∧ (Zm.i (Ext.b 0) == 0) = true := ⟨rfl, rfl⟩
theorem is_z {x : Ext} : x = 0 ↔ x.a.i = 0 ∧ x.b.i = 0 := by
  constructor
  · rintro rfl; exact ⟨rfl, rfl⟩
  · rintro ⟨h, k⟩; exact Ext.ext (i_inj h) (i_inj k)
theorem zcase (x : Ext) : (x = 0 ∧ (Zm.i (Ext.a x) == 0) = true ∧ (Zm.i (Ext.b x) == 0) = true) ∨ (x ≠ 0 ∧ (Zm.i (Ext.a x) == 0) = false ∧ True) ∨ (x ≠ 0 ∧ (Zm.i (Ext.a x) == 0) = true ∧ (Zm.i (Ext.b x) == 0) = false) := by
  by_cases h1 : x.a.i = 0
  · by_cases h2 : x.b.i = 0
    · exact .inl ⟨is_z.2 ⟨h1, h2⟩, by simp [h1], by simp [h2]⟩
    · exact .inr (.inr ⟨fun h => h2 (is_z.1 h).2, by simp [h1], by simp [h2]⟩)
  · exact .inr (.inl ⟨fun h => h1 (is_z.1 h).1, by simp [h1], trivial⟩)
theorem isz (x : Ext) (h : x = 0) (w : World) : Calls Try.prog 60 #[.agg #[.int .u64 (Zm.i (Ext.a (x))), .int .u64 (Zm.i (Ext.b (x)))]] w fun e w' => e = .returned (.bool true) ∧ ∃ g, w' = gr w g := by
  have := e_isZero x w; rwa [decide_eq_true h] at this
theorem isn (x : Ext) (h : x ≠ 0) (w : World) : Calls Try.prog 60 #[.agg #[.int .u64 (Zm.i (Ext.a (x))), .int .u64 (Zm.i (Ext.b (x)))]] w fun e w' => e = .returned (.bool false) ∧ ∃ g, w' = gr w g := by
  have := e_isZero x w; rwa [decide_eq_false h] at this
theorem sq_iff (a b : Ext) : a * a = b * b ↔ a = b ∨ a = -b := by
  constructor
  · intro h
    have e : (a - b) * (a - -b) = 0 := by
      have : (a - b) * (a - -b) = a * a - b * b := ring_of [a, b] ((v0 - v1) * (v0 - -v1)) (v0 * v0 - v1 * v1) rfl
      rw [this, h, sub_self]
    rcases mul_eq_zero.1 e with h | h
    · exact .inl (eq_of_sub h)
    · exact .inr (eq_of_sub h)
  · rintro (rfl | rfl)
    · rfl
    · exact ring_of [b] (-v0 * -v0) (v0 * v0) rfl
theorem eqs (x y : Ext) : (x = y ∧ (Zm.i (Ext.a x) == Zm.i (Ext.a y)) = true ∧ (Zm.i (Ext.b x) == Zm.i (Ext.b y)) = true) ∨ (x ≠ y ∧ (Zm.i (Ext.a x) == Zm.i (Ext.a y)) = false ∧ True) ∨ (x ≠ y ∧ (Zm.i (Ext.a x) == Zm.i (Ext.a y)) = true ∧ (Zm.i (Ext.b x) == Zm.i (Ext.b y)) = false) := by
  by_cases h1 : x.a.i = y.a.i
  · by_cases h2 : x.b.i = y.b.i
    · exact .inl ⟨Ext.ext (i_inj h1) (i_inj h2), by simp [h1], by simp [h2]⟩
    · exact .inr (.inr ⟨fun h => h2 (by rw [h]), by simp [h1], by simp [h2]⟩)
  · exact .inr (.inl ⟨fun h => h1 (by rw [h]), by simp [h1], trivial⟩)
theorem box_upd {w : World} {b : Nat} {x : Ext} (h : (Fact.box b x).At w) (y : Ext) : (Fact.box b y).At (set2 w b y) := set2_same h y
set_option maxRecDepth 100000 in
set_option maxHeartbeats 4000000 in
theorem walk (x0a : Int) (x0b : Int) (x0c : Int) (x0d : Int) (x1 : Int) (h_x0a : In64 x0a) (h_x0b : In64 x0b) (h_x0c : In64 x0c) (h_x0d : In64 x0d) (l_x1 : 0 ≤ x1) (u_x1 : x1 ≤ 255) (w : World) :
    Calls Try.prog 17 #[.agg #[.int .u64 x0a, .int .u64 x0b, .int .u64 x0c, .int .u64 x0d], .int .u8 x1] w fun e w' => e = .returned (.bool true) ∧ Below w.heap.size w w' := by
  have c0 : 0 ≤ x1 % 3 := by omega
  refine Calls.mono (R := fun e w' => e = .returned (.bool true) ∧ Gn w w') ?_ (fun e w' h => ⟨h.1, h.2.below⟩)
  go_enter Try.func17, Try.ntmps17
  go_wp2_with fail
  refine (e_sanity _).mono ?_
  rintro e w0 ⟨rfl, k0⟩
  have H0 := (Holds.al (Holds.nil w) (Obj.cells #[.int .u64 x0a, .int .u64 x0b, .int .u64 x0c, .int .u64 x0d] 43)).up k0
  have G0 := Gn.trans (Gn.al _) k0
  clear k0
  have q0 := obj_cell H0.1 0 rfl
  have q1 := obj_cell H0.1 1 rfl
  have q2 := obj_cell H0.1 2 rfl
  have q3 := obj_cell H0.1 3 rfl
  have ql := blk_lt H0.1
  go_wp2_with fail
  try simp only [List.append_eq, List.cons_append, List.nil_append]
  refine wp_region_flow 8 (by kernel_rfl) (by kernel_rfl) ?_
  refine flow_one rfl (by simp) ?_
  go_big_quiet_step (fail)
  refine wpQuiet_nil ?_
  refine flow_one rfl (by simp) ?_
  go_big_quiet_step (fail)
  refine wpQuiet_nil ?_
  apply flow_is
  · simp
  · intro g K hK
    go_wp2_with fail
    refine (x_mk _ _ _).mono ?_
    rintro e w' ⟨rfl, g', rfl⟩
    go_wp2_with fail
    exact hK _ (up_comp g g')
  · rfl
  refine flow_one rfl (by simp) ?_
  go_big_quiet_step (fail)
  refine wpQuiet_nil ?_
  refine flow_one rfl (by simp) ?_
  go_big_quiet_step (fail)
  refine wpQuiet_nil ?_
  apply flow_is
  · simp
  · intro g K hK
    go_wp2_with fail
    refine (x_mk _ _ _).mono ?_
    rintro e w' ⟨rfl, g', rfl⟩
    go_wp2_with fail
    exact hK _ (up_comp g g')
  · rfl
  refine flow_ex newBox rfl (ex_alloc _ _ _ _) ?_
  refine flow_ex newBox rfl (ex_alloc _ _ _ _) ?_
  intro V N X hΓ hdis g hX
  obtain ⟨b1, b2, ⟨v1, v2⟩, ne12, n1, n2, z1, z2⟩ := end_boxes2 hΓ hdis hX 6 7 (by simp) (by simp) (by decide)
  have J : Gn w0 (gr w0 g) := ⟨g, rfl⟩
  clear hΓ hdis hX
  generalize gr w0 g = wm at *
  conv => arg 5; simp only [fill, v1, v2, Act.put, List.setIfInBounds_toArray, List.set_cons_succ, List.set_cons_zero]
  clear v1 v2
  refine tail_store (b := b1) (x := mk x0a x0b) rfl rfl (z1) ?_
  refine tail_store (b := b2) (x := mk x0c x0d) rfl rfl (set2_keep _ (z2) (by omega)) ?_
  refine wpList_nil ?_
  have f1 : (Fact.box b1 (mk x0a x0b)).At (set2 (set2 (wm) b1 (mk x0a x0b)) b2 (mk x0c x0d)) := set2_keep _ (set2_same (z1) _) (by omega)
  have f2 : (Fact.box b2 (mk x0c x0d)).At (set2 (set2 (wm) b1 (mk x0a x0b)) b2 (mk x0c x0d)) := set2_same (set2_keep _ (z2) (by omega)) _
  have JJ : Gn w0 (set2 (set2 (wm) b1 (mk x0a x0b)) b2 (mk x0c x0d)) := (set2_below ((set2_below (J) n1 _)) n2 _)
  generalize set2 (set2 (wm) b1 (mk x0a x0b)) b2 (mk x0c x0d) = w1 at f1 f2 JJ ⊢
  have G1 := Gn.trans G0 JJ
  have H1 : Holds w1 (.box b1 (mk x0a x0b) :: .box b2 (mk x0c x0d) :: _) := ⟨f1, f2, Holds.up JJ H0⟩
  have m1 : w.heap.size ≤ b1 := Nat.le_trans (Gn.size G0) n1
  have m2 : w.heap.size ≤ b2 := Nat.le_trans (Gn.size G0) n2
  clear f1 z1 n1 f2 z2 n2 J JJ G0 H0
  clear q0 q1 q2 q3 ql
  generalize mk x0a x0b = a at *
  generalize mk x0c x0d = b at *
  by_cases c1 : x1 % 3 = 0
  · have c2 : (x1 % 3 == 0) = true := by simp [c1]
    have c3 : (x1 % 3 == 1) = false := by simp [c1]
    clear c1
    obtain ⟨ra0, rb0, rl0⟩ := open_box H1.1
    obtain ⟨ra1, rb1, rl1⟩ := open_box H1.2.1
    have fz0 := box_fz (i := 0) H1.2.1
    have fz1 := box_fz (i := 1) H1.2.1
    clear fz0 fz1
    go_wp2_with fail
    refine (e_neg a _).mono ?_
    rintro e w2 ⟨rfl, k2⟩
    have H2 := Holds.up k2 H1
    have G2 := Gn.trans G1 k2
    clear k2 H1 G1
    clear ra0 rb0 rl0 ra1 rb1 rl1
    obtain ⟨ra0, rb0, rl0⟩ := open_box H2.1
    obtain ⟨ra1, rb1, rl1⟩ := open_box H2.2.1
    have fz0 := box_fz (i := 0) H2.2.1
    have fz1 := box_fz (i := 1) H2.2.1
    go_wp2_with fail
    clear ra0 rb0 rl0 ra1 rb1 rl1
    clear fz0 fz1
    have H3 : Holds (set2 w2 b2 (-a)) [.box b1 a, .box b2 (-a)] := ⟨set2_keep _ H2.1 ne12, set2_same H2.2.1 _, trivial⟩
    have G3 : Gn w (set2 w2 b2 (-a)) := set2_below G2 m2 _
    unfold set2 at H3 G3
    generalize (w2.setCell ⟨b2, 0, none⟩ (.int .u64 (Zm.i (Ext.a (-a))))).setCell ⟨b2, 1, none⟩ (.int .u64 (Zm.i (Ext.b (-a)))) = w3 at H3 G3 ⊢
    clear H2 G2
    generalize hy : -a = y at H3 ⊢
    clear hy
    rcases eqs a y with ⟨h, e1, e2⟩ | h
    · have hs : a * a = y * y := by rw [h]
      have q1 : (Zm.i (Ext.a (a * a)) == Zm.i (Ext.a (y * y))) = true := by rw [hs]; simp
      have q2 : (Zm.i (Ext.b (a * a)) == Zm.i (Ext.b (y * y))) = true := by rw [hs]; simp
      clear h hs
      obtain ⟨ra0, rb0, rl0⟩ := open_box H3.1
      obtain ⟨ra1, rb1, rl1⟩ := open_box H3.2.1
      try simp only [List.append_eq, List.cons_append, List.nil_append]
      refine wp_region_gr (by kernel_rfl) (lex_of_chk (by kernel_rfl) (by kernel_rfl)) ?_
      repeat (go_big_quiet_step ((first
        | (go_at_call 52; with_reducible apply qg (e_mul _ _ _); rfl)
        | (go_at_call 46; with_reducible apply qg (e_add _ _ _); rfl)
        | (go_at_call 48; with_reducible apply qg (e_sub _ _ _); rfl)
        | (go_at_call 50; with_reducible apply qg (e_neg _ _); rfl)
        | (go_at_call 56; with_reducible apply qg (e_conj _ _); rfl)
        | (go_at_call 62; with_reducible apply qg (e_fromBase _ _); rfl)
        | (go_at_call 60; with_reducible apply qg (e_isZero _ _); rfl)
        | (go_at_call 54; with_reducible apply qg (e_mulBase _ _ _); rfl)
        | (go_at_call 36; with_reducible apply qa (f_mul _ _ _); rfl)
        | (go_at_call 30; with_reducible apply qa (f_add _ _ _); rfl)
        | (go_at_call 67; with_reducible apply qg (o_prime _); rfl)
        | (go_at_call 66; with_reducible apply qg (o_one _); rfl)
        | (go_at_call 66; with_reducible apply qg (o_of _ _ _); rfl))))
      refine wpQuiet_nil ?_
      intro w4 k4
      have G4 := Gn.trans G3 k4
      have H4 := Holds.up k4 H3
      clear k4 G3 H3
      clear ra0 rb0 rl0 ra1 rb1 rl1
      obtain ⟨ra0, rb0, rl0⟩ := open_box H4.1
      obtain ⟨ra1, rb1, rl1⟩ := open_box H4.2.1
      go_wp2_with fail
      try simp only [List.append_eq, List.cons_append, List.nil_append]
      refine wp_region_gr (by kernel_rfl) (lex_of_chk (by kernel_rfl) (by kernel_rfl)) ?_
      repeat (go_big_quiet_step ((first
        | (go_at_call 52; with_reducible apply qg (e_mul _ _ _); rfl)
        | (go_at_call 46; with_reducible apply qg (e_add _ _ _); rfl)
        | (go_at_call 48; with_reducible apply qg (e_sub _ _ _); rfl)
        | (go_at_call 50; with_reducible apply qg (e_neg _ _); rfl)
        | (go_at_call 56; with_reducible apply qg (e_conj _ _); rfl)
        | (go_at_call 62; with_reducible apply qg (e_fromBase _ _); rfl)
        | (go_at_call 60; with_reducible apply qg (e_isZero _ _); rfl)
        | (go_at_call 54; with_reducible apply qg (e_mulBase _ _ _); rfl)
        | (go_at_call 36; with_reducible apply qa (f_mul _ _ _); rfl)
        | (go_at_call 30; with_reducible apply qa (f_add _ _ _); rfl)
        | (go_at_call 67; with_reducible apply qg (o_prime _); rfl)
        | (go_at_call 66; with_reducible apply qg (o_one _); rfl)
        | (go_at_call 66; with_reducible apply qg (o_of _ _ _); rfl))))
      refine wpQuiet_nil ?_
      intro w5 k5
      have G5 := Gn.trans G4 k5
      have H5 := Holds.up k5 H4
      clear k5 G4 H4
      go_wp2_with fail
      go_ret
      exact ⟨rfl, G5⟩
    · rcases eqs a (-y) with ⟨h2, e3, e4⟩ | h2
      · have hs : a * a = y * y := (sq_iff a y).2 (.inr h2)
        have q1 : (Zm.i (Ext.a (a * a)) == Zm.i (Ext.a (y * y))) = true := by rw [hs]; simp
        have q2 : (Zm.i (Ext.b (a * a)) == Zm.i (Ext.b (y * y))) = true := by rw [hs]; simp
        clear h2 hs
        rcases h with ⟨h, e1, e2⟩ | ⟨h, e1, e2⟩
        all_goals
          clear h
          obtain ⟨ra0, rb0, rl0⟩ := open_box H3.1
          obtain ⟨ra1, rb1, rl1⟩ := open_box H3.2.1
          try simp only [List.append_eq, List.cons_append, List.nil_append]
          refine wp_region_gr (by kernel_rfl) (lex_of_chk (by kernel_rfl) (by kernel_rfl)) ?_
          repeat (go_big_quiet_step ((first
            | (go_at_call 52; with_reducible apply qg (e_mul _ _ _); rfl)
            | (go_at_call 46; with_reducible apply qg (e_add _ _ _); rfl)
            | (go_at_call 48; with_reducible apply qg (e_sub _ _ _); rfl)
            | (go_at_call 50; with_reducible apply qg (e_neg _ _); rfl)
            | (go_at_call 56; with_reducible apply qg (e_conj _ _); rfl)
            | (go_at_call 62; with_reducible apply qg (e_fromBase _ _); rfl)
            | (go_at_call 60; with_reducible apply qg (e_isZero _ _); rfl)
            | (go_at_call 54; with_reducible apply qg (e_mulBase _ _ _); rfl)
            | (go_at_call 36; with_reducible apply qa (f_mul _ _ _); rfl)
            | (go_at_call 30; with_reducible apply qa (f_add _ _ _); rfl)
            | (go_at_call 67; with_reducible apply qg (o_prime _); rfl)
            | (go_at_call 66; with_reducible apply qg (o_one _); rfl)
            | (go_at_call 66; with_reducible apply qg (o_of _ _ _); rfl))))
          refine wpQuiet_nil ?_
          intro w4 k4
          have G4 := Gn.trans G3 k4
          have H4 := Holds.up k4 H3
          clear k4 G3 H3
          clear ra0 rb0 rl0 ra1 rb1 rl1
          obtain ⟨ra0, rb0, rl0⟩ := open_box H4.1
          obtain ⟨ra1, rb1, rl1⟩ := open_box H4.2.1
          go_wp2_with fail
          try simp only [List.append_eq, List.cons_append, List.nil_append]
          refine wp_region_gr (by kernel_rfl) (lex_of_chk (by kernel_rfl) (by kernel_rfl)) ?_
          repeat (go_big_quiet_step ((first
            | (go_at_call 52; with_reducible apply qg (e_mul _ _ _); rfl)
            | (go_at_call 46; with_reducible apply qg (e_add _ _ _); rfl)
            | (go_at_call 48; with_reducible apply qg (e_sub _ _ _); rfl)
            | (go_at_call 50; with_reducible apply qg (e_neg _ _); rfl)
            | (go_at_call 56; with_reducible apply qg (e_conj _ _); rfl)
            | (go_at_call 62; with_reducible apply qg (e_fromBase _ _); rfl)
            | (go_at_call 60; with_reducible apply qg (e_isZero _ _); rfl)
            | (go_at_call 54; with_reducible apply qg (e_mulBase _ _ _); rfl)
            | (go_at_call 36; with_reducible apply qa (f_mul _ _ _); rfl)
            | (go_at_call 30; with_reducible apply qa (f_add _ _ _); rfl)
            | (go_at_call 67; with_reducible apply qg (o_prime _); rfl)
            | (go_at_call 66; with_reducible apply qg (o_one _); rfl)
            | (go_at_call 66; with_reducible apply qg (o_of _ _ _); rfl))))
          refine wpQuiet_nil ?_
          intro w5 k5
          have G5 := Gn.trans G4 k5
          have H5 := Holds.up k5 H4
          clear k5 G4 H4
          go_wp2_with fail
          go_ret
          exact ⟨rfl, G5⟩
      · rcases h with ⟨h, e1, e2⟩ | ⟨h, e1, e2⟩ <;> rcases h2 with ⟨h2, e3, e4⟩ | ⟨h2, e3, e4⟩ <;> rcases eqs (a * a) (y * y) with ⟨h3, _, _⟩ | ⟨h3, q1, q2⟩ | ⟨h3, q1, q2⟩
        all_goals first | exact absurd ((sq_iff a y).1 h3) (fun h4 => h4.elim h h2) | skip
        all_goals
          clear h h2 h3
          obtain ⟨ra0, rb0, rl0⟩ := open_box H3.1
          obtain ⟨ra1, rb1, rl1⟩ := open_box H3.2.1
          try simp only [List.append_eq, List.cons_append, List.nil_append]
          refine wp_region_gr (by kernel_rfl) (lex_of_chk (by kernel_rfl) (by kernel_rfl)) ?_
          repeat (go_big_quiet_step ((first
            | (go_at_call 52; with_reducible apply qg (e_mul _ _ _); rfl)
            | (go_at_call 46; with_reducible apply qg (e_add _ _ _); rfl)
            | (go_at_call 48; with_reducible apply qg (e_sub _ _ _); rfl)
            | (go_at_call 50; with_reducible apply qg (e_neg _ _); rfl)
            | (go_at_call 56; with_reducible apply qg (e_conj _ _); rfl)
            | (go_at_call 62; with_reducible apply qg (e_fromBase _ _); rfl)
            | (go_at_call 60; with_reducible apply qg (e_isZero _ _); rfl)
            | (go_at_call 54; with_reducible apply qg (e_mulBase _ _ _); rfl)
            | (go_at_call 36; with_reducible apply qa (f_mul _ _ _); rfl)
            | (go_at_call 30; with_reducible apply qa (f_add _ _ _); rfl)
            | (go_at_call 67; with_reducible apply qg (o_prime _); rfl)
            | (go_at_call 66; with_reducible apply qg (o_one _); rfl)
            | (go_at_call 66; with_reducible apply qg (o_of _ _ _); rfl))))
          refine wpQuiet_nil ?_
          intro w4 k4
          have G4 := Gn.trans G3 k4
          have H4 := Holds.up k4 H3
          clear k4 G3 H3
          clear ra0 rb0 rl0 ra1 rb1 rl1
          obtain ⟨ra0, rb0, rl0⟩ := open_box H4.1
          obtain ⟨ra1, rb1, rl1⟩ := open_box H4.2.1
          go_wp2_with fail
          try simp only [List.append_eq, List.cons_append, List.nil_append]
          refine wp_region_gr (by kernel_rfl) (lex_of_chk (by kernel_rfl) (by kernel_rfl)) ?_
          repeat (go_big_quiet_step ((first
            | (go_at_call 52; with_reducible apply qg (e_mul _ _ _); rfl)
            | (go_at_call 46; with_reducible apply qg (e_add _ _ _); rfl)
            | (go_at_call 48; with_reducible apply qg (e_sub _ _ _); rfl)
            | (go_at_call 50; with_reducible apply qg (e_neg _ _); rfl)
            | (go_at_call 56; with_reducible apply qg (e_conj _ _); rfl)
            | (go_at_call 62; with_reducible apply qg (e_fromBase _ _); rfl)
            | (go_at_call 60; with_reducible apply qg (e_isZero _ _); rfl)
            | (go_at_call 54; with_reducible apply qg (e_mulBase _ _ _); rfl)
            | (go_at_call 36; with_reducible apply qa (f_mul _ _ _); rfl)
            | (go_at_call 30; with_reducible apply qa (f_add _ _ _); rfl)
            | (go_at_call 67; with_reducible apply qg (o_prime _); rfl)
            | (go_at_call 66; with_reducible apply qg (o_one _); rfl)
            | (go_at_call 66; with_reducible apply qg (o_of _ _ _); rfl))))
          refine wpQuiet_nil ?_
          intro w5 k5
          have G5 := Gn.trans G4 k5
          have H5 := Holds.up k5 H4
          clear k5 G4 H4
          go_wp2_with fail
          go_ret
          exact ⟨rfl, G5⟩
  · have c2 : (x1 % 3 == 0) = false := by simp [c1]
    by_cases c4 : x1 % 3 = 1
    · have c3 : (x1 % 3 == 1) = true := by simp [c4]
      clear c1 c4
      obtain ⟨ra0, rb0, rl0⟩ := open_box H1.1
      obtain ⟨ra1, rb1, rl1⟩ := open_box H1.2.1
      have fz0 := box_fz (i := 0) H1.2.1
      have fz1 := box_fz (i := 1) H1.2.1
      clear fz0 fz1
      go_wp2_with fail
      refine (e_conj a _).mono ?_
      rintro e w2 ⟨rfl, k2⟩
      have H2 := Holds.up k2 H1
      have G2 := Gn.trans G1 k2
      clear k2 H1 G1
      clear ra0 rb0 rl0 ra1 rb1 rl1
      obtain ⟨ra0, rb0, rl0⟩ := open_box H2.1
      obtain ⟨ra1, rb1, rl1⟩ := open_box H2.2.1
      have fz0 := box_fz (i := 0) H2.2.1
      have fz1 := box_fz (i := 1) H2.2.1
      go_wp2_with fail
      clear ra0 rb0 rl0 ra1 rb1 rl1
      clear fz0 fz1
      have H3 : Holds (set2 w2 b2 (Ext.conj a)) [.box b1 a, .box b2 (Ext.conj a)] := ⟨set2_keep _ H2.1 ne12, set2_same H2.2.1 _, trivial⟩
      have G3 : Gn w (set2 w2 b2 (Ext.conj a)) := set2_below G2 m2 _
      unfold set2 at H3 G3
      generalize (w2.setCell ⟨b2, 0, none⟩ (.int .u64 (Zm.i (Ext.a (Ext.conj a))))).setCell ⟨b2, 1, none⟩ (.int .u64 (Zm.i (Ext.b (Ext.conj a)))) = w3 at H3 G3 ⊢
      clear H2 G2
      generalize hy : Ext.conj a = y at H3 ⊢
      clear hy
      rcases eqs a y with ⟨h, e1, e2⟩ | h
      · have hs : a * a = y * y := by rw [h]
        have q1 : (Zm.i (Ext.a (a * a)) == Zm.i (Ext.a (y * y))) = true := by rw [hs]; simp
        have q2 : (Zm.i (Ext.b (a * a)) == Zm.i (Ext.b (y * y))) = true := by rw [hs]; simp
        clear h hs
        obtain ⟨ra0, rb0, rl0⟩ := open_box H3.1
        obtain ⟨ra1, rb1, rl1⟩ := open_box H3.2.1
        try simp only [List.append_eq, List.cons_append, List.nil_append]
        refine wp_region_gr (by kernel_rfl) (lex_of_chk (by kernel_rfl) (by kernel_rfl)) ?_
        repeat (go_big_quiet_step ((first
          | (go_at_call 52; with_reducible apply qg (e_mul _ _ _); rfl)
          | (go_at_call 46; with_reducible apply qg (e_add _ _ _); rfl)
          | (go_at_call 48; with_reducible apply qg (e_sub _ _ _); rfl)
          | (go_at_call 50; with_reducible apply qg (e_neg _ _); rfl)
          | (go_at_call 56; with_reducible apply qg (e_conj _ _); rfl)
          | (go_at_call 62; with_reducible apply qg (e_fromBase _ _); rfl)
          | (go_at_call 60; with_reducible apply qg (e_isZero _ _); rfl)
          | (go_at_call 54; with_reducible apply qg (e_mulBase _ _ _); rfl)
          | (go_at_call 36; with_reducible apply qa (f_mul _ _ _); rfl)
          | (go_at_call 30; with_reducible apply qa (f_add _ _ _); rfl)
          | (go_at_call 67; with_reducible apply qg (o_prime _); rfl)
          | (go_at_call 66; with_reducible apply qg (o_one _); rfl)
          | (go_at_call 66; with_reducible apply qg (o_of _ _ _); rfl))))
        refine wpQuiet_nil ?_
        intro w4 k4
        have G4 := Gn.trans G3 k4
        have H4 := Holds.up k4 H3
        clear k4 G3 H3
        clear ra0 rb0 rl0 ra1 rb1 rl1
        obtain ⟨ra0, rb0, rl0⟩ := open_box H4.1
        obtain ⟨ra1, rb1, rl1⟩ := open_box H4.2.1
        go_wp2_with fail
        try simp only [List.append_eq, List.cons_append, List.nil_append]
        refine wp_region_gr (by kernel_rfl) (lex_of_chk (by kernel_rfl) (by kernel_rfl)) ?_
        repeat (go_big_quiet_step ((first
          | (go_at_call 52; with_reducible apply qg (e_mul _ _ _); rfl)
          | (go_at_call 46; with_reducible apply qg (e_add _ _ _); rfl)
          | (go_at_call 48; with_reducible apply qg (e_sub _ _ _); rfl)
          | (go_at_call 50; with_reducible apply qg (e_neg _ _); rfl)
          | (go_at_call 56; with_reducible apply qg (e_conj _ _); rfl)
          | (go_at_call 62; with_reducible apply qg (e_fromBase _ _); rfl)
          | (go_at_call 60; with_reducible apply qg (e_isZero _ _); rfl)
          | (go_at_call 54; with_reducible apply qg (e_mulBase _ _ _); rfl)
          | (go_at_call 36; with_reducible apply qa (f_mul _ _ _); rfl)
          | (go_at_call 30; with_reducible apply qa (f_add _ _ _); rfl)
          | (go_at_call 67; with_reducible apply qg (o_prime _); rfl)
          | (go_at_call 66; with_reducible apply qg (o_one _); rfl)
          | (go_at_call 66; with_reducible apply qg (o_of _ _ _); rfl))))
        refine wpQuiet_nil ?_
        intro w5 k5
        have G5 := Gn.trans G4 k5
        have H5 := Holds.up k5 H4
        clear k5 G4 H4
        go_wp2_with fail
        go_ret
        exact ⟨rfl, G5⟩
      · rcases eqs a (-y) with ⟨h2, e3, e4⟩ | h2
        · have hs : a * a = y * y := (sq_iff a y).2 (.inr h2)
          have q1 : (Zm.i (Ext.a (a * a)) == Zm.i (Ext.a (y * y))) = true := by rw [hs]; simp
          have q2 : (Zm.i (Ext.b (a * a)) == Zm.i (Ext.b (y * y))) = true := by rw [hs]; simp
          clear h2 hs
          rcases h with ⟨h, e1, e2⟩ | ⟨h, e1, e2⟩
          all_goals
            clear h
            obtain ⟨ra0, rb0, rl0⟩ := open_box H3.1
            obtain ⟨ra1, rb1, rl1⟩ := open_box H3.2.1
            try simp only [List.append_eq, List.cons_append, List.nil_append]
            refine wp_region_gr (by kernel_rfl) (lex_of_chk (by kernel_rfl) (by kernel_rfl)) ?_
            repeat (go_big_quiet_step ((first
              | (go_at_call 52; with_reducible apply qg (e_mul _ _ _); rfl)
              | (go_at_call 46; with_reducible apply qg (e_add _ _ _); rfl)
              | (go_at_call 48; with_reducible apply qg (e_sub _ _ _); rfl)
              | (go_at_call 50; with_reducible apply qg (e_neg _ _); rfl)
              | (go_at_call 56; with_reducible apply qg (e_conj _ _); rfl)
              | (go_at_call 62; with_reducible apply qg (e_fromBase _ _); rfl)
              | (go_at_call 60; with_reducible apply qg (e_isZero _ _); rfl)
              | (go_at_call 54; with_reducible apply qg (e_mulBase _ _ _); rfl)
              | (go_at_call 36; with_reducible apply qa (f_mul _ _ _); rfl)
              | (go_at_call 30; with_reducible apply qa (f_add _ _ _); rfl)
              | (go_at_call 67; with_reducible apply qg (o_prime _); rfl)
              | (go_at_call 66; with_reducible apply qg (o_one _); rfl)
              | (go_at_call 66; with_reducible apply qg (o_of _ _ _); rfl))))
            refine wpQuiet_nil ?_
            intro w4 k4
            have G4 := Gn.trans G3 k4
            have H4 := Holds.up k4 H3
            clear k4 G3 H3
            clear ra0 rb0 rl0 ra1 rb1 rl1
            obtain ⟨ra0, rb0, rl0⟩ := open_box H4.1
            obtain ⟨ra1, rb1, rl1⟩ := open_box H4.2.1
            go_wp2_with fail
            try simp only [List.append_eq, List.cons_append, List.nil_append]
            refine wp_region_gr (by kernel_rfl) (lex_of_chk (by kernel_rfl) (by kernel_rfl)) ?_
            repeat (go_big_quiet_step ((first
              | (go_at_call 52; with_reducible apply qg (e_mul _ _ _); rfl)
              | (go_at_call 46; with_reducible apply qg (e_add _ _ _); rfl)
              | (go_at_call 48; with_reducible apply qg (e_sub _ _ _); rfl)
              | (go_at_call 50; with_reducible apply qg (e_neg _ _); rfl)
              | (go_at_call 56; with_reducible apply qg (e_conj _ _); rfl)
              | (go_at_call 62; with_reducible apply qg (e_fromBase _ _); rfl)
              | (go_at_call 60; with_reducible apply qg (e_isZero _ _); rfl)
              | (go_at_call 54; with_reducible apply qg (e_mulBase _ _ _); rfl)
              | (go_at_call 36; with_reducible apply qa (f_mul _ _ _); rfl)
              | (go_at_call 30; with_reducible apply qa (f_add _ _ _); rfl)
              | (go_at_call 67; with_reducible apply qg (o_prime _); rfl)
              | (go_at_call 66; with_reducible apply qg (o_one _); rfl)
              | (go_at_call 66; with_reducible apply qg (o_of _ _ _); rfl))))
            refine wpQuiet_nil ?_
            intro w5 k5
            have G5 := Gn.trans G4 k5
            have H5 := Holds.up k5 H4
            clear k5 G4 H4
            go_wp2_with fail
            go_ret
            exact ⟨rfl, G5⟩
        · rcases h with ⟨h, e1, e2⟩ | ⟨h, e1, e2⟩ <;> rcases h2 with ⟨h2, e3, e4⟩ | ⟨h2, e3, e4⟩ <;> rcases eqs (a * a) (y * y) with ⟨h3, _, _⟩ | ⟨h3, q1, q2⟩ | ⟨h3, q1, q2⟩
          all_goals first | exact absurd ((sq_iff a y).1 h3) (fun h4 => h4.elim h h2) | skip
          all_goals
            clear h h2 h3
            obtain ⟨ra0, rb0, rl0⟩ := open_box H3.1
            obtain ⟨ra1, rb1, rl1⟩ := open_box H3.2.1
            try simp only [List.append_eq, List.cons_append, List.nil_append]
            refine wp_region_gr (by kernel_rfl) (lex_of_chk (by kernel_rfl) (by kernel_rfl)) ?_
            repeat (go_big_quiet_step ((first
              | (go_at_call 52; with_reducible apply qg (e_mul _ _ _); rfl)
              | (go_at_call 46; with_reducible apply qg (e_add _ _ _); rfl)
              | (go_at_call 48; with_reducible apply qg (e_sub _ _ _); rfl)
              | (go_at_call 50; with_reducible apply qg (e_neg _ _); rfl)
              | (go_at_call 56; with_reducible apply qg (e_conj _ _); rfl)
              | (go_at_call 62; with_reducible apply qg (e_fromBase _ _); rfl)
              | (go_at_call 60; with_reducible apply qg (e_isZero _ _); rfl)
              | (go_at_call 54; with_reducible apply qg (e_mulBase _ _ _); rfl)
              | (go_at_call 36; with_reducible apply qa (f_mul _ _ _); rfl)
              | (go_at_call 30; with_reducible apply qa (f_add _ _ _); rfl)
              | (go_at_call 67; with_reducible apply qg (o_prime _); rfl)
              | (go_at_call 66; with_reducible apply qg (o_one _); rfl)
              | (go_at_call 66; with_reducible apply qg (o_of _ _ _); rfl))))
            refine wpQuiet_nil ?_
            intro w4 k4
            have G4 := Gn.trans G3 k4
            have H4 := Holds.up k4 H3
            clear k4 G3 H3
            clear ra0 rb0 rl0 ra1 rb1 rl1
            obtain ⟨ra0, rb0, rl0⟩ := open_box H4.1
            obtain ⟨ra1, rb1, rl1⟩ := open_box H4.2.1
            go_wp2_with fail
            try simp only [List.append_eq, List.cons_append, List.nil_append]
            refine wp_region_gr (by kernel_rfl) (lex_of_chk (by kernel_rfl) (by kernel_rfl)) ?_
            repeat (go_big_quiet_step ((first
              | (go_at_call 52; with_reducible apply qg (e_mul _ _ _); rfl)
              | (go_at_call 46; with_reducible apply qg (e_add _ _ _); rfl)
              | (go_at_call 48; with_reducible apply qg (e_sub _ _ _); rfl)
              | (go_at_call 50; with_reducible apply qg (e_neg _ _); rfl)
              | (go_at_call 56; with_reducible apply qg (e_conj _ _); rfl)
              | (go_at_call 62; with_reducible apply qg (e_fromBase _ _); rfl)
              | (go_at_call 60; with_reducible apply qg (e_isZero _ _); rfl)
              | (go_at_call 54; with_reducible apply qg (e_mulBase _ _ _); rfl)
              | (go_at_call 36; with_reducible apply qa (f_mul _ _ _); rfl)
              | (go_at_call 30; with_reducible apply qa (f_add _ _ _); rfl)
              | (go_at_call 67; with_reducible apply qg (o_prime _); rfl)
              | (go_at_call 66; with_reducible apply qg (o_one _); rfl)
              | (go_at_call 66; with_reducible apply qg (o_of _ _ _); rfl))))
            refine wpQuiet_nil ?_
            intro w5 k5
            have G5 := Gn.trans G4 k5
            have H5 := Holds.up k5 H4
            clear k5 G4 H4
            go_wp2_with fail
            go_ret
            exact ⟨rfl, G5⟩
    · have c3 : (x1 % 3 == 1) = false := by simp [c4]
      clear c1 c4
      obtain ⟨ra0, rb0, rl0⟩ := open_box H1.1
      obtain ⟨ra1, rb1, rl1⟩ := open_box H1.2.1
      go_wp2_with fail
      clear ra0 rb0 rl0 ra1 rb1 rl1
      rcases eqs a b with ⟨h, e1, e2⟩ | h
      · have hs : a * a = b * b := by rw [h]
        have q1 : (Zm.i (Ext.a (a * a)) == Zm.i (Ext.a (b * b))) = true := by rw [hs]; simp
        have q2 : (Zm.i (Ext.b (a * a)) == Zm.i (Ext.b (b * b))) = true := by rw [hs]; simp
        clear h hs
        obtain ⟨ra0, rb0, rl0⟩ := open_box H1.1
        obtain ⟨ra1, rb1, rl1⟩ := open_box H1.2.1
        try simp only [List.append_eq, List.cons_append, List.nil_append]
        refine wp_region_gr (by kernel_rfl) (lex_of_chk (by kernel_rfl) (by kernel_rfl)) ?_
        repeat (go_big_quiet_step ((first
          | (go_at_call 52; with_reducible apply qg (e_mul _ _ _); rfl)
          | (go_at_call 46; with_reducible apply qg (e_add _ _ _); rfl)
          | (go_at_call 48; with_reducible apply qg (e_sub _ _ _); rfl)
          | (go_at_call 50; with_reducible apply qg (e_neg _ _); rfl)
          | (go_at_call 56; with_reducible apply qg (e_conj _ _); rfl)
          | (go_at_call 62; with_reducible apply qg (e_fromBase _ _); rfl)
          | (go_at_call 60; with_reducible apply qg (e_isZero _ _); rfl)
          | (go_at_call 54; with_reducible apply qg (e_mulBase _ _ _); rfl)
          | (go_at_call 36; with_reducible apply qa (f_mul _ _ _); rfl)
          | (go_at_call 30; with_reducible apply qa (f_add _ _ _); rfl)
          | (go_at_call 67; with_reducible apply qg (o_prime _); rfl)
          | (go_at_call 66; with_reducible apply qg (o_one _); rfl)
          | (go_at_call 66; with_reducible apply qg (o_of _ _ _); rfl))))
        refine wpQuiet_nil ?_
        intro w2 k2
        have G2 := Gn.trans G1 k2
        have H2 := Holds.up k2 H1
        clear k2 G1 H1
        clear ra0 rb0 rl0 ra1 rb1 rl1
        obtain ⟨ra0, rb0, rl0⟩ := open_box H2.1
        obtain ⟨ra1, rb1, rl1⟩ := open_box H2.2.1
        go_wp2_with fail
        try simp only [List.append_eq, List.cons_append, List.nil_append]
        refine wp_region_gr (by kernel_rfl) (lex_of_chk (by kernel_rfl) (by kernel_rfl)) ?_
        repeat (go_big_quiet_step ((first
          | (go_at_call 52; with_reducible apply qg (e_mul _ _ _); rfl)
          | (go_at_call 46; with_reducible apply qg (e_add _ _ _); rfl)
          | (go_at_call 48; with_reducible apply qg (e_sub _ _ _); rfl)
          | (go_at_call 50; with_reducible apply qg (e_neg _ _); rfl)
          | (go_at_call 56; with_reducible apply qg (e_conj _ _); rfl)
          | (go_at_call 62; with_reducible apply qg (e_fromBase _ _); rfl)
          | (go_at_call 60; with_reducible apply qg (e_isZero _ _); rfl)
          | (go_at_call 54; with_reducible apply qg (e_mulBase _ _ _); rfl)
          | (go_at_call 36; with_reducible apply qa (f_mul _ _ _); rfl)
          | (go_at_call 30; with_reducible apply qa (f_add _ _ _); rfl)
          | (go_at_call 67; with_reducible apply qg (o_prime _); rfl)
          | (go_at_call 66; with_reducible apply qg (o_one _); rfl)
          | (go_at_call 66; with_reducible apply qg (o_of _ _ _); rfl))))
        refine wpQuiet_nil ?_
        intro w3 k3
        have G3 := Gn.trans G2 k3
        have H3 := Holds.up k3 H2
        clear k3 G2 H2
        go_wp2_with fail
        go_ret
        exact ⟨rfl, G3⟩
      · rcases eqs a (-b) with ⟨h2, e3, e4⟩ | h2
        · have hs : a * a = b * b := (sq_iff a b).2 (.inr h2)
          have q1 : (Zm.i (Ext.a (a * a)) == Zm.i (Ext.a (b * b))) = true := by rw [hs]; simp
          have q2 : (Zm.i (Ext.b (a * a)) == Zm.i (Ext.b (b * b))) = true := by rw [hs]; simp
          clear h2 hs
          rcases h with ⟨h, e1, e2⟩ | ⟨h, e1, e2⟩
          all_goals
            clear h
            obtain ⟨ra0, rb0, rl0⟩ := open_box H1.1
            obtain ⟨ra1, rb1, rl1⟩ := open_box H1.2.1
            try simp only [List.append_eq, List.cons_append, List.nil_append]
            refine wp_region_gr (by kernel_rfl) (lex_of_chk (by kernel_rfl) (by kernel_rfl)) ?_
            repeat (go_big_quiet_step ((first
              | (go_at_call 52; with_reducible apply qg (e_mul _ _ _); rfl)
              | (go_at_call 46; with_reducible apply qg (e_add _ _ _); rfl)
              | (go_at_call 48; with_reducible apply qg (e_sub _ _ _); rfl)
              | (go_at_call 50; with_reducible apply qg (e_neg _ _); rfl)
              | (go_at_call 56; with_reducible apply qg (e_conj _ _); rfl)
              | (go_at_call 62; with_reducible apply qg (e_fromBase _ _); rfl)
              | (go_at_call 60; with_reducible apply qg (e_isZero _ _); rfl)
              | (go_at_call 54; with_reducible apply qg (e_mulBase _ _ _); rfl)
              | (go_at_call 36; with_reducible apply qa (f_mul _ _ _); rfl)
              | (go_at_call 30; with_reducible apply qa (f_add _ _ _); rfl)
              | (go_at_call 67; with_reducible apply qg (o_prime _); rfl)
              | (go_at_call 66; with_reducible apply qg (o_one _); rfl)
              | (go_at_call 66; with_reducible apply qg (o_of _ _ _); rfl))))
            refine wpQuiet_nil ?_
            intro w2 k2
            have G2 := Gn.trans G1 k2
            have H2 := Holds.up k2 H1
            clear k2 G1 H1
            clear ra0 rb0 rl0 ra1 rb1 rl1
            obtain ⟨ra0, rb0, rl0⟩ := open_box H2.1
            obtain ⟨ra1, rb1, rl1⟩ := open_box H2.2.1
            go_wp2_with fail
            try simp only [List.append_eq, List.cons_append, List.nil_append]
            refine wp_region_gr (by kernel_rfl) (lex_of_chk (by kernel_rfl) (by kernel_rfl)) ?_
            repeat (go_big_quiet_step ((first
              | (go_at_call 52; with_reducible apply qg (e_mul _ _ _); rfl)
              | (go_at_call 46; with_reducible apply qg (e_add _ _ _); rfl)
              | (go_at_call 48; with_reducible apply qg (e_sub _ _ _); rfl)
              | (go_at_call 50; with_reducible apply qg (e_neg _ _); rfl)
              | (go_at_call 56; with_reducible apply qg (e_conj _ _); rfl)
              | (go_at_call 62; with_reducible apply qg (e_fromBase _ _); rfl)
              | (go_at_call 60; with_reducible apply qg (e_isZero _ _); rfl)
              | (go_at_call 54; with_reducible apply qg (e_mulBase _ _ _); rfl)
              | (go_at_call 36; with_reducible apply qa (f_mul _ _ _); rfl)
              | (go_at_call 30; with_reducible apply qa (f_add _ _ _); rfl)
              | (go_at_call 67; with_reducible apply qg (o_prime _); rfl)
              | (go_at_call 66; with_reducible apply qg (o_one _); rfl)
              | (go_at_call 66; with_reducible apply qg (o_of _ _ _); rfl))))
            refine wpQuiet_nil ?_
            intro w3 k3
            have G3 := Gn.trans G2 k3
            have H3 := Holds.up k3 H2
            clear k3 G2 H2
            go_wp2_with fail
            go_ret
            exact ⟨rfl, G3⟩
        · rcases h with ⟨h, e1, e2⟩ | ⟨h, e1, e2⟩ <;> rcases h2 with ⟨h2, e3, e4⟩ | ⟨h2, e3, e4⟩ <;> rcases eqs (a * a) (b * b) with ⟨h3, _, _⟩ | ⟨h3, q1, q2⟩ | ⟨h3, q1, q2⟩
          all_goals first | exact absurd ((sq_iff a b).1 h3) (fun h4 => h4.elim h h2) | skip
          all_goals
            clear h h2 h3
            obtain ⟨ra0, rb0, rl0⟩ := open_box H1.1
            obtain ⟨ra1, rb1, rl1⟩ := open_box H1.2.1
            try simp only [List.append_eq, List.cons_append, List.nil_append]
            refine wp_region_gr (by kernel_rfl) (lex_of_chk (by kernel_rfl) (by kernel_rfl)) ?_
            repeat (go_big_quiet_step ((first
              | (go_at_call 52; with_reducible apply qg (e_mul _ _ _); rfl)
              | (go_at_call 46; with_reducible apply qg (e_add _ _ _); rfl)
              | (go_at_call 48; with_reducible apply qg (e_sub _ _ _); rfl)
              | (go_at_call 50; with_reducible apply qg (e_neg _ _); rfl)
              | (go_at_call 56; with_reducible apply qg (e_conj _ _); rfl)
              | (go_at_call 62; with_reducible apply qg (e_fromBase _ _); rfl)
              | (go_at_call 60; with_reducible apply qg (e_isZero _ _); rfl)
              | (go_at_call 54; with_reducible apply qg (e_mulBase _ _ _); rfl)
              | (go_at_call 36; with_reducible apply qa (f_mul _ _ _); rfl)
              | (go_at_call 30; with_reducible apply qa (f_add _ _ _); rfl)
              | (go_at_call 67; with_reducible apply qg (o_prime _); rfl)
              | (go_at_call 66; with_reducible apply qg (o_one _); rfl)
              | (go_at_call 66; with_reducible apply qg (o_of _ _ _); rfl))))
            refine wpQuiet_nil ?_
            intro w2 k2
            have G2 := Gn.trans G1 k2
            have H2 := Holds.up k2 H1
            clear k2 G1 H1
            clear ra0 rb0 rl0 ra1 rb1 rl1
            obtain ⟨ra0, rb0, rl0⟩ := open_box H2.1
            obtain ⟨ra1, rb1, rl1⟩ := open_box H2.2.1
            go_wp2_with fail
            try simp only [List.append_eq, List.cons_append, List.nil_append]
            refine wp_region_gr (by kernel_rfl) (lex_of_chk (by kernel_rfl) (by kernel_rfl)) ?_
            repeat (go_big_quiet_step ((first
              | (go_at_call 52; with_reducible apply qg (e_mul _ _ _); rfl)
              | (go_at_call 46; with_reducible apply qg (e_add _ _ _); rfl)
              | (go_at_call 48; with_reducible apply qg (e_sub _ _ _); rfl)
              | (go_at_call 50; with_reducible apply qg (e_neg _ _); rfl)
              | (go_at_call 56; with_reducible apply qg (e_conj _ _); rfl)
              | (go_at_call 62; with_reducible apply qg (e_fromBase _ _); rfl)
              | (go_at_call 60; with_reducible apply qg (e_isZero _ _); rfl)
              | (go_at_call 54; with_reducible apply qg (e_mulBase _ _ _); rfl)
              | (go_at_call 36; with_reducible apply qa (f_mul _ _ _); rfl)
              | (go_at_call 30; with_reducible apply qa (f_add _ _ _); rfl)
              | (go_at_call 67; with_reducible apply qg (o_prime _); rfl)
              | (go_at_call 66; with_reducible apply qg (o_one _); rfl)
              | (go_at_call 66; with_reducible apply qg (o_of _ _ _); rfl))))
            refine wpQuiet_nil ?_
            intro w3 k3
            have G3 := Gn.trans G2 k3
            have H3 := Holds.up k3 H2
            clear k3 G2 H2
            go_wp2_with fail
            go_ret
            exact ⟨rfl, G3⟩

set_option linter.unusedVariables false in
set_option maxRecDepth 100000 in
set_option maxHeartbeats 1000000 in
theorem lifted (os : Os) (started : os.Started) (H : Type) (enc : TypeId × Value → H) :
    ReturnsInHanded {} Try.checked os 17 .any (Rows.extSquareRootsSpec.pre6 enc Try.prog Try.f17 Rows.extSquareRootsRow.domain false) (Rows.extSquareRootsSpec.post enc Try.prog Try.f17 false true false false) := by
  refine returnsInHanded_of_change (C := Try.checked) own started (by kernel_rfl) Try.func17
    (ChangeSpec.witness6 (enc := enc) (C := Try.checked) false ⟨#[], #[.agg #[.int .u64 0, .int .u64 0, .int .u64 0, .int .u64 0], .int .u8 0], []⟩ 8 (by kernel_rfl) (by kernel_rfl) (by kernel_rfl) (by kernel_rfl)) ?_
  intro W base args ds gs before hval0 hW _ _
  have hval : ∀ (j : Nat) t v, Try.f17.params[j]? = some t → args[j]? = some v → Value.okWide Try.prog W .any base t v := hval0
  have hW' : DataW.Whole enc Try.prog Try.f17.params.toList Rows.extSquareRootsSpec.vars false W args.toList ds gs before := hW
  obtain ⟨p, q, hA0, hV, rfl, hfz, hnd⟩ := hW
  have hA : DataW.TrodAll enc Try.prog W 0 (fun _ => true) true Try.f17.params.toList args.toList ds p := hA0
  rw [Try.params17] at hA hval
  obtain ⟨v0, vs0, d0, ds0, p0, q0, hargs, rfl, rfl, h0, r0⟩ := trodAll_cons hA
  obtain ⟨v1, vs1, d1, ds1, p1, q1, rfl, rfl, rfl, h1, r1⟩ := trodAll_cons r0
  obtain ⟨rfl, rfl, rfl⟩ := trodAll_nil r1
  obtain rfl : args = #[v0, v1] := by cases args; simp_all
  obtain ⟨rfl, rfl⟩ := trodVars_none hV
  obtain ⟨zs0, hlen0, rfl, hz0⟩ := aggs_open (k := .u64) (ts := [22, 22, 22, 22]) (n := 4) (by kernel_rfl) (by kernel_rfl) (by kernel_rfl) (by kernel_rfl) (hval 0 43 v0 rfl rfl)
  obtain ⟨x0a, x0b, x0c, x0d, rfl⟩ := list4 zs0 hlen0
  obtain ⟨x1, rfl, hz1⟩ := int_open Try.underlying5 (hval 1 5 v1 rfl rfl)
  refine (walk x0a x0b x0c x0d x1 ⟨(has_u64 (hz0 x0a (by simp))).1, (has_u64 (hz0 x0a (by simp))).2⟩ ⟨(has_u64 (hz0 x0b (by simp))).1, (has_u64 (hz0 x0b (by simp))).2⟩ ⟨(has_u64 (hz0 x0c (by simp))).1, (has_u64 (hz0 x0c (by simp))).2⟩ ⟨(has_u64 (hz0 x0d (by simp))).1, (has_u64 (hz0 x0d (by simp))).2⟩ (by have := has_u8 hz1; omega) (by have := has_u8 hz1; omega) W).mono fun e W' ⟨he, bel⟩ => ?_
  subst he
  exact ⟨_, rfl, law_post laidOut hW' rfl (by kernel_rfl) rfl Try.underlying4 rfl bel⟩

theorem proved : Rows.ExtSquareRootsSaid :=
  OpenClaim.holds_of_wide 17 Try.f17 rfl rfl rfl rfl rfl rfl rfl ⟨rfl, rfl, rfl, rfl, rfl⟩ rfl rfl rfl rfl rfl (by kernel_rfl) Try.func17 (by kernel_rfl)
    (of_decide_eq_true (by kernel_rfl)) (by unfold Func.isWrapper; first | (rw [if_pos (by decide +kernel)]; kernel_rfl) | (rw [if_neg (by decide +kernel)]; exact ⟨rfl, rfl⟩))
    (fun os started H enc _ => lifted os started H enc)
end Go.Proofs.Ytfebohbhahaopaa.lawExtSquareRoots
