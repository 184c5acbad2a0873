/- ExtMatchesReference: for every two pairs of numbers of 64 bits, every exponent and every integer of 64 bits the law on the reference returns true; no conditions. -/
import Derived.Test.YtfebohbhahaopaaFrm
import Derived.Test.YtfebohbhahaopaaEs
import Derived.Test.YtfebohbhahaopaaSt
namespace Go.Proofs.Ytfebohbhahaopaa.lawExtMatchesReference
open Go.ChangeShapes Go.WideShapes Go.ChangeAt Go.RowKit Att Att.CRing
theorem o_one  (w : World) : Calls Try.prog 66 #[.int .u64 1, .int .u64 0] w fun e w' => e = .returned (.agg #[.int .u64 (Zm.i (Ext.a ((1 : Ext)))), .int .u64 (Zm.i (Ext.b ((1 : Ext))))]) ∧ ∃ g, w' = gr w g := by
  exact o_of 1 0 w
theorem ez : (Zm.i (Ext.a 0) == 0) = true ∧ (Zm.i (Ext.b 0) == 0) = true := ⟨rfl, rfl⟩
theorem is_z {x : Ext} : x = 0 ↔ x.a.i = 0 ∧ x.b.i = 0 := by
  constructor
  · rintro rfl; exact ⟨rfl, rfl⟩
  · rintro ⟨h, k⟩; exact Ext.ext (i_inj h) (i_inj k)
theorem zcase (x : Ext) : (x = 0 ∧ (Zm.i (Ext.a x) == 0) = true ∧ (Zm.i (Ext.b x) == 0) = true) ∨ (x ≠ 0 ∧ (Zm.i (Ext.a x) == 0) = false ∧ True) ∨ (x ≠ 0 ∧ (Zm.i (Ext.a x) == 0) = true ∧ (Zm.i (Ext.b x) == 0) = false) := by
  by_cases h1 : x.a.i = 0
  · by_cases h2 : x.b.i = 0
    · exact .inl ⟨is_z.2 ⟨h1, h2⟩, by simp [h1], by simp [h2]⟩
    · exact .inr (.inr ⟨fun h => h2 (is_z.1 h).2, by simp [h1], by simp [h2]⟩)
  · exact .inr (.inl ⟨fun h => h1 (is_z.1 h).1, by simp [h1], trivial⟩)
theorem isz (x : Ext) (h : x = 0) (w : World) : Calls Try.prog 60 #[.agg #[.int .u64 (Zm.i (Ext.a (x))), .int .u64 (Zm.i (Ext.b (x)))]] w fun e w' => e = .returned (.bool true) ∧ ∃ g, w' = gr w g := by
  have := e_isZero x w; rwa [decide_eq_true h] at this
theorem isn (x : Ext) (h : x ≠ 0) (w : World) : Calls Try.prog 60 #[.agg #[.int .u64 (Zm.i (Ext.a (x))), .int .u64 (Zm.i (Ext.b (x)))]] w fun e w' => e = .returned (.bool false) ∧ ∃ g, w' = gr w g := by
  have := e_isZero x w; rwa [decide_eq_false h] at this
theorem v0 (a : Ext) (h : a = 0) (w : World) : Calls Try.prog 44 #[.agg #[.int .u64 (Zm.i (Ext.a (a))), .int .u64 (Zm.i (Ext.b (a)))]] w fun e w' => e = .returned (.tuple #[.agg #[.int .u64 (Zm.i (Ext.a ((0 : Ext)))), .int .u64 (Zm.i (Ext.b ((0 : Ext))))], .int .i64 3]) ∧ ∃ g, w' = gr w g := by
  subst h; exact e_inv0 w
theorem xv0 (a : Ext) (h : a = 0) (w : World) : Calls Try.prog 45 #[.agg #[.int .u64 (Zm.i (Ext.a (a))), .int .u64 (Zm.i (Ext.b (a)))]] w fun e w' => e = .returned (.tuple #[.agg #[.int .u64 (Zm.i (Ext.a ((0 : Ext)))), .int .u64 (Zm.i (Ext.b ((0 : Ext))))], .int .i64 3]) ∧ ∃ g, w' = gr w g := by
  subst h; exact x_inv0 w
theorem y1 (a c : Ext) (h : a ≠ 0) (hc : c = Fld.inv a) (w : World) : Calls Try.prog 44 #[.agg #[.int .u64 (Zm.i (Ext.a (a))), .int .u64 (Zm.i (Ext.b (a)))]] w fun e w' => e = .returned (.tuple #[.agg #[.int .u64 (Zm.i (Ext.a (c))), .int .u64 (Zm.i (Ext.b (c)))], .int .i64 0]) ∧ ∃ g, w' = gr w g := by
  rw [hc]; exact e_inv a h w
theorem y2 (a c : Ext) (h : a ≠ 0) (hc : c = Fld.inv a) (w : World) : Calls Try.prog 45 #[.agg #[.int .u64 (Zm.i (Ext.a (a))), .int .u64 (Zm.i (Ext.b (a)))]] w fun e w' => e = .returned (.tuple #[.agg #[.int .u64 (Zm.i (Ext.a (c))), .int .u64 (Zm.i (Ext.b (c)))], .int .i64 0]) ∧ ∃ g, w' = gr w g := by
  rw [hc]; exact x_inv a h w
set_option maxRecDepth 100000 in
set_option maxHeartbeats 4000000 in
theorem wz (x0a x0b x0c x0d x1 x2 : Int) (h_x0a : In64 x0a) (h_x0b : In64 x0b) (h_x0c : In64 x0c) (h_x0d : In64 x0d) (h_x1 : In64 x1) (l_x2 : -9223372036854775808 ≤ x2) (u_x2 : x2 ≤ 9223372036854775807) (w : World) (ha : mk x0a x0b = 0) :
    Calls Try.prog 11 #[.agg #[.int .u64 x0a, .int .u64 x0b, .int .u64 x0c, .int .u64 x0d], .int .u64 x1, .int .i64 x2] w fun e w' => e = .returned (.bool true) ∧ Below w.heap.size w w' := by
  refine Calls.mono (R := fun e w' => e = .returned (.bool true) ∧ Gn w w') ?_ (fun e w' h => ⟨h.1, h.2.below⟩)
  go_enter Try.func11, Try.ntmps11
  go_wp2_with fail
  refine (e_sanity _).mono ?_
  rintro e w0 ⟨rfl, k0⟩
  have H0 := (Holds.al (Holds.nil w) (Obj.cells #[.int .u64 x0a, .int .u64 x0b, .int .u64 x0c, .int .u64 x0d] 43)).up k0
  have G0 := Gn.trans (Gn.al _) k0
  clear k0
  have q0 := obj_cell H0.1 0 rfl
  have q1 := obj_cell H0.1 1 rfl
  have q2 := obj_cell H0.1 2 rfl
  have q3 := obj_cell H0.1 3 rfl
  have ql := blk_lt H0.1
  go_wp2_with fail
  try simp only [List.append_eq, List.cons_append, List.nil_append]
  refine wp_region_gr (by kernel_rfl) (lex_of_chk (by kernel_rfl) (by kernel_rfl)) ?_
  repeat (go_big_quiet_step ((first
    | (go_at_call 41; with_reducible apply qg (e_valid _ _ _); rfl)
    | (go_at_call 42; with_reducible apply qg (x_valid _ _ _); rfl))))
  refine wpQuiet_nil ?_
  intro w1 k1
  have G1 := Gn.trans G0 k1
  have H1 := Holds.up k1 H0
  clear k1 G0 H0
  clear q0 q1 q2 q3 ql
  have HA := Lib.hid ha; clear ha
  have q0 := obj_cell H1.1 0 rfl
  have q1 := obj_cell H1.1 1 rfl
  have q2 := obj_cell H1.1 2 rfl
  have q3 := obj_cell H1.1 3 rfl
  have ql := blk_lt H1.1
  go_wp2_with fail
  try simp only [List.append_eq, List.cons_append, List.nil_append]
  refine wp_region_flow 8 (by kernel_rfl) (by kernel_rfl) ?_
  refine flow_one rfl (by simp) ?_
  go_big_quiet_step (fail)
  refine wpQuiet_nil ?_
  refine flow_one rfl (by simp) ?_
  go_big_quiet_step (fail)
  refine wpQuiet_nil ?_
  apply flow_is
  · simp
  · intro g K hK
    go_wp2_with fail
    refine (x_mk _ _ _).mono ?_
    rintro e w' ⟨rfl, g', rfl⟩
    go_wp2_with fail
    exact hK _ (up_comp g g')
  · rfl
  refine flow_one rfl (by simp) ?_
  go_big_quiet_step (fail)
  refine wpQuiet_nil ?_
  refine flow_one rfl (by simp) ?_
  go_big_quiet_step (fail)
  refine wpQuiet_nil ?_
  apply flow_is
  · simp
  · intro g K hK
    go_wp2_with fail
    refine (x_mk _ _ _).mono ?_
    rintro e w' ⟨rfl, g', rfl⟩
    go_wp2_with fail
    exact hK _ (up_comp g g')
  · rfl
  refine flow_ex newBox rfl (ex_alloc _ _ _ _) ?_
  refine flow_ex newBox rfl (ex_alloc _ _ _ _) ?_
  intro V N X hΓ hdis g hX
  obtain ⟨b1, b2, ⟨v1, v2⟩, ne12, n1, n2, z1, z2⟩ := end_boxes2 hΓ hdis hX 8 9 (by simp) (by simp) (by decide)
  have J : Gn w1 (gr w1 g) := ⟨g, rfl⟩
  clear hΓ hdis hX
  generalize gr w1 g = wm at *
  conv => arg 5; simp only [fill, v1, v2, Act.put, List.setIfInBounds_toArray, List.set_cons_succ, List.set_cons_zero]
  clear v1 v2
  refine tail_store (b := b1) (x := mk x0a x0b) rfl rfl (z1) ?_
  refine tail_store (b := b2) (x := mk x0c x0d) rfl rfl (set2_keep _ (z2) (by omega)) ?_
  refine wpList_nil ?_
  have f1 : (Fact.box b1 (mk x0a x0b)).At (set2 (set2 (wm) b1 (mk x0a x0b)) b2 (mk x0c x0d)) := set2_keep _ (set2_same (z1) _) (by omega)
  have f2 : (Fact.box b2 (mk x0c x0d)).At (set2 (set2 (wm) b1 (mk x0a x0b)) b2 (mk x0c x0d)) := set2_same (set2_keep _ (z2) (by omega)) _
  have JJ : Gn w1 (set2 (set2 (wm) b1 (mk x0a x0b)) b2 (mk x0c x0d)) := (set2_below ((set2_below (J) n1 _)) n2 _)
  generalize set2 (set2 (wm) b1 (mk x0a x0b)) b2 (mk x0c x0d) = w2 at f1 f2 JJ ⊢
  have G2 := Gn.trans G1 JJ
  have H2 : Holds w2 (.box b1 (mk x0a x0b) :: .box b2 (mk x0c x0d) :: _) := ⟨f1, f2, Holds.up JJ H1⟩
  clear f1 z1 n1 f2 z2 n2 J JJ G1 H1
  clear q0 q1 q2 q3 ql
  generalize mk x0a x0b = a at *
  generalize mk x0c x0d = b at *
  obtain ⟨c, hc⟩ : ∃ c, c = Fld.inv a := ⟨_, rfl⟩
  have HC := Lib.hid hc; clear hc
  obtain ⟨ra0, rb0, rl0⟩ := open_box H2.1
  obtain ⟨ra1, rb1, rl1⟩ := open_box H2.2.1
  go_wp2_with fail
  refine (v0 a HA.out _).mono ?_
  rintro e w3 ⟨rfl, k3⟩
  have H3 := Holds.up k3 H2
  have G3 := Gn.trans G2 k3
  clear k3 H2 G2
  clear ra0 rb0 rl0 ra1 rb1 rl1
  obtain ⟨ra0, rb0, rl0⟩ := open_box H3.1
  go_wp2_with fail
  refine (xv0 a HA.out _).mono ?_
  rintro e w4 ⟨rfl, k4⟩
  have H4 := Holds.up k4 (Holds.box H3 (0 : Ext))
  have G4 := Gn.trans (Gn.trans G3 (Gn.al _)) k4
  clear k4 H3 G3
  clear ra0 rb0 rl0
  go_wp2_with fail
  have H5 := Holds.box H4 (0 : Ext)
  have G5 : Gn w (w4.alloc (Obj.cells #[.int .u64 (Zm.i (Ext.a (0 : Ext))), .int .u64 (Zm.i (Ext.b (0 : Ext)))] 42)) := Gn.trans G4 (Gn.al _)
  generalize w4.alloc (Obj.cells #[.int .u64 (Zm.i (Ext.a (0 : Ext))), .int .u64 (Zm.i (Ext.b (0 : Ext)))] 42) = w5 at H5 G5 ⊢
  clear H4 G4
  obtain ⟨ra0, rb0, rl0⟩ := open_box H5.1
  obtain ⟨ra1, rb1, rl1⟩ := open_box H5.2.1
  obtain ⟨ra2, rb2, rl2⟩ := open_box H5.2.2.1
  obtain ⟨ra3, rb3, rl3⟩ := open_box H5.2.2.2.1
  try simp only [List.append_eq, List.cons_append, List.nil_append]
  refine wp_region_gr (by kernel_rfl) (lex_of_chk (by kernel_rfl) (by kernel_rfl)) ?_
  repeat (go_big_quiet_step ((first
    | (go_at_call 58; with_reducible apply qg (e_pow a x1 h_x1.nn h_x1.lt _); rfl)
    | (go_at_call 59; with_reducible apply qg (x_pow a x1 h_x1.nn h_x1.lt _); rfl)
    | (go_at_call 64; with_reducible apply qg (e_fromInt x2 l_x2 u_x2 _); rfl)
    | (go_at_call 65; with_reducible apply qg (x_fromInt x2 l_x2 u_x2 _); rfl)
    | (go_at_call 47; with_reducible apply qg (x_add _ _ _); rfl)
    | (go_at_call 49; with_reducible apply qg (x_sub _ _ _); rfl)
    | (go_at_call 51; with_reducible apply qg (x_neg _ _); rfl)
    | (go_at_call 53; with_reducible apply qg (x_mul _ _ _); rfl)
    | (go_at_call 55; with_reducible apply qg (x_mulBase _ _ _); rfl)
    | (go_at_call 57; with_reducible apply qg (x_conj _ _); rfl)
    | (go_at_call 61; with_reducible apply qg (x_isZero _ _); rfl)
    | (go_at_call 63; with_reducible apply qg (x_fromBase _ _); rfl)
    | (go_at_call 52; with_reducible apply qg (e_mul _ _ _); rfl)
    | (go_at_call 46; with_reducible apply qg (e_add _ _ _); rfl)
    | (go_at_call 48; with_reducible apply qg (e_sub _ _ _); rfl)
    | (go_at_call 50; with_reducible apply qg (e_neg _ _); rfl)
    | (go_at_call 56; with_reducible apply qg (e_conj _ _); rfl)
    | (go_at_call 62; with_reducible apply qg (e_fromBase _ _); rfl)
    | (go_at_call 60; with_reducible apply qg (e_isZero _ _); rfl)
    | (go_at_call 54; with_reducible apply qg (e_mulBase _ _ _); rfl)
    | (go_at_call 36; with_reducible apply qa (f_mul _ _ _); rfl)
    | (go_at_call 30; with_reducible apply qa (f_add _ _ _); rfl)
    | (go_at_call 67; with_reducible apply qg (o_prime _); rfl)
    | (go_at_call 66; with_reducible apply qg (o_one _); rfl)
    | (go_at_call 66; with_reducible apply qg (o_of _ _ _); rfl))))
  refine wpQuiet_nil ?_
  intro w6 k6
  have G6 := Gn.trans G5 k6
  have H6 := Holds.up k6 H5
  clear k6 G5 H5
  clear ra0 rb0 rl0 ra1 rb1 rl1 ra2 rb2 rl2 ra3 rb3 rl3
  go_wp2_with fail
  go_ret
  exact ⟨rfl, G6⟩
set_option maxRecDepth 100000 in
set_option maxHeartbeats 4000000 in
theorem wn (x0a x0b x0c x0d x1 x2 : Int) (h_x0a : In64 x0a) (h_x0b : In64 x0b) (h_x0c : In64 x0c) (h_x0d : In64 x0d) (h_x1 : In64 x1) (l_x2 : -9223372036854775808 ≤ x2) (u_x2 : x2 ≤ 9223372036854775807) (w : World) (ha : mk x0a x0b ≠ 0) :
    Calls Try.prog 11 #[.agg #[.int .u64 x0a, .int .u64 x0b, .int .u64 x0c, .int .u64 x0d], .int .u64 x1, .int .i64 x2] w fun e w' => e = .returned (.bool true) ∧ Below w.heap.size w w' := by
  refine Calls.mono (R := fun e w' => e = .returned (.bool true) ∧ Gn w w') ?_ (fun e w' h => ⟨h.1, h.2.below⟩)
  go_enter Try.func11, Try.ntmps11
  go_wp2_with fail
  refine (e_sanity _).mono ?_
  rintro e w0 ⟨rfl, k0⟩
  have H0 := (Holds.al (Holds.nil w) (Obj.cells #[.int .u64 x0a, .int .u64 x0b, .int .u64 x0c, .int .u64 x0d] 43)).up k0
  have G0 := Gn.trans (Gn.al _) k0
  clear k0
  have q0 := obj_cell H0.1 0 rfl
  have q1 := obj_cell H0.1 1 rfl
  have q2 := obj_cell H0.1 2 rfl
  have q3 := obj_cell H0.1 3 rfl
  have ql := blk_lt H0.1
  go_wp2_with fail
  try simp only [List.append_eq, List.cons_append, List.nil_append]
  refine wp_region_gr (by kernel_rfl) (lex_of_chk (by kernel_rfl) (by kernel_rfl)) ?_
  repeat (go_big_quiet_step ((first
    | (go_at_call 41; with_reducible apply qg (e_valid _ _ _); rfl)
    | (go_at_call 42; with_reducible apply qg (x_valid _ _ _); rfl))))
  refine wpQuiet_nil ?_
  intro w1 k1
  have G1 := Gn.trans G0 k1
  have H1 := Holds.up k1 H0
  clear k1 G0 H0
  clear q0 q1 q2 q3 ql
  have HA := Lib.hid ha; clear ha
  have q0 := obj_cell H1.1 0 rfl
  have q1 := obj_cell H1.1 1 rfl
  have q2 := obj_cell H1.1 2 rfl
  have q3 := obj_cell H1.1 3 rfl
  have ql := blk_lt H1.1
  go_wp2_with fail
  try simp only [List.append_eq, List.cons_append, List.nil_append]
  refine wp_region_flow 8 (by kernel_rfl) (by kernel_rfl) ?_
  refine flow_one rfl (by simp) ?_
  go_big_quiet_step (fail)
  refine wpQuiet_nil ?_
  refine flow_one rfl (by simp) ?_
  go_big_quiet_step (fail)
  refine wpQuiet_nil ?_
  apply flow_is
  · simp
  · intro g K hK
    go_wp2_with fail
    refine (x_mk _ _ _).mono ?_
    rintro e w' ⟨rfl, g', rfl⟩
    go_wp2_with fail
    exact hK _ (up_comp g g')
  · rfl
  refine flow_one rfl (by simp) ?_
  go_big_quiet_step (fail)
  refine wpQuiet_nil ?_
  refine flow_one rfl (by simp) ?_
  go_big_quiet_step (fail)
  refine wpQuiet_nil ?_
  apply flow_is
  · simp
  · intro g K hK
    go_wp2_with fail
    refine (x_mk _ _ _).mono ?_
    rintro e w' ⟨rfl, g', rfl⟩
    go_wp2_with fail
    exact hK _ (up_comp g g')
  · rfl
  refine flow_ex newBox rfl (ex_alloc _ _ _ _) ?_
  refine flow_ex newBox rfl (ex_alloc _ _ _ _) ?_
  intro V N X hΓ hdis g hX
  obtain ⟨b1, b2, ⟨v1, v2⟩, ne12, n1, n2, z1, z2⟩ := end_boxes2 hΓ hdis hX 8 9 (by simp) (by simp) (by decide)
  have J : Gn w1 (gr w1 g) := ⟨g, rfl⟩
  clear hΓ hdis hX
  generalize gr w1 g = wm at *
  conv => arg 5; simp only [fill, v1, v2, Act.put, List.setIfInBounds_toArray, List.set_cons_succ, List.set_cons_zero]
  clear v1 v2
  refine tail_store (b := b1) (x := mk x0a x0b) rfl rfl (z1) ?_
  refine tail_store (b := b2) (x := mk x0c x0d) rfl rfl (set2_keep _ (z2) (by omega)) ?_
  refine wpList_nil ?_
  have f1 : (Fact.box b1 (mk x0a x0b)).At (set2 (set2 (wm) b1 (mk x0a x0b)) b2 (mk x0c x0d)) := set2_keep _ (set2_same (z1) _) (by omega)
  have f2 : (Fact.box b2 (mk x0c x0d)).At (set2 (set2 (wm) b1 (mk x0a x0b)) b2 (mk x0c x0d)) := set2_same (set2_keep _ (z2) (by omega)) _
  have JJ : Gn w1 (set2 (set2 (wm) b1 (mk x0a x0b)) b2 (mk x0c x0d)) := (set2_below ((set2_below (J) n1 _)) n2 _)
  generalize set2 (set2 (wm) b1 (mk x0a x0b)) b2 (mk x0c x0d) = w2 at f1 f2 JJ ⊢
  have G2 := Gn.trans G1 JJ
  have H2 : Holds w2 (.box b1 (mk x0a x0b) :: .box b2 (mk x0c x0d) :: _) := ⟨f1, f2, Holds.up JJ H1⟩
  clear f1 z1 n1 f2 z2 n2 J JJ G1 H1
  clear q0 q1 q2 q3 ql
  generalize mk x0a x0b = a at *
  generalize mk x0c x0d = b at *
  obtain ⟨c, hc⟩ : ∃ c, c = Fld.inv a := ⟨_, rfl⟩
  have HC := Lib.hid hc; clear hc
  obtain ⟨ra0, rb0, rl0⟩ := open_box H2.1
  obtain ⟨ra1, rb1, rl1⟩ := open_box H2.2.1
  go_wp2_with fail
  refine (y1 a c HA.out HC.out _).mono ?_
  rintro e w3 ⟨rfl, k3⟩
  have H3 := Holds.up k3 H2
  have G3 := Gn.trans G2 k3
  clear k3 H2 G2
  clear ra0 rb0 rl0 ra1 rb1 rl1
  obtain ⟨ra0, rb0, rl0⟩ := open_box H3.1
  go_wp2_with fail
  refine (y2 a c HA.out HC.out _).mono ?_
  rintro e w4 ⟨rfl, k4⟩
  have H4 := Holds.up k4 (Holds.box H3 c)
  have G4 := Gn.trans (Gn.trans G3 (Gn.al _)) k4
  clear k4 H3 G3
  clear ra0 rb0 rl0
  go_wp2_with fail
  have H5 := Holds.box H4 c
  have G5 : Gn w (w4.alloc (Obj.cells #[.int .u64 (Zm.i (Ext.a c)), .int .u64 (Zm.i (Ext.b c))] 42)) := Gn.trans G4 (Gn.al _)
  generalize w4.alloc (Obj.cells #[.int .u64 (Zm.i (Ext.a c)), .int .u64 (Zm.i (Ext.b c))] 42) = w5 at H5 G5 ⊢
  clear H4 G4
  obtain ⟨ra0, rb0, rl0⟩ := open_box H5.1
  obtain ⟨ra1, rb1, rl1⟩ := open_box H5.2.1
  obtain ⟨ra2, rb2, rl2⟩ := open_box H5.2.2.1
  obtain ⟨ra3, rb3, rl3⟩ := open_box H5.2.2.2.1
  try simp only [List.append_eq, List.cons_append, List.nil_append]
  refine wp_region_gr (by kernel_rfl) (lex_of_chk (by kernel_rfl) (by kernel_rfl)) ?_
  repeat (go_big_quiet_step ((first
    | (go_at_call 58; with_reducible apply qg (e_pow a x1 h_x1.nn h_x1.lt _); rfl)
    | (go_at_call 59; with_reducible apply qg (x_pow a x1 h_x1.nn h_x1.lt _); rfl)
    | (go_at_call 64; with_reducible apply qg (e_fromInt x2 l_x2 u_x2 _); rfl)
    | (go_at_call 65; with_reducible apply qg (x_fromInt x2 l_x2 u_x2 _); rfl)
    | (go_at_call 47; with_reducible apply qg (x_add _ _ _); rfl)
    | (go_at_call 49; with_reducible apply qg (x_sub _ _ _); rfl)
    | (go_at_call 51; with_reducible apply qg (x_neg _ _); rfl)
    | (go_at_call 53; with_reducible apply qg (x_mul _ _ _); rfl)
    | (go_at_call 55; with_reducible apply qg (x_mulBase _ _ _); rfl)
    | (go_at_call 57; with_reducible apply qg (x_conj _ _); rfl)
    | (go_at_call 61; with_reducible apply qg (x_isZero _ _); rfl)
    | (go_at_call 63; with_reducible apply qg (x_fromBase _ _); rfl)
    | (go_at_call 52; with_reducible apply qg (e_mul _ _ _); rfl)
    | (go_at_call 46; with_reducible apply qg (e_add _ _ _); rfl)
    | (go_at_call 48; with_reducible apply qg (e_sub _ _ _); rfl)
    | (go_at_call 50; with_reducible apply qg (e_neg _ _); rfl)
    | (go_at_call 56; with_reducible apply qg (e_conj _ _); rfl)
    | (go_at_call 62; with_reducible apply qg (e_fromBase _ _); rfl)
    | (go_at_call 60; with_reducible apply qg (e_isZero _ _); rfl)
    | (go_at_call 54; with_reducible apply qg (e_mulBase _ _ _); rfl)
    | (go_at_call 36; with_reducible apply qa (f_mul _ _ _); rfl)
    | (go_at_call 30; with_reducible apply qa (f_add _ _ _); rfl)
    | (go_at_call 67; with_reducible apply qg (o_prime _); rfl)
    | (go_at_call 66; with_reducible apply qg (o_one _); rfl)
    | (go_at_call 66; with_reducible apply qg (o_of _ _ _); rfl))))
  refine wpQuiet_nil ?_
  intro w6 k6
  have G6 := Gn.trans G5 k6
  have H6 := Holds.up k6 H5
  clear k6 G5 H5
  clear ra0 rb0 rl0 ra1 rb1 rl1 ra2 rb2 rl2 ra3 rb3 rl3
  go_wp2_with fail
  go_ret
  exact ⟨rfl, G6⟩
set_option maxRecDepth 100000 in
set_option maxHeartbeats 4000000 in
theorem walk (x0a : Int) (x0b : Int) (x0c : Int) (x0d : Int) (x1 : Int) (x2 : Int) (h_x0a : In64 x0a) (h_x0b : In64 x0b) (h_x0c : In64 x0c) (h_x0d : In64 x0d) (h_x1 : In64 x1) (l_x2 : -9223372036854775808 ≤ x2) (u_x2 : x2 ≤ 9223372036854775807) (w : World) :
    Calls Try.prog 11 #[.agg #[.int .u64 x0a, .int .u64 x0b, .int .u64 x0c, .int .u64 x0d], .int .u64 x1, .int .i64 x2] w fun e w' => e = .returned (.bool true) ∧ Below w.heap.size w w' := by
  by_cases ha : mk x0a x0b = 0
  · exact wz x0a x0b x0c x0d x1 x2 h_x0a h_x0b h_x0c h_x0d h_x1 l_x2 u_x2 w ha
  · exact wn x0a x0b x0c x0d x1 x2 h_x0a h_x0b h_x0c h_x0d h_x1 l_x2 u_x2 w ha

set_option linter.unusedVariables false in
set_option maxRecDepth 100000 in
set_option maxHeartbeats 1000000 in
theorem lifted (os : Os) (started : os.Started) (H : Type) (enc : TypeId × Value → H) :
    ReturnsInHanded {} Try.checked os 11 .any (Rows.extMatchesReferenceSpec.pre6 enc Try.prog Try.f11 Rows.extMatchesReferenceRow.domain false) (Rows.extMatchesReferenceSpec.post enc Try.prog Try.f11 false true false false) := by
  refine returnsInHanded_of_change (C := Try.checked) own started (by kernel_rfl) Try.func11
    (ChangeSpec.witness6 (enc := enc) (C := Try.checked) false ⟨#[], #[.agg #[.int .u64 0, .int .u64 0, .int .u64 0, .int .u64 0], .int .u64 0, .int .i64 0], []⟩ 8 (by kernel_rfl) (by kernel_rfl) (by kernel_rfl) (by kernel_rfl)) ?_
  intro W base args ds gs before hval0 hW _ _
  have hval : ∀ (j : Nat) t v, Try.f11.params[j]? = some t → args[j]? = some v → Value.okWide Try.prog W .any base t v := hval0
  have hW' : DataW.Whole enc Try.prog Try.f11.params.toList Rows.extMatchesReferenceSpec.vars false W args.toList ds gs before := hW
  obtain ⟨p, q, hA0, hV, rfl, hfz, hnd⟩ := hW
  have hA : DataW.TrodAll enc Try.prog W 0 (fun _ => true) true Try.f11.params.toList args.toList ds p := hA0
  rw [Try.params11] at hA hval
  obtain ⟨v0, vs0, d0, ds0, p0, q0, hargs, rfl, rfl, h0, r0⟩ := trodAll_cons hA
  obtain ⟨v1, vs1, d1, ds1, p1, q1, rfl, rfl, rfl, h1, r1⟩ := trodAll_cons r0
  obtain ⟨v2, vs2, d2, ds2, p2, q2, rfl, rfl, rfl, h2, r2⟩ := trodAll_cons r1
  obtain ⟨rfl, rfl, rfl⟩ := trodAll_nil r2
  obtain rfl : args = #[v0, v1, v2] := by cases args; simp_all
  obtain ⟨rfl, rfl⟩ := trodVars_none hV
  obtain ⟨zs0, hlen0, rfl, hz0⟩ := aggs_open (k := .u64) (ts := [22, 22, 22, 22]) (n := 4) (by kernel_rfl) (by kernel_rfl) (by kernel_rfl) (by kernel_rfl) (hval 0 43 v0 rfl rfl)
  obtain ⟨x0a, x0b, x0c, x0d, rfl⟩ := list4 zs0 hlen0
  obtain ⟨x1, rfl, hz1⟩ := int_open Try.underlying22 (hval 1 22 v1 rfl rfl)
  obtain ⟨x2, rfl, hz2⟩ := int_open Try.underlying2 (hval 2 2 v2 rfl rfl)
  refine (walk x0a x0b x0c x0d x1 x2 ⟨(has_u64 (hz0 x0a (by simp))).1, (has_u64 (hz0 x0a (by simp))).2⟩ ⟨(has_u64 (hz0 x0b (by simp))).1, (has_u64 (hz0 x0b (by simp))).2⟩ ⟨(has_u64 (hz0 x0c (by simp))).1, (has_u64 (hz0 x0c (by simp))).2⟩ ⟨(has_u64 (hz0 x0d (by simp))).1, (has_u64 (hz0 x0d (by simp))).2⟩ ⟨(has_u64 hz1).1, (has_u64 hz1).2⟩ (has_i64 hz2).1 (has_i64 hz2).2 W).mono fun e W' ⟨he, bel⟩ => ?_
  subst he
  exact ⟨_, rfl, law_post laidOut hW' rfl (by kernel_rfl) rfl Try.underlying4 rfl bel⟩

theorem proved : Rows.ExtMatchesReferenceSaid :=
  OpenClaim.holds_of_wide 11 Try.f11 rfl rfl rfl rfl rfl rfl rfl ⟨rfl, rfl, rfl, rfl, rfl⟩ rfl rfl rfl rfl rfl (by kernel_rfl) Try.func11 (by kernel_rfl)
    (of_decide_eq_true (by kernel_rfl)) (by unfold Func.isWrapper; first | (rw [if_pos (by decide +kernel)]; kernel_rfl) | (rw [if_neg (by decide +kernel)]; exact ⟨rfl, rfl⟩))
    (fun os started H enc _ => lifted os started H enc)
end Go.Proofs.Ytfebohbhahaopaa.lawExtMatchesReference
