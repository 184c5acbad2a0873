/- ExtComponents: for every pair of numbers of 64 bits the law on the components of an element returns true; no conditions. -/
import Derived.Test.YtfebohbhahaopaaFrm
import Derived.Test.YtfebohbhahaopaaEs
import Derived.Test.YtfebohbhahaopaaSt
namespace Go.Proofs.Ytfebohbhahaopaa.lawExtComponents
open Go.ChangeShapes Go.WideShapes Go.ChangeAt Go.RowKit Att Att.CRing
theorem o_X (w : World) : Calls Try.prog 66 #[.int .u64 0, .int .u64 1] w fun e w' => e = .returned (.agg #[.int .u64 (Zm.i (Ext.a (Ext.X))), .int .u64 (Zm.i (Ext.b (Ext.X)))]) ∧ ∃ g, w' = gr w g := o_of 0 1 w
theorem c1 (x : Ext) : Ext.base x.a + Ext.X * Ext.base x.b = x := by rw [mul_comm, ← Ext.split]
theorem c2 (x : Ext) : (Ext.X * x).a = int 7 * x.b := (ring_of [Ext.seven, x.a, x.b] (0 * v1 + v0 * (1 * v2)) (v0 * v2) rfl)
theorem c3 (x : Ext) : (Ext.X * x).b = x.a := (ring_of [x.a, x.b] (0 * v1 + 1 * v0) v0 rfl)
theorem c4 (x : Ext) : Ext.X * (Ext.X * x) = x * Ext.base (int 7) := by rw [← mul_assoc, Ext.X_sq, mul_comm]; rfl
theorem e_mulBase7 (x : Ext) (w : World) : Calls Try.prog 54 #[.agg #[.int .u64 (Zm.i (Ext.a (x))), .int .u64 (Zm.i (Ext.b (x)))], .int .u64 7] w fun e w' => e = .returned (.agg #[.int .u64 (Zm.i (Ext.a (x * Ext.base (int 7)))), .int .u64 (Zm.i (Ext.b (x * Ext.base (int 7))))]) ∧ ∃ g, w' = gr w g := e_mulBase x (int 7) w
set_option maxRecDepth 100000 in
set_option maxHeartbeats 4000000 in
theorem walk (x0a : Int) (x0b : Int) (h_x0a : In64 x0a) (h_x0b : In64 x0b) (w : World) :
    Calls Try.prog 18 #[.agg #[.int .u64 x0a, .int .u64 x0b]] w fun e w' => e = .returned (.bool true) ∧ Below w.heap.size w w' := by
  refine Calls.mono (R := fun e w' => e = .returned (.bool true) ∧ Gn w w') ?_ (fun e w' h => ⟨h.1, h.2.below⟩)
  go_enter Try.func18, Try.ntmps18
  go_wp2_with fail
  refine (e_sanity _).mono ?_
  rintro e w0 ⟨rfl, k0⟩
  have H0 := (Holds.al (Holds.nil w) (Obj.cells #[.int .u64 x0a, .int .u64 x0b] 42)).up k0
  have G0 := Gn.trans (Gn.al _) k0
  clear k0
  obtain ⟨q1, q2, q3⟩ : w0.cell? ⟨w.heap.size, 0, none⟩ = some (.int .u64 x0a) ∧ w0.cell? ⟨w.heap.size, 1, none⟩ = some (.int .u64 x0b) ∧ w.heap.size < w0.heap.size := ⟨box_a H0.1, box_b H0.1, blk_lt H0.1⟩
  go_wp2_with fail
  refine (x_made _ _ _).mono ?_
  rintro e w1 ⟨rfl, k1⟩
  have G1 := G0.trans k1
  clear k1 q1 q2 q3 H0 G0
  generalize (⟨int x0a, int x0b⟩ : Ext) = x
  go_wp2_with fail
  refine (o_X _).mono ?_
  rintro e w2 ⟨rfl, k2⟩
  have H2 := (Holds.box (Holds.nil w1) x).up k2
  have G2 := (G1.trans (Gn.al _)).trans k2
  clear k2 G1
  obtain ⟨q1, q2, q3⟩ := open_box H2.1
  go_wp2_with fail
  refine (e_mul _ _ _).mono ?_
  rintro e w3 ⟨rfl, k3⟩
  have H3 := (Holds.box H2 Ext.X).up k3
  have G3 := (G2.trans (Gn.al _)).trans k3
  clear k3 G2 H2 q1 q2 q3
  go_wp2_with fail
  have H4 := Holds.box H3 (Ext.X * x)
  have G4 := G3.trans (Gn.al (Obj.cells #[.int .u64 (Zm.i (Ext.a (Ext.X * x))), .int .u64 (Zm.i (Ext.b (Ext.X * x)))] 42))
  generalize w3.alloc (Obj.cells #[.int .u64 (Zm.i (Ext.a (Ext.X * x))), .int .u64 (Zm.i (Ext.b (Ext.X * x)))] 42) = w4 at H4 G4 ⊢
  clear H3 G3
  obtain ⟨r1, r2, r3⟩ := open_box H4.1
  obtain ⟨s1, s2, s3⟩ := open_box H4.2.1
  obtain ⟨t1, t2, t3⟩ := open_box H4.2.2.1
  have E1 : (Zm.i (Ext.a (Ext.X * x)) == Zm.i (int 7 * x.b)) = true := by rw [c2]; simp
  have E2 : (Zm.i (Ext.b (Ext.X * x)) == Zm.i x.a) = true := by rw [c3]; simp
  have E3 : Ext.base x.a + Ext.X * Ext.base x.b = x := c1 x
  have E4 : Ext.X * (Ext.X * x) = x * Ext.base (int 7) := c4 x
  try simp only [List.append_eq, List.cons_append, List.nil_append]
  refine wp_region_gr (by kernel_rfl) (lex_of_chk (by kernel_rfl) (by kernel_rfl)) ?_
  repeat (go_big_quiet_step ((first
    | (go_at_call 66; with_reducible apply qg (o_of _ _ _); rfl)
    | (go_at_call 36; with_reducible apply qa (f_mul _ _ _); rfl)
    | (go_at_call 52; with_reducible apply qg (e_mul _ _ _); rfl)
    | (go_at_call 46; with_reducible apply qg (e_add _ _ _); rfl)
    | (go_at_call 62; with_reducible apply qg (e_fromBase _ _); rfl)
    | (go_at_call 54; with_reducible apply qg (e_mulBase7 _ _); rfl)
    | (go_at_call 54; with_reducible apply qg (e_mulBase _ _ _); rfl))))
  refine wpQuiet_nil ?_
  intro _ hw'
  obtain ⟨g, hw''⟩ := hw'
  subst hw''
  go_wp2_with fail
  go_ret
  exact ⟨rfl, G4.trans ⟨g, rfl⟩⟩

set_option linter.unusedVariables false in
set_option maxRecDepth 100000 in
set_option maxHeartbeats 1000000 in
theorem lifted (os : Os) (started : os.Started) (H : Type) (enc : TypeId × Value → H) :
    ReturnsInHanded {} Try.checked os 18 .any (Rows.extComponentsSpec.pre6 enc Try.prog Try.f18 Rows.extComponentsRow.domain false) (Rows.extComponentsSpec.post enc Try.prog Try.f18 false true false false) := by
  refine returnsInHanded_of_change (C := Try.checked) own started (by kernel_rfl) Try.func18
    (ChangeSpec.witness6 (enc := enc) (C := Try.checked) false ⟨#[], #[.agg #[.int .u64 0, .int .u64 0]], []⟩ 8 (by kernel_rfl) (by kernel_rfl) (by kernel_rfl) (by kernel_rfl)) ?_
  intro W base args ds gs before hval0 hW _ _
  have hval : ∀ (j : Nat) t v, Try.f18.params[j]? = some t → args[j]? = some v → Value.okWide Try.prog W .any base t v := hval0
  have hW' : DataW.Whole enc Try.prog Try.f18.params.toList Rows.extComponentsSpec.vars false W args.toList ds gs before := hW
  obtain ⟨p, q, hA0, hV, rfl, hfz, hnd⟩ := hW
  have hA : DataW.TrodAll enc Try.prog W 0 (fun _ => true) true Try.f18.params.toList args.toList ds p := hA0
  rw [Try.params18] at hA hval
  obtain ⟨v0, vs0, d0, ds0, p0, q0, hargs, rfl, rfl, h0, r0⟩ := trodAll_cons hA
  obtain ⟨rfl, rfl, rfl⟩ := trodAll_nil r0
  obtain rfl : args = #[v0] := by cases args; simp_all
  obtain ⟨rfl, rfl⟩ := trodVars_none hV
  obtain ⟨zs0, hlen0, rfl, hz0⟩ := aggs_open (k := .u64) (ts := [22, 22]) (n := 2) (by kernel_rfl) (by kernel_rfl) (by kernel_rfl) (by kernel_rfl) (hval 0 42 v0 rfl rfl)
  obtain ⟨x0a, x0b, rfl⟩ := list2 zs0 hlen0
  refine (walk x0a x0b ⟨(has_u64 (hz0 x0a (by simp))).1, (has_u64 (hz0 x0a (by simp))).2⟩ ⟨(has_u64 (hz0 x0b (by simp))).1, (has_u64 (hz0 x0b (by simp))).2⟩ W).mono fun e W' ⟨he, bel⟩ => ?_
  subst he
  exact ⟨_, rfl, law_post laidOut hW' rfl (by kernel_rfl) rfl Try.underlying4 rfl bel⟩

theorem proved : Rows.ExtComponentsSaid :=
  OpenClaim.holds_of_wide 18 Try.f18 rfl rfl rfl rfl rfl rfl rfl ⟨rfl, rfl, rfl, rfl, rfl⟩ rfl rfl rfl rfl rfl (by kernel_rfl) Try.func18 (by kernel_rfl)
    (of_decide_eq_true (by kernel_rfl)) (by unfold Func.isWrapper; first | (rw [if_pos (by decide +kernel)]; kernel_rfl) | (rw [if_neg (by decide +kernel)]; exact ⟨rfl, rfl⟩))
    (fun os started H enc _ => lifted os started H enc)
end Go.Proofs.Ytfebohbhahaopaa.lawExtComponents
