/- The walks of the reference of package poly: Add, Scale, Sub, Mul, Eval, DivRoot. -/
import Derived.Test.YtjchccpicddpoaaPw2
namespace Go.Proofs.Ytjchccpicddpoaa
open Go.RowKit Att Att.CRing
theorem co_lt {l : List Ext} {i : Nat} {x : Ext} (h : l[i]? = some x) : co l i = x := co_at h
theorem co_ge {l : List Ext} {n i : Nat} (h : l.length = n) (hi : ¬ i < n) : co l i = 0 := co_big l i (by omega)
theorem padd_get {l k : List Ext} {i : Nat} (h : i < max l.length k.length) : (padd l k)[i]? = some (co l i + co k i) := by
  unfold padd tab; rw [List.getElem?_map, List.getElem?_range h]; rfl
theorem padd_len (l k : List Ext) : (padd l k).length = max l.length k.length := tab_length _ _

set_option maxHeartbeats 4000000 in
theorem x_addL (A B : Option Addr) (n c m d : Nat) (l k : List Ext) (w : World) (hl : Sl w A n c l) (hk : Sl w B m d k) (hn : n ≤ 1000000) (hm : m ≤ 1000000) :
    Calls Try.prog 20 #[.slice A n c, .slice B m d] w (RetSl w (trim (padd l k))) := by
  have l1 := Lib.hid hl.len
  have k1 := Lib.hid hk.len
  obtain ⟨N, hN⟩ : ∃ N, N = max n m := ⟨_, rfl⟩
  have hNn : n ≤ N := by omega
  have hNm : m ≤ N := by omega
  have hN6 : N ≤ 1000000 := by omega
  have HN := Lib.hid hN; clear hN
  have hres : (padd l k).length = N := by rw [padd_len, l1.out, k1.out, HN.out]
  have HR := Lib.hid hres; clear hres
  rcases Nat.lt_or_ge n m with hnm | hnm
  all_goals
    go_enter Try.func20, Try.ntmps20
    go_wp2_with (at_make; refine wpList_mk (.tmp 11) (.tmp 11) N (congrArg (Value.int .i64) (by have := HN.out; omega)) (congrArg (Value.int .i64) (by have := HN.out; omega)) (by omega) ?_)
    go_loopw [6] (fun v wr => ∃ i : Nat, i ≤ N ∧ v = .int .i64 i ∧ Blk wr w.heap.size (Fi (padd l k) i) ∧ Gn w wr) (fun v _ => N - (intOf v).toNat)
    case atStart => exact ⟨0, by omega, rfl, by rw [Fi_zero, HR.out]; exact hnew w _, Gn.al _⟩
    case round =>
      obtain ⟨i, hi, rfl, hB, hg⟩ := hrel
      by_cases hlt : i < N
      · have hget : (padd l k)[i]? = some (co l i + co k i) := padd_get (by rw [l1.out, k1.out, ← HN.out]; exact hlt)
        have HG := Lib.hid hget; clear hget
        have h0 := Lib.hid (Fi_get (padd l k) (i := i) (by rw [HR.out]; exact hlt))
        have hil := Lib.hid (show i < (Fi (padd l k) i).length by rw [Fi_length _ (by rw [HR.out]; exact hi), HR.out]; exact hlt)
        obtain ⟨c1, c2⟩ := hB.cell h0.out
        have c3 := blk_lt hB
        by_cases h1 : i < n
        · obtain ⟨b, o, x, rfl, hx, q1, q2, q3⟩ := (hl.up hg).at_ h1
          have HX := Lib.hid (co_at hx); clear hx
          go_wp2_with fail
          trace "HALF1"
          try simp only [List.append_eq, List.cons_append, List.nil_append]
          refine wp_region_flow 12 (by kernel_rfl) (by kernel_rfl) ?_
          refine flow_one rfl (by simp) ?_
          go_big_quiet_step (fail)
          refine wpQuiet_nil ?_
          refine flow_one rfl (by simp) ?_
          go_big_quiet_step (fail)
          refine wpQuiet_nil ?_
          refine flow_one rfl (by simp) ?_
          go_big_quiet_step (fail)
          refine wpQuiet_nil ?_
          refine flow_one rfl (by simp) ?_
          go_big_quiet_step (fail)
          refine wpQuiet_nil ?_
          refine flow_one rfl (by simp) ?_
          go_big_quiet_step (fail)
          refine wpQuiet_nil ?_
          refine flow_one rfl (by simp) ?_
          go_big_quiet_step (fail)
          refine wpQuiet_nil ?_
          refine flow_one rfl (by simp) ?_
          go_big_quiet_step (fail)
          refine wpQuiet_nil ?_
          refine flow_one rfl (by simp) ?_
          go_big_quiet_step (fail)
          refine wpQuiet_nil ?_
          refine flow_one rfl (by simp) ?_
          go_big_quiet_step (fail)
          refine wpQuiet_nil ?_
          refine flow_one rfl (by simp) ?_
          go_big_quiet_step (fail)
          refine wpQuiet_nil ?_
          apply flow_is
          · simp
          · intro g K hK
            go_wp2_with fail
            refine (x_add (0) x _).mono ?_
            rintro e w' ⟨rfl, g', rfl⟩
            go_wp2_with fail
            exact hK _ (up_comp g g')
          · rfl
          refine flow_one rfl (by simp) ?_
          go_big_quiet_step (fail)
          refine wpQuiet_nil ?_
          intro V N X hΓ hdis g hX
          clear hΓ hdis hX
          conv => arg 5; simp only [fill]
          have hgn : Gn wr (gr wr g) := ⟨g, rfl⟩
          refine tail_storeE (b := w.heap.size) (i := i) (x := 0 + x) rfl rfl (Blk.up hB hgn) hil.out ?_
          refine wpList_nil ?_
          have hB' := (Blk.up hB hgn).set hil.out (0 + x)
          have hg' := setE_below (hg.trans hgn) (Nat.le_refl _) (i := i) (0 + x)
          generalize setE (gr wr g) w.heap.size i (0 + x) = wr' at hB' hg' ⊢
          clear c1 c2 c3 q1 q2 q3
          have h02 : ((Fi (padd l k) i).set i (0 + x))[i]? = some (0 + x) := by rw [List.getElem?_set_self]; exact hil.out
          have H02 := Lib.hid h02; clear h02
          have hil2 := Lib.hid (show i < ((Fi (padd l k) i).set i (0 + x)).length by rw [List.length_set]; exact hil.out)
          obtain ⟨c1, c2⟩ := hB'.cell H02.out
          have c3 := blk_lt hB'
          by_cases h2 : i < m
          · obtain ⟨b', o', y, rfl, hy, q1, q2, q3⟩ := (hk.up hg').at_ h2
            have HY := Lib.hid (co_at hy); clear hy
            go_wp2_with fail
            trace "HALF2"
            try simp only [List.append_eq, List.cons_append, List.nil_append]
            refine wp_region_flow 12 (by kernel_rfl) (by kernel_rfl) ?_
            refine flow_one rfl (by simp) ?_
            go_big_quiet_step (fail)
            refine wpQuiet_nil ?_
            refine flow_one rfl (by simp) ?_
            go_big_quiet_step (fail)
            refine wpQuiet_nil ?_
            refine flow_one rfl (by simp) ?_
            go_big_quiet_step (fail)
            refine wpQuiet_nil ?_
            refine flow_one rfl (by simp) ?_
            go_big_quiet_step (fail)
            refine wpQuiet_nil ?_
            refine flow_one rfl (by simp) ?_
            go_big_quiet_step (fail)
            refine wpQuiet_nil ?_
            refine flow_one rfl (by simp) ?_
            go_big_quiet_step (fail)
            refine wpQuiet_nil ?_
            refine flow_one rfl (by simp) ?_
            go_big_quiet_step (fail)
            refine wpQuiet_nil ?_
            refine flow_one rfl (by simp) ?_
            go_big_quiet_step (fail)
            refine wpQuiet_nil ?_
            refine flow_one rfl (by simp) ?_
            go_big_quiet_step (fail)
            refine wpQuiet_nil ?_
            refine flow_one rfl (by simp) ?_
            go_big_quiet_step (fail)
            refine wpQuiet_nil ?_
            apply flow_is
            · simp
            · intro g K hK
              go_wp2_with fail
              refine (x_add (0 + x) y _).mono ?_
              rintro e w' ⟨rfl, g', rfl⟩
              go_wp2_with fail
              exact hK _ (up_comp g g')
            · rfl
            refine flow_one rfl (by simp) ?_
            go_big_quiet_step (fail)
            refine wpQuiet_nil ?_
            intro V N X hΓ hdis g hX
            clear hΓ hdis hX
            conv => arg 5; simp only [fill]
            have hgn : Gn wr' (gr wr' g) := ⟨g, rfl⟩
            refine tail_storeE (b := w.heap.size) (i := i) (x := 0 + x + y) rfl rfl (Blk.up hB' hgn) hil2.out ?_
            refine wpList_nil ?_
            have hB'' := (Blk.up hB' hgn).set hil2.out (0 + x + y)
            have hg'' := setE_below (hg'.trans hgn) (Nat.le_refl _) (i := i) (0 + x + y)
            generalize setE (gr wr' g) w.heap.size i (0 + x + y) = wr'' at hB'' hg'' ⊢
            go_wp2_with fail
            refine ⟨⟨i + 1, by omega, by go_num, ?_, hg''⟩, by simp [intOf]; omega⟩
            rw [← Fi_set2 (x := 0 + x) HG.out, HX.out, HY.out, ← zero_add x]
            rw [zero_add (0 + x)] at *
            exact hB''
          · go_wp2_with fail
            refine ⟨⟨i + 1, by omega, by go_num, ?_, hg'⟩, by simp [intOf]; omega⟩
            have e := Fi_set HG.out
            rw [HX.out, co_ge k1.out h2, add_zero] at e
            rw [← e]
            rw [zero_add] at hB'
            exact hB'
        · by_cases h2 : i < m
          · obtain ⟨b', o', y, rfl, hy, q1, q2, q3⟩ := (hk.up hg).at_ h2
            have HY := Lib.hid (co_at hy); clear hy
            go_wp2_with fail
            trace "HALF3"
            try simp only [List.append_eq, List.cons_append, List.nil_append]
            refine wp_region_flow 12 (by kernel_rfl) (by kernel_rfl) ?_
            refine flow_one rfl (by simp) ?_
            go_big_quiet_step (fail)
            refine wpQuiet_nil ?_
            refine flow_one rfl (by simp) ?_
            go_big_quiet_step (fail)
            refine wpQuiet_nil ?_
            refine flow_one rfl (by simp) ?_
            go_big_quiet_step (fail)
            refine wpQuiet_nil ?_
            refine flow_one rfl (by simp) ?_
            go_big_quiet_step (fail)
            refine wpQuiet_nil ?_
            refine flow_one rfl (by simp) ?_
            go_big_quiet_step (fail)
            refine wpQuiet_nil ?_
            refine flow_one rfl (by simp) ?_
            go_big_quiet_step (fail)
            refine wpQuiet_nil ?_
            refine flow_one rfl (by simp) ?_
            go_big_quiet_step (fail)
            refine wpQuiet_nil ?_
            refine flow_one rfl (by simp) ?_
            go_big_quiet_step (fail)
            refine wpQuiet_nil ?_
            refine flow_one rfl (by simp) ?_
            go_big_quiet_step (fail)
            refine wpQuiet_nil ?_
            refine flow_one rfl (by simp) ?_
            go_big_quiet_step (fail)
            refine wpQuiet_nil ?_
            apply flow_is
            · simp
            · intro g K hK
              go_wp2_with fail
              refine (x_add (0) y _).mono ?_
              rintro e w' ⟨rfl, g', rfl⟩
              go_wp2_with fail
              exact hK _ (up_comp g g')
            · rfl
            refine flow_one rfl (by simp) ?_
            go_big_quiet_step (fail)
            refine wpQuiet_nil ?_
            intro V N X hΓ hdis g hX
            clear hΓ hdis hX
            conv => arg 5; simp only [fill]
            have hgn : Gn wr (gr wr g) := ⟨g, rfl⟩
            refine tail_storeE (b := w.heap.size) (i := i) (x := 0 + y) rfl rfl (Blk.up hB hgn) hil.out ?_
            refine wpList_nil ?_
            have hB' := (Blk.up hB hgn).set hil.out (0 + y)
            have hg' := setE_below (hg.trans hgn) (Nat.le_refl _) (i := i) (0 + y)
            generalize setE (gr wr g) w.heap.size i (0 + y) = wr' at hB' hg' ⊢
            go_wp2_with fail
            refine ⟨⟨i + 1, by omega, by go_num, ?_, hg'⟩, by simp [intOf]; omega⟩
            have e := Fi_set HG.out
            rw [HY.out, co_ge l1.out h1, zero_add] at e
            rw [← e]
            rw [zero_add] at hB'
            exact hB'
          · exfalso
            have := HN.out
            omega
      · obtain rfl : i = N := by omega
        have e := Lib.hid (Fi_end (padd l k))
        have hS : Sl wr (some ⟨w.heap.size, 0, none⟩) i i (padd l k) := by
          have h := hB.sl (by rw [Fi_length _ (by rw [HR.out]; exact Nat.le_refl _), HR.out]; omega)
          rw [Fi_length _ (by rw [HR.out]; exact Nat.le_refl _), HR.out] at h
          have e2 : Fi (padd l k) i = padd l k := by have := e.out; rwa [HR.out] at this
          rwa [e2] at h
        go_wp2_with fail
        refine (x_trim _ _ _ _ _ hS (by omega)).mono ?_
        rintro e w' ⟨A', n', c', rfl, hs, hg'⟩
        go_wp2_with fail
        go_ret
        exact ⟨A', n', c', rfl, hs, hg.trans hg'⟩

theorem psca_get {l : List Ext} {x y : Ext} {i : Nat} (h : l[i]? = some y) : (psca l x)[i]? = some (y * x) := by
  have hi : i < l.length := (List.getElem?_eq_some_iff.1 h).1
  unfold psca tab; rw [List.getElem?_map, List.getElem?_range hi, ← co_at h]; rfl
theorem psca_len (l : List Ext) (x : Ext) : (psca l x).length = l.length := tab_length _ _
set_option maxHeartbeats 2000000 in
theorem x_scale (A : Option Addr) (n c : Nat) (l : List Ext) (x : Ext) (w : World) (hl : Sl w A n c l) (hn : n ≤ 1000000) :
    Calls Try.prog 26 #[.slice A n c, .agg #[.int .u64 (Zm.i (Ext.a (x))), .int .u64 (Zm.i (Ext.b (x)))]] w (RetSl w (trim (psca l x))) := by
  have l1 := Lib.hid hl.len
  have hW : Gn w (w.alloc (.cells #[.int .u64 (Zm.i (Ext.a x)), .int .u64 (Zm.i (Ext.b x))] 25)) := Gn.al _
  have hC := hnew w (.cells #[.int .u64 (Zm.i (Ext.a x)), .int .u64 (Zm.i (Ext.b x))] 25)
  have hz : (w.alloc (.cells #[.int .u64 (Zm.i (Ext.a x)), .int .u64 (Zm.i (Ext.b x))] 25)).heap.size = w.heap.size + 1 := by simp
  go_enter Try.func26, Try.ntmps26
  go_wp2_with fail
  generalize w.alloc (.cells #[.int .u64 (Zm.i (Ext.a x)), .int .u64 (Zm.i (Ext.b x))] 25) = W1 at hW hC hz ⊢
  rw [← hz]
  have HZ := Lib.hid hz; clear hz
  go_loopw [5, 6] (fun v i wr => ∃ k : Nat, k ≤ n ∧ i = .int .i64 k ∧ Ow wr W1.heap.size v ((psca l x).take k) ∧ Gn W1 wr) (fun _ i _ => n - (intOf i).toNat)
  case atStart => exact ⟨0, by omega, rfl, Ow.empty W1 (Nat.le_refl _), Gn.al _⟩
  case round =>
    obtain ⟨k, hk, rfl, ho, hg⟩ := hrel
    have hWw := hW.trans hg
    by_cases h1 : k < n
    · obtain ⟨b, o, y, rfl, hx, q1, q2, q3⟩ := (hl.up hWw).at_ h1
      have HX := Lib.hid (take_snoc' (psca_get (x := x) hx)); clear hx
      have hC2 := hg.block hC
      have c1 := box_a hC2
      have c2 := box_b hC2
      have c3 := blk_lt hC2
      have hlen := Lib.hid (show ((psca l x).take k).length ≤ 1000000 by simp [psca_len, l1.out]; omega)
      go_wp2_with fail
      try simp only [List.append_eq, List.cons_append, List.nil_append]
      refine wp_region_flow 8 (by kernel_rfl) (by kernel_rfl) ?_
      refine flow_one rfl (by simp) ?_
      go_big_quiet_step (fail)
      refine wpQuiet_nil ?_
      refine flow_one rfl (by simp) ?_
      go_big_quiet_step (fail)
      refine wpQuiet_nil ?_
      refine flow_one rfl (by simp) ?_
      go_big_quiet_step (fail)
      refine wpQuiet_nil ?_
      refine flow_one rfl (by simp) ?_
      go_big_quiet_step (fail)
      refine wpQuiet_nil ?_
      refine flow_one rfl (by simp) ?_
      go_big_quiet_step (fail)
      refine wpQuiet_nil ?_
      refine flow_one rfl (by simp) ?_
      go_big_quiet_step (fail)
      refine wpQuiet_nil ?_
      apply flow_is
      · simp
      · intro g K hK
        go_wp2_with fail
        refine (x_mul y x _).mono ?_
        rintro e w' ⟨rfl, g', rfl⟩
        go_wp2_with fail
        exact hK _ (up_comp g g')
      · rfl
      refine flow_ex (oneSl (y * x)) rfl (ex_one _ _ _ _ _ (y * x) ?_) ?_
      · intro V; rfl
      intro V N X hΓ hdis g hX
      obtain ⟨b1, hv, hb1, hB1⟩ := end_one hΓ hX (s := 21) (x := y * x) (by simp)
      clear hΓ hdis hX
      have hgn : Gn wr (gr wr g) := ⟨g, rfl⟩
      generalize gr wr g = w2 at *
      conv => arg 5; simp only [fill, hv, Act.put, List.setIfInBounds_toArray, List.set_cons_succ, List.set_cons_zero]
      have ho2 := ho.up hgn
      have hg2 := hg.trans hgn
      refine wpList_app (.tmp 14) (.tmp 21) rfl ho2 hg2.size rfl (hB1.sl (by simp)) (by have := hlen.out; omega) ?_
      intro v3 w3 ho3 hg3
      have hg4 := grown_gn hg2 ho2 (Nat.le_refl _) hg3
      clear hg3 hv c1 c2 c3 q1 q2 q3 hC2
      go_wp2_with fail
      exact ⟨⟨k + 1, by omega, by go_num, by rw [HX.out]; exact ho3, hg4⟩, by simp [intOf]; omega⟩
    · obtain rfl : k = n := by omega
      have he := Lib.hid (show (psca l x).take k = psca l x from List.take_of_length_le (by rw [psca_len, l1.out]; exact Nat.le_refl _))
      rw [he.out] at ho
      obtain ⟨A2, c2, rfl, hs⟩ := ho.sl
      have hlen := Lib.hid (show (psca l x).length ≤ 1000000 by rw [psca_len, l1.out]; omega)
      go_wp2_with fail
      refine (x_trim _ _ _ _ _ hs (by have := hlen.out; omega)).mono ?_
      rintro e w' ⟨A', n', c', rfl, hs', hg'⟩
      go_wp2_with fail
      go_ret
      exact ⟨A', n', c', rfl, hs', hWw.trans hg'⟩
theorem psub_eq (l k : List Ext) : trim (padd l (trim (psca k (int (-1))))) = trim (psub l k) := trim_ext (fun i => by
  rw [co_padd, co_trim, co_psca, co_psub, sub_eq]
  congr 1
  rw [int_neg, int_one, mul_neg, mul_one])
theorem x_subL (A B : Option Addr) (n c m d : Nat) (l k : List Ext) (w : World) (hl : Sl w A n c l) (hk : Sl w B m d k) (hn : n ≤ 1000000) (hm : m ≤ 1000000) :
    Calls Try.prog 22 #[.slice A n c, .slice B m d] w (RetSl w (trim (psub l k))) := by
  have hle := Lib.hid (show (trim (psca k (int (-1)))).length ≤ m from Nat.le_trans (trim_length_le _) (by rw [psca_len, hk.len]; exact Nat.le_refl _))
  go_enter Try.func22, Try.ntmps22
  go_wp2_with fail
  refine (x_fromInt (-1) (by omega) (by omega) _).mono ?_
  rintro e w1 ⟨rfl, g1⟩
  go_wp2_with fail
  refine (x_scale B m d k (int (-1)) _ (hk.up g1) hm).mono ?_
  rintro e w2 ⟨A', n', c', rfl, hs, g2⟩
  obtain rfl := hs.len
  have g12 := Gn.trans g1 g2
  go_wp2_with fail
  refine (x_addL A A' n c _ c' l _ _ (hl.up g12) hs hn (by have := hle.out; omega)).mono ?_
  rintro e w3 ⟨A3, n3, c3, rfl, hs3, g3⟩
  go_wp2_with fail
  go_ret
  rw [← psub_eq]
  exact ⟨A3, n3, c3, rfl, hs3, g12.trans g3⟩

theorem ev_drop {l : List Ext} {i : Nat} {y : Ext} (h : l[i]? = some y) (x : Ext) : ev (l.drop i) x = ev (l.drop (i + 1)) x * x + y := by
  have hi : i < l.length := (List.getElem?_eq_some_iff.1 h).1
  have hy : l[i] = y := Option.some.inj ((List.getElem?_eq_getElem hi).symm.trans h)
  rw [List.drop_eq_getElem_cons hi, hy, ev_cons]
/-- three boxes of a function's own -/
structure Box3 (w wr : World) (x r v : Ext) : Prop where
  g : Gn w wr
  x : wr.heap[w.heap.size]? = some (.cells #[.int .u64 (Zm.i (Ext.a x)), .int .u64 (Zm.i (Ext.b x))] 25)
  r : wr.heap[w.heap.size + 1]? = some (.cells #[.int .u64 (Zm.i (Ext.a r)), .int .u64 (Zm.i (Ext.b r))] 25)
  v : wr.heap[w.heap.size + 2]? = some (.cells #[.int .u64 (Zm.i (Ext.a v)), .int .u64 (Zm.i (Ext.b v))] 25)
theorem Box3.up {w wr w2 : World} {x r v : Ext} (h : Box3 w wr x r v) (g : Gn wr w2) : Box3 w w2 x r v := ⟨h.g.trans g, g.block h.x, g.block h.r, g.block h.v⟩
theorem Box3.setV {w wr : World} {x r v : Ext} (h : Box3 w wr x r v) (u : Ext) : Box3 w (set2 wr (w.heap.size + 2) u) x r u :=
  ⟨set2_below h.g (by omega) u, set2_keep _ h.x (by omega), set2_keep _ h.r (by omega), set2_same h.v u⟩
theorem Box3.setR {w wr : World} {x r v : Ext} (h : Box3 w wr x r v) (u : Ext) : Box3 w (set2 wr (w.heap.size + 1) u) x u v :=
  ⟨set2_below h.g (by omega) u, set2_keep _ h.x (by omega), set2_same h.r u, set2_keep _ h.v (by omega)⟩
theorem Box3.start (w : World) (x : Ext) : Box3 w (((w.alloc (.cells #[.int .u64 (Zm.i (Ext.a x)), .int .u64 (Zm.i (Ext.b x))] 25)).alloc zeroExt).alloc zeroExt) x 0 0 := by
  have h1 := hnew w (.cells #[.int .u64 (Zm.i (Ext.a x)), .int .u64 (Zm.i (Ext.b x))] 25)
  have h2 := hnew (w.alloc (.cells #[.int .u64 (Zm.i (Ext.a x)), .int .u64 (Zm.i (Ext.b x))] 25)) zeroExt
  have h3 := hnew ((w.alloc (.cells #[.int .u64 (Zm.i (Ext.a x)), .int .u64 (Zm.i (Ext.b x))] 25)).alloc zeroExt) zeroExt
  simp only [World.size_alloc] at h2 h3
  exact ⟨((Gn.al _).trans (Gn.al _)).trans (Gn.al _), ((Gn.al _).trans (Gn.al _)).block h1, (Gn.al _).block h2, h3⟩
set_option maxHeartbeats 2000000 in
theorem x_eval (A : Option Addr) (n c : Nat) (l : List Ext) (x : Ext) (w : World) (hl : Sl w A n c l) (hn : n ≤ 1000000) :
    Calls Try.prog 28 #[.slice A n c, .agg #[.int .u64 (Zm.i (Ext.a (x))), .int .u64 (Zm.i (Ext.b (x)))]] w fun e w' => e = .returned (.agg #[.int .u64 (Zm.i (Ext.a (ev l x))), .int .u64 (Zm.i (Ext.b (ev l x)))]) ∧ ∃ g, w' = gr w g := by
  have l1 := Lib.hid hl.len
  go_enter Try.func28, Try.ntmps28
  go_wp2_with fail
  go_loopw [6] (fun i wr => ∃ k : Nat, k ≤ n ∧ i = .int .i64 ((k : Int) - 1) ∧ Box3 w wr x 0 (ev (l.drop k) x)) (fun i _ => (intOf i + 1).toNat)
  case atStart =>
    refine ⟨n, Nat.le_refl _, rfl, ?_⟩
    rw [List.drop_of_length_le (by rw [l1.out]; exact Nat.le_refl _)]
    exact Box3.start w x
  case round =>
    obtain ⟨k, hk, rfl, hb⟩ := hrel
    cases k with
    | zero =>
      rw [List.drop_zero] at hb
      have c1 := box_a hb.v
      have c2 := box_b hb.v
      have c3 := blk_lt hb.v
      have r1 := box_a hb.r
      have r2 := box_b hb.r
      have r3 := box_fz (i := 0) hb.r
      have r4 := box_fz (i := 1) hb.r
      go_wp2_with fail
      have hR := hb.setR (ev l x)
      have s1 := box_a hR.r
      have s2 := box_b hR.r
      unfold set2 at s1 s2 hR
      exact bodyPost_ret (v := .agg #[.int .u64 (Zm.i (Ext.a (ev l x))), .int .u64 (Zm.i (Ext.b (ev l x)))]) (by simp [results, Try.results28, go_sem, s1, s2]) rfl ⟨rfl, hR.g⟩
    | succ j =>
      rw [show ((j + 1 : Nat) : Int) - 1 = (j : Int) from by omega]
      obtain ⟨b, o, y, rfl, hx, q1, q2, q3⟩ := (hl.up hb.g).at_ (j := j) (by omega)
      have HE := Lib.hid (ev_drop hx x); clear hx
      generalize hV : ev (l.drop (j + 1)) x = v at *
      have c1 := box_a hb.v
      have c2 := box_b hb.v
      have c3 := blk_lt hb.v
      have d1 := box_a hb.x
      have d2 := box_b hb.x
      have d3 := blk_lt hb.x
      have HV := Lib.hid hV; clear hV
      go_wp2_with fail
      try simp only [List.append_eq, List.cons_append, List.nil_append]
      refine wp_region_flow 8 (by kernel_rfl) (by kernel_rfl) ?_
      refine flow_one rfl (by simp) ?_
      go_big_quiet_step (fail)
      refine wpQuiet_nil ?_
      refine flow_one rfl (by simp) ?_
      go_big_quiet_step (fail)
      refine wpQuiet_nil ?_
      apply flow_is
      · simp
      · intro g K hK
        go_wp2_with fail
        refine (x_mul v x _).mono ?_
        rintro e w' ⟨rfl, g', rfl⟩
        go_wp2_with fail
        exact hK _ (up_comp g g')
      · rfl
      refine flow_one rfl (by simp) ?_
      go_big_quiet_step (fail)
      refine wpQuiet_nil ?_
      refine flow_one rfl (by simp) ?_
      go_big_quiet_step (fail)
      refine wpQuiet_nil ?_
      refine flow_one rfl (by simp) ?_
      go_big_quiet_step (fail)
      refine wpQuiet_nil ?_
      refine flow_one rfl (by simp) ?_
      go_big_quiet_step (fail)
      refine wpQuiet_nil ?_
      apply flow_is
      · simp
      · intro g K hK
        go_wp2_with fail
        refine (x_add (v * x) y _).mono ?_
        rintro e w' ⟨rfl, g', rfl⟩
        go_wp2_with fail
        exact hK _ (up_comp g g')
      · rfl
      intro V N X hΓ hdis g hX
      clear hΓ hdis hX
      conv => arg 5; simp only [fill]
      have hgn : Gn wr (gr wr g) := ⟨g, rfl⟩
      have hb2 := (hb.up hgn).setV (v * x + y)
      refine tail_store (b := w.heap.size + 2) (x := v * x + y) rfl rfl (hb.up hgn).v ?_
      refine wpList_nil ?_
      generalize set2 (gr wr g) (w.heap.size + 2) (v * x + y) = w2 at hb2 ⊢
      clear c1 c2 c3 d1 d2 d3 q1 q2 q3
      go_wp2_with fail
      exact ⟨⟨j, by omega, by go_num, by rw [HE.out]; exact hb2⟩, by simp [intOf]⟩
end Go.Proofs.Ytjchccpicddpoaa
