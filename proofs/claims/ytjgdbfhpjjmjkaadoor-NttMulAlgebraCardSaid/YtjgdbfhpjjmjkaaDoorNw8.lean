/- ntt.Forward, ntt.Inverse. -/
import Derived.Test.YtjgdbfhpjjmjkaaDoorNw7
namespace Go.Proofs.YtjgdbfhpjjmjkaaDoor
open Go.RowKit Att Att.CRing
theorem Gn.by {W a b : World} {g : Nat} (h : Gn W a) (hb : W.heap.size ≤ g) (k : a.grownBy b (some g)) : Gn W b :=
  Gn.of (h.below.grown k h.size (fun q hq => by simp at hq; omega))
theorem valP_dft {l : List F} {k : Nat} (hl : l.length = 2 ^ k) (u : F) : tab (2 ^ k) (dft (2 ^ k) u (co l)) = valP l u (2 ^ k) := by
  unfold valP
  congr 1
  funext i
  exact dft_ev l _ (by omega) u i
theorem valP_length (l : List F) (u : F) (n : Nat) : (valP l u n).length = n := tab_length _ _
theorem n_tfF (g c k : Nat) (l : List F) (rest : List Value) (w : World) (hT : Tab w) (hk : k ≤ 16) (hl : l.length = 2 ^ k) (hR : RF w g l rest) (hc : 2 ^ k ≤ c) (hc2 : c ≤ 9223372036854775807) :
    Calls Tryd.prog 34 #[.slice (some ⟨g, 0, none⟩) (2 ^ k : Nat) c, .bool false] w fun e w' => e = .returned (.tuple #[]) ∧ RF w' g (valP l (root k) (2 ^ k)) rest ∧ w.grownBy w' (some g) := by
  have h := n_transform false root g c k l rest w hT hk hl hR hc hc2 (fun B C => stages_iterF root (fun _ => rfl) B C k hk) (fun s hs => root_sq s (by omega)) (fun s hs => root_half s (by omega))
  rwa [valP_dft hl] at h
theorem n_tfT (g c k : Nat) (l : List F) (rest : List Value) (w : World) (hT : Tab w) (hk : k ≤ 16) (hl : l.length = 2 ^ k) (hR : RF w g l rest) (hc : 2 ^ k ≤ c) (hc2 : c ≤ 9223372036854775807) :
    Calls Tryd.prog 34 #[.slice (some ⟨g, 0, none⟩) (2 ^ k : Nat) c, .bool true] w fun e w' => e = .returned (.tuple #[]) ∧ RF w' g (valP l (Fld.inv (root k)) (2 ^ k)) rest ∧ w.grownBy w' (some g) := by
  have h := n_transform true (fun k => Fld.inv (root k)) g c k l rest w hT hk hl hR hc hc2 (fun B C => stages_iterT (fun k => Fld.inv (root k)) (fun _ => rfl) B C k hk)
    (fun s hs => by
      show Fld.inv (root (s + 1)) * Fld.inv (root (s + 1)) = Fld.inv (root s)
      rw [← inv_mul, root_sq s (by omega)])
    (fun s hs => by
      show pw (Fld.inv (root (s + 1))) (2 ^ s) = -1
      rw [← inv_pw, root_half s (by omega)]
      exact (inv_unique (neg_one_sq)).symm)
  rwa [valP_dft hl] at h
/-- what a function of the package answers: a row and an error's number -/
structure Ret4 (e : Ending) (w w' : World) (r : List F × Int) : Prop where
  ex : ∃ A c, e = .returned (.tuple #[.slice A r.1.length c, .int .i64 r.2]) ∧ SF w' A r.1.length c r.1
  g : Gn w w'
open Classical in
noncomputable def fwdOf (l : List F) : List F × Int := if vlen l.length then (valP l (root l.length.log2) l.length, 0) else ([], 1)
open Classical in
noncomputable def invOf (l : List F) : List F × Int := if vlen l.length then ((valP l (Fld.inv (root l.length.log2)) l.length).map (· * Fld.inv (int (l.length : Int))), 0) else ([], 1)
theorem fwdOf_pow {l : List F} {k : Nat} (hl : l.length = 2 ^ k) (hk : k ≤ 16) : fwdOf l = (valP l (root k) (2 ^ k), 0) := by
  unfold fwdOf
  rw [if_pos ⟨k, hk, hl⟩, hl, Nat.log2_two_pow]
theorem fwdOf_bad {l : List F} (h : ¬ vlen l.length) : fwdOf l = ([], 1) := if_neg h
theorem invOf_pow {l : List F} {k : Nat} (hl : l.length = 2 ^ k) (hk : k ≤ 16) : invOf l = ((valP l (Fld.inv (root k)) (2 ^ k)).map (· * Fld.inv (int ((2 ^ k : Nat) : Int))), 0) := by
  unfold invOf
  rw [if_pos ⟨k, hk, hl⟩, hl, Nat.log2_two_pow]
theorem invOf_bad {l : List F} (h : ¬ vlen l.length) : invOf l = ([], 1) := if_neg h
open Classical in
set_option maxHeartbeats 1000000 in
theorem n_forward (A : Option Addr) (n c : Nat) (l : List F) (w : World) (hT : Tab w) (hl : SF w A n c l) (hn : n ≤ 1000000) :
    Calls Tryd.prog 14 #[.slice A n c] w fun e w' => Ret4 e w w' (fwdOf l) := by
  have hV := n_validLen n (by omega)
  have hC := n_clone A n c l
  by_cases hv : vlen n
  · rw [decide_eq_true hv] at hV
    obtain ⟨k, hk, rfl⟩ := hv
    have hlen := hl.len
    rw [fwdOf_pow hlen hk]
    have hp0 : 0 < 2 ^ k := Nat.pow_pos (by omega)
    have hF := fun g c rest w hT => n_tfF g c k l rest w hT hk hlen
    have HLl := Lib.hid hlen
    have HP := Lib.hid (valP_length l (root k) (2 ^ k))
    generalize valP l (root k) (2 ^ k) = M at *
    clear hlen
    generalize 2 ^ k = n at *
    go_enter Tryd.func14, Tryd.ntmps14
    go_wp2_with fail
    refine (hV _).mono ?_
    rintro e w1 ⟨rfl, g1⟩
    go_wp2_with fail
    refine (hC _ (hl.up g1) (by omega)).mono ?_
    rintro e w2 ⟨v, rfl, ho, g2⟩
    obtain ⟨g, c', rest, rfl, hr, hb, hc1, hc2⟩ := ho.rf (by rw [HLl.out]; exact hp0)
    rw [HLl.out] at hc1 ⊢
    have hg := Gn.trans g1 g2
    have hbb := Nat.le_trans (Gn.size g1) hb
    clear ho g1 g2 hb
    go_wp2_with fail
    refine (hF g c' rest _ (hT.up hg) hr hc1 hc2).mono ?_
    rintro e w3 ⟨rfl, hr3, hby⟩
    have hg3 := Gn.by hg hbb hby
    go_wp2_with fail
    go_ret2
    have e := HP.out
    subst e
    exact ⟨⟨_, c', rfl, hr3.sf hc1 hc2⟩, hg3⟩
  · rw [decide_eq_false hv] at hV
    rw [fwdOf_bad (by rw [hl.len]; exact hv)]
    clear hv
    go_enter Tryd.func14, Tryd.ntmps14
    go_wp2_with fail
    refine (hV _).mono ?_
    rintro e w1 ⟨rfl, g1⟩
    go_wp2_with fail
    go_ret2
    exact ⟨⟨none, 0, rfl, SF.nil _⟩, g1⟩
/-- a row of which the first i elements are multiplied by z -/
def mulF (M : List F) (z : F) (i : Nat) : List F := tab M.length fun x => if x < i then co M x * z else co M x
theorem mulF_len (M : List F) (z : F) (i : Nat) : (mulF M z i).length = M.length := tab_length _ _
theorem mulF_zero (M : List F) (z : F) : mulF M z 0 = M := by
  refine Eq.trans ?_ (tab_eq M)
  unfold mulF tab
  exact List.map_congr_left fun x _ => if_neg (by omega)
theorem mulF_end (M : List F) (z : F) : mulF M z M.length = M.map (· * z) := by
  refine Eq.trans ?_ (congrArg (List.map (· * z)) (tab_eq M))
  unfold mulF tab
  rw [List.map_map]
  exact List.map_congr_left fun x hx => if_pos (List.mem_range.1 hx)
theorem mulF_get (M : List F) (z : F) {i : Nat} (hi : i < M.length) : (mulF M z i)[i]? = some (co M i) := by
  unfold mulF tab
  rw [List.getElem?_map, List.getElem?_range hi]
  simp
theorem mulF_set (M : List F) (z : F) {i : Nat} (hi : i < M.length) : (mulF M z i).set i (co M i * z) = mulF M z (i + 1) := by
  apply List.ext_getElem?
  intro x
  by_cases hxi : x = i
  · subst hxi
    rw [List.getElem?_set_self (by rw [mulF_len]; exact hi)]
    unfold mulF tab
    rw [List.getElem?_map, List.getElem?_range hi]
    simp
  · rw [List.getElem?_set_ne (Ne.symm hxi)]
    unfold mulF tab
    by_cases hx : x < M.length
    · rw [List.getElem?_map, List.getElem?_map, List.getElem?_range hx]
      simp only [Option.map_some]
      congr 1
      by_cases h : x < i
      · rw [if_pos h, if_pos (by omega)]
      · rw [if_neg h, if_neg (by omega)]
    · rw [List.getElem?_eq_none (by simp; omega), List.getElem?_eq_none (by simp; omega)]
open Classical in
set_option maxHeartbeats 1000000 in
theorem n_inverse (A : Option Addr) (n c : Nat) (l : List F) (w : World) (hT : Tab w) (hl : SF w A n c l) (hn : n ≤ 1000000) :
    Calls Tryd.prog 16 #[.slice A n c] w fun e w' => Ret4 e w w' (invOf l) := by
  have hV := n_validLen n (by omega)
  have hC := n_clone A n c l
  by_cases hv : vlen n
  · rw [decide_eq_true hv] at hV
    obtain ⟨k, hk, rfl⟩ := hv
    have hlen := hl.len
    rw [invOf_pow hlen hk]
    have hp0 : 0 < 2 ^ k := Nat.pow_pos (by omega)
    have hp := pow_lt hk
    have hF := fun g c rest w hT => n_tfT g c k l rest w hT hk hlen
    have HLl := Lib.hid hlen
    have HP := Lib.hid (valP_length l (Fld.inv (root k)) (2 ^ k))
    generalize valP l (Fld.inv (root k)) (2 ^ k) = M at *
    clear hlen
    generalize 2 ^ k = n at *
    have hI := fun w => @f_inv (n : Int) ⟨by omega, by omega⟩ (by omega) w
    obtain ⟨z, hz⟩ : ∃ z, z = (Fld.inv (int (n : Int)) : F) := ⟨_, rfl⟩
    rw [← hz] at hI ⊢
    clear hz
    go_enter Tryd.func16, Tryd.ntmps16
    go_wp2_with fail
    refine (hV _).mono ?_
    rintro e w1 ⟨rfl, g1⟩
    go_wp2_with fail
    refine (hC _ (hl.up g1) (by omega)).mono ?_
    rintro e w2 ⟨v, rfl, ho, g2⟩
    obtain ⟨g, c', rest, rfl, hr, hb, hc1, hc2⟩ := ho.rf (by rw [HLl.out]; exact hp0)
    rw [HLl.out] at hc1 ⊢
    have hg := Gn.trans g1 g2
    have hbb := Nat.le_trans (Gn.size g1) hb
    clear ho g1 g2 hb
    go_wp2_with fail
    refine (hF g c' rest _ (hT.up hg) hr hc1 hc2).mono ?_
    rintro e w3 ⟨rfl, hr3, hby⟩
    have hg3 := Gn.by hg hbb hby
    clear hg hby hr
    go_wp2_with fail
    refine (hI _).mono ?_
    rintro e w4 ⟨rfl, q, rfl⟩
    have hr4 : RF (w3.drewN q) g (mulF M z 0) rest := by rw [mulF_zero]; exact hr3
    have hg4 : Gn w (w3.drewN q) := hg3.trans (Gn.of ⟨rfl, rfl, rfl, Nat.le_refl _, fun _ _ => rfl⟩)
    generalize w3.drewN q = w4 at *
    clear hr3 hg3
    go_wp2_with fail
    go_loopw [26] (fun v wr => ∃ i : Nat, i ≤ n ∧ v = .int .i64 i ∧ RF wr g (mulF M z i) rest ∧ Gn w wr) (fun v _ => n - (intOf v).toNat)
    case atStart => exact ⟨0, by omega, rfl, hr4, hg4⟩
    case round =>
      clear hr4 hg4
      obtain ⟨i, hi, rfl, hr, hg⟩ := hrel
      by_cases h1 : i < n
      · have him := HP.out ▸ h1
        have hx := mulF_get M z (i := i) (by rw [HP.out]; exact h1)
        have hst := Lib.hid (mulF_set M z (i := i) (by rw [HP.out]; exact h1))
        have hil := Lib.hid (show i < (mulF M z i).length by rw [mulF_len, HP.out]; exact h1)
        generalize co M i = x at *
        have hr2 := RF.set hr hil.out (x * z)
        have hg2 := setF_below (i := i) hg hbb (x * z)
        rw [hst.out] at hr2
        have c1 := hr.cell hx
        have c3 := blk_lt hr
        have f1 := box_fz (i := i) hr
        clear hx
        go_wp2_with fail
        refine (f_mulF x z _).mono ?_
        rintro e w5 ⟨rfl, rfl⟩
        go_wp2_with fail
        exact ⟨⟨i + 1, by omega, by go_num, hr2, hg2⟩, by simp [intOf]; omega⟩
      · obtain rfl : i = n := by omega
        have he := Lib.hid (mulF_end M z)
        rw [HP.out] at he
        rw [he.out] at hr
        go_wp2_with fail
        go_ret2
        have e := HP.out
        refine ⟨⟨some ⟨g, 0, none⟩, c', ?_, ?_⟩, hg⟩
        · simp [e]
        · exact hr.sf (by simp [e]; exact hc1) hc2
  · rw [decide_eq_false hv] at hV
    rw [invOf_bad (by rw [hl.len]; exact hv)]
    clear hv
    go_enter Tryd.func16, Tryd.ntmps16
    go_wp2_with fail
    refine (hV _).mono ?_
    rintro e w1 ⟨rfl, g1⟩
    go_wp2_with fail
    go_ret2
    exact ⟨⟨none, 0, rfl, SF.nil _⟩, g1⟩
end Go.Proofs.YtjgdbfhpjjmjkaaDoor
