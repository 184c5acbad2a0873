/- The walk of transform. -/
import Derived.Test.YtjgdbfhpjjmjkaaDoorNw6
import Derived.Test.YtjgdbfhpjjmjkaaDoorRr
namespace Go.Proofs.YtjgdbfhpjjmjkaaDoor
open Go.RowKit Att Att.CRing
attribute [local go_sem] Oper.semAt_some
/-- a row between two stages: t blocks of twice h are done, and i places of either half of the block t -/
def midF (F0 F1 : Nat → F) (h t i x : Nat) : F := if x < t * (2 * h) ∨ (t * (2 * h) ≤ x ∧ x < t * (2 * h) + i) ∨ (t * (2 * h) + h ≤ x ∧ x < t * (2 * h) + h + i) then F1 x else F0 x
def mid (F0 F1 : Nat → F) (h n t i : Nat) : List F := tab n (midF F0 F1 h t i)
theorem mid_len (F0 F1 : Nat → F) (h n t i : Nat) : (mid F0 F1 h n t i).length = n := tab_length _ _
theorem mid_get (F0 F1 : Nat → F) {h n t i x : Nat} (hx : x < n) : (mid F0 F1 h n t i)[x]? = some (midF F0 F1 h t i x) := by
  unfold mid tab; rw [List.getElem?_map, List.getElem?_range hx]; rfl
theorem mid_zero (F0 F1 : Nat → F) (h n : Nat) : mid F0 F1 h n 0 0 = tab n F0 := by
  unfold mid tab
  refine List.map_congr_left fun x _ => ?_
  unfold midF
  rw [if_neg (by omega)]
theorem mid_next (F0 F1 : Nat → F) (h n t : Nat) : mid F0 F1 h n t h = mid F0 F1 h n (t + 1) 0 := by
  unfold mid tab
  refine List.map_congr_left fun x _ => ?_
  unfold midF
  rw [Nat.add_mul, Nat.one_mul]
  generalize t * (2 * h) = T
  by_cases hx : x < T + 2 * h
  · rw [if_pos (by omega), if_pos (by omega)]
  · rw [if_neg (by omega), if_neg (by omega)]
theorem mid_end (F0 F1 : Nat → F) {h n t : Nat} (ht : n ≤ t * (2 * h)) : mid F0 F1 h n t 0 = tab n F1 := by
  unfold mid tab
  refine List.map_congr_left fun x hx => ?_
  have := List.mem_range.1 hx
  unfold midF
  rw [if_pos (by omega)]
theorem mid_step (F0 F1 : Nat → F) {h n t i : Nat} (hi : i < h) (ht : t * (2 * h) + 2 * h ≤ n) (z : F)
    (e1 : F1 (t * (2 * h) + i) = F0 (t * (2 * h) + i) + F0 (t * (2 * h) + h + i) * z) (e2 : F1 (t * (2 * h) + h + i) = F0 (t * (2 * h) + i) - F0 (t * (2 * h) + h + i) * z) :
    ∃ x y, (mid F0 F1 h n t i)[t * (2 * h) + i]? = some x ∧ (mid F0 F1 h n t i)[t * (2 * h) + h + i]? = some y ∧
      ((mid F0 F1 h n t i).set (t * (2 * h) + i) (x + y * z)).set (t * (2 * h) + h + i) (x - y * z) = mid F0 F1 h n t (i + 1) := by
  generalize hT : t * (2 * h) = T at *
  refine ⟨F0 (T + i), F0 (T + h + i), ?_, ?_, ?_⟩
  · rw [mid_get _ _ (by omega)]; unfold midF; rw [hT, if_neg (by omega)]
  · rw [mid_get _ _ (by omega)]; unfold midF; rw [hT, if_neg (by omega)]
  · rw [← e1, ← e2]
    apply List.ext_getElem?
    intro x
    by_cases hx : x < n
    · rw [mid_get _ _ hx]
      by_cases h2 : x = T + h + i
      · subst h2
        rw [List.getElem?_set_self (by rw [List.length_set, mid_len]; exact hx)]
        unfold midF
        rw [hT, if_pos (by omega)]
      · rw [List.getElem?_set_ne (Ne.symm h2)]
        by_cases h1 : x = T + i
        · subst h1
          rw [List.getElem?_set_self (by rw [mid_len]; exact hx)]
          unfold midF
          rw [hT, if_pos (by omega)]
        · rw [List.getElem?_set_ne (Ne.symm h1), mid_get _ _ hx]
          unfold midF
          rw [hT]
          by_cases h3 : x < T ∨ (T ≤ x ∧ x < T + i) ∨ (T + h ≤ x ∧ x < T + h + i)
          · rw [if_pos h3, if_pos (by omega)]
          · rw [if_neg h3, if_neg (by omega)]
    · rw [List.getElem?_eq_none (by rw [List.length_set, List.length_set, mid_len]; omega), List.getElem?_eq_none (by rw [mid_len]; omega)]

/-- the world in the rounds of transform -/
structure Tv (w W : World) (g n c B C : Nat) (M : List F) (rest : List Value) : Prop where
  r : RF W g M rest
  by_ : w.grownBy W (some g)
  box : W.heap[w.heap.size]? = some (.cells #[.slice (some ⟨g, 0, none⟩) n c] 22)
  gl : g < w.heap.size
  lb : w.heap.size < B
  lc : w.heap.size < C
  hb : B < W.heap.size
  hc : C < W.heap.size
theorem Tv.gn {w W W' : World} {g n c B C : Nat} {M : List F} {rest : List Value} (h : Tv w W g n c B C M rest) (k : Gn W W') : Tv w W' g n c B C M rest :=
  ⟨h.r.up k, h.by_.trans (gn_by k _), k.block h.box, h.gl, h.lb, h.lc, Nat.lt_of_lt_of_le h.hb k.size, Nat.lt_of_lt_of_le h.hc k.size⟩
theorem Tv.set {w W : World} {g n c B C : Nat} {M : List F} {rest : List Value} (h : Tv w W g n c B C M rest) {i : Nat} (hi : i < M.length) (x : F) : Tv w (setF W g i x) g n c B C (M.set i x) rest :=
  ⟨h.r.set hi x, h.by_.trans (setF_by W g i x), (setF_other (by have := h.gl; omega) x).trans h.box, h.gl, h.lb, h.lc, by simpa [setF] using h.hb, by simpa [setF] using h.hc⟩
theorem Tv.below {w W W' : World} {g n c B C b : Nat} {M : List F} {rest : List Value} (h : Tv w W g n c B C M rest) (k : Below b W W') (hB : B < b) (_hC : C < b) : Tv w W' g n c B C M rest := by
  have h1 := h.gl; have h2 := h.lb
  have hs := k.size
  have hq := h.by_
  exact ⟨(k.block g (by omega)).trans h.r, ⟨k.os.trans hq.os, k.tape.trans hq.tape, k.output.trans hq.output, Nat.le_trans hq.size hs, fun q hq1 hne => (k.block q (by omega)).trans (hq.block q hq1 hne)⟩,
    (k.block _ (by omega)).trans h.box, h.gl, h.lb, h.lc, Nat.lt_of_lt_of_le h.hb hs, Nat.lt_of_lt_of_le h.hc hs⟩
/-- what a round keeps -/
structure Tk (B C g : Nat) (W W' : World) : Prop where
  size : W.heap.size ≤ W'.heap.size
  same : ∀ k, k < W.heap.size → k ≠ g → W'.heap[k]? = W.heap[k]?
theorem Tk.refl (B C g : Nat) (W : World) : Tk B C g W W := ⟨Nat.le_refl _, fun _ _ _ => rfl⟩
theorem Tk.set {B C g : Nat} {W W' : World} (h : Tk B C g W W') (i : Nat) (x : F) : Tk B C g W (setF W' g i x) :=
  ⟨by simpa [setF] using h.size, fun k hk hne => (setF_other hne x).trans (h.same k hk hne)⟩
theorem Tk.gn {B C g : Nat} {W W' W2 : World} (h : Tk B C g W W') (k : Gn W' W2) : Tk B C g W W2 :=
  ⟨Nat.le_trans h.size k.size, fun q hq hne => (k.below.block q (Nat.lt_of_lt_of_le hq h.size)).trans (h.same q hq hne)⟩
theorem Tk.drew {B C g : Nat} {W W' : World} (h : Tk B C g W W') : Tk B C g W W'.drew := ⟨h.size, h.same⟩
theorem Tk.drewN {B C g : Nat} {W W' : World} (h : Tk B C g W W') (q : Nat) : Tk B C g W (W'.drewN q) := ⟨h.size, h.same⟩
theorem Tk.keeps {B C g : Nat} {W W' : World} (h : Tk B C g W W') {b : Nat} (hb : g < b) : KeepsBeyond b W W' := ⟨h.size, fun k hk hl => h.same k hl (by omega)⟩
theorem Tk.kp {B C g : Nat} {W W' : World} (h : Tk B C g W W') (hB : B < W.heap.size) (hC : C < W.heap.size) (gB : B ≠ g) (gC : C ≠ g) : StKp B C W W' :=
  ⟨h.size, World.cell?_of_block (h.same B hB gB), World.cell?_of_block (h.same C hC gC)⟩

/-- a[lo:hi:hi] of a row -/
theorem slice3F (g n c lo hi : Nat) (h1 : lo < hi) (h2 : hi ≤ c) (lo' hi' : Int) (e1 : lo' = lo) (e2 : hi' = hi) (d : Nat) (hd : hi - lo = d) (w : World) :
    (Instr.slice 22 (.slice (some ⟨g, 0, none⟩) n c) (some (.int .i64 lo')) (some (.int .i64 hi')) (some (.int .i64 hi'))).run Tryd.prog w = .ok (.slice (some ⟨g, lo, none⟩) d d) w := by
  subst e1 e2 hd
  obtain ⟨i0, hi0, hz0, hz1, hz2⟩ := info_parts u64Info
  have hu : Tryd.prog.underlying 22 = some (.slice (Tryd.prog.elem 22)) := by kernel_rfl
  have he : Tryd.prog.elem 22 = 34 := by kernel_rfl
  rw [run_slice_lhm w 22 _ n c hu .i64 .i64 .i64 _ _ _ (by omega) (by omega) (by omega) (by omega), he]
  have hs : (sizeOf 34).run Tryd.prog w = .ok 1 w := by
    simp [sizeOf, typeInfo, hi0, hz1]
  rw [hs]
  simp only [Result.andThen, sliced, Int.toNat_natCast, Nat.mul_one]
  rw [if_neg (by omega)]
  simp [Addr.add]
  intro h; exact h.symm

set_option maxHeartbeats 4000000 in
theorem n_transform (inv : Bool) (rt : Nat → F) (g c k : Nat) (l : List F) (rest : List Value) (w : World) (hT : Tab w) (hk : k ≤ 16) (hl : l.length = 2 ^ k) (hR : RF w g l rest) (hc : 2 ^ k ≤ c) (_hc2 : c ≤ 9223372036854775807)
    (hit : ∀ B C, IterOk Tryd.prog 53 #[.pointer (some ⟨B, 0, none⟩), .pointer (some ⟨C, 0, none⟩)] (fun j => #[.int .i64 ((2 : Int) ^ (j + 1)), .int .u64 (Zm.i (rt (j + 1)))]) k (StH B C ((2 : Int) ^ k) inv) Gn (StKp B C))
    (hsq : ∀ s, s < k → rt (s + 1) * rt (s + 1) = rt s) (hmi : ∀ s, s < k → pw (rt (s + 1)) (2 ^ s) = -1) :
    Calls Tryd.prog 34 #[.slice (some ⟨g, 0, none⟩) (2 ^ k : Nat) c, .bool inv] w fun e w' => e = .returned (.tuple #[]) ∧ RF w' g (tab (2 ^ k) (dft (2 ^ k) (rt k) (co l))) rest ∧ w.grownBy w' (some g) := by
  have hp := pow_lt hk
  have hp0 : 0 < 2 ^ k := Nat.pow_pos (by omega)
  have hP := n_permute g c k l rest (w.alloc (.cells #[.slice (some ⟨g, 0, none⟩) (2 ^ k : Nat) c] 22)) (hT.up (Gn.al _)) hk hl (hR.up (Gn.al _)) hc
  obtain ⟨n, hn⟩ : ∃ n, n = 2 ^ k := ⟨_, rfl⟩
  have hni : (2 : Int) ^ k = (n : Int) := by rw [cast_pow, hn]
  have hgl := blk_lt hR
  rw [← hn] at hp hp0 hc hP ⊢
  rw [hni] at hit
  replace hn := Lib.hid hn
  have HNI := Lib.hid hni
  clear hni
  refine (callsIn_wide (n := 9)).1 ?_
  refine callsIn_of_wp_marks Tryd.func34 rfl trivial ?_ rfl
  simp only [Tryd.ntmps34, List.size_toArray, List.length_cons, List.length_nil, Nat.reduceAdd, Nat.reduceSub, Array.replicate_succ, Array.replicate_zero, List.push_toArray, List.append_toArray, List.nil_append, List.cons_append]
  gi_wp2_with fail
  refine ⟨trivial, (callsIn_wide.2 hP).mono ?_⟩
  rintro e W1 ⟨rfl, hr1, hby1⟩
  have hbox1 : W1.heap[w.heap.size]? = some (.cells #[.slice (some ⟨g, 0, none⟩) n c] 22) :=
    (hby1.block w.heap.size (by simp) (by simp; omega)).trans (hnew w _)
  have hc1 := obj_cell hbox1 0 rfl
  have hl1 := blk_lt hbox1
  have hby2 := (gn_by (Gn.al (w := w) (.cells #[.slice (some ⟨g, 0, none⟩) n c] 22)) (some g)).trans hby1
  have hs1 : tab n (fun x => co l (rev k x)) = tab n (stage k 0 rt (co l)) := by
    congr 1
    funext x
    exact (stage_zero k rt (co l) x).symm
  rw [hs1] at hr1
  clear hs1 hP hby1
  gi_wp2_with fail
  refine ⟨trivial, (callsIn_wide.2 (n_stages _ _ _)).mono ?_⟩
  rintro e W2 ⟨rfl, hW2⟩
  have hB2 : W2.heap[W1.heap.size]? = some (.cells #[.int .i64 n] 3) := by rw [hW2]; exact (Gn.al _).block (hnew _ _)
  have hC2 : W2.heap[W1.heap.size + 1]? = some (.cells #[.bool inv] 4) := by
    rw [hW2]; have := hnew (W1.alloc (.cells #[.int .i64 n] 3)) (.cells #[.bool inv] 4); rwa [World.size_alloc] at this
  have hv2 : Tv w W2 g n c W1.heap.size (W1.heap.size + 1) (tab n (stage k 0 rt (co l))) rest := by
    have hgg : Gn W1 W2 := by rw [hW2]; exact (Gn.al _).trans (Gn.al _)
    have hsz : W2.heap.size = W1.heap.size + 2 := by rw [hW2]; simp
    exact ⟨hr1.up hgg, hby2.trans (gn_by hgg _), hgg.block hbox1, hgl, by omega, by omega, by omega, by omega⟩
  clear hW2 hbox1 hc1 hby2 hr1
  generalize W1.heap.size = B at *
  gi_wp2_with fail
  refine wp_range (m := 7) (gf := 53) (lb := #[.pointer (some ⟨B, 0, none⟩), .pointer (some ⟨B + 1, 0, none⟩)]) rfl (fun _ _ => by kernel_rfl) (hit B (B + 1)) (fun _ => rfl) ?hH ?hKp
    (fun s W => Tv w W g n c B (B + 1) (tab n (stage k s rt (co l))) rest ∧ StH B (B + 1) n inv W) ?hI ?h0 ?hstep ?hIs
    (fun s => ⟨#[.slice (some ⟨g, 0, none⟩) n c, .bool inv, .pointer (some ⟨w.heap.size, 0, none⟩), undef, .int .i64 ((2 : Int) ^ (s + 1)), .int .u64 (Zm.i (rt (s + 1))), undef, undef, undef, undef, undef, undef, undef, undef, .slice (some ⟨g, 0, none⟩) n c, .tuple #[], .slice (some ⟨g, 0, none⟩) n c, .int .i64 n, .bool inv, .func (.func 53) #[] #[.pointer (some ⟨B, 0, none⟩), .pointer (some ⟨B + 1, 0, none⟩)], .int .i64 ((2 : Int) ^ (s + 1)), .int .u64 (Zm.i (rt (s + 1))), undef, undef, undef, undef, undef, undef, undef, undef, undef, undef, undef, undef, undef, undef, undef, undef, undef, undef, undef, undef, undef, undef, undef, undef, undef, undef, undef, undef, undef, undef, undef, undef, undef, undef, undef, undef, undef, undef, undef, undef, undef, undef, undef, undef, undef, undef, undef, undef, undef, undef, undef, undef, undef, undef, undef, undef, undef, undef, undef, undef], []⟩) ?hassign ?hbody ?hdone
  case hH => intro W hb; exact (StH.mk hv2.hb hv2.hc (obj_cell hB2 0 rfl) (obj_cell hC2 0 rfl)).gn (Gn.of hb)
  case hKp =>
    rintro A' C D E' hA ⟨h1, h2, h3⟩ hD
    have hs1 := hA.size
    have hs2 := hD.size
    refine ⟨by omega, ?_, ?_⟩
    · exact (hD.cell (p := ⟨B, 0, none⟩) hv2.hb).trans (h2.trans (hA.cell (p := ⟨B, 0, none⟩) hv2.hb))
    · exact (hD.cell (p := ⟨B + 1, 0, none⟩) hv2.hc).trans (h3.trans (hA.cell (p := ⟨B + 1, 0, none⟩) hv2.hc))
  case hI =>
    rintro s W W' ⟨h1, h2⟩ hb
    exact ⟨h1.below hb hv2.hb hv2.hc, ⟨Nat.lt_of_lt_of_le h2.b hb.size, Nat.lt_of_lt_of_le h2.c hb.size, (hb.cell (p := ⟨B, 0, none⟩) hv2.hb).trans h2.cb, (hb.cell (p := ⟨B + 1, 0, none⟩) hv2.hc).trans h2.cc⟩⟩
  case h0 => exact ⟨hv2, StH.mk hv2.hb hv2.hc (obj_cell hB2 0 rfl) (obj_cell hC2 0 rfl)⟩
  case hstep => rintro W W' hg; exact ⟨hg.size, fun q _ hq => hg.below.block q hq⟩
  case hIs => rintro s W W' ⟨h1, h2⟩ hg; exact ⟨h1.gn hg, h2.gn hg⟩
  case hassign =>
    intro r s W K hK
    simp
    gi_wp2
    exact hK
  case hbody =>
    rintro r s W ⟨hv, hst⟩ hs hsz
    obtain ⟨h, hh⟩ : ∃ h, h = 2 ^ s := ⟨_, rfl⟩
    have hh0 : 0 < h := by rw [hh]; exact Nat.pow_pos (by omega)
    obtain ⟨N, hN⟩ : ∃ N, N * (2 * h) = n := by
      refine ⟨2 ^ (k - (s + 1)), ?_⟩
      rw [hh, hn.out, show 2 * 2 ^ s = 2 ^ (s + 1) from by rw [Nat.pow_succ]; omega, ← Nat.pow_add]
      congr 1; omega
    have hstep : ∀ t i, i < h → stage k (s + 1) rt (co l) (t * (2 * h) + i) = stage k s rt (co l) (t * (2 * h) + i) + stage k s rt (co l) (t * (2 * h) + h + i) * pw (rt (s + 1)) i ∧
        stage k (s + 1) rt (co l) (t * (2 * h) + h + i) = stage k s rt (co l) (t * (2 * h) + i) - stage k s rt (co l) (t * (2 * h) + h + i) * pw (rt (s + 1)) i := by
      intro t i hi
      have := stage_step k s rt hs (hsq s hs) (hmi s hs) (co l) t i (by rw [← hh]; exact hi)
      rwa [← hh, show 2 ^ (s + 1) = 2 * h from by rw [Nat.pow_succ, ← hh]; omega] at this
    have hS : (2 : Int) ^ (s + 1) = ((2 * h : Nat) : Int) := by rw [cast_pow, Nat.pow_succ, ← hh]; congr 1; omega
    rw [hS]
    dsimp only
    have hmd := fun t i => mid_step (stage k s rt (co l)) (stage k (s + 1) rt (co l)) (h := h) (n := n) (t := t) (i := i)
    have hm0 := mid_zero (stage k s rt (co l)) (stage k (s + 1) rt (co l)) h n
    have hm1 := fun t => mid_next (stage k s rt (co l)) (stage k (s + 1) rt (co l)) h n t
    have hm2 := fun t => mid_end (stage k s rt (co l)) (stage k (s + 1) rt (co l)) (h := h) (n := n) (t := t)
    have hml := fun t i => mid_len (stage k s rt (co l)) (stage k (s + 1) rt (co l)) h n t i
    generalize stage k s rt (co l) = F0 at *
    generalize stage k (s + 1) rt (co l) = F1 at *
    rw [← hm0] at hv
    clear hS hh hm0 hsq hmi hit hs
    replace hmd := fun (t i : Nat) (hi : i < h) ht => hmd t i hi ht (pw (rt (s + 1)) i) (hstep t i hi).1 (hstep t i hi).2
    clear hstep
    generalize rt (s + 1) = u at *
    have Hmd := Lib.hid hmd; have Hm1 := Lib.hid hm1; have Hm2 := Lib.hid hm2; have Hml := Lib.hid hml; have HN := Lib.hid hN
    clear hmd hm1 hm2 hml hN
    have hq : ((2 * h : Nat) : Int).tdiv 2 = (h : Int) := by
      rw [Int.tdiv_eq_ediv_of_nonneg (by omega)]; omega
    have hhn : h ≤ n := by
      have h1 := HN.out
      rcases Nat.eq_zero_or_pos N with h2 | h2
      · subst h2; simp at h1; omega
      · have := Nat.mul_le_mul_right (2 * h) h2; omega
    obtain ⟨S, hS⟩ : ∃ S, S = 2 * h := ⟨_, rfl⟩
    rw [← hS] at hq ⊢
    have HS := Lib.hid hS
    clear hS
    have hst := Lib.hid hst
    have tk := Tk.refl B (B + 1) g W
    have hmx : Tryd.prog.follows .mixedOrders = true := by kernel_rfl
    gi_wp2_with fail
    gi_loopw [7] (fun v wr => ∃ t T : Nat, t ≤ N ∧ v = .int .i64 T ∧ T ≤ n ∧ Hid (T = t * (2 * h)) ∧ Tv w wr g n c B (B + 1) (mid F0 F1 h n t 0) rest ∧ Tk B (B + 1) g W wr) (fun v _ => n - (intOf v).toNat)
    case atStart => exact ⟨0, 0, by omega, rfl, by omega, Lib.hid (by simp), hv, tk⟩
    case round =>
      obtain ⟨t, T, ht, rfl, hTn, HT, hvt, tkt⟩ := hrel
      have hbox := obj_cell hvt.box 0 rfl
      have hbl := blk_lt hvt.box
      by_cases h1 : T < n
      · have hT2 : T + S ≤ n := by
          have h2 := HN.out; have h3 := HT.out; have h4 := HS.out
          have h5 : t < N := by
            apply Nat.lt_of_not_le
            intro h6
            have := Nat.mul_le_mul_right (2 * h) h6
            omega
          have := Nat.mul_le_mul_right (2 * h) h5
          rw [Nat.succ_mul] at this
          omega
        have hSh : h + h = S := by have := HS.out; omega
        have HSh := Lib.hid hSh
        have hShl : h ≤ S := by omega
        have hsl1 := slice3F g n c T (T + h) (by omega) (by omega) (T : Int) ((T : Int) + (h : Int)) rfl (by omega) h (by omega)
        have hsl2 := slice3F g n c (T + h) (T + S) (by omega) (by omega) ((T : Int) + (h : Int)) ((T : Int) + (S : Int)) (by omega) (by omega) h (by omega)
        have hne1 : h ≠ 0 := by omega
        have hne2 : S ≠ h := by omega
        have hsub : S - h = h := by omega
        clear hSh
        gi_wp2_with fail
        refine wpIn_round_gr (by kernel_rfl) (by kernel_rfl) (lex_of_chk (by kernel_rfl) (by kernel_rfl)) ?_
        repeat (go_big_quiet_step (fail))
        refine wpQuiet_nil ?_
        intro wr2 hg2
        have hv2' := hvt.gn hg2
        have tk2 := tkt.gn hg2
        clear hvt tkt hbox hbl hg2
        gi_wp2_with fail
        gi_loopw [10, 53] (fun z v wi => ∃ i : Nat, i ≤ h ∧ v = .int .i64 i ∧ z = .int .u64 (Zm.i (pw u i)) ∧ Tv w wi g n c B (B + 1) (mid F0 F1 h n t i) rest ∧ Tk B (B + 1) g W wi) (fun _ v _ => h - (intOf v).toNat)
        case atStart => exact ⟨0, by omega, rfl, rfl, hv2', tk2⟩
        case round =>
          obtain ⟨i, hi, rfl, rfl, hvi, tki⟩ := hrel
          by_cases h2 : i < h
          · obtain ⟨x, y, hx, hy, hset⟩ := Hmd.out t i h2 (by have := HS.out; have := HT.out; omega)
            rw [← HT.out] at hx hy hset
            have hpw := Lib.hid (pw_succ u i)
            generalize pw u i = z at *
            have HX := Lib.hid hx; have HY := Lib.hid hy
            have Hset := Lib.hid hset
            have hc1 := hvi.r.cell hx
            have hc2' := hvi.r.cell hy
            have hc3 := blk_lt hvi.r
            clear hx hy hset
            gi_wp2_with fail
            refine wpIn_round_gr (by kernel_rfl) (by kernel_rfl) (lex_of_chk (by kernel_rfl) (by kernel_rfl)) ?_
            repeat (go_big_quiet_step ((go_at_call 37; with_reducible apply qa (f_mulF _ _ _); rfl)))
            refine wpQuiet_nil ?_
            intro wi2 hg3
            have hvi3 := hvi.gn hg3
            have tki3 := tki.gn hg3
            have hL := Hml.out t i
            have hb1 := Lib.hid (show T + i < (mid F0 F1 h n t i).length by omega)
            have hb2 := Lib.hid (show T + h + i < ((mid F0 F1 h n t i).set (T + i) (x + y * z)).length by rw [List.length_set]; omega)
            have hc1' := hvi3.r.cell HX.out
            have hc2'' := hvi3.r.cell HY.out
            have hc3' := blk_lt hvi3.r
            have f1 := box_fz (i := T + i) hvi3.r
            have f2 := box_fz (i := T + h + i) hvi3.r
            have hvi4 := (hvi3.set hb1.out (x + y * z)).set hb2.out (x - y * z)
            have tki4 := (tki3.set (T + i) (x + y * z)).set (T + h + i) (x - y * z)
            rw [Hset.out] at hvi4
            clear hc1 hc2' hc3 hvi tki hg3 hL hvi3 tki3
            gi_wp2_with (first
              | (refine ⟨trivial, (CallsIn.inRound r (callsIn_wide.2 (f_addF x (y * z) _))).mono ?_⟩; rintro e w' ⟨rfl, rfl⟩)
              | (refine ⟨trivial, (CallsIn.inRound r (callsIn_wide.2 (f_subF x (y * z) _))).mono ?_⟩; rintro e w' ⟨rfl, rfl⟩)
              | (refine ⟨trivial, (CallsIn.inRound r (callsIn_wide.2 (f_mulF z u _))).mono ?_⟩; rintro e w' ⟨rfl, rfl⟩))
            exact ⟨⟨i + 1, by omega, by go_num, by rw [hpw.out], hvi4, tki4⟩, by simp [intOf]; omega⟩
          · obtain rfl : i = h := by omega
            rw [Hm1.out t] at hvi
            have hbox := obj_cell hvi.box 0 rfl
            have hnx := Lib.hid (show T + S = (t + 1) * (2 * i) by rw [Nat.add_mul, Nat.one_mul, ← HT.out, HS.out])
            have htN : t < N := by
              have h3 := HN.out; have h4 := hnx.out
              apply Nat.lt_of_not_le
              intro h6
              have := Nat.mul_le_mul_right (2 * i) h6
              rw [Nat.add_mul] at h4
              omega
            gi_wp2_with fail
            exact ⟨⟨t + 1, T + S, by omega, by go_num, hT2, hnx, hvi, tki⟩, by simp [intOf]; omega⟩
      · have he := Hm2.out t (by have := HT.out; omega)
        rw [he] at hvt
        have hvt2 := hvt
        have hb1 : B < W.heap.size := Nat.lt_of_lt_of_le hv2.hb hsz
        have hb2 : B + 1 < W.heap.size := Nat.lt_of_lt_of_le hv2.hc hsz
        have hl2 := hv2.gl; have hl3 := hv2.lb; have hl4 := hv2.hb
        gi_wp2_with fail
        have hkp := tkt.kp hb1 hb2 (show B ≠ g by omega) (show B + 1 ≠ g by omega)
        exact ⟨tkt.keeps (by omega), ⟨hvt2, Nat.lt_of_lt_of_le hb1 hkp.1, Nat.lt_of_lt_of_le hb2 hkp.1, hkp.2.1.trans hst.out.cb, hkp.2.2.trans hst.out.cc⟩, hkp⟩
  case hdone =>
    rintro D W hD ⟨hv, _⟩ hsz hW
    gi_wp2
    refine ⟨by simp, .inl ⟨_, _, rfl, run_takeDeferred hW, ?_⟩⟩
    have hz := hv2.hb; have hz2 := hv2.lb
    have hv3 := hv.below (below_putObj W D (.deferred none) hD) hv2.hb hv2.hc
    have he : tab n (stage k k rt (co l)) = tab n (dft n (rt k) (co l)) := by
      rw [hn.out]
      unfold tab
      exact List.map_congr_left fun x hx => stage_last k rt (co l) x (List.mem_range.1 hx)
    rw [he] at hv3
    exact ⟨.tuple #[], by simp [results, Tryd.results34, go_sem], rfl, hv3.r, hv3.by_⟩
end Go.Proofs.YtjgdbfhpjjmjkaaDoor
