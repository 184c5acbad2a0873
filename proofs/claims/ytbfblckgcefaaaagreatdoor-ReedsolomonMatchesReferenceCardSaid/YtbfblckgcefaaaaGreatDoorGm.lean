/- The walk of transform. -/
import Derived.Test.YtbfblckgcefaaaaGreatDoorGn
import Derived.Test.YtbfblckgcefaaaaGreatDoorGf
import Derived.Laws.CopyOwn
import Derived.Ground.NamesProg
import Derived.Shelf.Small.Bits
namespace Go.Proofs.YtbfblckgcefaaaaGreatDoor
open Go.RowKit Att Att.CRing
attribute [local go_sem] Oper.semAt_some
/-- a row between two stages: t blocks of twice h are done, and i places of either half of the block t -/
def midF (F0 F1 : Nat → F) (h t i x : Nat) : F := if x < t * (2 * h) ∨ (t * (2 * h) ≤ x ∧ x < t * (2 * h) + i) ∨ (t * (2 * h) + h ≤ x ∧ x < t * (2 * h) + h + i) then F1 x else F0 x
def mid (F0 F1 : Nat → F) (h n t i : Nat) : List F := tab n (midF F0 F1 h t i)
theorem mid_len (F0 F1 : Nat → F) (h n t i : Nat) : (mid F0 F1 h n t i).length = n := tab_length _ _
theorem mid_get (F0 F1 : Nat → F) {h n t i x : Nat} (hx : x < n) : (mid F0 F1 h n t i)[x]? = some (midF F0 F1 h t i x) := by
  unfold mid tab; rw [List.getElem?_map, List.getElem?_range hx]; rfl
theorem mid_zero (F0 F1 : Nat → F) (h n : Nat) : mid F0 F1 h n 0 0 = tab n F0 := by
  unfold mid tab
  refine List.map_congr_left fun x _ => ?_
  unfold midF
  rw [if_neg (by omega)]
theorem mid_next (F0 F1 : Nat → F) (h n t : Nat) : mid F0 F1 h n t h = mid F0 F1 h n (t + 1) 0 := by
  unfold mid tab
  refine List.map_congr_left fun x _ => ?_
  unfold midF
  rw [Nat.add_mul, Nat.one_mul]
  generalize t * (2 * h) = T
  by_cases hx : x < T + 2 * h
  · rw [if_pos (by omega), if_pos (by omega)]
  · rw [if_neg (by omega), if_neg (by omega)]
theorem mid_end (F0 F1 : Nat → F) {h n t : Nat} (ht : n ≤ t * (2 * h)) : mid F0 F1 h n t 0 = tab n F1 := by
  unfold mid tab
  refine List.map_congr_left fun x hx => ?_
  have := List.mem_range.1 hx
  unfold midF
  rw [if_pos (by omega)]
theorem mid_step (F0 F1 : Nat → F) {h n t i : Nat} (hi : i < h) (ht : t * (2 * h) + 2 * h ≤ n) (z : F)
    (e1 : F1 (t * (2 * h) + i) = F0 (t * (2 * h) + i) + F0 (t * (2 * h) + h + i) * z) (e2 : F1 (t * (2 * h) + h + i) = F0 (t * (2 * h) + i) - F0 (t * (2 * h) + h + i) * z) :
    ∃ x y, (mid F0 F1 h n t i)[t * (2 * h) + i]? = some x ∧ (mid F0 F1 h n t i)[t * (2 * h) + h + i]? = some y ∧
      ((mid F0 F1 h n t i).set (t * (2 * h) + i) (x + y * z)).set (t * (2 * h) + h + i) (x - y * z) = mid F0 F1 h n t (i + 1) := by
  generalize hT : t * (2 * h) = T at *
  refine ⟨F0 (T + i), F0 (T + h + i), ?_, ?_, ?_⟩
  · rw [mid_get _ _ (by omega)]; unfold midF; rw [hT, if_neg (by omega)]
  · rw [mid_get _ _ (by omega)]; unfold midF; rw [hT, if_neg (by omega)]
  · rw [← e1, ← e2]
    apply List.ext_getElem?
    intro x
    by_cases hx : x < n
    · rw [mid_get _ _ hx]
      by_cases h2 : x = T + h + i
      · subst h2
        rw [List.getElem?_set_self (by rw [List.length_set, mid_len]; exact hx)]
        unfold midF
        rw [hT, if_pos (by omega)]
      · rw [List.getElem?_set_ne (Ne.symm h2)]
        by_cases h1 : x = T + i
        · subst h1
          rw [List.getElem?_set_self (by rw [mid_len]; exact hx)]
          unfold midF
          rw [hT, if_pos (by omega)]
        · rw [List.getElem?_set_ne (Ne.symm h1), mid_get _ _ hx]
          unfold midF
          rw [hT]
          by_cases h3 : x < T ∨ (T ≤ x ∧ x < T + i) ∨ (T + h ≤ x ∧ x < T + h + i)
          · rw [if_pos h3, if_pos (by omega)]
          · rw [if_neg h3, if_neg (by omega)]
    · rw [List.getElem?_eq_none (by rw [List.length_set, List.length_set, mid_len]; omega), List.getElem?_eq_none (by rw [mid_len]; omega)]

/-- the world in the rounds of transform -/
structure Tv (w W : World) (g n c B C : Nat) (M : List F) (rest : List Value) : Prop where
  r : RF W g M rest
  by_ : w.grownBy W (some g)
  box : W.heap[w.heap.size]? = some (.cells #[.slice (some ⟨g, 0, none⟩) n c] 22)
  gl : g < w.heap.size
  lb : w.heap.size < B
  lc : w.heap.size < C
  hb : B < W.heap.size
  hc : C < W.heap.size
theorem Tv.gn {w W W' : World} {g n c B C : Nat} {M : List F} {rest : List Value} (h : Tv w W g n c B C M rest) (k : Gn W W') : Tv w W' g n c B C M rest :=
  ⟨h.r.up k, h.by_.trans (gn_by k _), k.block h.box, h.gl, h.lb, h.lc, Nat.lt_of_lt_of_le h.hb k.size, Nat.lt_of_lt_of_le h.hc k.size⟩
theorem Tv.set {w W : World} {g n c B C : Nat} {M : List F} {rest : List Value} (h : Tv w W g n c B C M rest) {i : Nat} (hi : i < M.length) (x : F) : Tv w (setF W g i x) g n c B C (M.set i x) rest :=
  ⟨h.r.set hi x, h.by_.trans (setF_by W g i x), (setF_other (by have := h.gl; omega) x).trans h.box, h.gl, h.lb, h.lc, by simpa [setF] using h.hb, by simpa [setF] using h.hc⟩
theorem Tv.below {w W W' : World} {g n c B C b : Nat} {M : List F} {rest : List Value} (h : Tv w W g n c B C M rest) (k : Below b W W') (hB : B < b) (_hC : C < b) : Tv w W' g n c B C M rest := by
  have h1 := h.gl; have h2 := h.lb
  have hs := k.size
  have hq := h.by_
  exact ⟨(k.block g (by omega)).trans h.r, ⟨k.os.trans hq.os, k.tape.trans hq.tape, k.output.trans hq.output, Nat.le_trans hq.size hs, fun q hq1 hne => (k.block q (by omega)).trans (hq.block q hq1 hne)⟩,
    (k.block _ (by omega)).trans h.box, h.gl, h.lb, h.lc, Nat.lt_of_lt_of_le h.hb hs, Nat.lt_of_lt_of_le h.hc hs⟩
/-- what a round keeps -/
structure Tk (B C g : Nat) (W W' : World) : Prop where
  size : W.heap.size ≤ W'.heap.size
  same : ∀ k, k < W.heap.size → k ≠ g → W'.heap[k]? = W.heap[k]?
theorem Tk.refl (B C g : Nat) (W : World) : Tk B C g W W := ⟨Nat.le_refl _, fun _ _ _ => rfl⟩
theorem Tk.set {B C g : Nat} {W W' : World} (h : Tk B C g W W') (i : Nat) (x : F) : Tk B C g W (setF W' g i x) :=
  ⟨by simpa [setF] using h.size, fun k hk hne => (setF_other hne x).trans (h.same k hk hne)⟩
theorem Tk.gn {B C g : Nat} {W W' W2 : World} (h : Tk B C g W W') (k : Gn W' W2) : Tk B C g W W2 :=
  ⟨Nat.le_trans h.size k.size, fun q hq hne => (k.below.block q (Nat.lt_of_lt_of_le hq h.size)).trans (h.same q hq hne)⟩
theorem Tk.drew {B C g : Nat} {W W' : World} (h : Tk B C g W W') : Tk B C g W W'.drew := ⟨h.size, h.same⟩
theorem Tk.drewN {B C g : Nat} {W W' : World} (h : Tk B C g W W') (q : Nat) : Tk B C g W (W'.drewN q) := ⟨h.size, h.same⟩
theorem Tk.keeps {B C g : Nat} {W W' : World} (h : Tk B C g W W') {b : Nat} (hb : g < b) : KeepsBeyond b W W' := ⟨h.size, fun k hk hl => h.same k hl (by omega)⟩
theorem Tk.kp {B C g : Nat} {W W' : World} (h : Tk B C g W W') (hB : B < W.heap.size) (hC : C < W.heap.size) (gB : B ≠ g) (gC : C ≠ g) : StKp B C W W' :=
  ⟨h.size, World.cell?_of_block (h.same B hB gB), World.cell?_of_block (h.same C hC gC)⟩

/-- a[lo:hi:hi] of a row -/
theorem slice3F (g n c lo hi : Nat) (h1 : lo < hi) (h2 : hi ≤ c) (lo' hi' : Int) (e1 : lo' = lo) (e2 : hi' = hi) (d : Nat) (hd : hi - lo = d) (w : World) :
    (Instr.slice 22 (.slice (some ⟨g, 0, none⟩) n c) (some (.int .i64 lo')) (some (.int .i64 hi')) (some (.int .i64 hi'))).run Tryz.prog w = .ok (.slice (some ⟨g, lo, none⟩) d d) w := by
  subst e1 e2 hd
  obtain ⟨i0, hi0, hz0, hz1, hz2⟩ := info_parts u64Info
  have hu : Tryz.prog.underlying 22 = some (.slice (Tryz.prog.elem 22)) := by kernel_rfl
  have he : Tryz.prog.elem 22 = 39 := by kernel_rfl
  rw [run_slice_lhm w 22 _ n c hu .i64 .i64 .i64 _ _ _ (by omega) (by omega) (by omega) (by omega), he]
  have hs : (sizeOf 39).run Tryz.prog w = .ok 1 w := by
    simp [sizeOf, typeInfo, hi0, hz1]
  rw [hs]
  simp only [Result.andThen, sliced, Int.toNat_natCast, Nat.mul_one]
  rw [if_neg (by omega)]
  simp [Addr.add]
  intro h; exact h.symm

set_option maxHeartbeats 4000000 in
theorem n_transform (inv : Bool) (rt : Nat → F) (g c k : Nat) (l : List F) (rest : List Value) (w : World) (hT : Tab w) (hk : k ≤ 16) (hl : l.length = 2 ^ k) (hR : RF w g l rest) (hc : 2 ^ k ≤ c) (_hc2 : c ≤ 9223372036854775807)
    (hit : ∀ B C, IterOk Tryz.prog 107 #[.pointer (some ⟨B, 0, none⟩), .pointer (some ⟨C, 0, none⟩)] (fun j => #[.int .i64 ((2 : Int) ^ (j + 1)), .int .u64 (Zm.i (rt (j + 1)))]) k (StH B C ((2 : Int) ^ k) inv) Gn (StKp B C))
    (hsq : ∀ s, s < k → rt (s + 1) * rt (s + 1) = rt s) (hmi : ∀ s, s < k → pw (rt (s + 1)) (2 ^ s) = -1) :
    Calls Tryz.prog 65 #[.slice (some ⟨g, 0, none⟩) (2 ^ k : Nat) c, .bool inv] w fun e w' => e = .returned (.tuple #[]) ∧ RF w' g (tab (2 ^ k) (dft (2 ^ k) (rt k) (co l))) rest ∧ w.grownBy w' (some g) := by
  have hp := pow_lt hk
  have hp0 : 0 < 2 ^ k := Nat.pow_pos (by omega)
  have hP := n_permute g c k l rest (w.alloc (.cells #[.slice (some ⟨g, 0, none⟩) (2 ^ k : Nat) c] 22)) (hT.up (Gn.al _)) hk hl (hR.up (Gn.al _)) hc
  obtain ⟨n, hn⟩ : ∃ n, n = 2 ^ k := ⟨_, rfl⟩
  have hni : (2 : Int) ^ k = (n : Int) := by rw [cast_pow, hn]
  have hgl := blk_lt hR
  rw [← hn] at hp hp0 hc hP ⊢
  rw [hni] at hit
  replace hn := Lib.hid hn
  have HNI := Lib.hid hni
  clear hni
  refine (callsIn_wide (n := 9)).1 ?_
  refine callsIn_of_wp_marks Tryz.func65 rfl trivial ?_ rfl
  simp only [Tryz.ntmps65, List.size_toArray, List.length_cons, List.length_nil, Nat.reduceAdd, Nat.reduceSub, Array.replicate_succ, Array.replicate_zero, List.push_toArray, List.append_toArray, List.nil_append, List.cons_append]
  gi_wp2_with fail
  refine ⟨trivial, (callsIn_wide.2 hP).mono ?_⟩
  rintro e W1 ⟨rfl, hr1, hby1⟩
  have hbox1 : W1.heap[w.heap.size]? = some (.cells #[.slice (some ⟨g, 0, none⟩) n c] 22) :=
    (hby1.block w.heap.size (by simp) (by simp; omega)).trans (hnew w _)
  have hc1 := obj_cell hbox1 0 rfl
  have hl1 := blk_lt hbox1
  have hby2 := (gn_by (Gn.al (w := w) (.cells #[.slice (some ⟨g, 0, none⟩) n c] 22)) (some g)).trans hby1
  have hs1 : tab n (fun x => co l (rev k x)) = tab n (stage k 0 rt (co l)) := by
    congr 1
    funext x
    exact (stage_zero k rt (co l) x).symm
  rw [hs1] at hr1
  clear hs1 hP hby1
  gi_wp2_with fail
  refine ⟨trivial, (callsIn_wide.2 (n_stages _ _ _)).mono ?_⟩
  rintro e W2 ⟨rfl, hW2⟩
  have hB2 : W2.heap[W1.heap.size]? = some (.cells #[.int .i64 n] 3) := by rw [hW2]; exact (Gn.al _).block (hnew _ _)
  have hC2 : W2.heap[W1.heap.size + 1]? = some (.cells #[.bool inv] 4) := by
    rw [hW2]; have := hnew (W1.alloc (.cells #[.int .i64 n] 3)) (.cells #[.bool inv] 4); rwa [World.size_alloc] at this
  have hv2 : Tv w W2 g n c W1.heap.size (W1.heap.size + 1) (tab n (stage k 0 rt (co l))) rest := by
    have hgg : Gn W1 W2 := by rw [hW2]; exact (Gn.al _).trans (Gn.al _)
    have hsz : W2.heap.size = W1.heap.size + 2 := by rw [hW2]; simp
    exact ⟨hr1.up hgg, hby2.trans (gn_by hgg _), hgg.block hbox1, hgl, by omega, by omega, by omega, by omega⟩
  clear hW2 hbox1 hc1 hby2 hr1
  generalize W1.heap.size = B at *
  gi_wp2_with fail
  refine wp_range (m := 7) (gf := 107) (lb := #[.pointer (some ⟨B, 0, none⟩), .pointer (some ⟨B + 1, 0, none⟩)]) rfl (fun _ _ => by kernel_rfl) (hit B (B + 1)) (fun _ => rfl) ?hH ?hKp
    (fun s W => Tv w W g n c B (B + 1) (tab n (stage k s rt (co l))) rest ∧ StH B (B + 1) n inv W) ?hI ?h0 ?hstep ?hIs
    (fun s => ⟨#[.slice (some ⟨g, 0, none⟩) n c, .bool inv, .pointer (some ⟨w.heap.size, 0, none⟩), undef, .int .i64 ((2 : Int) ^ (s + 1)), .int .u64 (Zm.i (rt (s + 1))), undef, undef, undef, undef, undef, undef, undef, undef, .slice (some ⟨g, 0, none⟩) n c, .tuple #[], .slice (some ⟨g, 0, none⟩) n c, .int .i64 n, .bool inv, .func (.func 107) #[] #[.pointer (some ⟨B, 0, none⟩), .pointer (some ⟨B + 1, 0, none⟩)], .int .i64 ((2 : Int) ^ (s + 1)), .int .u64 (Zm.i (rt (s + 1))), undef, undef, undef, undef, undef, undef, undef, undef, undef, undef, undef, undef, undef, undef, undef, undef, undef, undef, undef, undef, undef, undef, undef, undef, undef, undef, undef, undef, undef, undef, undef, undef, undef, undef, undef, undef, undef, undef, undef, undef, undef, undef, undef, undef, undef, undef, undef, undef, undef, undef, undef, undef, undef, undef, undef, undef, undef, undef, undef, undef], []⟩) ?hassign ?hbody ?hdone
  case hH => intro W hb; exact (StH.mk hv2.hb hv2.hc (obj_cell hB2 0 rfl) (obj_cell hC2 0 rfl)).gn (Gn.of hb)
  case hKp =>
    rintro A' C D E' hA ⟨h1, h2, h3⟩ hD
    have hs1 := hA.size
    have hs2 := hD.size
    refine ⟨by omega, ?_, ?_⟩
    · exact (hD.cell (p := ⟨B, 0, none⟩) hv2.hb).trans (h2.trans (hA.cell (p := ⟨B, 0, none⟩) hv2.hb))
    · exact (hD.cell (p := ⟨B + 1, 0, none⟩) hv2.hc).trans (h3.trans (hA.cell (p := ⟨B + 1, 0, none⟩) hv2.hc))
  case hI =>
    rintro s W W' ⟨h1, h2⟩ hb
    exact ⟨h1.below hb hv2.hb hv2.hc, ⟨Nat.lt_of_lt_of_le h2.b hb.size, Nat.lt_of_lt_of_le h2.c hb.size, (hb.cell (p := ⟨B, 0, none⟩) hv2.hb).trans h2.cb, (hb.cell (p := ⟨B + 1, 0, none⟩) hv2.hc).trans h2.cc⟩⟩
  case h0 => exact ⟨hv2, StH.mk hv2.hb hv2.hc (obj_cell hB2 0 rfl) (obj_cell hC2 0 rfl)⟩
  case hstep => rintro W W' hg; exact ⟨hg.size, fun q _ hq => hg.below.block q hq⟩
  case hIs => rintro s W W' ⟨h1, h2⟩ hg; exact ⟨h1.gn hg, h2.gn hg⟩
  case hassign =>
    intro r s W K hK
    simp
    gi_wp2
    exact hK
  case hbody =>
    rintro r s W ⟨hv, hst⟩ hs hsz
    obtain ⟨h, hh⟩ : ∃ h, h = 2 ^ s := ⟨_, rfl⟩
    have hh0 : 0 < h := by rw [hh]; exact Nat.pow_pos (by omega)
    obtain ⟨N, hN⟩ : ∃ N, N * (2 * h) = n := by
      refine ⟨2 ^ (k - (s + 1)), ?_⟩
      rw [hh, hn.out, show 2 * 2 ^ s = 2 ^ (s + 1) from by rw [Nat.pow_succ]; omega, ← Nat.pow_add]
      congr 1; omega
    have hstep : ∀ t i, i < h → stage k (s + 1) rt (co l) (t * (2 * h) + i) = stage k s rt (co l) (t * (2 * h) + i) + stage k s rt (co l) (t * (2 * h) + h + i) * pw (rt (s + 1)) i ∧
        stage k (s + 1) rt (co l) (t * (2 * h) + h + i) = stage k s rt (co l) (t * (2 * h) + i) - stage k s rt (co l) (t * (2 * h) + h + i) * pw (rt (s + 1)) i := by
      intro t i hi
      have := stage_step k s rt hs (hsq s hs) (hmi s hs) (co l) t i (by rw [← hh]; exact hi)
      rwa [← hh, show 2 ^ (s + 1) = 2 * h from by rw [Nat.pow_succ, ← hh]; omega] at this
    have hS : (2 : Int) ^ (s + 1) = ((2 * h : Nat) : Int) := by rw [cast_pow, Nat.pow_succ, ← hh]; congr 1; omega
    rw [hS]
    dsimp only
    have hmd := fun t i => mid_step (stage k s rt (co l)) (stage k (s + 1) rt (co l)) (h := h) (n := n) (t := t) (i := i)
    have hm0 := mid_zero (stage k s rt (co l)) (stage k (s + 1) rt (co l)) h n
    have hm1 := fun t => mid_next (stage k s rt (co l)) (stage k (s + 1) rt (co l)) h n t
    have hm2 := fun t => mid_end (stage k s rt (co l)) (stage k (s + 1) rt (co l)) (h := h) (n := n) (t := t)
    have hml := fun t i => mid_len (stage k s rt (co l)) (stage k (s + 1) rt (co l)) h n t i
    generalize stage k s rt (co l) = F0 at *
    generalize stage k (s + 1) rt (co l) = F1 at *
    rw [← hm0] at hv
    clear hS hh hm0 hsq hmi hit hs
    replace hmd := fun (t i : Nat) (hi : i < h) ht => hmd t i hi ht (pw (rt (s + 1)) i) (hstep t i hi).1 (hstep t i hi).2
    clear hstep
    generalize rt (s + 1) = u at *
    have Hmd := Lib.hid hmd; have Hm1 := Lib.hid hm1; have Hm2 := Lib.hid hm2; have Hml := Lib.hid hml; have HN := Lib.hid hN
    clear hmd hm1 hm2 hml hN
    have hq : ((2 * h : Nat) : Int).tdiv 2 = (h : Int) := by
      rw [Int.tdiv_eq_ediv_of_nonneg (by omega)]; omega
    have hhn : h ≤ n := by
      have h1 := HN.out
      rcases Nat.eq_zero_or_pos N with h2 | h2
      · subst h2; simp at h1; omega
      · have := Nat.mul_le_mul_right (2 * h) h2; omega
    obtain ⟨S, hS⟩ : ∃ S, S = 2 * h := ⟨_, rfl⟩
    rw [← hS] at hq ⊢
    have HS := Lib.hid hS
    clear hS
    have hst := Lib.hid hst
    have tk := Tk.refl B (B + 1) g W
    have hmx : Tryz.prog.follows .mixedOrders = true := by kernel_rfl
    gi_wp2_with fail
    gi_loopw [7] (fun v wr => ∃ t T : Nat, t ≤ N ∧ v = .int .i64 T ∧ T ≤ n ∧ Hid (T = t * (2 * h)) ∧ Tv w wr g n c B (B + 1) (mid F0 F1 h n t 0) rest ∧ Tk B (B + 1) g W wr) (fun v _ => n - (intOf v).toNat)
    case atStart => exact ⟨0, 0, by omega, rfl, by omega, Lib.hid (by simp), hv, tk⟩
    case round =>
      obtain ⟨t, T, ht, rfl, hTn, HT, hvt, tkt⟩ := hrel
      have hbox := obj_cell hvt.box 0 rfl
      have hbl := blk_lt hvt.box
      by_cases h1 : T < n
      · have hT2 : T + S ≤ n := by
          have h2 := HN.out; have h3 := HT.out; have h4 := HS.out
          have h5 : t < N := by
            apply Nat.lt_of_not_le
            intro h6
            have := Nat.mul_le_mul_right (2 * h) h6
            omega
          have := Nat.mul_le_mul_right (2 * h) h5
          rw [Nat.succ_mul] at this
          omega
        have hSh : h + h = S := by have := HS.out; omega
        have HSh := Lib.hid hSh
        have hShl : h ≤ S := by omega
        have hsl1 := slice3F g n c T (T + h) (by omega) (by omega) (T : Int) ((T : Int) + (h : Int)) rfl (by omega) h (by omega)
        have hsl2 := slice3F g n c (T + h) (T + S) (by omega) (by omega) ((T : Int) + (h : Int)) ((T : Int) + (S : Int)) (by omega) (by omega) h (by omega)
        have hne1 : h ≠ 0 := by omega
        have hne2 : S ≠ h := by omega
        have hsub : S - h = h := by omega
        clear hSh
        gi_wp2_with fail
        refine wpIn_round_gr (by kernel_rfl) (by kernel_rfl) (lex_of_chk (by kernel_rfl) (by kernel_rfl)) ?_
        repeat (go_big_quiet_step (fail))
        refine wpQuiet_nil ?_
        intro wr2 hg2
        have hv2' := hvt.gn hg2
        have tk2 := tkt.gn hg2
        clear hvt tkt hbox hbl hg2
        gi_wp2_with fail
        gi_loopw [10, 53] (fun z v wi => ∃ i : Nat, i ≤ h ∧ v = .int .i64 i ∧ z = .int .u64 (Zm.i (pw u i)) ∧ Tv w wi g n c B (B + 1) (mid F0 F1 h n t i) rest ∧ Tk B (B + 1) g W wi) (fun _ v _ => h - (intOf v).toNat)
        case atStart => exact ⟨0, by omega, rfl, rfl, hv2', tk2⟩
        case round =>
          obtain ⟨i, hi, rfl, rfl, hvi, tki⟩ := hrel
          by_cases h2 : i < h
          · obtain ⟨x, y, hx, hy, hset⟩ := Hmd.out t i h2 (by have := HS.out; have := HT.out; omega)
            rw [← HT.out] at hx hy hset
            have hpw := Lib.hid (pw_succ u i)
            generalize pw u i = z at *
            have HX := Lib.hid hx; have HY := Lib.hid hy
            have Hset := Lib.hid hset
            have hc1 := hvi.r.cell hx
            have hc2' := hvi.r.cell hy
            have hc3 := blk_lt hvi.r
            clear hx hy hset
            gi_wp2_with fail
            refine wpIn_round_gr (by kernel_rfl) (by kernel_rfl) (lex_of_chk (by kernel_rfl) (by kernel_rfl)) ?_
            repeat (go_big_quiet_step ((go_at_call 67; with_reducible apply qa (f_mulF _ _ _); rfl)))
            refine wpQuiet_nil ?_
            intro wi2 hg3
            have hvi3 := hvi.gn hg3
            have tki3 := tki.gn hg3
            have hL := Hml.out t i
            have hb1 := Lib.hid (show T + i < (mid F0 F1 h n t i).length by omega)
            have hb2 := Lib.hid (show T + h + i < ((mid F0 F1 h n t i).set (T + i) (x + y * z)).length by rw [List.length_set]; omega)
            have hc1' := hvi3.r.cell HX.out
            have hc2'' := hvi3.r.cell HY.out
            have hc3' := blk_lt hvi3.r
            have f1 := box_fz (i := T + i) hvi3.r
            have f2 := box_fz (i := T + h + i) hvi3.r
            have hvi4 := (hvi3.set hb1.out (x + y * z)).set hb2.out (x - y * z)
            have tki4 := (tki3.set (T + i) (x + y * z)).set (T + h + i) (x - y * z)
            rw [Hset.out] at hvi4
            clear hc1 hc2' hc3 hvi tki hg3 hL hvi3 tki3
            gi_wp2_with (first
              | (refine ⟨trivial, (CallsIn.inRound r (callsIn_wide.2 (f_addF x (y * z) _))).mono ?_⟩; rintro e w' ⟨rfl, rfl⟩)
              | (refine ⟨trivial, (CallsIn.inRound r (callsIn_wide.2 (f_subF x (y * z) _))).mono ?_⟩; rintro e w' ⟨rfl, rfl⟩)
              | (refine ⟨trivial, (CallsIn.inRound r (callsIn_wide.2 (f_mulF z u _))).mono ?_⟩; rintro e w' ⟨rfl, rfl⟩))
            exact ⟨⟨i + 1, by omega, by go_num, by rw [hpw.out], hvi4, tki4⟩, by simp [intOf]; omega⟩
          · obtain rfl : i = h := by omega
            rw [Hm1.out t] at hvi
            have hbox := obj_cell hvi.box 0 rfl
            have hnx := Lib.hid (show T + S = (t + 1) * (2 * i) by rw [Nat.add_mul, Nat.one_mul, ← HT.out, HS.out])
            have htN : t < N := by
              have h3 := HN.out; have h4 := hnx.out
              apply Nat.lt_of_not_le
              intro h6
              have := Nat.mul_le_mul_right (2 * i) h6
              rw [Nat.add_mul] at h4
              omega
            gi_wp2_with fail
            exact ⟨⟨t + 1, T + S, by omega, by go_num, hT2, hnx, hvi, tki⟩, by simp [intOf]; omega⟩
      · have he := Hm2.out t (by have := HT.out; omega)
        rw [he] at hvt
        have hvt2 := hvt
        have hb1 : B < W.heap.size := Nat.lt_of_lt_of_le hv2.hb hsz
        have hb2 : B + 1 < W.heap.size := Nat.lt_of_lt_of_le hv2.hc hsz
        have hl2 := hv2.gl; have hl3 := hv2.lb; have hl4 := hv2.hb
        gi_wp2_with fail
        have hkp := tkt.kp hb1 hb2 (show B ≠ g by omega) (show B + 1 ≠ g by omega)
        exact ⟨tkt.keeps (by omega), ⟨hvt2, Nat.lt_of_lt_of_le hb1 hkp.1, Nat.lt_of_lt_of_le hb2 hkp.1, hkp.2.1.trans hst.out.cb, hkp.2.2.trans hst.out.cc⟩, hkp⟩
  case hdone =>
    rintro D W hD ⟨hv, _⟩ hsz hW
    gi_wp2
    refine ⟨by simp, .inl ⟨_, _, rfl, run_takeDeferred hW, ?_⟩⟩
    have hz := hv2.hb; have hz2 := hv2.lb
    have hv3 := hv.below (below_putObj W D (.deferred none) hD) hv2.hb hv2.hc
    have he : tab n (stage k k rt (co l)) = tab n (dft n (rt k) (co l)) := by
      rw [hn.out]
      unfold tab
      exact List.map_congr_left fun x hx => stage_last k rt (co l) x (List.mem_range.1 hx)
    rw [he] at hv3
    exact ⟨.tuple #[], by simp [results, Tryz.results65, go_sem], rfl, hv3.r, hv3.by_⟩
end Go.Proofs.YtbfblckgcefaaaaGreatDoor

/- ntt.Forward, ntt.Inverse. -/
namespace Go.Proofs.YtbfblckgcefaaaaGreatDoor
open Go.RowKit Att Att.CRing
theorem Gn.by {W a b : World} {g : Nat} (h : Gn W a) (hb : W.heap.size ≤ g) (k : a.grownBy b (some g)) : Gn W b :=
  Gn.of (h.below.grown k h.size (fun q hq => by simp at hq; omega))
theorem valP_dft {l : List F} {k : Nat} (hl : l.length = 2 ^ k) (u : F) : tab (2 ^ k) (dft (2 ^ k) u (co l)) = valP l u (2 ^ k) := by
  unfold valP
  congr 1
  funext i
  exact dft_ev l _ (by omega) u i
theorem valP_length (l : List F) (u : F) (n : Nat) : (valP l u n).length = n := tab_length _ _
theorem n_tfF (g c k : Nat) (l : List F) (rest : List Value) (w : World) (hT : Tab w) (hk : k ≤ 16) (hl : l.length = 2 ^ k) (hR : RF w g l rest) (hc : 2 ^ k ≤ c) (hc2 : c ≤ 9223372036854775807) :
    Calls Tryz.prog 65 #[.slice (some ⟨g, 0, none⟩) (2 ^ k : Nat) c, .bool false] w fun e w' => e = .returned (.tuple #[]) ∧ RF w' g (valP l (root k) (2 ^ k)) rest ∧ w.grownBy w' (some g) := by
  have h := n_transform false root g c k l rest w hT hk hl hR hc hc2 (fun B C => stages_iterF root (fun _ => rfl) B C k hk) (fun s hs => root_sq s (by omega)) (fun s hs => root_half s (by omega))
  rwa [valP_dft hl] at h
theorem n_tfT (g c k : Nat) (l : List F) (rest : List Value) (w : World) (hT : Tab w) (hk : k ≤ 16) (hl : l.length = 2 ^ k) (hR : RF w g l rest) (hc : 2 ^ k ≤ c) (hc2 : c ≤ 9223372036854775807) :
    Calls Tryz.prog 65 #[.slice (some ⟨g, 0, none⟩) (2 ^ k : Nat) c, .bool true] w fun e w' => e = .returned (.tuple #[]) ∧ RF w' g (valP l (Fld.inv (root k)) (2 ^ k)) rest ∧ w.grownBy w' (some g) := by
  have h := n_transform true (fun k => Fld.inv (root k)) g c k l rest w hT hk hl hR hc hc2 (fun B C => stages_iterT (fun k => Fld.inv (root k)) (fun _ => rfl) B C k hk)
    (fun s hs => by
      show Fld.inv (root (s + 1)) * Fld.inv (root (s + 1)) = Fld.inv (root s)
      rw [← inv_mul, root_sq s (by omega)])
    (fun s hs => by
      show pw (Fld.inv (root (s + 1))) (2 ^ s) = -1
      rw [← inv_pw, root_half s (by omega)]
      exact (inv_unique (neg_one_sq)).symm)
  rwa [valP_dft hl] at h
/-- what a function of the package answers: a row and an error's number -/
structure Ret4 (e : Ending) (w w' : World) (r : List F × Int) : Prop where
  ex : ∃ A c, e = .returned (.tuple #[.slice A r.1.length c, .int .i64 r.2]) ∧ SF w' A r.1.length c r.1
  g : Gn w w'
open Classical in
noncomputable def fwdOf (l : List F) : List F × Int := if vlen l.length then (valP l (root l.length.log2) l.length, 0) else ([], 1)
open Classical in
noncomputable def invOf (l : List F) : List F × Int := if vlen l.length then ((valP l (Fld.inv (root l.length.log2)) l.length).map (· * Fld.inv (int (l.length : Int))), 0) else ([], 1)
theorem fwdOf_pow {l : List F} {k : Nat} (hl : l.length = 2 ^ k) (hk : k ≤ 16) : fwdOf l = (valP l (root k) (2 ^ k), 0) := by
  unfold fwdOf
  rw [if_pos ⟨k, hk, hl⟩, hl, Nat.log2_two_pow]
theorem fwdOf_bad {l : List F} (h : ¬ vlen l.length) : fwdOf l = ([], 1) := if_neg h
theorem invOf_pow {l : List F} {k : Nat} (hl : l.length = 2 ^ k) (hk : k ≤ 16) : invOf l = ((valP l (Fld.inv (root k)) (2 ^ k)).map (· * Fld.inv (int ((2 ^ k : Nat) : Int))), 0) := by
  unfold invOf
  rw [if_pos ⟨k, hk, hl⟩, hl, Nat.log2_two_pow]
theorem invOf_bad {l : List F} (h : ¬ vlen l.length) : invOf l = ([], 1) := if_neg h
open Classical in
/-- a row of which the first i elements are multiplied by z -/
def mulF (M : List F) (z : F) (i : Nat) : List F := tab M.length fun x => if x < i then co M x * z else co M x
theorem mulF_len (M : List F) (z : F) (i : Nat) : (mulF M z i).length = M.length := tab_length _ _
theorem mulF_zero (M : List F) (z : F) : mulF M z 0 = M := by
  refine Eq.trans ?_ (tab_eq M)
  unfold mulF tab
  exact List.map_congr_left fun x _ => if_neg (by omega)
theorem mulF_end (M : List F) (z : F) : mulF M z M.length = M.map (· * z) := by
  refine Eq.trans ?_ (congrArg (List.map (· * z)) (tab_eq M))
  unfold mulF tab
  rw [List.map_map]
  exact List.map_congr_left fun x hx => if_pos (List.mem_range.1 hx)
theorem mulF_get (M : List F) (z : F) {i : Nat} (hi : i < M.length) : (mulF M z i)[i]? = some (co M i) := by
  unfold mulF tab
  rw [List.getElem?_map, List.getElem?_range hi]
  simp
theorem mulF_set (M : List F) (z : F) {i : Nat} (hi : i < M.length) : (mulF M z i).set i (co M i * z) = mulF M z (i + 1) := by
  apply List.ext_getElem?
  intro x
  by_cases hxi : x = i
  · subst hxi
    rw [List.getElem?_set_self (by rw [mulF_len]; exact hi)]
    unfold mulF tab
    rw [List.getElem?_map, List.getElem?_range hi]
    simp
  · rw [List.getElem?_set_ne (Ne.symm hxi)]
    unfold mulF tab
    by_cases hx : x < M.length
    · rw [List.getElem?_map, List.getElem?_map, List.getElem?_range hx]
      simp only [Option.map_some]
      congr 1
      by_cases h : x < i
      · rw [if_pos h, if_pos (by omega)]
      · rw [if_neg h, if_neg (by omega)]
    · rw [List.getElem?_eq_none (by simp; omega), List.getElem?_eq_none (by simp; omega)]
open Classical in
set_option maxHeartbeats 1000000 in
theorem n_inverse (A : Option Addr) (n c : Nat) (l : List F) (w : World) (hT : Tab w) (hl : SF w A n c l) (hn : n ≤ 1000000) :
    Calls Tryz.prog 36 #[.slice A n c] w fun e w' => Ret4 e w w' (invOf l) := by
  have hV := n_validLen n (by omega)
  have hC := n_clone A n c l
  by_cases hv : vlen n
  · rw [decide_eq_true hv] at hV
    obtain ⟨k, hk, rfl⟩ := hv
    have hlen := hl.len
    rw [invOf_pow hlen hk]
    have hp0 : 0 < 2 ^ k := Nat.pow_pos (by omega)
    have hp := pow_lt hk
    have hF := fun g c rest w hT => n_tfT g c k l rest w hT hk hlen
    have HLl := Lib.hid hlen
    have HP := Lib.hid (valP_length l (Fld.inv (root k)) (2 ^ k))
    generalize valP l (Fld.inv (root k)) (2 ^ k) = M at *
    clear hlen
    generalize 2 ^ k = n at *
    have hI := fun w => @f_inv (n : Int) ⟨by omega, by omega⟩ (by omega) w
    obtain ⟨z, hz⟩ : ∃ z, z = (Fld.inv (int (n : Int)) : F) := ⟨_, rfl⟩
    rw [← hz] at hI ⊢
    clear hz
    go_enter Tryz.func36, Tryz.ntmps36
    go_wp2_with fail
    refine (hV _).mono ?_
    rintro e w1 ⟨rfl, g1⟩
    go_wp2_with fail
    refine (hC _ (hl.up g1) (by omega)).mono ?_
    rintro e w2 ⟨v, rfl, ho, g2⟩
    obtain ⟨g, c', rest, rfl, hr, hb, hc1, hc2⟩ := ho.rf (by rw [HLl.out]; exact hp0)
    rw [HLl.out] at hc1 ⊢
    have hg := Gn.trans g1 g2
    have hbb := Nat.le_trans (Gn.size g1) hb
    clear ho g1 g2 hb
    go_wp2_with fail
    refine (hF g c' rest _ (hT.up hg) hr hc1 hc2).mono ?_
    rintro e w3 ⟨rfl, hr3, hby⟩
    have hg3 := Gn.by hg hbb hby
    clear hg hby hr
    go_wp2_with fail
    refine (hI _).mono ?_
    rintro e w4 ⟨rfl, q, rfl⟩
    have hr4 : RF (w3.drewN q) g (mulF M z 0) rest := by rw [mulF_zero]; exact hr3
    have hg4 : Gn w (w3.drewN q) := hg3.trans (Gn.of ⟨rfl, rfl, rfl, Nat.le_refl _, fun _ _ => rfl⟩)
    generalize w3.drewN q = w4 at *
    clear hr3 hg3
    go_wp2_with fail
    go_loopw [26] (fun v wr => ∃ i : Nat, i ≤ n ∧ v = .int .i64 i ∧ RF wr g (mulF M z i) rest ∧ Gn w wr) (fun v _ => n - (intOf v).toNat)
    case atStart => exact ⟨0, by omega, rfl, hr4, hg4⟩
    case round =>
      clear hr4 hg4
      obtain ⟨i, hi, rfl, hr, hg⟩ := hrel
      by_cases h1 : i < n
      · have him := HP.out ▸ h1
        have hx := mulF_get M z (i := i) (by rw [HP.out]; exact h1)
        have hst := Lib.hid (mulF_set M z (i := i) (by rw [HP.out]; exact h1))
        have hil := Lib.hid (show i < (mulF M z i).length by rw [mulF_len, HP.out]; exact h1)
        generalize co M i = x at *
        have hr2 := RF.set hr hil.out (x * z)
        have hg2 := setF_below (i := i) hg hbb (x * z)
        rw [hst.out] at hr2
        have c1 := hr.cell hx
        have c3 := blk_lt hr
        have f1 := box_fz (i := i) hr
        clear hx
        go_wp2_with fail
        refine (f_mulF x z _).mono ?_
        rintro e w5 ⟨rfl, rfl⟩
        go_wp2_with fail
        exact ⟨⟨i + 1, by omega, by go_num, hr2, hg2⟩, by simp [intOf]; omega⟩
      · obtain rfl : i = n := by omega
        have he := Lib.hid (mulF_end M z)
        rw [HP.out] at he
        rw [he.out] at hr
        go_wp2_with fail
        go_ret2
        have e := HP.out
        refine ⟨⟨some ⟨g, 0, none⟩, c', ?_, ?_⟩, hg⟩
        · simp [e]
        · exact hr.sf (by simp [e]; exact hc1) hc2
  · rw [decide_eq_false hv] at hV
    rw [invOf_bad (by rw [hl.len]; exact hv)]
    clear hv
    go_enter Tryz.func36, Tryz.ntmps36
    go_wp2_with fail
    refine (hV _).mono ?_
    rintro e w1 ⟨rfl, g1⟩
    go_wp2_with fail
    go_ret2
    exact ⟨⟨none, 0, rfl, SF.nil _⟩, g1⟩
end Go.Proofs.YtbfblckgcefaaaaGreatDoor

/- bits.Len (off the shelf); copy; ntt.Extend. -/
namespace Go.Proofs
open Go.Shelf
def Tryz.lays125_ren : Go.Shelf.Ren := ⟨fun | 125 => 49 | 128 => 79 | 129 => 80 | n => n, fun | 46 => 25 | 3 => 3 | 51 => 86 | 53 => 39 | 4 => 4 | 5 => 5 | 9 => 9 | n => n, fun | n => n⟩
theorem Tryz.lays125 : Go.Proofs.Lays.n125 Tryz.prog Tryz.lays125_ren := {
  mixed := by kernel_rfl
  f125 := Tryz.func49.trans (congrArg some (by kernel_rfl))
  f128 := Tryz.func79.trans (congrArg some (by kernel_rfl))
  f129 := Tryz.func80.trans (congrArg some (by kernel_rfl))
  t3 := Tryz.underlying3
  a3 := Tryz.isAgg3
  z3 := Tryz.sizeOf3
  v3 := Tryz.zeroValue3
  t4 := Tryz.underlying4
  a4 := Tryz.isAgg4
  z4 := Tryz.sizeOf4
  v4 := Tryz.zeroValue4
  t5 := Tryz.underlying5
  a5 := Tryz.isAgg5
  z5 := Tryz.sizeOf5
  v5 := Tryz.zeroValue5
  t9 := Tryz.underlying9
  a9 := Tryz.isAgg9
  z9 := Tryz.sizeOf9
  v9 := Tryz.zeroValue9
  t46 := Tryz.underlying25
  a46 := Tryz.isAgg25
  z46 := Tryz.sizeOf25
  v46 := Tryz.zeroValue25
  t51 := Tryz.underlying86
  a51 := Tryz.isAgg86
  z51 := Tryz.sizeOf86
  v51 := Tryz.zeroValue86
  t53 := Tryz.underlying39
  a53 := Tryz.isAgg39
  z53 := Tryz.sizeOf39
  v53 := Tryz.zeroValue39 }
end Go.Proofs
namespace Go.Proofs.YtbfblckgcefaaaaGreatDoor
open Go.RowKit Go.Shelf Att Att.CRing
theorem bitLen_bnd : ∀ (k x : Nat), k ≤ 60 → x < 2 ^ k → Lib.bitLen x ≤ k ∧ x < 2 ^ Lib.bitLen x
  | 0, x, _, h => by
    obtain rfl : x = 0 := by simp at h; omega
    have e : Lib.bitLen 0 = 0 := by decide +kernel
    rw [e]; simp
  | k + 1, x, hk, h => by
    by_cases h0 : x = 0
    · subst h0
      have e : Lib.bitLen 0 = 0 := by decide +kernel
      rw [e]; simp
    · rw [Nat.pow_succ] at h
      obtain ⟨h1, h2⟩ := bitLen_bnd k (x / 2) (by omega) (by omega)
      have hb : 2 ^ k ≤ 2 ^ 60 := Nat.pow_le_pow_right (by omega) (by omega)
      rw [Lib.bitLen_half x h0 (by omega)]
      refine ⟨by omega, ?_⟩
      rw [Nat.pow_add, Nat.pow_one]
      omega
theorem n_len (x : Nat) (hx : x < 65536) (w : World) :
    Calls Tryz.prog 49 #[.int .u64 x] w fun e w' => (∃ m : Nat, e = .returned (.int .i64 m) ∧ m ≤ 16 ∧ x < 2 ^ m) ∧ w = w' := by
  have h := Any.bits_Len Tryz.lays125 (x : Int) w (by omega) (by omega)
  have e : Tryz.lays125_ren.f 125 = 49 := by kernel_rfl
  rw [e] at h
  refine h.mono ?_
  rintro e' w' ⟨rfl, rfl⟩
  rw [Int.toNat_natCast]
  obtain ⟨h1, h2⟩ := bitLen_bnd 16 x (by omega) hx
  exact ⟨⟨_, rfl, h1, h2⟩, rfl⟩

/- ───── copy into a row of zeros ───── -/
theorem padF_length (l : List F) (n : Nat) : (padF l n).length = n := tab_length _ _
theorem padF_cells (l : List F) {n N : Nat} (hn : l.length = n) (h : n ≤ N) : (ff (List.replicate N 0)).take 0 ++ (ff l ++ (ff (List.replicate N 0)).drop (0 + (ff l).length)) = ff (padF l N) := by
  rw [List.take_zero, List.nil_append, Nat.zero_add, ff_length, hn]
  have e : padF l N = l ++ List.replicate (N - n) 0 := by
    apply list_ext_co
    · rw [padF_length]; simp; omega
    · intro i hi
      rw [padF_length] at hi
      unfold padF
      rw [co_tab, if_pos hi, co_append]
      by_cases h1 : i < l.length
      · rw [if_pos h1]
      · rw [if_neg h1, co_big l i (by omega)]
        unfold co
        rw [List.getD_eq_getElem?_getD, List.getElem?_replicate]
        split <;> rfl
  rw [e, ff_append]
  congr 1
  unfold ff
  rw [← List.map_drop, List.drop_replicate]
theorem run_cpF {w : World} {ty : TypeId} {g N n c : Nat} {A : Option Addr} {l : List F} (hb : BF w g (List.replicate N 0)) (hl : SF w A n c l) (hN : n ≤ N) :
    ∃ w', (Builtin.copy_ #[22, 22] ty #[.slice (some ⟨g, 0, none⟩) N N, .slice A n c]).run Tryz.prog w = .ok (goInt n) w' ∧ BF w' g (padF l N) ∧ w.grownBy w' (some g) := by
  have hsz : (Tryz.prog.info? 39).map (·.size) = some 1 := by
    have h := u64Info
    cases hh : Tryz.prog.info? 39 with
    | none => rw [hh] at h; cases h
    | some i =>
      rw [hh] at h
      simp only [Option.map_some, Option.some.injEq, Prod.mk.injEq] at h ⊢
      exact h.2.1
  rcases Nat.eq_zero_or_pos n with h0 | h0
  · subst h0
    have hl0 : l = [] := List.eq_nil_of_length_eq_zero hl.len
    subst hl0
    have e : padF ([] : List F) N = List.replicate N 0 := by
      unfold padF tab
      apply List.ext_getElem?
      intro i
      by_cases hi : i < N
      · rw [List.getElem?_map, List.getElem?_range hi, List.getElem?_replicate, if_pos hi]
        simp [co_nil]
      · rw [List.getElem?_eq_none (by simp; omega), List.getElem?_eq_none (by simp; omega)]
    exact ⟨w, run_copy_none (P := Tryz.prog) w 22 22 ty 39 _ _ N N 0 c Tryz.underlying22 hsz (by simp), by rw [e]; exact hb, World.grownBy.refl w _⟩
  · obtain ⟨b, o, rfl, hbl, hc⟩ := hl.cells h0
    have h := run_copy_row (P := Tryz.prog) w 22 22 ty 39 g 0 N N ⟨b, o, none⟩ n c _ _ (ff l) Tryz.underlying22 hsz hb (by rw [ff_length, hl.len]; exact (Nat.min_eq_left hN).symm) (by
      intro j v hv
      have hj : j < l.length := by rw [← ff_length]; exact (List.getElem?_eq_some_iff.1 hv).1
      have hx : l[j]? = some l[j] := List.getElem?_eq_getElem hj
      rw [ff_get hx] at hv
      cases hv
      have hadd : (⟨b, o, none⟩ : Addr).add j = ⟨b, o + j, none⟩ := by unfold Addr.add; split <;> simp_all
      rw [hadd]
      exact hc _ _ hx) (by simp [ff_length, hl.len]; omega) (ff_one l)
    have e := padF_cells l hl.len hN
    have e2 : ((ff (List.replicate N 0)).toArray.toList.take 0 ++ ff l ++ (ff (List.replicate N 0)).toArray.toList.drop (0 + (ff l).length)).toArray = (ff (padF l N)).toArray := by
      rw [← e, List.append_assoc]
    rw [e2, ff_length, hl.len] at h
    exact ⟨_, h, setRow_heap w g _ _ _ _ hb, ⟨rfl, rfl, rfl, by simp [World.setRow], fun k hk hne => setRow_other w g k _ (fun h => hne (by rw [h]))⟩⟩
/- ───── powers of two ───── -/
theorem bits_and_i64_63 (a b : Nat) (ha : a < 9223372036854775808) (hb : b < 9223372036854775808) : bits .and .i64 (a : Int) (b : Int) = ((a &&& b : Nat) : Int) := by
  have hx : a &&& b < 2 ^ 63 := Nat.and_lt_two_pow _ (by omega)
  have h1 : (BitVec.ofInt 64 (a : Int)).toNat = a := by
    rw [BitVec.ofInt_natCast, BitVec.toNat_ofNat]; exact Nat.mod_eq_of_lt (by omega)
  have h2 : (BitVec.ofInt 64 (b : Int)).toNat = b := by
    rw [BitVec.ofInt_natCast, BitVec.toNat_ofNat]; exact Nat.mod_eq_of_lt (by omega)
  show IntKind.i64.wrap ((BitVec.ofInt 64 (a : Int) &&& BitVec.ofInt 64 (b : Int)).toNat : Int) = _
  rw [BitVec.toNat_and, h1, h2]
  exact IntWalk.i64_in _ (by omega)
open Classical in
theorem n_pow2L (n : Nat) (h0 : 0 < n) (hn : n < 9223372036854775808) (w : World) :
    Calls Tryz.prog 78 #[.int .i64 n] w fun e w' => e = .returned (.bool (decide (∃ k, n = 2 ^ k))) ∧ ∃ g, w' = gr w g := by
  have e : (bits .and .i64 (n : Int) ((n : Int) - 1) == 0) = decide (∃ k, n = 2 ^ k) := by
    rw [show (n : Int) - 1 = ((n - 1 : Nat) : Int) from by omega, bits_and_i64_63 n (n - 1) hn (by omega)]
    rw [Bool.eq_iff_iff, beq_iff_eq, decide_eq_true_eq, ← and_pred n h0]
    omega
  replace e := Lib.hid e
  go_enter Tryz.func78, Tryz.ntmps78
  go_wp2_with fail
  go_ret
  exact ⟨by rw [← e.out]; rfl, Gn.refl w⟩
end Go.Proofs.YtbfblckgcefaaaaGreatDoor

/- ntt.Extend. -/
namespace Go.Proofs.YtbfblckgcefaaaaGreatDoor
open Go.RowKit Att Att.CRing
open Classical in
theorem n_pow2I (b : Int) (h1 : b ≤ 9223372036854775807) (w : World) :
    Calls Tryz.prog 78 #[.int .i64 b] w fun e w' => e = .returned (.bool (decide (∃ m : Nat, b = (2 : Int) ^ m))) ∧ ∃ g, w' = gr w g := by
  by_cases h0 : b ≤ 0
  · have hd : decide (∃ m : Nat, b = (2 : Int) ^ m) = false := decide_eq_false (by
      rintro ⟨m, rfl⟩
      rw [cast_pow] at h0
      have := Nat.two_pow_pos m
      omega)
    rw [hd]
    exact n_pow2n b h0 w
  · obtain ⟨n, rfl⟩ : ∃ n : Nat, b = (n : Int) := ⟨b.toNat, by omega⟩
    have h := n_pow2L n (by omega) (by omega) w
    have hd : decide (∃ k, n = 2 ^ k) = decide (∃ m : Nat, (n : Int) = (2 : Int) ^ m) := by
      congr 1
      apply propext
      constructor
      · rintro ⟨k, rfl⟩; exact ⟨k, (cast_pow k).symm⟩
      · rintro ⟨k, hk⟩; exact ⟨k, by rw [cast_pow] at hk; omega⟩
    rwa [hd] at h
theorem pow_inj2 {a b : Nat} (h : 2 ^ a = 2 ^ b) : a = b := by
  have h := congrArg Nat.log2 h
  rwa [Nat.log2_two_pow, Nat.log2_two_pow] at h
def elen (n : Nat) (b : Int) : Prop := ∃ k m : Nat, n = 2 ^ k ∧ b = (2 : Int) ^ m ∧ k + m ≤ 16
open Classical in
noncomputable def extOf (l : List F) (b : Int) : List F × Int := if elen l.length b then (valP l (root (l.length * b.toNat).log2) (l.length * b.toNat), 0) else ([], 1)
theorem extOf_pow {l : List F} {k m : Nat} (hl : l.length = 2 ^ k) (h : k + m ≤ 16) : extOf l ((2 : Int) ^ m) = (valP l (root (k + m)) (2 ^ (k + m)), 0) := by
  unfold extOf
  rw [if_pos ⟨k, m, hl, rfl, h⟩, hl, cast_pow, Int.toNat_natCast, ← Nat.pow_add, Nat.log2_two_pow]
theorem extOf_bad {l : List F} {b : Int} (h : ¬ elen l.length b) : extOf l b = ([], 1) := if_neg h
theorem ev_padF {l : List F} {N : Nat} (h : l.length ≤ N) (x : F) : ev (padF l N) x = ev l x := by
  apply ev_of_co
  intro i
  unfold padF
  rw [co_tab]
  by_cases hi : i < N
  · rw [if_pos hi]
  · rw [if_neg hi, co_big l i (by omega)]
theorem valP_padF {l : List F} {N : Nat} (h : l.length ≤ N) (u : F) (n : Nat) : valP (padF l N) u n = valP l u n := by
  unfold valP
  congr 1
  funext i
  exact ev_padF h _
open Classical in
set_option maxRecDepth 100000 in
set_option maxHeartbeats 1000000 in
theorem n_extend (A : Option Addr) (n c : Nat) (l : List F) (b : Int) (w : World) (hT : Tab w) (hl : SF w A n c l) (hn : n ≤ 1000000) (hb : b ≤ 9223372036854775807) :
    Calls Tryz.prog 45 #[.slice A n c, .int .i64 b] w fun e w' => Ret4 e w w' (extOf l b) := by
  have hV := n_validLen n (by omega)
  have hPw := n_pow2I b hb
  by_cases hv : vlen n
  · rw [decide_eq_true hv] at hV
    by_cases hm : ∃ m : Nat, b = (2 : Int) ^ m
    · rw [decide_eq_true hm] at hPw
      obtain ⟨k, hk, rfl⟩ := hv
      obtain ⟨m, rfl⟩ := hm
      have hlen := hl.len
      have hp0 : 0 < 2 ^ k := Nat.pow_pos (by omega)
      have hp := pow_lt hk
      have hp1 : 0 < 2 ^ m := Nat.pow_pos (by omega)
      have hq : Int.tdiv 65536 ((2 ^ k : Nat) : Int) = ((2 ^ (16 - k) : Nat) : Int) := by
        rw [Int.tdiv_eq_ediv_of_nonneg (by omega), show (65536 : Int) = ((2 ^ 16 : Nat) : Int) from rfl, ← Int.natCast_ediv, Nat.pow_div hk (by omega)]
      have hRb : 2 ^ (16 - k) ≤ 65536 := Nat.le_trans (Nat.pow_le_pow_right (n := 2) (by omega) (show 16 - k ≤ 16 by omega)) (by decide)
      by_cases hkm : k + m ≤ 16
      · rw [extOf_pow hlen hkm]
        have hle : 2 ^ m ≤ 2 ^ (16 - k) := Nat.pow_le_pow_right (by omega) (by omega)
        have hF := fun g c rest w hT => n_tfF g c (k + m) (padF l (2 ^ (k + m))) rest w hT hkm (padF_length _ _)
        have hpm := pow_lt hkm
        have hmul : ((2 ^ m : Nat) : Int) * ((2 ^ k : Nat) : Int) = ((2 ^ (k + m) : Nat) : Int) := by
          rw [← Int.natCast_mul, ← Nat.pow_add, Nat.add_comm]
        have hnN : 2 ^ k ≤ 2 ^ (k + m) := Nat.pow_le_pow_right (by omega) (by omega)
        have HP := Lib.hid (valP_length l (root (k + m)) (2 ^ (k + m)))
        have HV := valP_padF (l := l) (N := 2 ^ (k + m)) (by omega) (root (k + m)) (2 ^ (k + m))
        rw [HV] at hF
        rw [cast_pow] at hPw ⊢
        clear HV hb hlen
        generalize valP l (root (k + m)) (2 ^ (k + m)) = M at *
        generalize 2 ^ (k + m) = N at *
        generalize 2 ^ (16 - k) = R at *
        generalize 2 ^ k = n at *
        generalize 2 ^ m = b at *
        go_enter Tryz.func45, Tryz.ntmps45
        go_wp2_with fail
        refine (hV _).mono ?_
        rintro e w1 ⟨rfl, g1⟩
        have hg1 : Gn w w1 := g1
        clear g1
        go_wp2_with fail
        refine (hPw _).mono ?_
        rintro e w2 ⟨rfl, g2⟩
        have hg2 : Gn w w2 := hg1.trans g2
        clear g2 hg1
        go_wp2_with (at_make; refine wpList_mkF (.tmp 26) (.tmp 26) N (congrArg (Value.int .i64) (by first | rfl | exact hmul)) (congrArg (Value.int .i64) (by first | rfl | exact hmul)) (by omega) ?_)
        have hb0 : BF (w2.alloc (.cells (ff (List.replicate N 0)).toArray 39)) w2.heap.size (List.replicate N 0) := hnew w2 _
        have hg3 : Gn w (w2.alloc (.cells (ff (List.replicate N 0)).toArray 39)) := hg2.trans (Gn.al _)
        have hbb := hg2.size
        generalize w2.alloc (.cells (ff (List.replicate N 0)).toArray 39) = w3 at *
        generalize w2.heap.size = g at *
        clear hg2
        obtain ⟨w4, hcp, hb4, hby⟩ := run_cpF (ty := 3) hb0 (hl.up hg3) hnN
        have hg4 := Gn.by hg3 hbb hby
        clear hby
        go_wp2_with fail
        rw [hcp]
        go_wp2_with fail
        refine (hF g N [] _ (hT.up hg4) hb4.rf (by omega) (by omega)).mono ?_
        rintro e w5 ⟨rfl, hr5, hby5⟩
        have hg5 := Gn.by hg4 hbb hby5
        clear hg4 hb4 hg3 hb0 hby5
        go_wp2_with fail
        go_ret2
        have e := HP.out
        subst e
        exact ⟨⟨_, _, rfl, hr5.sf (by omega) (by omega)⟩, hg5⟩
      · have hbig : 2 ^ (16 - k) < 2 ^ m := Nat.pow_lt_pow_right (by omega) (by omega)
        rw [extOf_bad (by
          rw [hlen]
          rintro ⟨k', m', h1, h2, h3⟩
          have e1 : k = k' := pow_inj2 h1
          rw [cast_pow, cast_pow] at h2
          have e2 : m = m' := pow_inj2 (by exact_mod_cast h2)
          omega)]
        rw [cast_pow] at hPw hb ⊢
        clear hlen hkm
        generalize 2 ^ (16 - k) = R at *
        generalize 2 ^ k = n at *
        generalize 2 ^ m = b at *
        go_enter Tryz.func45, Tryz.ntmps45
        go_wp2_with fail
        refine (hV _).mono ?_
        rintro e w1 ⟨rfl, g1⟩
        have hg1 : Gn w w1 := g1
        clear g1
        go_wp2_with fail
        refine (hPw _).mono ?_
        rintro e w2 ⟨rfl, g2⟩
        have hg2 : Gn w w2 := hg1.trans g2
        clear g2 hg1
        go_wp2_with fail
        go_ret2
        exact ⟨⟨none, 0, rfl, SF.nil _⟩, hg2⟩
    · rw [decide_eq_false hm] at hPw
      rw [extOf_bad (by rintro ⟨k', m', h1, h2, h3⟩; exact hm ⟨m', h2⟩)]
      clear hm hv
      go_enter Tryz.func45, Tryz.ntmps45
      go_wp2_with fail
      refine (hV _).mono ?_
      rintro e w1 ⟨rfl, g1⟩
      have hg1 : Gn w w1 := g1
      clear g1
      go_wp2_with fail
      refine (hPw _).mono ?_
      rintro e w2 ⟨rfl, g2⟩
      have hg2 : Gn w w2 := hg1.trans g2
      clear g2 hg1
      go_wp2_with fail
      go_ret2
      exact ⟨⟨none, 0, rfl, SF.nil _⟩, hg2⟩
  · rw [decide_eq_false hv] at hV
    rw [extOf_bad (by
      rw [hl.len]
      rintro ⟨k', m', h1, h2, h3⟩
      exact hv ⟨k', by omega, h1⟩)]
    clear hv
    go_enter Tryz.func45, Tryz.ntmps45
    go_wp2_with fail
    refine (hV _).mono ?_
    rintro e w1 ⟨rfl, g1⟩
    have hg1 : Gn w w1 := g1
    clear g1
    go_wp2_with fail
    go_ret2
    exact ⟨⟨none, 0, rfl, SF.nil _⟩, hg1⟩
end Go.Proofs.YtbfblckgcefaaaaGreatDoor

/- The plain laws of the transform: what Forward, Inverse, Extend and Mul answer. No program in sight. -/
namespace Go.Proofs.YtbfblckgcefaaaaGreatDoor
open Go.RowKit Att Att.CRing
theorem list_map_tab (n : Nat) (f g : Nat → F) (z : F) (h : ∀ i, i < n → f i * z = g i) : (tab n f).map (· * z) = tab n g := by
  unfold tab
  rw [List.map_map]
  exact List.map_congr_left fun i hi => h i (List.mem_range.1 hi)
theorem nat_pow_ne (k : Nat) (hk : k ≤ 32) : (nat (2 ^ k) : F) ≠ 0 := by
  intro h
  rw [Zm.nat_eq, Zm.of_eq_zero, P_eq] at h
  have h1 : 2 ^ k ≤ 2 ^ 32 := Nat.pow_le_pow_right (by omega) hk
  have h2 := Nat.le_of_dvd (Nat.two_pow_pos k) h
  omega
theorem co_valP (l : List F) (u : F) (n i : Nat) (hi : i < n) : co (valP l u n) i = ev l (pw u i) := by
  unfold valP; rw [co_tab, if_pos hi]
theorem valP_tab {l : List F} {n : Nat} (h : l.length ≤ n) (u : F) : valP l u n = tab n (dft n u (co l)) := by
  unfold valP
  congr 1
  funext i
  exact (dft_ev l n h u i).symm
theorem tab_congr {n : Nat} {f g : Nat → F} (h : ∀ i, i < n → f i = g i) : tab n f = tab n g := by
  unfold tab; exact List.map_congr_left fun i hi => h i (List.mem_range.1 hi)
/-- the inverse of the values of a polynomial: its coefficients, and zeros -/
theorem inv_valP {l : List F} {k : Nat} (hl : l.length ≤ 2 ^ k) (hk : k ≤ 16) : invOf (valP l (root k) (2 ^ k)) = (padF l (2 ^ k), 0) := by
  have hlen : (valP l (root k) (2 ^ k)).length = 2 ^ k := valP_length _ _ _
  rw [invOf_pow hlen hk, valP_tab (Nat.le_of_eq hlen)]
  congr 1
  unfold padF
  refine list_map_tab _ _ _ _ fun i hi => ?_
  have e : dft (2 ^ k) (Fld.inv (root k)) (co (valP l (root k) (2 ^ k))) i = nat (2 ^ k) * co l i := by
    rw [dft_congr (b := dft (2 ^ k) (root k) (co l)) (fun j hj => by rw [co_valP _ _ _ _ hj, dft_ev l _ hl])]
    exact dft_dft (root_prim k (by omega)) (co l) i hi
  rw [e, mul_comm (nat (2 ^ k)), mul_assoc]
  show co l i * (nat (2 ^ k) * Fld.inv (int ((2 ^ k : Nat) : Int))) = co l i
  rw [show (int ((2 ^ k : Nat) : Int) : F) = nat (2 ^ k) from rfl, Fld.mul_inv _ (nat_pow_ne k (by omega)), mul_one]
theorem padF_self (l : List F) : padF l l.length = l := by unfold padF; exact tab_eq l
theorem inv_fwd {l : List F} {k : Nat} (hl : l.length = 2 ^ k) (hk : k ≤ 16) : invOf (fwdOf l).1 = (l, 0) := by
  rw [fwdOf_pow hl hk]
  show invOf (valP l (root k) (2 ^ k)) = _
  rw [inv_valP (Nat.le_of_eq hl) hk, ← hl, padF_self]
theorem co_map_mul (l : List F) (z : F) (i : Nat) : co (l.map (· * z)) i = co l i * z := by
  unfold co
  rw [List.getD_eq_getElem?_getD, List.getD_eq_getElem?_getD, List.getElem?_map]
  cases l[i]? with
  | none => exact (CRing.zero_mul z).symm
  | some x => rfl
theorem invOf_length {l : List F} {k : Nat} (hl : l.length = 2 ^ k) (hk : k ≤ 16) : (invOf l).1.length = 2 ^ k := by
  rw [invOf_pow hl hk]
  show ((valP l _ _).map _).length = _
  rw [List.length_map, valP_length]
theorem fwd_inv {l : List F} {k : Nat} (hl : l.length = 2 ^ k) (hk : k ≤ 16) : fwdOf (invOf l).1 = (l, 0) := by
  have hlen := invOf_length hl hk
  rw [fwdOf_pow hlen hk]
  congr 1
  rw [valP_tab (Nat.le_of_eq hlen)]
  refine Eq.trans ?_ (tab_eq l)
  rw [hl]
  refine tab_congr fun i hi => ?_
  have e : ∀ j, j < 2 ^ k → co (invOf l).1 j = dft (2 ^ k) (Fld.inv (root k)) (co l) j * Fld.inv (int ((2 ^ k : Nat) : Int)) := by
    intro j hj
    rw [invOf_pow hl hk]
    show co ((valP l (Fld.inv (root k)) (2 ^ k)).map (· * Fld.inv (int ((2 ^ k : Nat) : Int)))) j = _
    rw [co_map_mul, co_valP _ _ _ _ hj, dft_ev l _ (Nat.le_of_eq hl)]
  rw [dft_congr e, dft_mul, dft_dft' (root_prim k (by omega)) (co l) i hi, mul_comm (nat (2 ^ k)), mul_assoc]
  rw [show (int ((2 ^ k : Nat) : Int) : F) = nat (2 ^ k) from rfl, Fld.mul_inv _ (nat_pow_ne k (by omega)), mul_one]
/- ───── products ───── -/
/-- the product's coefficients: as many as the factors' less one -/
def mulL (l k : List F) : List F := tab (l.length + k.length - 1) (conv (co l) (co k))
theorem mulL_length (l k : List F) : (mulL l k).length = l.length + k.length - 1 := tab_length _ _
theorem co_mulL (l k : List F) (n : Nat) : co (mulL l k) n = conv (co l) (co k) n := by
  unfold mulL
  rw [co_tab]
  by_cases h : n < l.length + k.length - 1
  · rw [if_pos h]
  · rw [if_neg h, conv_zero_big l k n (by omega)]
theorem ev_mulL (l k : List F) (x : F) : ev (mulL l k) x = ev l x * ev k x := by
  rw [← ev_pmul]
  exact ev_of_co (fun n => by rw [co_mulL, co_pmul]) x
noncomputable def mulOf (l k : List F) : List F × Int :=
  if l.length = 0 ∨ k.length = 0 then ([], 0) else if l.length + k.length - 1 ≤ 65536 then (mulL l k, 0) else ([], 2)
theorem mulOf_nil {l k : List F} (h : l.length = 0 ∨ k.length = 0) : mulOf l k = ([], 0) := if_pos h
theorem mulOf_ok {l k : List F} (h1 : l.length ≠ 0) (h2 : k.length ≠ 0) (h : l.length + k.length - 1 ≤ 65536) : mulOf l k = (mulL l k, 0) := by
  unfold mulOf; rw [if_neg (by omega), if_pos h]
theorem mulOf_big {l k : List F} (h1 : l.length ≠ 0) (h2 : k.length ≠ 0) (h : 65536 < l.length + k.length - 1) : mulOf l k = ([], 2) := by
  unfold mulOf; rw [if_neg (by omega), if_neg (by omega)]
theorem padF_take {l : List F} {n N : Nat} (h : l.length = n) (hN : n ≤ N) : (padF l N).take n = l := by
  apply List.ext_getElem?
  intro i
  by_cases hi : i < n
  · rw [List.getElem?_take_of_lt hi]
    unfold padF tab
    rw [List.getElem?_map, List.getElem?_range (by omega)]
    show some (co l i) = _
    rw [co_get l i (by omega), List.getElem?_eq_getElem]
  · rw [List.getElem?_eq_none (by rw [List.length_take]; omega), List.getElem?_eq_none (by omega)]
/-- two rows of values, the first i products written -/
def mxF (X Y : List F) (i : Nat) : List F := tab X.length fun x => if x < i then co X x * co Y x else co X x
theorem mxF_len (X Y : List F) (i : Nat) : (mxF X Y i).length = X.length := tab_length _ _
theorem mxF_zero (X Y : List F) : mxF X Y 0 = X := by
  refine Eq.trans ?_ (tab_eq X)
  unfold mxF tab
  exact List.map_congr_left fun x _ => if_neg (by omega)
theorem mxF_get (X Y : List F) {i : Nat} (hi : i < X.length) : (mxF X Y i)[i]? = some (co X i) := by
  unfold mxF tab
  rw [List.getElem?_map, List.getElem?_range hi]
  simp
theorem mxF_set (X Y : List F) {i : Nat} (hi : i < X.length) : (mxF X Y i).set i (co X i * co Y i) = mxF X Y (i + 1) := by
  apply List.ext_getElem?
  intro x
  by_cases hxi : x = i
  · subst hxi
    rw [List.getElem?_set_self (by rw [mxF_len]; exact hi)]
    unfold mxF tab
    rw [List.getElem?_map, List.getElem?_range hi]
    simp
  · rw [List.getElem?_set_ne (Ne.symm hxi)]
    unfold mxF tab
    by_cases hx : x < X.length
    · rw [List.getElem?_map, List.getElem?_map, List.getElem?_range hx]
      simp only [Option.map_some]
      congr 1
      by_cases h : x < i
      · rw [if_pos h, if_pos (by omega)]
      · rw [if_neg h, if_neg (by omega)]
    · rw [List.getElem?_eq_none (by simp; omega), List.getElem?_eq_none (by simp; omega)]
theorem mxF_end (l k : List F) (u : F) (n : Nat) : mxF (valP l u n) (valP k u n) n = valP (mulL l k) u n := by
  unfold mxF
  rw [valP_length]
  unfold valP
  refine tab_congr fun i hi => ?_
  rw [if_pos hi, co_tab, co_tab, if_pos hi, if_pos hi, ev_mulL]
end Go.Proofs.YtbfblckgcefaaaaGreatDoor
