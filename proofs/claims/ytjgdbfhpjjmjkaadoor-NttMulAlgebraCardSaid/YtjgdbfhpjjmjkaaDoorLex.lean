/- The lexical order's Bool of a region ('Region.lexB'), by a check that the kernel reckons quickly: each operation's edges lead back, and each later one waits for it or is apart from it. -/
import Derived.Test.YtjgdbfhpjjmjkaaDoorFrm
namespace Go

/-- what the check sees of an operation: its slot, the slots that it looks at, the operations that it waits for -/
structure Lx where
  dst : Option Nat
  looks : List Nat
  deps : List Nat
def Lx.of (ops : Array Oper) (o : Oper) : Lx := ⟨o.dst, o.looksAt ops, (o.after.toList.filter (Region.binds .any ·)).map (·.on)⟩
def Lx.apart (x y : Lx) : Bool :=
  (match x.dst with
   | some d => !y.looks.contains d && y.dst != some d
   | none => true) &&
  (match y.dst with
   | some d => !x.looks.contains d
   | none => true)
def Lx.chk : Nat → List Lx → Bool
  | _, [] => true
  | k, s :: rest => s.deps.all (fun d => Nat.blt d k) && rest.all (fun t => t.deps.contains k || s.apart t) && Lx.chk (k + 1) rest

theorem Lx.apart_of (ops : Array Oper) (x y : Oper) : (Lx.of ops x).apart (Lx.of ops y) = x.apart ops y := rfl

theorem getD_lt {listed : Array Bool} {k j : Nat} (hl : ∀ j, j < listed.size → listed[j]? = some (decide (j < k))) (d : Bool) (hj : j < listed.size) : listed.getD j d = decide (j < k) := by
  rw [Array.getD_eq_getD_getElem?, hl j hj]; rfl

theorem lexFrom_of_chk (ops : Array Oper) : ∀ (fuel k : Nat) (listed : Array Bool), k + fuel = ops.size → listed.size = ops.size → (∀ j, j < listed.size → listed[j]? = some (decide (j < k))) →
    Lx.chk k ((ops.toList.drop k).map (Lx.of ops)) = true → Region.lexFrom .any ops fuel k listed = true
  | 0, k, listed, hk, hs, hl, _ => by
    unfold Region.lexFrom Region.ready
    rw [List.isEmpty_iff, List.filter_eq_nil_iff]
    intro i hi
    have hi' := List.mem_range.1 hi
    rw [getD_lt hl true (by omega)]
    simp; omega
  | fuel + 1, k, listed, hk, hs, hl, hc => by
    have hkl : k < ops.size := by omega
    have hdrop : ops.toList.drop k = ops[k] :: ops.toList.drop (k + 1) := by
      rw [List.drop_eq_getElem_cons (by simpa using hkl)]; simp
    rw [hdrop, List.map_cons] at hc
    simp only [Lx.chk, Bool.and_eq_true, List.all_eq_true] at hc
    obtain ⟨⟨hd, hf⟩, hr⟩ := hc
    have hko : ops[k]? = some ops[k] := by simp [hkl]
    unfold Region.lexFrom
    simp only [Bool.and_eq_true]
    refine ⟨⟨?_, ?_⟩, ?_⟩
    · rw [List.contains_iff_mem]
      unfold Region.ready
      rw [List.mem_filter]
      refine ⟨List.mem_range.2 hkl, ?_⟩
      rw [getD_lt hl true (by omega), hko]
      simp only [Nat.lt_irrefl, decide_false, Bool.not_false, Option.map_some, Option.getD_some, Bool.true_and]
      rw [Array.all_eq_true_iff_forall_mem]
      intro e he
      by_cases hb : Region.binds .any e = true
      · have h1 : e.on ∈ (Lx.of ops ops[k]).deps := List.mem_map.2 ⟨e, List.mem_filter.2 ⟨by simpa using he, hb⟩, rfl⟩
        have h2 : e.on < k := by simpa [Nat.blt_eq] using hd _ h1
        rw [getD_lt hl false (by omega), decide_eq_true h2]; simp
      · simp [hb]
    · unfold Region.free
      simp only [hko, List.all_eq_true, List.mem_range]
      intro j hj
      by_cases hjk : j = k
      · simp [hjk]
      · by_cases hlt : j < k
        · rw [getD_lt hl true (by omega), decide_eq_true hlt]; simp
        · have hjo : ops[j]? = some ops[j] := by simp [hj]
          simp only [hjo]
          have hm : Lx.of ops ops[j] ∈ (ops.toList.drop (k + 1)).map (Lx.of ops) := by
            refine List.mem_map.2 ⟨ops[j], ?_, rfl⟩
            rw [List.mem_iff_getElem]
            refine ⟨j - (k + 1), by simp; omega, ?_⟩
            rw [List.getElem_drop]
            simp only [Array.getElem_toList]
            congr 1; omega
          have h1 := hf _ hm
          rw [Bool.or_eq_true] at h1
          rcases h1 with h1 | h1
          · rw [List.contains_iff_mem] at h1
            obtain ⟨e, he, heq⟩ := List.mem_map.1 h1
            obtain ⟨he1, he2⟩ := List.mem_filter.1 he
            have h3 : (ops[j].after.any fun e => Region.binds .any e && e.on == k) = true := by
              rw [Array.any_eq_true']
              exact ⟨e, by simpa using he1, by simp only [he2, Bool.true_and, beq_iff_eq]; exact heq⟩
            rw [h3]; simp
          · rw [Lx.apart_of] at h1
            rw [h1]; simp
    · refine lexFrom_of_chk ops fuel (k + 1) _ (by omega) (by simpa using hs) ?_ hr
      intro j hj
      simp only [Array.size_setIfInBounds] at hj
      by_cases hjk : j = k
      · subst hjk
        rw [Array.getElem?_setIfInBounds_self_of_lt hj]
        simp
      · rw [Array.getElem?_setIfInBounds_ne (Ne.symm hjk), hl j hj]
        congr 1
        simp only [decide_eq_decide]; omega

theorem lex_of_chk {l : List Oper} (hs : Region.noSelect l.toArray = true) (h : Lx.chk 0 (l.map (Lx.of l.toArray)) = true) : Region.lexB .any l.toArray = true := by
  unfold Region.lexB
  rw [hs, Bool.true_and]
  refine lexFrom_of_chk l.toArray l.toArray.size 0 _ (by simp) (by simp) ?_ (by simpa using h)
  intro j hj
  simp at hj
  simp [hj]
end Go
