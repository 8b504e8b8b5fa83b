/- Plain laws: stack distance. -/
import Derived.Test.YtgbmbehobemocaaT
import Derived.Maps.OwnSet
namespace Go.Proofs.Ytgbmbehobemocaa
open Go.RowKit Go.Maps
set_option linter.unusedVariables false
set_option linter.unusedSimpArgs false

/-- The lines of the accesses. -/
def linesOf (ln : Nat) : List Int → List Int
  | [] => []
  | a :: l => if 0 ≤ a then (a / ln) :: linesOf ln l else linesOf ln l
theorem linesOf_append (ln : Nat) : ∀ (l r : List Int), linesOf ln (l ++ r) = linesOf ln l ++ linesOf ln r
  | [], r => rfl
  | a :: l, r => by
    rw [List.cons_append, linesOf, linesOf, linesOf_append ln l r]
    split <;> rfl
theorem linesOf_drop (ln : Nat) (l : List Int) (k : Nat) (hk : k < l.length) : (linesOf ln (l.drop k)).reverse = (linesOf ln (l.drop (k + 1))).reverse ++ (if 0 ≤ l.getD k 0 then [l.getD k 0 / ln] else []) := by
  have e : l.drop k = l.getD k 0 :: l.drop (k + 1) := by
    rw [List.drop_eq_getElem_cons hk, List.getD_eq_getElem?_getD, List.getElem?_eq_getElem hk]; rfl
  rw [e, linesOf]
  split <;> simp

theorem hist_run {s W ln : Nat} (hv : valB s W ln = true) (hs : 1 ≤ s) (hW : 1 ≤ W) : ∀ (l : List Int) {xss : List (List Int)} {h : List Int}, Hist s W ln xss h → Hist s W ln (runF s W ln xss l) (h ++ linesOf ln l)
  | [], _, _, hh => by simpa [runF, linesOf] using hh
  | a :: l, xss, h, hh => by
    have e : runF s W ln xss (a :: l) = runF s W ln (accF s W ln xss a) l := rfl
    rw [e, linesOf]
    by_cases ha : 0 ≤ a
    · rw [if_pos ha]
      have := hist_run hv hs hW l (hh.step hv hs hW ha).1
      simpa using this
    · rw [if_neg ha]
      have e2 : accF s W ln xss a = xss := by simp [accF, ha]
      rw [e2]
      exact hist_run hv hs hW l hh

theorem ddf_mem (p : Int → Bool) (x : Int) : ∀ r, x ∈ ddf p r ↔ p x = true ∧ x ∈ r
  | [] => by simp [ddf]
  | l :: r => by
    rw [ddf]
    by_cases hp : p l = true
    · rw [if_pos hp, List.mem_cons, List.mem_filter, ddf_mem p x r, List.mem_cons]
      by_cases hx : x = l
      · subst hx; simp [hp]
      · simp [hx]
    · rw [if_neg hp, ddf_mem p x r, List.mem_cons]
      constructor
      · rintro ⟨h1, h2⟩; exact ⟨h1, .inr h2⟩
      · rintro ⟨h1, h2⟩
        refine ⟨h1, h2.resolve_left (fun e => hp (by rw [← e]; exact h1))⟩

theorem ddf_append (p : Int → Bool) (r' : List Int) : ∀ r, ddf p (r ++ r') = ddf p r ++ (ddf p r').filter (fun x => x ∉ r)
  | [] => by
    simp only [List.nil_append, ddf]
    symm
    rw [List.filter_eq_self]
    intro x _; simp
  | l :: r => by
    rw [List.cons_append, ddf, ddf, ddf_append p r' r]
    by_cases hp : p l = true
    · rw [if_pos hp, if_pos hp, List.filter_append, List.filter_filter, List.cons_append]
      congr 2
      apply List.filter_congr
      intro x _
      by_cases hx : x = l <;> simp [hx]
    · rw [if_neg hp, if_neg hp]
      congr 1
      apply List.filter_congr
      intro x hx
      have := (ddf_mem p x r').1 hx
      have hxl : x ≠ l := fun e => hp (by rw [← e]; exact this.1)
      simp [hxl]

/-- Stack distance: the line is held exactly if fewer than W others of its set came behind it. -/
theorem reuse_law (p : Int → Bool) (W : Nat) (x : Int) (pre post : List Int) (hp : p x = true) (hx : x ∉ pre) : x ∈ contL p W (pre ++ x :: post) [] ↔ (ddf p pre).length < W := by
  rw [contL_ddf p W _ [] (Nat.zero_le _), List.nil_append]
  have e0 : (ddf p (pre ++ x :: post)).filter (fun y => y ∉ ([] : List Int)) = ddf p (pre ++ x :: post) := by
    rw [List.filter_eq_self]; intro y _; simp
  rw [e0, ddf_append, ddf, if_pos hp, List.filter_cons, if_pos (by simpa using hx)]
  have hnd : x ∉ ddf p pre := fun h => hx ((ddf_mem p x pre).1 h).2
  constructor
  · intro h
    rcases Nat.lt_or_ge (ddf p pre).length W with hl | hl
    · exact hl
    · rw [List.take_append_of_le_length hl] at h
      exact absurd (List.mem_of_mem_take h) hnd
  · intro h
    rw [List.take_append]
    apply List.mem_append_right
    obtain ⟨n, hn⟩ : ∃ n, W - (ddf p pre).length = n + 1 := ⟨W - (ddf p pre).length - 1, by omega⟩
    rw [hn, List.take_succ_cons]
    exact List.mem_cons_self

theorem reuse_none (p : Int → Bool) (W : Nat) (x : Int) (r : List Int) (hx : x ∉ r) : x ∉ contL p W r [] := by
  rw [contL_ddf p W _ [] (Nat.zero_le _), List.nil_append]
  intro h
  have := (List.mem_filter.1 (List.mem_of_mem_take h)).1
  exact hx ((ddf_mem p x r).1 this).2

/-! The set of the others, as the map keeps it. -/
def nubI (A : List Int) (x : Int) : List Int := if x ∈ A then A else A ++ [x]
theorem nub_ddf (p : Int → Bool) : ∀ (r out : List Int), (r.filter p).foldl nubI out = out ++ (ddf p r).filter (fun x => x ∉ out)
  | [], out => by simp [ddf]
  | l :: r, out => by
    by_cases hp : p l = true
    · rw [List.filter_cons, if_pos hp, List.foldl_cons, nub_ddf p r, ddf, if_pos hp, nubI]
      by_cases ho : l ∈ out
      · rw [if_pos ho, List.filter_cons, if_neg (by simp [ho]), List.filter_filter]
        congr 1
        apply List.filter_congr
        intro x _
        by_cases hx : x = l
        · subst hx; simp [ho]
        · simp [hx]
      · rw [if_neg ho, List.filter_cons, if_pos (by simp [ho]), List.filter_filter, List.append_assoc]
        congr 1
        simp only [List.singleton_append]
        congr 1
        apply List.filter_congr
        intro x _
        simp only [List.mem_append, List.mem_singleton, not_or]
        by_cases hx : x = l
        · subst hx; simp
        · simp [hx]
    · rw [List.filter_cons, if_neg hp, nub_ddf p r, ddf, if_neg hp]

def lits (l : List Int) : List Lit := l.map (Lit.int .i64)
theorem addKey_lits (A : List Int) (x : Int) : addKey (lits A) (Lit.int .i64 x) = lits (nubI A x) := by
  unfold addKey nubI
  have e : (lits A).any (fun y => y.sameKey (Lit.int .i64 x)) = decide (x ∈ A) := by
    rw [Bool.eq_iff_iff, List.any_eq_true]
    simp only [lits, List.mem_map, decide_eq_true_eq]
    constructor
    · rintro ⟨y, ⟨z, hz, rfl⟩, h⟩
      have : z = x := by simpa [Lit.sameKey] using h
      exact this ▸ hz
    · intro h
      exact ⟨_, ⟨x, h, rfl⟩, by simp [Lit.sameKey]⟩
  rw [e]
  by_cases hx : x ∈ A
  · simp [hx]
  · simp [hx, lits]
theorem foldl_lits : ∀ (l : List Int) (A : List Int), (lits l).foldl addKey (lits A) = lits (l.foldl nubI A)
  | [], _ => rfl
  | x :: l, A => by
    have e : lits (x :: l) = Lit.int .i64 x :: lits l := rfl
    rw [e, List.foldl_cons, addKey_lits, foldl_lits l, List.foldl_cons]

theorem size_others (p : Int → Bool) (r : List Int) (u : DataW Unit) : Maps.size (setOf u (lits (r.filter p))) = (ddf p r).length := by
  rw [size_setOf u _ (fun x hx => by
    obtain ⟨y, _, rfl⟩ := List.mem_map.1 hx
    trivial)]
  have := foldl_lits (r.filter p) []
  have e : lits [] = [] := rfl
  rw [e] at this
  rw [this, nub_ddf, List.nil_append]
  have e2 : (ddf p r).filter (fun x => x ∉ ([] : List Int)) = ddf p r := by
    rw [List.filter_eq_self]; intro y _; simp
  rw [e2]
  simp [lits]
end Go.Proofs.Ytgbmbehobemocaa
