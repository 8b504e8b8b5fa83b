/- Plain laws of least-recently-used lists: inclusion, ages. -/
import Derived.Test.YtgbmbehobemocaaP
namespace Go.Proofs.Ytgbmbehobemocaa
open Go.RowKit
set_option linter.unusedVariables false
set_option linter.unusedSimpArgs false

theorem take_erase (l : Int) : ∀ (ys : List Int) (n : Nat), ((ys.take (n + 1)).erase l).take n = (ys.erase l).take n
  | [], _ => by simp
  | y :: t, n => by
    rw [List.take_succ_cons]
    by_cases h : y = l
    · subst h
      rw [List.erase_cons_head, List.erase_cons_head, List.take_take, Nat.min_self]
    · rw [List.erase_cons_tail (by simpa using h), List.erase_cons_tail (by simpa using h)]
      cases n with
      | zero => rfl
      | succ m => rw [List.take_succ_cons, List.take_succ_cons, take_erase l t m]

theorem touch_take (W W' : Nat) (l : Int) (ys : List Int) (hW : 1 ≤ W) (hW' : W ≤ W') : touch W l (ys.take W) = (touch W' l ys).take W := by
  obtain ⟨n, rfl⟩ : ∃ n, W = n + 1 := ⟨W - 1, by omega⟩
  unfold touch
  rw [List.take_take, Nat.min_eq_left hW', List.take_succ_cons, List.take_succ_cons, take_erase]

/-- The smaller cache holds the head of each set of the larger one. -/
structure Inc (s W : Nat) (xss yss : List (List Int)) : Prop where
  lx : xss.length = s
  ly : yss.length = s
  inc : ∀ i, i < s → xss.getD i [] = (yss.getD i []).take W

theorem mem_getD {xss : List (List Int)} {xs : List Int} (h : xs ∈ xss) : ∃ i, i < xss.length ∧ xss.getD i [] = xs := by
  obtain ⟨i, hi, rfl⟩ := List.getElem_of_mem h
  exact ⟨i, hi, by rw [List.getD_eq_getElem?_getD, List.getElem?_eq_getElem hi]; rfl⟩
theorem getD_mem {xss : List (List Int)} {i : Nat} (h : i < xss.length) : xss.getD i [] ∈ xss := by
  rw [List.getD_eq_getElem?_getD, List.getElem?_eq_getElem h]
  exact List.getElem_mem h

theorem getD_memI (xs : List Int) {j : Nat} (hj : j < xs.length) : xs.getD j 0 ∈ xs := by
  rw [List.getD_eq_getElem?_getD, List.getElem?_eq_getElem hj]
  exact List.getElem_mem hj
theorem take_getD (ys : List Int) (W : Nat) {j : Nat} (hj : j < (ys.take W).length) : (ys.take W).getD j 0 = ys.getD j 0 := by
  rw [List.length_take] at hj
  rw [List.getD_eq_getElem?_getD, List.getD_eq_getElem?_getD, List.getElem?_take, if_pos (by omega)]

theorem Inc.empty (s W : Nat) : Inc s W (emptyF s) (emptyF s) := ⟨by simp [emptyF], by simp [emptyF], fun i _ => by rw [emptyF, getD_replicate_nil]; simp⟩
theorem Inc.step {s W W' ln : Nat} {xss yss : List (List Int)} (h : Inc s W xss yss) (hs : 1 ≤ s) (hW : 1 ≤ W) (hW' : W ≤ W') (a : Int) :
    Inc s W (accF s W ln xss a) (accF s W' ln yss a) ∧ (hitB s ln xss a = true → hitB s ln yss a = true) := by
  by_cases ha : 0 ≤ a
  · have m0 : 0 ≤ a / ln % s := Int.emod_nonneg _ (by omega)
    have m1 : a / ln % s < s := Int.emod_lt_of_pos _ (by omega)
    obtain ⟨i, hi⟩ := Int.eq_ofNat_of_zero_le m0
    have his : i < s := by omega
    have hp := h.inc i his
    simp only [accF, if_pos ha, hi, Int.toNat_natCast, hitB, decide_eq_true ha, Bool.true_and, decide_eq_true_eq]
    refine ⟨⟨by simpa using h.lx, by simpa using h.ly, fun j hj => ?_⟩, fun hm => ?_⟩
    · rw [getD_set _ _ _ _ _ (by rw [h.lx]; exact his), getD_set _ _ _ _ _ (by rw [h.ly]; exact his)]
      split
      · rw [hp]; exact touch_take W W' _ _ hW hW'
      · exact h.inc j hj
    · rw [hp] at hm; exact List.mem_of_mem_take hm
  · simp only [accF, if_neg ha, hitB, decide_eq_false ha, Bool.false_and]
    exact ⟨h, fun h => h⟩

/-- Every line is in its set, once, and no greater than M. -/
structure Inv (s : Nat) (M : Int) (xss : List (List Int)) : Prop where
  lx : xss.length = s
  nodup : ∀ i, i < s → (xss.getD i []).Nodup
  at_ : ∀ i, i < s → ∀ x ∈ xss.getD i [], 0 ≤ x ∧ x % s = i ∧ x ≤ M

theorem Inv.empty (s : Nat) (M : Int) : Inv s M (emptyF s) := ⟨by simp [emptyF], fun i _ => by rw [emptyF, getD_replicate_nil]; exact List.nodup_nil, fun i _ x hx => by rw [emptyF, getD_replicate_nil] at hx; simp at hx⟩
theorem Inv.step {s W ln : Nat} {M : Int} {xss : List (List Int)} (h : Inv s M xss) (hs : 1 ≤ s) (a : Int) (ha2 : a ≤ M) : Inv s M (accF s W ln xss a) := by
  by_cases ha : 0 ≤ a
  · have m0 : 0 ≤ a / ln % s := Int.emod_nonneg _ (by omega)
    have m1 : a / ln % s < s := Int.emod_lt_of_pos _ (by omega)
    obtain ⟨d0, d1⟩ := div_le (ln := ln) ha
    obtain ⟨i, hi⟩ := Int.eq_ofNat_of_zero_le m0
    have his : i < s := by omega
    simp only [accF, if_pos ha, hi, Int.toNat_natCast]
    refine ⟨by simpa using h.lx, fun j hj => ?_, fun j hj x hx => ?_⟩
    · rw [getD_set _ _ _ _ _ (by rw [h.lx]; exact his)]
      split
      · refine List.Nodup.sublist (List.take_sublist _ _) ?_
        exact List.nodup_cons.2 ⟨fun hm => (List.Nodup.not_mem_erase (h.nodup i his)) hm, (h.nodup i his).erase _⟩
      · exact h.nodup j hj
    · rw [getD_set _ _ _ _ _ (by rw [h.lx]; exact his)] at hx
      split at hx
      · rename_i e
        subst e
        rcases List.mem_cons.1 (List.mem_of_mem_take hx) with rfl | hm
        · exact ⟨d0, hi, by omega⟩
        · exact h.at_ i his x (List.mem_of_mem_erase hm)
      · exact h.at_ j hj x hx
  · simp only [accF, if_neg ha]; exact h

theorem idx_at {xs : List Int} (hn : xs.Nodup) {j : Nat} (hj : j < xs.length) : Lib.idxOf xs (xs.getD j 0) = j := by
  have := Lib.idxFrom_hit (xs.getD j 0) xs j 0 hj rfl (fun i hi e => by
    have h1 : xs[i]? = xs[j]? := by
      rw [List.getD_eq_getElem?_getD, List.getD_eq_getElem?_getD, List.getElem?_eq_getElem (by omega), List.getElem?_eq_getElem hj] at e
      rw [List.getElem?_eq_getElem (by omega), List.getElem?_eq_getElem hj]
      simpa using e
    have := (List.getElem?_inj (i := i) (j := j) (by omega) hn).1 h1
    omega)
  unfold Lib.idxOf
  rw [this, Nat.zero_add]

theorem Inv.age {s : Nat} {M : Int} {xss : List (List Int)} (h : Inv s M xss) {i j : Nat} (hi : i < s) (hj : j < (xss.getD i []).length) :
    ageF s xss ((xss.getD i []).getD j 0) = j := by
  have hm : (xss.getD i []).getD j 0 ∈ xss.getD i [] := getD_memI _ hj
  obtain ⟨_, h2, _⟩ := h.at_ i hi _ hm
  unfold ageF
  rw [h2, Int.toNat_natCast]
  exact idx_at (h.nodup i hi) hj

theorem Inc.age {s W : Nat} {M : Int} {xss yss : List (List Int)} (h : Inc s W xss yss) (hv : Inv s M yss) {i j : Nat} (hi : i < s) (hj : j < (xss.getD i []).length) :
    ageF s yss ((xss.getD i []).getD j 0) = j ∧ 0 ≤ (xss.getD i []).getD j 0 ∧ (xss.getD i []).getD j 0 ≤ M := by
  have he := h.inc i hi
  have hl : j < (yss.getD i []).length := by rw [he, List.length_take] at hj; omega
  have hg : (xss.getD i []).getD j 0 = (yss.getD i []).getD j 0 := by
    rw [he] at hj ⊢
    exact take_getD _ W hj
  have hm : (yss.getD i []).getD j 0 ∈ yss.getD i [] := getD_memI _ hl
  obtain ⟨h1, _, h3⟩ := hv.at_ i hi _ hm
  rw [hg]
  exact ⟨hv.age hi hl, h1, h3⟩

/-- Two caches that share no block. -/
def Two (m1 : Nat) (w : World) (b s W ln : Nat) (xss : List (List Int)) (b' s' W' ln' : Nat) (yss : List (List Int)) : Prop :=
  ∃ F G : Nat → Prop, Ca w F b s W ln xss ∧ Ca w G b' s' W' ln' yss ∧ (∀ k, F k → ¬ G k) ∧ (∀ k, F k → m1 ≤ k) ∧ (∀ k, G k → m1 ≤ k)

section
variable {m1 : Nat} {w : World} {b s W ln b' s' W' ln' : Nat} {xss yss : List (List Int)}
theorem Two.swap (h : Two m1 w b s W ln xss b' s' W' ln' yss) : Two m1 w b' s' W' ln' yss b s W ln xss := by
  obtain ⟨F, G, h1, h2, h3, h4, h5⟩ := h
  exact ⟨G, F, h2, h1, fun k hk hf => h3 k hf hk, h5, h4⟩
theorem Two.below {w' : World} (h : Two m1 w b s W ln xss b' s' W' ln' yss) (hb : Below w.heap.size w w') : Two m1 w' b s W ln xss b' s' W' ln' yss := by
  obtain ⟨F, G, h1, h2, h3, h4, h5⟩ := h
  exact ⟨F, G, h1.below hb, h2.below hb, h3, h4, h5⟩
theorem Two.access (h : Two m1 w b s W ln xss b' s' W' ln' yss) (hm : m1 ≤ w.heap.size) (hv : valB s W ln = true) (a : Int) (ha2 : a ≤ 9223372036854775807) :
    Calls Try.prog 23 #[.pointer (some ⟨b, 0, none⟩), .int .i64 a] w fun e w2 => e = .returned (.bool (hitB s ln xss a)) ∧ Two m1 w2 b s W ln (accF s W ln xss a) b' s' W' ln' yss ∧ Below m1 w w2 := by
  obtain ⟨F, G, h1, h2, h3, h4, h5⟩ := h
  refine (access_ca F w b s W ln xss h1 hv a ha2).mono ?_
  rintro e w2 ⟨rfl, hc, hf⟩
  refine ⟨rfl, ⟨_, _, hc, h2.keep hf (fun k hk hF => h3 k hF hk), fun k hk hG => ?_, fun k hk => ?_, fun k hk => h5 k hk.1⟩, hf.below hm h4⟩
  · rcases hk with hk | hk
    · exact h3 k hk hG.1
    · omega
  · rcases hk with hk | hk
    · exact h4 k hk
    · omega
theorem Two.left (h : Two m1 w b s W ln xss b' s' W' ln' yss) : ∃ F, Ca w F b s W ln xss := by
  obtain ⟨F, G, h1, h2, h3, h4, h5⟩ := h
  exact ⟨F, h1⟩
theorem Two.right (h : Two m1 w b s W ln xss b' s' W' ln' yss) : ∃ F, Ca w F b' s' W' ln' yss := h.swap.left
end
theorem age_ca (F : Nat → Prop) (w : World) (b s wy ln : Nat) (xss : List (List Int)) (h : Ca w F b s wy ln xss) (hv : valB s wy ln = true) (l : Int) (hl : 0 ≤ l) (hl2 : l ≤ 9223372036854775807) :
    Calls Try.prog 25 #[.pointer (some ⟨b, 0, none⟩), .int .i64 l] w (AgePost w (ageF s xss l)) := by
  obtain ⟨g, vs, h, hw⟩ := h
  exact age_ok F w b g s wy ln vs xss h hv l hl hl2
theorem probe_ca (F : Nat → Prop) (w : World) (b s wy ln : Nat) (xss : List (List Int)) (h : Ca w F b s wy ln xss) (hv : valB s wy ln = true) (a : Int) (ha : 0 ≤ a) (ha2 : a ≤ 9223372036854775807) :
    Calls Try.prog 26 #[.pointer (some ⟨b, 0, none⟩), .int .i64 a] w (BoolPost w (hitF s ln xss a)) := by
  obtain ⟨g, vs, h, hw⟩ := h
  exact probe_ok F w b g s wy ln vs xss h hv a ha ha2
end Go.Proofs.Ytgbmbehobemocaa
