/- Plain laws of least-recently-used lists: what a flush may cost. -/
import Derived.Test.YtgbmbehobemocaaL
namespace Go.Proofs.Ytgbmbehobemocaa
open Go.RowKit
set_option linter.unusedVariables false
set_option linter.unusedSimpArgs false

theorem touch_length (W : Nat) (l : Int) (xs : List Int) (hW : 1 ≤ W) (hx : xs.length ≤ W) : (touch W l xs).length = if l ∈ xs then xs.length else min W (xs.length + 1) := by
  unfold touch
  rw [List.length_take, List.length_cons]
  split
  · rename_i h
    rw [List.length_erase_of_mem h]
    have := List.length_pos_of_mem h
    omega
  · rename_i h
    rw [List.erase_of_not_mem h]

/-- A list that is ahead of another stays so. -/
theorem pre_touch (W : Nat) (l : Int) {xs ys : List Int} (hp : ys <+: xs) : touch W l ys <+: touch W l xs := by
  obtain ⟨r, rfl⟩ := hp
  unfold touch
  by_cases hy : l ∈ ys
  · rw [List.erase_append_left _ hy]
    have : (l :: (ys.erase l ++ r)) = (l :: ys.erase l) ++ r := rfl
    rw [this]
    rw [List.take_append]
    exact List.prefix_append _ _
  · rw [List.erase_append_right _ hy, List.erase_of_not_mem hy]
    have : (l :: (ys ++ r.erase l)) = (l :: ys) ++ r.erase l := rfl
    rw [this]
    rw [List.take_append]
    exact List.prefix_append _ _

/-- What a step costs is paid by the gap. -/
theorem gap_touch (W : Nat) (l : Int) {xs ys : List Int} (hW : 1 ≤ W) (hx : xs.length ≤ W) (hp : ys <+: xs) :
    (touch W l xs).length + ys.length + (if l ∈ ys then 0 else if l ∈ xs then 1 else 0) ≤ xs.length + (touch W l ys).length := by
  have hl := hp.length_le
  rw [touch_length W l xs hW hx, touch_length W l ys hW (by omega)]
  by_cases hy : l ∈ ys
  · have hxm : l ∈ xs := hp.subset hy
    rw [if_pos hy, if_pos hy, if_pos hxm]
    omega
  · rw [if_neg hy, if_neg hy]
    by_cases hxm : l ∈ xs
    · rw [if_pos hxm, if_pos hxm]
      have : ys.length < xs.length := by
        rcases Nat.lt_or_ge ys.length xs.length with h | h
        · exact h
        · exact absurd (by rw [hp.eq_of_length (by omega)]; exact hxm) hy
      omega
    · rw [if_neg hxm, if_neg hxm]
      omega

def tot (xss : List (List Int)) : Nat := (xss.map List.length).sum
theorem tot_set : ∀ (xss : List (List Int)) (i : Nat) (v : List Int), i < xss.length → tot (xss.set i v) + (xss.getD i []).length = tot xss + v.length
  | [], _, _, h => by simp at h
  | x :: xss, 0, v, _ => by simp [tot]; omega
  | x :: xss, i + 1, v, h => by
    have := tot_set xss i v (by simpa using h)
    simp [tot] at this ⊢
    omega
theorem tot_le {W : Nat} : ∀ (xss : List (List Int)), (∀ xs ∈ xss, xs.length ≤ W) → tot xss ≤ xss.length * W
  | [], _ => by simp [tot]
  | x :: xss, h => by
    have := tot_le xss (fun xs hx => h xs (List.mem_cons_of_mem _ hx))
    have h1 := h x List.mem_cons_self
    simp [tot] at this ⊢
    rw [Nat.add_mul]
    omega
theorem tot_empty (s : Nat) : tot (emptyF s) = 0 := by
  induction s with
  | zero => rfl
  | succ n ih => simp [emptyF, List.replicate_succ, tot] at ih ⊢

/-- Every set of the one is ahead of the other's. -/
structure Pre (s W : Nat) (xss yss : List (List Int)) : Prop where
  lx : xss.length = s
  ly : yss.length = s
  pre : ∀ i, i < s → yss.getD i [] <+: xss.getD i []
  len : ∀ xs ∈ xss, xs.length ≤ W

theorem Pre.refl {s W : Nat} {xss : List (List Int)} (h : xss.length = s) (hw : ∀ xs ∈ xss, xs.length ≤ W) : Pre s W xss xss := ⟨h, h, fun _ _ => List.prefix_rfl, hw⟩
theorem getD_replicate_nil (s i : Nat) : (List.replicate s ([] : List Int)).getD i [] = [] := by
  simp only [List.getD_eq_getElem?_getD, List.getElem?_replicate]
  split <;> rfl
theorem Pre.flush {s W : Nat} {xss yss : List (List Int)} (h : Pre s W xss yss) : Pre s W xss (emptyF s) := ⟨h.lx, by simp [emptyF], fun i _ => by rw [emptyF, getD_replicate_nil]; exact List.nil_prefix, h.len⟩
theorem Pre.tot {s W : Nat} {xss yss : List (List Int)} (h : Pre s W xss yss) : tot yss ≤ tot xss := by
  have key : ∀ (s : Nat) (xss yss : List (List Int)), xss.length = s → yss.length = s → (∀ i, i < s → yss.getD i [] <+: xss.getD i []) → Ytgbmbehobemocaa.tot yss ≤ Ytgbmbehobemocaa.tot xss := by
    intro s
    induction s with
    | zero =>
      intro xss yss hx hy _
      rw [List.length_eq_zero_iff.1 hy]
      simp [Ytgbmbehobemocaa.tot]
    | succ n ih =>
      intro xss yss hx hy hp
      match xss, yss, hx, hy with
      | x :: xss, y :: yss, hx, hy =>
        have h0 := (hp 0 (by omega)).length_le
        have h1 := ih xss yss (by simpa using hx) (by simpa using hy) (fun i hi => by simpa using hp (i + 1) (by omega))
        simp [Ytgbmbehobemocaa.tot] at h0 h1 ⊢
        omega
  exact key s xss yss h.lx h.ly h.pre

theorem accF_len (s W ln : Nat) (xss : List (List Int)) (a : Int) : (accF s W ln xss a).length = xss.length := by
  unfold accF; split <;> simp

/-- One access. -/
theorem Pre.step {s W ln : Nat} {xss yss : List (List Int)} (h : Pre s W xss yss) (hs : 1 ≤ s) (hW : 1 ≤ W) (a : Int) :
    Pre s W (accF s W ln xss a) (accF s W ln yss a) ∧ (hitB s ln yss a = true → hitB s ln xss a = true) ∧
    Ytgbmbehobemocaa.tot (accF s W ln xss a) + Ytgbmbehobemocaa.tot yss + (if 0 ≤ a ∧ hitB s ln yss a = false then 1 else 0) ≤ Ytgbmbehobemocaa.tot xss + Ytgbmbehobemocaa.tot (accF s W ln yss a) + (if 0 ≤ a ∧ hitB s ln xss a = false then 1 else 0) := by
  by_cases ha : 0 ≤ a
  · have m0 : 0 ≤ a / ln % s := Int.emod_nonneg _ (by omega)
    have m1 : a / ln % s < s := Int.emod_lt_of_pos _ (by omega)
    obtain ⟨i, hi⟩ := Int.eq_ofNat_of_zero_le m0
    have his : i < s := by omega
    have hp := h.pre i his
    have hxl : (xss.getD i []).length ≤ W := by
      have : i < xss.length := by rw [h.lx]; exact his
      rw [List.getD_eq_getElem?_getD, List.getElem?_eq_getElem this]
      exact h.len _ (List.getElem_mem this)
    have hg := gap_touch W (a / ln) hW hxl hp
    have e1 := tot_set xss i (touch W (a / ln) (xss.getD i [])) (by rw [h.lx]; exact his)
    have e2 := tot_set yss i (touch W (a / ln) (yss.getD i [])) (by rw [h.ly]; exact his)
    simp only [accF, if_pos ha, hi, Int.toNat_natCast, hitB, decide_eq_true ha, Bool.true_and, decide_eq_true_eq, decide_eq_false_iff_not]
    refine ⟨⟨by simpa using h.lx, by simpa using h.ly, fun j hj => ?_, fun xs hx => ?_⟩, fun hm => hp.subset hm, ?_⟩
    · rw [getD_set _ _ _ _ _ (by rw [h.ly]; exact his), getD_set _ _ _ _ _ (by rw [h.lx]; exact his)]
      split
      · exact pre_touch W _ hp
      · exact h.pre j hj
    · rcases List.mem_or_eq_of_mem_set hx with h1 | rfl
      · exact h.len xs h1
      · exact touch_len _ _ _
    · by_cases hy : a / ln ∈ yss.getD i []
      · have hx := hp.subset hy
        rw [if_pos hy] at hg
        rw [if_neg (fun h => h.2 hy), if_neg (fun h => h.2 hx)]
        omega
      · rw [if_neg hy] at hg
        rw [if_pos ⟨ha, hy⟩]
        by_cases hx : a / ln ∈ xss.getD i []
        · rw [if_pos hx] at hg
          rw [if_neg (fun h => h.2 hx)]
          omega
        · rw [if_neg hx] at hg
          rw [if_pos ⟨ha, hx⟩]
          omega
  · simp only [accF, if_neg ha, hitB, decide_eq_false ha, Bool.false_and]
    exact ⟨h, fun h => h, by simp⟩

theorem Pre.run {s W ln : Nat} (hs : 1 ≤ s) (hW : 1 ≤ W) : ∀ (l : List Int) {xss yss : List (List Int)}, Pre s W xss yss →
    Pre s W (runF s W ln xss l) (runF s W ln yss l) ∧ missN s W ln xss l ≤ missN s W ln yss l ∧
      Ytgbmbehobemocaa.tot (runF s W ln xss l) + Ytgbmbehobemocaa.tot yss + missN s W ln yss l ≤ Ytgbmbehobemocaa.tot xss + Ytgbmbehobemocaa.tot (runF s W ln yss l) + missN s W ln xss l
  | [], xss, yss, h => ⟨h, Nat.le_refl _, by simp [runF, missN]⟩
  | a :: l, xss, yss, h => by
    obtain ⟨h1, h2, h3⟩ := h.step (ln := ln) hs hW a
    obtain ⟨i1, i2, i3⟩ := Pre.run hs hW l h1
    refine ⟨i1, ?_, ?_⟩
    · simp only [missN]
      have : (if 0 ≤ a ∧ hitB s ln xss a = false then 1 else 0) ≤ (if 0 ≤ a ∧ hitB s ln yss a = false then 1 else 0) := by
        by_cases ha : 0 ≤ a
        · cases hx : hitB s ln xss a with
          | true => simp
          | false =>
            have : hitB s ln yss a = false := by
              cases hy : hitB s ln yss a with
              | true => rw [h2 hy] at hx; cases hx
              | false => rfl
            simp [this]
        · simp [ha]
      omega
    · simp only [missN]
      have e1 : runF s W ln xss (a :: l) = runF s W ln (accF s W ln xss a) l := rfl
      have e2 : runF s W ln yss (a :: l) = runF s W ln (accF s W ln yss a) l := rfl
      rw [e1, e2]
      omega

theorem run_len (s W ln : Nat) : ∀ (l : List Int) (xss : List (List Int)), (∀ xs ∈ xss, xs.length ≤ W) → ∀ xs ∈ runF s W ln xss l, xs.length ≤ W
  | [], _, h => h
  | a :: l, xss, h => run_len s W ln l (accF s W ln xss a) (acc_len h a)
theorem runF_len (s W ln : Nat) : ∀ (l : List Int) (xss : List (List Int)), (runF s W ln xss l).length = xss.length
  | [], _ => rfl
  | a :: l, xss => (runF_len s W ln l (accF s W ln xss a)).trans (accF_len _ _ _ _ _)
theorem empty_len (s W : Nat) : ∀ xs ∈ emptyF s, xs.length ≤ W := by
  intro xs hx
  rw [(List.mem_replicate.1 hx).2]
  exact Nat.zero_le _

/-- THE FLUSH LEMMA. -/
theorem flush_law (s W ln : Nat) (hs : 1 ≤ s) (hW : 1 ≤ W) (before after : List Int) :
    missN s W ln (runF s W ln (emptyF s) before) after ≤ missN s W ln (emptyF s) after ∧
      missN s W ln (emptyF s) after ≤ missN s W ln (runF s W ln (emptyF s) before) after + s * W := by
  have hl := run_len s W ln before (emptyF s) (empty_len s W)
  have hn : (runF s W ln (emptyF s) before).length = s := (runF_len _ _ _ _ _).trans (by simp [emptyF])
  have hp : Pre s W (runF s W ln (emptyF s) before) (emptyF s) := (Pre.refl hn hl).flush
  obtain ⟨h1, h2, h3⟩ := Pre.run (ln := ln) hs hW after hp
  have h4 := h1.tot
  have h5 := tot_le _ hl
  rw [hn] at h5
  rw [tot_empty] at h3
  exact ⟨h2, by omega⟩
end Go.Proofs.Ytgbmbehobemocaa
