/- Plain laws: a cache's contents are decided by the history of its accesses. -/
import Derived.Test.YtgbmbehobemocaaS
namespace Go.Proofs.Ytgbmbehobemocaa
open Go.RowKit
set_option linter.unusedVariables false
set_option linter.unusedSimpArgs false

/-- The lines of a set, each once, the first first. -/
def ddf (p : Int → Bool) : List Int → List Int
  | [] => []
  | l :: r => if p l = true then l :: (ddf p r).filter (fun x => x ≠ l) else ddf p r

theorem ddf_nodup (p : Int → Bool) : ∀ r, (ddf p r).Nodup
  | [] => List.nodup_nil
  | l :: r => by
    rw [ddf]
    split
    · refine List.nodup_cons.2 ⟨fun h => ?_, (ddf_nodup p r).filter _⟩
      have := (List.mem_filter.1 h).2
      simp at this
    · exact ddf_nodup p r

theorem contL_ddf (p : Int → Bool) (W : Nat) : ∀ (r out : List Int), out.length ≤ W → contL p W r out = (out ++ (ddf p r).filter (fun x => x ∉ out)).take W
  | [], out, h => by simp [contL, ddf, List.take_of_length_le h]
  | l :: r, out, h => by
    rw [contL]
    by_cases hl : out.length < W
    · rw [if_pos hl]
      by_cases hp : p l = true
      · by_cases ho : l ∈ out
        · rw [if_neg (fun h => h.2 ho), contL_ddf p W r out h, ddf, if_pos hp, List.filter_cons, if_neg (by simp [ho]), List.filter_filter]
          congr 2
          apply List.filter_congr
          intro x _
          by_cases hx : x = l
          · subst hx; simp [ho]
          · simp [hx]
        · rw [if_pos ⟨hp, ho⟩, contL_ddf p W r (out ++ [l]) (by simp; omega), ddf, if_pos hp, List.filter_cons, if_pos (by simp [ho]), List.filter_filter, List.append_assoc]
          congr 2
          simp only [List.singleton_append]
          congr 1
          apply List.filter_congr
          intro x _
          simp only [List.mem_append, List.mem_singleton, not_or]
          by_cases hx : x = l
          · subst hx; simp
          · simp [hx]
      · rw [if_neg (fun h => hp h.1), contL_ddf p W r out h, ddf, if_neg hp]
    · rw [if_neg hl, List.take_append_of_le_length (by omega), List.take_of_length_le h]

/-- The contents of every set are what Contents finds. -/
structure Hist (s W ln : Nat) (xss : List (List Int)) (hist : List Int) : Prop where
  lx : xss.length = s
  eq : ∀ i : Nat, i < s → xss.getD i [] = contL (inSet s W ln i) W hist.reverse []

theorem Hist.empty (s W ln : Nat) : Hist s W ln (emptyF s) [] := ⟨by simp [emptyF], fun i _ => by rw [emptyF, getD_replicate_nil]; rfl⟩

theorem erase_filter (l : Int) {xs : List Int} (h : xs.Nodup) : xs.erase l = xs.filter (fun x => x ≠ l) := by
  rw [h.erase_eq_filter]
  apply List.filter_congr
  intro x _
  by_cases hx : x = l <;> simp [hx]

theorem contL_touch (p : Int → Bool) (W : Nat) (hW : 1 ≤ W) (l : Int) (r : List Int) (hp : p l = true) : contL p W (l :: r) [] = touch W l (contL p W r []) := by
  have e1 : contL p W (l :: r) [] = contL p W r [l] := by
    rw [contL, if_pos (by simp; omega), if_pos ⟨hp, by simp⟩]; rfl
  rw [e1, contL_ddf p W r [l] (by simp; omega), contL_ddf p W r [] (Nat.zero_le _)]
  have e2 : (ddf p r).filter (fun x => x ∉ ([] : List Int)) = ddf p r := by
    rw [List.filter_eq_self]; intro x _; simp
  rw [List.nil_append, e2, touch_take W (W + (ddf p r).length + 1) l _ hW (by omega)]
  unfold touch
  rw [List.take_take, Nat.min_eq_left (by omega), erase_filter l (ddf_nodup p r)]
  simp

theorem Hist.step {s W ln : Nat} {xss : List (List Int)} {hist : List Int} (h : Hist s W ln xss hist) (hv : valB s W ln = true) (hs : 1 ≤ s) (hW : 1 ≤ W) {a : Int} (ha : 0 ≤ a) :
    Hist s W ln (accF s W ln xss a) (hist ++ [a / ln]) ∧ hitB s ln xss a = decide (0 ≤ rAge s W ln W hist (a / ln)) := by
  obtain ⟨d0, d1⟩ := div_le (ln := ln) ha
  have m0 : 0 ≤ a / ln % s := Int.emod_nonneg _ (by omega)
  have m1 : a / ln % s < s := Int.emod_lt_of_pos _ (by omega)
  obtain ⟨i, hi⟩ := Int.eq_ofNat_of_zero_le m0
  have his : i < s := by omega
  have hset : setF s W ln (a / ln) = i := (setF_ok hv d0).trans hi
  simp only [accF, if_pos ha, hi, Int.toNat_natCast, hitB, decide_eq_true ha, Bool.true_and]
  refine ⟨⟨by simpa using h.lx, fun j hj => ?_⟩, ?_⟩
  · rw [getD_set _ _ _ _ _ (by rw [h.lx]; exact his), List.reverse_append, List.reverse_singleton, List.singleton_append]
    split
    · rename_i e
      subst e
      rw [contL_touch _ W hW _ _ (decide_eq_true hset), h.eq i his]
    · rename_i hne
      rw [contL, if_pos (by simp; omega), if_neg (fun hh => hne (by have := of_decide_eq_true hh.1; omega)), h.eq j hj]
  · unfold rAge
    rw [hset, ← h.eq i his]
    by_cases hm : a / ln ∈ xss.getD i []
    · obtain ⟨k, _, h2, _⟩ := (idx_mem (a / ln) (xss.getD i [])).1 hm
      rw [h2, decide_eq_true hm, decide_eq_true (by omega)]
    · rw [(idx_mem (a / ln) (xss.getD i [])).2 hm, decide_eq_false hm]
      rfl

/-- Behind an access the line is there, at age 0. -/
theorem acc_age {s W ln : Nat} {xss : List (List Int)} (hl : xss.length = s) (hs : 1 ≤ s) (hW : 1 ≤ W) {a : Int} (ha : 0 ≤ a) : ageF s (accF s W ln xss a) (a / ln) = 0 := by
  have m0 : 0 ≤ a / ln % s := Int.emod_nonneg _ (by omega)
  have m1 : a / ln % s < s := Int.emod_lt_of_pos _ (by omega)
  obtain ⟨i, hi⟩ := Int.eq_ofNat_of_zero_le m0
  have his : i < s := by omega
  unfold ageF
  simp only [accF, if_pos ha, hi, Int.toNat_natCast]
  rw [getD_set _ _ _ _ _ (by rw [hl]; exact his), if_pos rfl]
  unfold touch
  obtain ⟨n, rfl⟩ : ∃ n, W = n + 1 := ⟨W - 1, by omega⟩
  rw [List.take_succ_cons]
  simp [Lib.idxOf, Lib.idxFrom]
end Go.Proofs.Ytgbmbehobemocaa
