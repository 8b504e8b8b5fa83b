/- What Probe, Lines and Clone return and make. -/
import Derived.Test.YtgbmbehobemocaaD
import Derived.Deep.LoopGhost
namespace Go.Proofs.Ytgbmbehobemocaa
open Go.RowKit
set_option linter.unusedVariables false
set_option linter.unusedSimpArgs false

def BoolPost (w : World) (r : Bool) (e : Ending) (w' : World) : Prop := e = .returned (.bool r) ∧ Below w.heap.size w w'

theorem probe_nil (a : Int) (w : World) : Calls Try.prog 26 #[.pointer none, .int .i64 a] w fun e w' => e = .returned (.bool false) ∧ w = w' := by
  go_enter Try.func26, Try.ntmps26
  go_wp2
  go_ret
  exact ⟨rfl, rfl⟩
theorem probe_neg (b : Nat) (a : Int) (ha : a < 0) (w : World) : Calls Try.prog 26 #[.pointer (some ⟨b, 0, none⟩), .int .i64 a] w fun e w' => e = .returned (.bool false) ∧ w = w' := by
  go_enter Try.func26, Try.ntmps26
  go_wp2
  go_ret
  exact ⟨rfl, rfl⟩

/-- Would an access of the address be a hit? -/
def hitF (s ln : Nat) (xss : List (List Int)) (a : Int) : Bool := decide (0 ≤ ageF s xss (a / ln))

theorem div_le {a : Int} {ln : Nat} (ha : 0 ≤ a) : 0 ≤ a / ln ∧ a / ln ≤ a := by
  refine ⟨Int.ediv_nonneg ha (by omega), ?_⟩
  exact Int.ediv_le_self _ ha

theorem probe_ok (F : Nat → Prop) (w : World) (b g s wy ln : Nat) (vs : List Value) (xss : List (List Int)) (h : CacheAt w F b g s wy ln vs xss) (hv : valB s wy ln = true) (a : Int) (ha : 0 ≤ a) (ha2 : a ≤ 9223372036854775807) :
    Calls Try.prog 26 #[.pointer (some ⟨b, 0, none⟩), .int .i64 a] w (BoolPost w (hitF s ln xss a)) := by
  have hb := h.blk
  obtain ⟨d0, d1⟩ := div_le (ln := ln) ha
  have C1 := fun w => line_any s wy ln a ha2 w
  rw [lineF_ok hv ha] at C1
  obtain ⟨l, hl⟩ : ∃ l, l = a / ln := ⟨_, rfl⟩
  rw [← hl] at C1 d0 d1
  obtain ⟨q, hq⟩ : ∃ q, q = ageF s xss l := ⟨_, rfl⟩
  obtain ⟨r, hr⟩ : ∃ r, r = hitF s ln xss a := ⟨_, rfl⟩
  rw [← hr]
  unfold hitF at hr
  rw [← hl, ← hq] at hr
  have C2 := fun w h => age_ok F w b g s wy ln vs xss h hv l d0 (by omega)
  rw [← hq] at C2
  have hc0 : w.cell? ⟨b, 0, none⟩ = some (.int .i64 s) := by simp [World.cell?, hb]
  have hc1 : w.cell? ⟨b, 1, none⟩ = some (.int .i64 wy) := by simp [World.cell?, hb]
  have hc2 : w.cell? ⟨b, 2, none⟩ = some (.int .i64 ln) := by simp [World.cell?, hb]
  have H := Lib.hid h
  have HR := Lib.hid hr
  clear h hr hl hq hb
  go_enter Try.func26, Try.ntmps26
  go_wp2_with (first | (go_at_call 15; ((with_reducible refine (C1 _).mono ?_); rintro e w1 ⟨rfl, hb1⟩; have H1 := Lib.hid (H.out.below hb1))) | (go_at_call 25; ((with_reducible refine (C2 _ H1.out).mono ?_); rintro e w2 ⟨rfl, hb2⟩)))
  go_ret
  exact ⟨ret_bool (by rw [HR.out]), hb1.trans (hb2.mono hb1.size)⟩

theorem row_of_owns {w : World} {base : Nat} {v : Value} {xs : List Int} (h : w.ownsRow base 3 1 v xs.length (ints xs)) : Row w v xs ∧ ∀ k, v.ownBlock = some k → base ≤ k := by
  obtain ⟨_, ⟨rfl, h0⟩ | ⟨g, cap, cur, rfl, hg, hh, hc, hm, hs, ht⟩⟩ := h
  · exact ⟨.inl ⟨rfl, List.length_eq_zero_iff.1 h0⟩, fun k hk => by cases hk⟩
  · refine ⟨.inr ⟨g, cap, cur, rfl, hh, hc, by simpa [maxLen] using hm, by omega, fun j hj => ?_⟩, fun k hk => ?_⟩
    · have : (cur.toList.take (xs.length * 1))[j]? = (ints xs)[j]? := by rw [ht]
      rw [List.getElem?_take, if_pos (by omega)] at this
      rw [← Array.getElem?_toList, this, ints, List.getElem?_map, List.getElem?_eq_getElem hj]
      simp [List.getD_eq_getElem?_getD, List.getElem?_eq_getElem hj]
    · have : g = k := by simpa [Value.ownBlock] using hk
      omega

/-- A copy of a row in a block of its own. -/
def ClonePost (w : World) (xs : List Int) (e : Ending) (w' : World) : Prop :=
  ∃ v', e = .returned v' ∧ Row w' v' xs ∧ (xs = [] → v' = .slice none 0 0) ∧ (∀ k, v'.ownBlock = some k → w.heap.size ≤ k) ∧ Below w.heap.size w w'

theorem sclone_any (w : World) (v : Value) (xs : List Int) (h : Row w v xs) (h0 : xs = [] → v = .slice none 0 0) (hl : xs.length ≤ 1000000) :
    Calls Try.prog 36 #[v] w (ClonePost w xs) := by
  rcases h with ⟨rfl, rfl⟩ | ⟨g, cap, cur, rfl, hg, hlc, hc, hs, hcur⟩
  · refine (Try.slices_Clone_int_nil 0 0 w).mono ?_
    rintro e w' ⟨rfl, rfl⟩
    exact ⟨_, rfl, .inl ⟨rfl, rfl⟩, fun _ => rfl, fun k hk => (by cases hk), Below.refl _ _⟩
  · have := Try.slices_Clone_int g 0 xs.length cap xs w (Nat.le_refl _) (by omega) (fun j hj => by
      rw [Nat.zero_add]
      simp only [World.cell?, hg]
      simpa using hcur j hj)
    refine this.mono ?_
    rintro e w' ⟨v', rfl, ho, hne, hB⟩
    rw [List.take_length] at ho
    obtain ⟨r1, r2⟩ := row_of_owns ho
    exact ⟨_, rfl, r1, (fun e => by have h5 := h0 e; cases h5), r2, hB⟩

theorem lines_nil (w : World) : Calls Try.prog 24 #[.pointer none] w fun e w' => e = .returned (.slice none 0 0) ∧ w = w' := by
  go_enter Try.func24, Try.ntmps24
  go_wp2
  go_ret
  exact ⟨rfl, rfl⟩

def LinesPost (w : World) (s : Nat) (xss : List (List Int)) (e : Ending) (w' : World) : Prop :=
  Below w.heap.size w w' ∧ ∃ g vs, e = .returned (.slice (some ⟨g, 0, none⟩) s s) ∧ MatAt w' (fun k => w.heap.size ≤ k) g s vs xss

def partX (xss : List (List Int)) (k s : Nat) : List (List Int) := (List.range s).map fun j => if j < k then xss.getD j [] else []
theorem partX_get (xss : List (List Int)) (k s j : Nat) : (partX xss k s)[j]? = if j < s then some (if j < k then xss.getD j [] else []) else none := by
  simp only [partX, List.getElem?_map]
  by_cases h : j < s
  · rw [List.getElem?_range h, if_pos h]; rfl
  · rw [if_neg h, List.getElem?_eq_none (by simpa using h)]; rfl
theorem partX_len (xss : List (List Int)) (k s : Nat) : (partX xss k s).length = s := by simp [partX]
theorem partX_zero (xss : List (List Int)) (s : Nat) : partX xss 0 s = List.replicate s [] := by
  apply List.ext_getElem?
  intro j
  rw [partX_get, List.getElem?_replicate]
  simp
theorem partX_all {xss : List (List Int)} {s : Nat} (h : xss.length = s) : partX xss s s = xss := by
  apply List.ext_getElem?
  intro j
  rw [partX_get]
  by_cases hj : j < s
  · rw [if_pos hj, if_pos hj, List.getD_eq_getElem?_getD, List.getElem?_eq_getElem (by omega)]; rfl
  · rw [if_neg hj, List.getElem?_eq_none (by omega)]
theorem partX_step {xss : List (List Int)} {k s : Nat} (hk : k < s) : (partX xss k s).set k (xss.getD k []) = partX xss (k + 1) s := by
  apply List.ext_getElem?
  intro j
  rw [List.getElem?_set, partX_get, partX_get, partX_len]
  by_cases hj : k = j
  · subst hj
    simp [hk]
  · rw [if_neg hj]
    by_cases hl : j < k
    · simp [hl, show j < k + 1 by omega]
    · simp [hl, show ¬ j < k + 1 by omega]

theorem lines_ok (F : Nat → Prop) (w : World) (b g s wy ln : Nat) (vs : List Value) (xss : List (List Int)) (h : CacheAt w F b g s wy ln vs xss) (h1 : 1 ≤ s) (h2 : s ≤ 64) (h3 : ∀ xs ∈ xss, xs.length ≤ 1000000) :
    Calls Try.prog 24 #[.pointer (some ⟨b, 0, none⟩)] w (LinesPost w s xss) := by
  have hb := h.blk
  have hc3 : w.cell? ⟨b, 3, none⟩ = some (.slice (some ⟨g, 0, none⟩) s s) := by simp [World.cell?, hb]
  have hmk := fun w => make_sets s (by omega) w
  have H := Lib.hid h
  have H3 := Lib.hid h3
  have hlb : b < w.heap.size := lt_of_heap hb
  have hlg : g < w.heap.size := lt_of_heap h.arr
  clear h hb h3
  go_enter Try.func24, Try.ntmps24
  go_wp2
  obtain ⟨n0, hn0⟩ : ∃ n0, n0 = w.heap.size := ⟨_, rfl⟩
  rw [← hn0] at hlb hlg ⊢
  have HN := Lib.hid hn0
  clear hn0
  go_loopw [19] (fun i wr => ∃ k : Nat, k ≤ s ∧ i = .int .i64 k ∧ Hid (Below n0 w wr) ∧ ∃ us, Hid (MatAt wr (fun k => n0 ≤ k) n0 s us (partX xss k s))) (fun i _ => s - (intOf i).toNat)
  case atStart =>
    refine ⟨0, by omega, rfl, (Below.refl _ _).alloc (by have := HN.out; omega) _, List.replicate s (.slice none 0 0), ?_⟩
    show MatAt _ _ _ _ _ _
    rw [partX_zero]
    exact ⟨Nat.le_refl _, by rw [HN.out, List.toArray_replicate]; exact heap_alloc_new w _, by simp, by simp, (CacheAt.fresh_row s).1, (CacheAt.fresh_row s).2.1, (CacheAt.fresh_row s).2.2.1, (CacheAt.fresh_row s).2.2.2⟩
  case round =>
    obtain ⟨k, hk, rfl, HB, us, HM⟩ := hrel
    by_cases hlt : k < s
    · have hm := HM.out
      have hcw := H.out
      have hbw := HB.out
      have hrow := hcw.row k hlt
      have hgw : wr.heap[g]? = some (.cells vs.toArray 32 (0, 0)) := (hbw.block g hlg).trans hcw.arr
      obtain ⟨v, hv⟩ : ∃ v, v = vs.getD k undef := ⟨_, rfl⟩
      obtain ⟨xs, hxs⟩ : ∃ xs, xs = xss.getD k [] := ⟨_, rfl⟩
      rw [← hv, ← hxs] at hrow
      have hnil := hcw.nil k hlt
      rw [← hv, ← hxs] at hnil
      have hrow' := hrow.move (w' := wr) (fun j hj => hbw.block j (by rw [HN.out]; exact (hrow.lt j hj).1))
      have hlen : xs.length ≤ 1000000 := by
        rw [hxs]
        have hkx : k < xss.length := by rw [hcw.lx]; exact hlt
        refine H3.out _ ?_
        rw [List.getD_eq_getElem?_getD, List.getElem?_eq_getElem hkx]
        exact List.getElem_mem hkx
      have C1 := sclone_any wr v xs hrow' hnil hlen
      have hcg : wr.cell? ⟨g, k, none⟩ = some v := by
        simp only [World.cell?, hgw]
        have : k < vs.length := by rw [hcw.lv]; exact hlt
        simp [hv, List.getD_eq_getElem?_getD, this]
      have hku : k < us.length := by rw [hm.lv]; exact hlt
      have hlo : n0 < wr.heap.size := lt_of_heap hm.arr
      have HX := Lib.hid hxs
      clear hm hcw hbw hrow hgw hv hxs hnil hrow' hlen
      go_wp2_with (go_at_call 36; ((with_reducible refine C1.mono ?_); rintro e w2 ⟨v', rfl, hr2, hn2, ho2, hb2⟩; have hsl := hr2.slice; obtain ⟨A', c', rfl, hlc⟩ := hsl; have hm2 := HM.out.below hb2; have ha2 := hm2.arr; have hco : w2.cell? ⟨n0, k, none⟩ = some (us.getD k undef) := (by simp [World.cell?, ha2, List.getD_eq_getElem?_getD, hku]); have hfo : w2.frozen? ⟨n0, k, none⟩ = false := (by simp [World.frozen?, ha2]); have HR2 := Lib.hid hr2; have HN2 := Lib.hid hn2; have HO2 := Lib.hid ho2; have HB2 := Lib.hid hb2; have HM2 := Lib.hid hm2; have HA2 := Lib.hid ha2; clear hr2 hn2 ho2 hb2 hm2 ha2))
      go_roundw
      case rel =>
        refine ⟨k + 1, by omega, by go_num, ?_, us.set k (.slice A' xs.length c'), ?_⟩
        · have := HB2.out
          exact (HB.out.trans (this.mono (by omega))).setCell (Nat.le_refl _) _
        · have hnk : us.getD k undef = .slice none 0 0 := HM.out.nil k hlt (by rw [List.getD_eq_getElem?_getD, partX_get, if_pos hlt, if_neg (by omega)]; rfl)
          have hp := MatAt.put HM.out hlt (Fr.of_below HB2.out) HR2.out HN2.out (by
            rcases ho : (Value.slice A' xs.length c').ownBlock with _ | m
            · left; rw [hnk]; rfl
            · exact .inr ⟨m, rfl, HO2.out m ho⟩)
          rw [HX.out] at hp ⊢
          rw [partX_step hlt] at hp
          exact hp.mono (fun m hm => by rcases hm with h | h <;> omega)
      case measure => simp [intOf]; omega
    · go_wp2
      go_ret
      have : k = s := by omega
      subst this
      have hm := HM.out
      rw [partX_all H.out.lx] at hm
      unfold LinesPost
      rw [← HN.out]
      exact ⟨HB.out, n0, us, rfl, hm⟩
end Go.Proofs.Ytgbmbehobemocaa
