/- What Access returns and makes. -/
import Derived.Test.YtgbmbehobemocaaF
namespace Go.Proofs.Ytgbmbehobemocaa
open Go.RowKit
set_option linter.unusedVariables false
set_option linter.unusedSimpArgs false
section
variable {w w' : World} {F G : Nat → Prop} {b g s wy ln : Nat} {vs : List Value} {xss : List (List Int)}
/-- One set is written anew: by a row of its own, or a new one. -/
theorem CacheAt.put2 (h : CacheAt w F b g s wy ln vs xss) {i : Nat} (hi : i < s) {v' : Value} {ys : List Int} (hf : Fr (fun k => k = g ∨ (vs.getD i undef).ownBlock = some k) w w') {u : Value} (hgw : w'.heap[g]? = some (.cells (vs.set i u).toArray 32 (0, 0)))
    (hr : Row w' v' ys) (hy : ys = [] → v' = .slice none 0 0) (ho : v'.ownBlock = (vs.getD i undef).ownBlock ∨ ∃ k, v'.ownBlock = some k ∧ w.heap.size ≤ k) :
    CacheAt (w'.setCell ⟨g, i, none⟩ v') (fun k => F k ∨ w.heap.size ≤ k) b g s wy ln (vs.set i v') (xss.set i ys) := by
  have hbw : w'.heap[b]? = some (.cells #[.int .i64 s, .int .i64 wy, .int .i64 ln, .slice (some ⟨g, 0, none⟩) s s] 52 (0, 0)) := (hf.block b (lt_of_heap h.blk) (fun e => by rcases e with e | e; exact h.ne e; exact (h.rne hi b e).1 rfl)).trans h.blk
  have hiv : i < vs.length := by rw [h.lv]; exact hi
  have hix : i < xss.length := by rw [h.lx]; exact hi
  have hset : ∀ k, k ≠ g → (w'.setCell ⟨g, i, none⟩ v').heap[k]? = w'.heap[k]? := fun k hk => Below.heap_setCell _ _ _ _ hk
  refine ⟨.inl h.fb, .inl h.fg, (hset b h.ne).trans hbw, ?_, by simpa using h.lv, by simpa using h.lx, ?_, ?_, ?_, ?_⟩
  · simp only [World.setCell, Array.getElem?_modify, if_pos, hgw]
    simp
  · intro j hj
    rw [getD_set _ _ _ _ _ hiv, getD_set _ _ _ _ _ hix]
    split
    · refine hr.move fun k hk => hset k ?_
      obtain ⟨_, cur, hc⟩ := hr.lt k hk
      intro e
      rw [e, hgw] at hc
      injection hc with hc
      injection hc with _ hc
      cases hc
    · rename_i hne
      refine ((h.row j hj).fr hf (fun k hk e => by rcases e with e | e; exact (h.rne hj k hk).2 e; exact h.apart i j hi hj hne k e hk)).move fun k hk => hset k (h.rne hj k hk).2
  · intro j hj
    rw [getD_set _ _ _ _ _ hiv, getD_set _ _ _ _ _ hix]
    split
    · exact hy
    · exact h.nil j hj
  · intro j hj k hk
    rw [getD_set _ _ _ _ _ hiv] at hk
    split at hk
    · rcases ho with ho | ⟨m, hm, hm2⟩
      · rw [ho] at hk; exact .inl (h.fr i hi k hk)
      · rw [hm] at hk; injection hk with hk; subst hk; exact .inr hm2
    · exact .inl (h.fr j hj k hk)
  · intro p q hp hq hpq k hk
    rw [getD_set _ _ _ _ _ hiv] at hk ⊢
    split at hk
    · rename_i e
      subst e
      rw [if_neg hpq]
      rcases ho with ho | ⟨m, hm, hm2⟩
      · rw [ho] at hk; exact h.apart i q hi hq hpq k hk
      · rw [hm] at hk; injection hk with hk; subst hk
        intro e
        have := ((h.row q hq).lt m e).1
        omega
    · split
      · rename_i e
        subst e
        rcases ho with ho | ⟨m, hm, hm2⟩
        · rw [ho]; exact h.apart p i hp hi hpq k hk
        · rw [hm]
          intro e
          injection e with e
          have := ((h.row p hp).lt k hk).1
          omega
      · exact h.apart p q hp hq hpq k hk

theorem CacheAt.cells (h : CacheAt w F b g s wy ln vs xss) {i : Nat} (hi : i < s) :
    w.cell? ⟨b, 0, none⟩ = some (.int .i64 s) ∧ w.cell? ⟨b, 1, none⟩ = some (.int .i64 wy) ∧ w.cell? ⟨b, 2, none⟩ = some (.int .i64 ln) ∧ w.cell? ⟨b, 3, none⟩ = some (.slice (some ⟨g, 0, none⟩) s s) ∧
    w.cell? ⟨g, i, none⟩ = some (vs.getD i undef) ∧ w.frozen? ⟨g, i, none⟩ = false ∧ b < w.heap.size ∧ g < w.heap.size := by
  have hb := h.blk
  have hg := h.arr
  have hv : i < vs.length := by rw [h.lv]; exact hi
  refine ⟨?_, ?_, ?_, ?_, ?_, ?_, lt_of_heap hb, lt_of_heap hg⟩ <;> simp [World.cell?, World.frozen?, hb, hg, List.getD_eq_getElem?_getD, hv]
end

theorem set_getD_self {α : Type} (l : List α) (i : Nat) (d : α) : l.set i (l.getD i d) = l := by
  apply List.ext_getElem?
  intro j
  rw [List.getElem?_set]
  split
  · rename_i e
    subst e
    split
    · rename_i h
      rw [List.getD_eq_getElem?_getD, List.getElem?_eq_getElem h]; rfl
    · rename_i h
      rw [List.getElem?_eq_none (by omega)]
  · rfl

theorem keep_cells {w w' : World} {o : Obj} {G : Nat → Prop} {b g i : Nat} {x y : Value} (hf : Fr G (w.alloc o) w') (hb : ¬ G b) (hg : ¬ G g) (lb : b < w.heap.size) (lg : g < w.heap.size)
    (h1 : w.cell? ⟨b, 1, none⟩ = some x) (h2 : w.cell? ⟨g, i, none⟩ = some y) (h3 : w.frozen? ⟨g, i, none⟩ = false) :
    w'.cell? ⟨b, 1, none⟩ = some x ∧ w'.cell? ⟨g, i, none⟩ = some y ∧ w'.frozen? ⟨g, i, none⟩ = false ∧ b < w'.heap.size ∧ g < w'.heap.size := by
  have e1 : w'.heap[b]? = w.heap[b]? := (hf.block b (by simp; omega) hb).trans (Below.heap_alloc _ _ _ lb)
  have e2 : w'.heap[g]? = w.heap[g]? := (hf.block g (by simp; omega) hg).trans (Below.heap_alloc _ _ _ lg)
  have hs := hf.size
  simp at hs
  exact ⟨(World.cell?_of_block (a := ⟨b, 1, none⟩) e1).trans h1, (World.cell?_of_block (a := ⟨g, i, none⟩) e2).trans h2, (World.frozen?_of_block (a := ⟨g, i, none⟩) e2).trans h3, by omega, by omega⟩

/-- What an access leaves: whether it was a hit; the set with the line in front. -/
def AccPost (w : World) (F : Nat → Prop) (b g s wy ln : Nat) (vs : List Value) (xss : List (List Int)) (l : Int) (e : Ending) (w' : World) : Prop :=
  e = .returned (.bool (decide (l ∈ xss.getD (l % s).toNat []))) ∧ Fr (fun k => k = g ∨ (vs.getD (l % s).toNat undef).ownBlock = some k) w w' ∧
    ∃ v', CacheAt w' (fun k => F k ∨ w.heap.size ≤ k) b g s wy ln (vs.set (l % s).toNat v') (xss.set (l % s).toNat (touch wy l (xss.getD (l % s).toNat [])))

set_option maxHeartbeats 1000000 in
theorem access_miss (F : Nat → Prop) (w : World) (b g s wy ln : Nat) (vs : List Value) (xss : List (List Int)) (h : CacheAt w F b g s wy ln vs xss) (hv : valB s wy ln = true) (hw : ∀ xs ∈ xss, xs.length ≤ wy) (a : Int) (ha : 0 ≤ a) (ha2 : a ≤ 9223372036854775807) (hmiss : a / ln ∉ xss.getD (a / ln % s).toNat []) (hroom : (xss.getD (a / ln % s).toNat []).length < wy) :
    Calls Try.prog 23 #[.pointer (some ⟨b, 0, none⟩), .int .i64 a] w (AccPost w F b g s wy ln vs xss (a / ln)) := by
  obtain ⟨-, -, h1, h2, h3, h4, -⟩ := valB_spec hv
  obtain ⟨d0, d1⟩ := div_le (ln := ln) ha
  have C1 := fun w => line_any s wy ln a ha2 w
  rw [lineF_ok hv ha] at C1
  obtain ⟨l, hl⟩ : ∃ l, l = a / ln := ⟨_, rfl⟩
  rw [← hl] at C1 d0 d1 hmiss hroom ⊢
  have m0 : 0 ≤ l % s := Int.emod_nonneg _ (by omega)
  have m1 : l % s < s := Int.emod_lt_of_pos _ (by omega)
  obtain ⟨i, hi⟩ := Int.eq_ofNat_of_zero_le m0
  have his : i < s := by omega
  have C2 := fun w => set_any s wy ln l (by omega) w
  rw [setF_ok hv d0, hi] at C2
  have i0 : (0 : Int) ≤ i := by omega
  have i1 : (i : Int) < s := by omega
  unfold AccPost
  rw [hi, Int.toNat_natCast] at hmiss hroom ⊢
  clear hl m0 m1 hi hv
  obtain ⟨hc0, hc1, hc2, hc3, hcg, hfg, hlb, hlg⟩ := h.cells his
  have hrow := h.row i his
  obtain ⟨v, hvv⟩ : ∃ v, v = vs.getD i undef := ⟨_, rfl⟩
  obtain ⟨xs, hxs⟩ : ∃ xs, xs = xss.getD i [] := ⟨_, rfl⟩
  rw [← hvv, ← hxs] at hrow
  rw [← hvv] at hcg
  rw [← hvv, ← hxs]
  rw [← hxs] at hmiss hroom
  have C3 := (idx_mem l xs).2 hmiss
  have hrl := hrow.lt
  have hxl : xs.length ≤ wy := by
    have hkx : i < xss.length := by rw [h.lx]; exact his
    rw [hxs, List.getD_eq_getElem?_getD, List.getElem?_eq_getElem hkx]
    exact hw _ (List.getElem_mem hkx)
  obtain ⟨A0, cc0, hv0, hcc0⟩ := hrow.slice
  subst hv0
  have HW := Lib.hid hw
  have H := Lib.hid h
  have HROW := Lib.hid hrow
  have HRL := Lib.hid hrl
  have HVV := Lib.hid hvv
  have HXS := Lib.hid hxs
  have HMISS := Lib.hid hmiss
  have HC3 := Lib.hid C3
  clear h hrow hrl hvv hxs hw hmiss C3
  have hbg := H.out.ne
  go_enter Try.func23, Try.ntmps23
  go_wp2_with (first | (go_at_call 15; ((with_reducible refine (C1 _).mono ?_); rintro e w1 ⟨rfl, hb1⟩; have k1 : ∀ o, w1.cell? ⟨b, o, none⟩ = w.cell? ⟨b, o, none⟩ := fun o => bcell hb1 b o hlb; have k2 : w1.cell? ⟨g, i, none⟩ = w.cell? ⟨g, i, none⟩ := bcell hb1 g i hlg)))
  have hlb1 : b < w1.heap.size := Nat.lt_of_lt_of_le hlb hb1.size
  have hlg1 : g < w1.heap.size := Nat.lt_of_lt_of_le hlg hb1.size
  go_region_held3 (fun w' => w'.cell? ⟨b, 0, none⟩ = some (.int .i64 s) ∧ w'.cell? ⟨b, 1, none⟩ = some (.int .i64 wy) ∧ w'.cell? ⟨b, 2, none⟩ = some (.int .i64 ln) ∧ w'.cell? ⟨b, 3, none⟩ = some (.slice (some ⟨g, 0, none⟩) s s) ∧ w'.cell? ⟨g, i, none⟩ = some (.slice A0 xs.length cc0)) (go_keep)
    (first | (go_at_call 17; ((with_reducible refine (C2 _).mono ?_); rintro e w2 ⟨rfl, hb2⟩; have q1 : ∀ o, w2.cell? ⟨b, o, none⟩ = w1.cell? ⟨b, o, none⟩ := fun o => bcell hb2 b o hlb1; have q2 : w2.cell? ⟨g, i, none⟩ = w1.cell? ⟨g, i, none⟩ := bcell hb2 g i hlg1)))
  have hB2 : Below w.heap.size w w2 := hb1.trans ((Below.refl _ _).drew.trans (hb2.mono hb1.size))
  have hrow2 := HROW.out.move (w' := w2) (fun k hk => hB2.block k (HRL.out k hk).1)
  have D1 := idx_any w2 _ xs l hrow2
  rw [HC3.out] at D1
  have hfg2 : w2.frozen? ⟨g, i, none⟩ = false := (hB2.frozen (p := ⟨g, i, none⟩) hlg).trans hfg
  have h2b1 : w2.cell? ⟨b, 1, none⟩ = some (.int .i64 wy) := (bcell hB2 b 1 hlb).trans hc1
  have h2g : w2.cell? ⟨g, i, none⟩ = some (.slice A0 xs.length cc0) := (bcell hB2 g i hlg).trans hcg
  have hlb2 : b < w2.heap.size := Nat.lt_of_lt_of_le hlb hB2.size
  have hlg2 : g < w2.heap.size := Nat.lt_of_lt_of_le hlg hB2.size
  have HB2 := Lib.hid hB2
  have HROW2 := Lib.hid hrow2
  have hxl2 : xs.length ≤ 1000000 := by omega
  clear hc0 hc1 hc2 hc3 hcg hfg k1 k2 q1 q2 hb1 hb2 hB2 hrow2 hlb hlg hlb1 hlg1
  try clear hHeld
  have E1 := insert_any (w2.alloc (.cells #[.int .i64 l] 3)) _ xs l w2.heap.size 1 hxl2 (HROW2.out.move (fun k hk => Below.heap_alloc _ _ _ (HROW2.out.lt k hk).1)) (fun k hk e => by have := (HROW2.out.lt k hk).1; omega) (heap_alloc_new w2 _)
  have HNG : Hid (∀ k, (Value.slice A0 xs.length cc0).ownBlock = some k → k ≠ b ∧ k ≠ g) := by show ∀ k, (Value.slice A0 xs.length cc0).ownBlock = some k → k ≠ b ∧ k ≠ g; rw [HVV.out]; exact H.out.rne his
  have K4 := fun w4 (hf4 : Fr (fun k => (Value.slice A0 xs.length cc0).ownBlock = some k) (w2.alloc (.cells #[.int .i64 l] 3)) w4) => keep_cells (w' := w4) hf4 (fun e => (HNG.out b e).1 rfl) (fun e => (HNG.out g e).2 rfl) hlb2 hlg2 h2b1 h2g hfg2
  go_wp2_with (first | (go_at_call 33; ((with_reducible refine D1.mono ?_); rintro e w3 ⟨rfl, rfl⟩)) | (go_at_call 35; ((with_reducible refine E1.mono ?_); rintro e w4 ⟨v', rfl, hr4, ho4, hf4⟩; obtain ⟨A4, c4, rfl, hl4⟩ := hr4.slice; obtain ⟨z1, z2, z3, z4, z5⟩ := K4 w4 hf4; have HR4 := Lib.hid hr4; have HO4 := Lib.hid ho4; have HF4 := Lib.hid hf4; clear hr4 ho4 hf4)))
  go_quiet (fail)
  go_wp2
  go_ret
  have hh := H.out
  have hB := HB2.out
  have hF : Fr (fun k => k = g ∨ (Value.slice A0 xs.length cc0).ownBlock = some k) w w4 :=
    ((Fr.of_below hB).trans (G := fun _ => False) (Fr.of_below ((Below.refl _ _).alloc (Nat.le_refl _) _)) (fun _ _ h => h.elim)).trans HF4.out (fun k _ hk => .inr hk)
  have hg4 : w4.heap[g]? = some (.cells (vs.set i (vs.getD i undef)).toArray 32 (0, 0)) := by
    rw [set_getD_self]
    have e1 := HF4.out.block g (by simp; omega) (fun e => (HNG.out g e).2 rfl)
    exact (e1.trans (Below.heap_alloc _ _ _ hlg2)).trans ((hB.block g (lt_of_heap hh.arr)).trans hh.arr)
  have hput := CacheAt.put2 hh his (by rw [← HVV.out]; exact hF) hg4 HR4.out (fun h => by cases h) (by
    rw [← HVV.out]
    rcases HO4.out with h | ⟨k, hk, hk2⟩
    · exact .inl h
    · refine .inr ⟨k, hk, ?_⟩
      have := hB.size
      simp at hk2
      omega)
  have ht : touch wy l xs = l :: xs := by
    unfold touch
    rw [List.erase_of_not_mem HMISS.out, List.take_of_length_le (by simp; omega)]
  refine ⟨ret_bool (by simp [HMISS.out]), ?_, _, (by rw [ht]; exact hput.below (Below.drewN_ _ nq))⟩
  exact (hF.trans (fr_setCells [_] i _) (fun k _ hk => .inl hk)).trans (G := fun _ => False) (Fr.of_below (Below.drewN_ _ nq)) (fun _ _ h => h.elim)
end Go.Proofs.Ytgbmbehobemocaa
