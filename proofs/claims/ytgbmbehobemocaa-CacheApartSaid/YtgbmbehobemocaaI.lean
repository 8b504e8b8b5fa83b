/- What Access returns and makes: a hit. -/
import Derived.Test.YtgbmbehobemocaaH
namespace Go.Proofs.Ytgbmbehobemocaa
open Go.RowKit
set_option linter.unusedVariables false
set_option linter.unusedSimpArgs false

theorem keep_cells0 {w w' : World} {G : Nat → Prop} {b g i : Nat} {x y : Value} (hf : Fr G w w') (hb : ¬ G b) (hg : ¬ G g) (lb : b < w.heap.size) (lg : g < w.heap.size)
    (h1 : w.cell? ⟨b, 1, none⟩ = some x) (h2 : w.cell? ⟨g, i, none⟩ = some y) (h3 : w.frozen? ⟨g, i, none⟩ = false) :
    w'.cell? ⟨b, 1, none⟩ = some x ∧ w'.cell? ⟨g, i, none⟩ = some y ∧ w'.frozen? ⟨g, i, none⟩ = false ∧ b < w'.heap.size ∧ g < w'.heap.size := by
  have e1 : w'.heap[b]? = w.heap[b]? := hf.block b lb hb
  have e2 : w'.heap[g]? = w.heap[g]? := hf.block g lg hg
  have hs := hf.size
  exact ⟨(World.cell?_of_block (a := ⟨b, 1, none⟩) e1).trans h1, (World.cell?_of_block (a := ⟨g, i, none⟩) e2).trans h2, (World.frozen?_of_block (a := ⟨g, i, none⟩) e2).trans h3, by omega, by omega⟩

set_option maxHeartbeats 1000000 in
theorem access_hit (F : Nat → Prop) (w : World) (b g s wy ln : Nat) (vs : List Value) (xss : List (List Int)) (h : CacheAt w F b g s wy ln vs xss) (hv : valB s wy ln = true) (hw : ∀ xs ∈ xss, xs.length ≤ wy) (a : Int) (ha : 0 ≤ a) (ha2 : a ≤ 9223372036854775807) (hmiss : a / ln ∈ xss.getD (a / ln % s).toNat []) :
    Calls Try.prog 23 #[.pointer (some ⟨b, 0, none⟩), .int .i64 a] w (AccPost w F b g s wy ln vs xss (a / ln)) := by
  obtain ⟨-, -, h1, h2, h3, h4, -⟩ := valB_spec hv
  obtain ⟨d0, d1⟩ := div_le (ln := ln) ha
  have C1 := fun w => line_any s wy ln a ha2 w
  rw [lineF_ok hv ha] at C1
  obtain ⟨l, hl⟩ : ∃ l, l = a / ln := ⟨_, rfl⟩
  rw [← hl] at C1 d0 d1 hmiss ⊢
  have m0 : 0 ≤ l % s := Int.emod_nonneg _ (by omega)
  have m1 : l % s < s := Int.emod_lt_of_pos _ (by omega)
  obtain ⟨i, hi⟩ := Int.eq_ofNat_of_zero_le m0
  have his : i < s := by omega
  have C2 := fun w => set_any s wy ln l (by omega) w
  rw [setF_ok hv d0, hi] at C2
  have i0 : (0 : Int) ≤ i := by omega
  have i1 : (i : Int) < s := by omega
  unfold AccPost
  rw [hi, Int.toNat_natCast] at hmiss ⊢
  clear hl m0 m1 hi hv
  obtain ⟨hc0, hc1, hc2, hc3, hcg, hfg, hlb, hlg⟩ := h.cells his
  have hrow := h.row i his
  obtain ⟨v, hvv⟩ : ∃ v, v = vs.getD i undef := ⟨_, rfl⟩
  obtain ⟨xs, hxs⟩ : ∃ xs, xs = xss.getD i [] := ⟨_, rfl⟩
  rw [← hvv, ← hxs] at hrow
  rw [← hvv] at hcg
  rw [← hvv, ← hxs]
  rw [← hxs] at hmiss
  obtain ⟨p, hp, C3, C4⟩ := (idx_mem l xs).1 hmiss
  have hrl := hrow.lt
  have hxl : xs.length ≤ wy := by
    have hkx : i < xss.length := by rw [h.lx]; exact his
    rw [hxs, List.getD_eq_getElem?_getD, List.getElem?_eq_getElem hkx]
    exact hw _ (List.getElem_mem hkx)
  obtain ⟨A0, cc0, hv0, hcc0⟩ := hrow.slice
  subst hv0
  have HW := Lib.hid hw
  have H := Lib.hid h
  have HROW := Lib.hid hrow
  have HRL := Lib.hid hrl
  have HVV := Lib.hid hvv
  have HXS := Lib.hid hxs
  have HMISS := Lib.hid hmiss
  have HC3 := Lib.hid C3
  have HC4 := Lib.hid C4
  clear h hrow hrl hvv hxs hw hmiss C3 C4
  have hbg := H.out.ne
  go_enter Try.func23, Try.ntmps23
  go_wp2_with (first | (go_at_call 15; ((with_reducible refine (C1 _).mono ?_); rintro e w1 ⟨rfl, hb1⟩; have k1 : ∀ o, w1.cell? ⟨b, o, none⟩ = w.cell? ⟨b, o, none⟩ := fun o => bcell hb1 b o hlb; have k2 : w1.cell? ⟨g, i, none⟩ = w.cell? ⟨g, i, none⟩ := bcell hb1 g i hlg)))
  have hlb1 : b < w1.heap.size := Nat.lt_of_lt_of_le hlb hb1.size
  have hlg1 : g < w1.heap.size := Nat.lt_of_lt_of_le hlg hb1.size
  go_region_held3 (fun w' => w'.cell? ⟨b, 0, none⟩ = some (.int .i64 s) ∧ w'.cell? ⟨b, 1, none⟩ = some (.int .i64 wy) ∧ w'.cell? ⟨b, 2, none⟩ = some (.int .i64 ln) ∧ w'.cell? ⟨b, 3, none⟩ = some (.slice (some ⟨g, 0, none⟩) s s) ∧ w'.cell? ⟨g, i, none⟩ = some (.slice A0 xs.length cc0)) (go_keep)
    (first | (go_at_call 17; ((with_reducible refine (C2 _).mono ?_); rintro e w2 ⟨rfl, hb2⟩; have q1 : ∀ o, w2.cell? ⟨b, o, none⟩ = w1.cell? ⟨b, o, none⟩ := fun o => bcell hb2 b o hlb1; have q2 : w2.cell? ⟨g, i, none⟩ = w1.cell? ⟨g, i, none⟩ := bcell hb2 g i hlg1)))
  have hB2 : Below w.heap.size w w2 := hb1.trans ((Below.refl _ _).drew.trans (hb2.mono hb1.size))
  have hrow2 := HROW.out.move (w' := w2) (fun k hk => hB2.block k (HRL.out k hk).1)
  have D1 := idx_any w2 _ xs l hrow2
  rw [HC3.out] at D1
  have hfg2 : w2.frozen? ⟨g, i, none⟩ = false := (hB2.frozen (p := ⟨g, i, none⟩) hlg).trans hfg
  have h2b1 : w2.cell? ⟨b, 1, none⟩ = some (.int .i64 wy) := (bcell hB2 b 1 hlb).trans hc1
  have h2g : w2.cell? ⟨g, i, none⟩ = some (.slice A0 xs.length cc0) := (bcell hB2 g i hlg).trans hcg
  have hlb2 : b < w2.heap.size := Nat.lt_of_lt_of_le hlb hB2.size
  have hlg2 : g < w2.heap.size := Nat.lt_of_lt_of_le hlg hB2.size
  have HB2 := Lib.hid hB2
  have HROW2 := Lib.hid hrow2
  have hxl2 : xs.length ≤ 1000000 := by omega
  clear hc0 hc1 hc2 hc3 hcg hfg k1 k2 q1 q2 hb1 hb2 hB2 hrow2 hlb hlg hlb1 hlg1
  try clear hHeld
  have HNG : Hid (∀ k, (Value.slice A0 xs.length cc0).ownBlock = some k → k ≠ b ∧ k ≠ g) := by show ∀ k, (Value.slice A0 xs.length cc0).ownBlock = some k → k ≠ b ∧ k ≠ g; rw [HVV.out]; exact H.out.rne his
  have E1 := delete_any w2 _ xs p hp HROW2.out
  have p0 : (0 : Int) ≤ p := by omega
  have p1 : (p : Int) ≤ 1000000 := by omega
  go_wp2_with (first | (go_at_call 33; ((with_reducible refine D1.mono ?_); rintro e w3 ⟨rfl, rfl⟩)) | (go_at_call 34; ((with_reducible refine E1.mono ?_); rintro e w3 ⟨v', rfl, hr3, ho3, hf3⟩; obtain ⟨A3, c3, rfl, hl3⟩ := hr3.slice; have HR3 := Lib.hid hr3; have HO3 := Lib.hid ho3; have HF3 := Lib.hid hf3; clear hr3 ho3 hf3; obtain ⟨z1, z2, z3, z4, z5⟩ := keep_cells0 HF3.out (fun e => (HNG.out b e).1 rfl) (fun e => (HNG.out g e).2 rfl) hlb2 hlg2 h2b1 h2g hfg2)))
  obtain ⟨W3, hW3⟩ : ∃ W3, W3 = w3.setCell ⟨g, i, none⟩ (.slice A3 (xs.eraseIdx p).length c3) := ⟨_, rfl⟩
  have hsz3 : W3.heap.size = w3.heap.size := by rw [hW3]; simp [World.setCell]
  rw [← hW3, ← hsz3]
  have hh := H.out
  have hB := HB2.out
  have hg3 : w3.heap[g]? = some (.cells vs.toArray 32 (0, 0)) := (HF3.out.block g hlg2 (fun e => (HNG.out g e).2 rfl)).trans ((hB.block g (lt_of_heap hh.arr)).trans hh.arr)
  have hG3 : W3.heap[g]? = some (.cells (vs.set i (.slice A3 (xs.eraseIdx p).length c3)).toArray 32 (0, 0)) := by
    rw [hW3]
    simp only [World.setCell, Array.getElem?_modify, if_pos, hg3]
    simp
  have hF3 : Fr (fun k => k = g ∨ (Value.slice A0 xs.length cc0).ownBlock = some k) w W3 := by
    rw [hW3]
    exact ((Fr.of_below hB).trans HF3.out (fun k _ hk => .inr hk)).trans (fr_setCells [_] i _) (fun k _ hk => .inl hk)
  have hne3 : ∀ k, (Value.slice A3 (xs.eraseIdx p).length c3).ownBlock = some k → k ≠ b ∧ k ≠ g := fun k hk => HNG.out k (HO3.out.symm.trans hk)
  have hR3 : Row W3 (.slice A3 (xs.eraseIdx p).length c3) (xs.eraseIdx p) := HR3.out.move (fun k hk => by rw [hW3]; exact Below.heap_setCell _ _ _ _ (hne3 k hk).2)
  have hb1 : W3.cell? ⟨b, 1, none⟩ = some (.int .i64 wy) := by
    refine (World.cell?_of_block (a := ⟨b, 1, none⟩) ?_).trans z1
    rw [hW3]; exact Below.heap_setCell _ _ _ _ hbg
  have hgi : W3.cell? ⟨g, i, none⟩ = some (.slice A3 (xs.eraseIdx p).length c3) := by
    have : i < vs.length := by rw [hh.lv]; exact his
    simp [World.cell?, hG3, this]
  have hfi : W3.frozen? ⟨g, i, none⟩ = false := by simp [World.frozen?, hG3]
  have hlb3 : b < W3.heap.size := by rw [hsz3]; exact z4
  have hlg3 : g < W3.heap.size := by rw [hsz3]; exact z5
  have hel : (xs.eraseIdx p).length = xs.length - 1 := by rw [List.length_eraseIdx]; simp [hp]
  have hxp : 1 ≤ xs.length := by omega
  have hE := insert_any (W3.alloc (.cells #[.int .i64 l] 3)) _ (xs.eraseIdx p) l W3.heap.size 1 (by omega) (hR3.move (fun k hk => Below.heap_alloc _ _ _ (hR3.lt k hk).1)) (fun k hk e => by have := (hR3.lt k hk).1; omega) (heap_alloc_new W3 _)
  have HG3 := Lib.hid hG3
  have HFF3 := Lib.hid hF3
  have HNE3 := Lib.hid hne3
  have HSZ3 := Lib.hid hsz3
  have HEL := Lib.hid hel
  clear hW3 hsz3 hh hB hg3 hG3 hF3 hne3 hR3 z1 z2 z3 z4 z5 h2b1 h2g hfg2 hlb2 hlg2 hel
  refine hE.mono ?_
  rintro e w4 ⟨v4, rfl, hr4, ho4, hf4⟩
  clear hE
  obtain ⟨A4, c4, rfl, hl4⟩ := hr4.slice
  obtain ⟨z1, z2, z3, z4, z5⟩ := keep_cells hf4 (fun e => (HNE3.out b e).1 rfl) (fun e => (HNE3.out g e).2 rfl) hlb3 hlg3 hb1 hgi hfi
  have HR4 := Lib.hid hr4
  have HO4 := Lib.hid ho4
  have HF4 := Lib.hid hf4
  have hxl4 : (l :: xs.eraseIdx p).length ≤ wy := by
    have := HEL.out
    simp
    omega
  have hq4 : (((l :: xs.eraseIdx p).length : Nat) : Int) ≤ wy := by omega
  obtain ⟨n4, hn4⟩ : ∃ n4, n4 = (l :: xs.eraseIdx p).length := ⟨_, rfl⟩
  rw [← hn4] at hxl4 hl4 hq4 ⊢
  have HN4 := Lib.hid hn4
  clear hr4 ho4 hf4 hn4 hlb3 hlg3 hb1 hgi hfi
  go_wp2
  go_quiet (fail)
  go_wp2
  go_ret
  have hh := H.out
  have hB := HB2.out
  have hF : Fr (fun k => k = g ∨ (Value.slice A0 xs.length cc0).ownBlock = some k) w w4 :=
    (HFF3.out.trans (G := fun _ => False) (Fr.of_below ((Below.refl _ _).alloc (Nat.le_refl _) _)) (fun _ _ h => h.elim)).trans HF4.out (fun k _ hk => .inr (HO3.out.symm.trans hk))
  have hg4 : w4.heap[g]? = some (.cells (vs.set i (.slice A3 (xs.eraseIdx p).length c3)).toArray 32 (0, 0)) := by
    have e1 := HF4.out.block g (by simp; have := lt_of_heap HG3.out; omega) (fun e => (HNE3.out g e).2 rfl)
    exact (e1.trans (Below.heap_alloc _ _ _ (lt_of_heap HG3.out))).trans HG3.out
  have hput := CacheAt.put2 hh his (by rw [← HVV.out]; exact hF) hg4 (v' := .slice A4 n4 c4) (ys := l :: xs.eraseIdx p) (by rw [HN4.out]; exact HR4.out) (fun h => by cases h) (by
    rw [← HVV.out]
    rcases HO4.out with h | ⟨k, hk, hk2⟩
    · exact .inl (((own_len A4 _ _ _ _).trans h).trans HO3.out)
    · refine .inr ⟨k, (own_len A4 _ _ _ _).trans hk, ?_⟩
      have := hB.size
      have := HF3.out.size
      have := HSZ3.out
      simp at hk2
      omega)
  have ht : touch wy l xs = l :: xs.eraseIdx p := by
    unfold touch
    rw [← HC4.out, List.take_of_length_le (by rw [← HN4.out]; exact hxl4)]
  refine ⟨ret_bool (by simp [HMISS.out]), ?_, _, (by rw [ht]; exact hput.below (Below.drewN_ _ nq))⟩
  exact (hF.trans (fr_setCells [_] i _) (fun k _ hk => .inl hk)).trans (G := fun _ => False) (Fr.of_below (Below.drewN_ _ nq)) (fun _ _ h => h.elim)

/-- An access of an address that is not negative. -/
theorem access_ok (F : Nat → Prop) (w : World) (b g s wy ln : Nat) (vs : List Value) (xss : List (List Int)) (h : CacheAt w F b g s wy ln vs xss) (hv : valB s wy ln = true) (hw : ∀ xs ∈ xss, xs.length ≤ wy) (a : Int) (ha : 0 ≤ a) (ha2 : a ≤ 9223372036854775807) :
    Calls Try.prog 23 #[.pointer (some ⟨b, 0, none⟩), .int .i64 a] w (AccPost w F b g s wy ln vs xss (a / ln)) := by
  by_cases hm : a / ln ∈ xss.getD (a / ln % s).toNat []
  · exact access_hit F w b g s wy ln vs xss h hv hw a ha ha2 hm
  · have hle : (xss.getD (a / ln % s).toNat []).length ≤ wy := by
      rw [List.getD_eq_getElem?_getD]
      cases hx : xss[(a / ln % s).toNat]? with
      | none => simp
      | some xs => exact hw _ (List.mem_of_getElem? hx)
    by_cases hr : (xss.getD (a / ln % s).toNat []).length < wy
    · exact access_miss F w b g s wy ln vs xss h hv hw a ha ha2 hm hr
    · exact access_full F w b g s wy ln vs xss h hv hw a ha ha2 hm (by omega)

#print axioms access_ok
end Go.Proofs.Ytgbmbehobemocaa
