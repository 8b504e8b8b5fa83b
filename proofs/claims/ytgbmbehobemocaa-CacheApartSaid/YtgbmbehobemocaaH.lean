/- What Access returns and makes: the set is full. -/
import Derived.Test.YtgbmbehobemocaaG
namespace Go.Proofs.Ytgbmbehobemocaa
open Go.RowKit
set_option linter.unusedVariables false
set_option linter.unusedSimpArgs false

theorem slice_take (A : Option Addr) (n c m : Nat) (hm : m ≤ c) (W : World) :
    (Instr.slice 32 (.slice A n c) none (some (.int .i64 m)) none).run Try.prog W = .ok (.slice A m c) W := by
  have ha : (A.map fun x => x.add 0) = A := by cases A <;> simp [Addr.add]
  have hel : Try.prog.elem 32 = 3 := by kernel_rfl
  have hi : (sizeOf 3).run Try.prog W = .ok 1 W := by kernel_rfl
  rw [run_slice_h W 32 A n c (by rw [hel]; exact Try.underlying32) .i64 m (by omega) (by omega), hel, hi]
  simp [sliced, Result.andThen, ha]

theorem own_len (A : Option Addr) (n m c d : Nat) : (Value.slice A n c).ownBlock = (Value.slice A m d).ownBlock := by cases A <;> rfl

theorem Row.take {w : World} {A : Option Addr} {n c m : Nat} {xs : List Int} (h : Row w (.slice A n c) xs) (h0 : 0 < m) (hm : m ≤ xs.length) : Row w (.slice A m c) (xs.take m) := by
  rcases h with ⟨h, rfl⟩ | ⟨g, cap, cur, h, hg, hl, hc, hs, hcur⟩
  · simp at hm; omega
  · injection h with e1 e2 e3
    subst e1; subst e3
    have hlen : (xs.take m).length = m := by simp; omega
    refine .inr ⟨g, c, cur, by rw [hlen], hg, by omega, hc, hs, fun j hj => ?_⟩
    rw [hcur j (by omega)]
    rw [hlen] at hj
    simp [List.getD_eq_getElem?_getD, List.getElem?_take, hj]

set_option maxHeartbeats 1000000 in
theorem access_full (F : Nat → Prop) (w : World) (b g s wy ln : Nat) (vs : List Value) (xss : List (List Int)) (h : CacheAt w F b g s wy ln vs xss) (hv : valB s wy ln = true) (hw : ∀ xs ∈ xss, xs.length ≤ wy) (a : Int) (ha : 0 ≤ a) (ha2 : a ≤ 9223372036854775807) (hmiss : a / ln ∉ xss.getD (a / ln % s).toNat []) (hroom : (xss.getD (a / ln % s).toNat []).length = wy) :
    Calls Try.prog 23 #[.pointer (some ⟨b, 0, none⟩), .int .i64 a] w (AccPost w F b g s wy ln vs xss (a / ln)) := by
  obtain ⟨-, -, h1, h2, h3, h4, -⟩ := valB_spec hv
  obtain ⟨d0, d1⟩ := div_le (ln := ln) ha
  have C1 := fun w => line_any s wy ln a ha2 w
  rw [lineF_ok hv ha] at C1
  obtain ⟨l, hl⟩ : ∃ l, l = a / ln := ⟨_, rfl⟩
  rw [← hl] at C1 d0 d1 hmiss hroom ⊢
  have m0 : 0 ≤ l % s := Int.emod_nonneg _ (by omega)
  have m1 : l % s < s := Int.emod_lt_of_pos _ (by omega)
  obtain ⟨i, hi⟩ := Int.eq_ofNat_of_zero_le m0
  have his : i < s := by omega
  have C2 := fun w => set_any s wy ln l (by omega) w
  rw [setF_ok hv d0, hi] at C2
  have i0 : (0 : Int) ≤ i := by omega
  have i1 : (i : Int) < s := by omega
  unfold AccPost
  rw [hi, Int.toNat_natCast] at hmiss hroom ⊢
  clear hl m0 m1 hi hv
  obtain ⟨hc0, hc1, hc2, hc3, hcg, hfg, hlb, hlg⟩ := h.cells his
  have hrow := h.row i his
  obtain ⟨v, hvv⟩ : ∃ v, v = vs.getD i undef := ⟨_, rfl⟩
  obtain ⟨xs, hxs⟩ : ∃ xs, xs = xss.getD i [] := ⟨_, rfl⟩
  rw [← hvv, ← hxs] at hrow
  rw [← hvv] at hcg
  rw [← hvv, ← hxs]
  rw [← hxs] at hmiss hroom
  have C3 := (idx_mem l xs).2 hmiss
  have hrl := hrow.lt
  have hxl : xs.length ≤ wy := by
    have hkx : i < xss.length := by rw [h.lx]; exact his
    rw [hxs, List.getD_eq_getElem?_getD, List.getElem?_eq_getElem hkx]
    exact hw _ (List.getElem_mem hkx)
  obtain ⟨A0, cc0, hv0, hcc0⟩ := hrow.slice
  subst hv0
  have HW := Lib.hid hw
  have H := Lib.hid h
  have HROW := Lib.hid hrow
  have HRL := Lib.hid hrl
  have HVV := Lib.hid hvv
  have HXS := Lib.hid hxs
  have HROOM := Lib.hid hroom
  have hfull : wy < xs.length + 1 := by omega
  clear hroom
  have HMISS := Lib.hid hmiss
  have HC3 := Lib.hid C3
  clear h hrow hrl hvv hxs hw hmiss C3
  have hbg := H.out.ne
  go_enter Try.func23, Try.ntmps23
  go_wp2_with (first | (go_at_call 15; ((with_reducible refine (C1 _).mono ?_); rintro e w1 ⟨rfl, hb1⟩; have k1 : ∀ o, w1.cell? ⟨b, o, none⟩ = w.cell? ⟨b, o, none⟩ := fun o => bcell hb1 b o hlb; have k2 : w1.cell? ⟨g, i, none⟩ = w.cell? ⟨g, i, none⟩ := bcell hb1 g i hlg)))
  have hlb1 : b < w1.heap.size := Nat.lt_of_lt_of_le hlb hb1.size
  have hlg1 : g < w1.heap.size := Nat.lt_of_lt_of_le hlg hb1.size
  go_region_held3 (fun w' => w'.cell? ⟨b, 0, none⟩ = some (.int .i64 s) ∧ w'.cell? ⟨b, 1, none⟩ = some (.int .i64 wy) ∧ w'.cell? ⟨b, 2, none⟩ = some (.int .i64 ln) ∧ w'.cell? ⟨b, 3, none⟩ = some (.slice (some ⟨g, 0, none⟩) s s) ∧ w'.cell? ⟨g, i, none⟩ = some (.slice A0 xs.length cc0)) (go_keep)
    (first | (go_at_call 17; ((with_reducible refine (C2 _).mono ?_); rintro e w2 ⟨rfl, hb2⟩; have q1 : ∀ o, w2.cell? ⟨b, o, none⟩ = w1.cell? ⟨b, o, none⟩ := fun o => bcell hb2 b o hlb1; have q2 : w2.cell? ⟨g, i, none⟩ = w1.cell? ⟨g, i, none⟩ := bcell hb2 g i hlg1)))
  have hB2 : Below w.heap.size w w2 := hb1.trans ((Below.refl _ _).drew.trans (hb2.mono hb1.size))
  have hrow2 := HROW.out.move (w' := w2) (fun k hk => hB2.block k (HRL.out k hk).1)
  have D1 := idx_any w2 _ xs l hrow2
  rw [HC3.out] at D1
  have hfg2 : w2.frozen? ⟨g, i, none⟩ = false := (hB2.frozen (p := ⟨g, i, none⟩) hlg).trans hfg
  have h2b1 : w2.cell? ⟨b, 1, none⟩ = some (.int .i64 wy) := (bcell hB2 b 1 hlb).trans hc1
  have h2g : w2.cell? ⟨g, i, none⟩ = some (.slice A0 xs.length cc0) := (bcell hB2 g i hlg).trans hcg
  have hlb2 : b < w2.heap.size := Nat.lt_of_lt_of_le hlb hB2.size
  have hlg2 : g < w2.heap.size := Nat.lt_of_lt_of_le hlg hB2.size
  have HB2 := Lib.hid hB2
  have HROW2 := Lib.hid hrow2
  have hxl2 : xs.length ≤ 1000000 := by omega
  clear hc0 hc1 hc2 hc3 hcg hfg k1 k2 q1 q2 hb1 hb2 hB2 hrow2 hlb hlg hlb1 hlg1
  try clear hHeld
  have E1 := insert_any (w2.alloc (.cells #[.int .i64 l] 3)) _ xs l w2.heap.size 1 hxl2 (HROW2.out.move (fun k hk => Below.heap_alloc _ _ _ (HROW2.out.lt k hk).1)) (fun k hk e => by have := (HROW2.out.lt k hk).1; omega) (heap_alloc_new w2 _)
  have HNG : Hid (∀ k, (Value.slice A0 xs.length cc0).ownBlock = some k → k ≠ b ∧ k ≠ g) := by show ∀ k, (Value.slice A0 xs.length cc0).ownBlock = some k → k ≠ b ∧ k ≠ g; rw [HVV.out]; exact H.out.rne his
  have K4 := fun w4 (hf4 : Fr (fun k => (Value.slice A0 xs.length cc0).ownBlock = some k) (w2.alloc (.cells #[.int .i64 l] 3)) w4) => keep_cells (w' := w4) hf4 (fun e => (HNG.out b e).1 rfl) (fun e => (HNG.out g e).2 rfl) hlb2 hlg2 h2b1 h2g hfg2
  go_wp2_with (first | (go_at_call 33; ((with_reducible refine D1.mono ?_); rintro e w3 ⟨rfl, rfl⟩)) | (go_at_call 35; ((with_reducible refine E1.mono ?_); rintro e w4 ⟨v', rfl, hr4, ho4, hf4⟩; obtain ⟨A4, c4, rfl, hl4⟩ := hr4.slice; obtain ⟨z1, z2, z3, z4, z5⟩ := K4 w4 hf4; have HR4 := Lib.hid hr4; have HO4 := Lib.hid ho4; have HF4 := Lib.hid hf4; clear hr4 ho4 hf4)))
  have hsl : ∀ W, (Instr.slice 32 (.slice A4 (xs.length + 1) c4) none (some (.int .i64 wy)) none).run Try.prog W = .ok (.slice A4 wy c4) W := slice_take A4 _ c4 wy (by simp at hl4; omega)
  go_quiet (fail)
  go_wp2
  go_region
  go_wp2
  go_ret
  have hh := H.out
  have hB := HB2.out
  have hF : Fr (fun k => k = g ∨ (Value.slice A0 xs.length cc0).ownBlock = some k) w w4 :=
    ((Fr.of_below hB).trans (G := fun _ => False) (Fr.of_below ((Below.refl _ _).alloc (Nat.le_refl _) _)) (fun _ _ h => h.elim)).trans HF4.out (fun k _ hk => .inr hk)
  have hg4 : w4.heap[g]? = some (.cells vs.toArray 32 (0, 0)) := by
    have e1 := HF4.out.block g (by simp; omega) (fun e => (HNG.out g e).2 rfl)
    exact (e1.trans (Below.heap_alloc _ _ _ hlg2)).trans ((hB.block g (lt_of_heap hh.arr)).trans hh.arr)
  obtain ⟨w5, hw5⟩ : ∃ w5, w5 = (w4.setCell ⟨g, i, none⟩ (Value.slice A4 (xs.length + 1) c4)).drewN (nq + 1) := ⟨_, rfl⟩
  rw [← hw5]
  have hF5 : Fr (fun k => k = g ∨ (Value.slice A0 xs.length cc0).ownBlock = some k) w w5 := by
    rw [hw5]
    exact (hF.trans (fr_setCells [_] i _) (fun k _ hk => .inl hk)).trans (G := fun _ => False) (Fr.of_below (Below.drewN_ _ _)) (fun _ _ h => h.elim)
  have hg5 : w5.heap[g]? = some (.cells (vs.set i (Value.slice A4 (xs.length + 1) c4)).toArray 32 (0, 0)) := by
    rw [hw5]
    show (w4.setCell ⟨g, i, none⟩ (Value.slice A4 (xs.length + 1) c4)).heap[g]? = _
    simp only [World.setCell, Array.getElem?_modify, if_pos, hg4]
    simp
  have hne4 : ∀ k, (Value.slice A4 (xs.length + 1) c4).ownBlock = some k → k ≠ g := by
    intro k hk e
    subst e
    obtain ⟨_, cur, hc⟩ := HR4.out.lt k hk
    rw [hg4] at hc
    injection hc with hc
    injection hc with _ hc
    cases hc
  have ht : touch wy l xs = (l :: xs).take wy := by
    unfold touch
    rw [List.erase_of_not_mem HMISS.out]
  have hr5 : Row w5 (.slice A4 wy c4) (touch wy l xs) := by
    rw [ht]
    refine (HR4.out.take (m := wy) (by omega) (by simp; omega)).move (fun k hk => ?_)
    rw [hw5]
    exact Below.heap_setCell _ _ _ _ (hne4 k ((own_len A4 _ _ _ _).trans hk))
  have hput := CacheAt.put2 hh his (by rw [← HVV.out]; exact hF5) hg5 hr5 (fun h => by
    rw [ht] at h
    exfalso
    have := congrArg List.length h
    simp at this
    omega) (by
    rw [← HVV.out]
    rcases HO4.out with h | ⟨k, hk, hk2⟩
    · exact .inl ((own_len A4 _ _ _ _).trans h)
    · refine .inr ⟨k, (own_len A4 _ _ _ _).trans hk, ?_⟩
      have := hB.size
      simp at hk2
      omega)
  exact ⟨ret_bool (by simp [HMISS.out]), hF5.trans (fr_setCells [_] i _) (fun k _ hk => .inl hk), _, hput⟩
end Go.Proofs.Ytgbmbehobemocaa
