/- A sector gets versions that lie in a new block. No condition. -/
import Derived.Test.YtnclebnodkkgnaaDkDel
import Derived.Test.YtnclebnodkkgnaaFlat
namespace Go.Proofs.Ytnclebnodkkgnaa
open Go.RowKit Go.Maps

def setV (s : Dsk) (k : Nat) (ls : List (List UInt8)) : Dsk := { s with vers := fun j => if j = k then ls else s.vers j }
section
variable {w w1 w2 : World} {base : Nat} {d : Dw} {s : Dsk}
/-- a sector gets versions that lie in a new block -/
theorem Dk.setv (h : Dk w base d s) {k : Nat} (hk : k < s.n) {ls : List (List UInt8)} (hx : ∀ x ∈ ls, x.length = 256) (hne : ls ≠ []) {A' : Option Addr} {c' m : Nat} {D : DataW Value}
    (ho : Own w1 base 93 256 A' ls.length c' (bvs ls.flatten)) (hg : w.grownBy w1 none) (hf : ∃ b, ablk A' = some b ∧ w.heap.size ≤ b)
    (hD : MapD w d s D) (hm : w2.ownsMap Try.prog 3 RV d.M m (D.put (kl k) (.held (.slice A' ls.length c')))) (hg2 : w1.grownBy w2 (some d.M)) :
    Dk w2 base (d.put k ⟨A', c'⟩) (setV s k ls) ∧ Kept (fun b => b = d.M) w w2 ∧ ∀ b, (d.put k ⟨A', c'⟩).foot b → d.foot b ∨ w.heap.size ≤ b := by
  have hsm := h.small
  have K1 : Kept (fun b => b = d.M) w w1 := Kept.of_grown hg (fun b e => by cases e)
  have K2 : Kept (fun b => b = d.M) w1 w2 := Kept.of_grown hg2 (fun b e => (Option.some.inj e).symm)
  have K : Kept (fun b => b = d.M) w w2 := K1.trans K2 (fun b _ e => e)
  have hkk : ∀ j, j ≠ k → (d.put k ⟨A', c'⟩).v j = d.v j := fun j hj => by show (if j = k then _ else _) = _; rw [if_neg hj]
  have hks : (d.put k ⟨A', c'⟩).v k = ⟨A', c'⟩ := by show (if k = k then _ else _) = _; rw [if_pos rfl]
  have hvk : ∀ j, j ≠ k → (setV s k ls).vers j = s.vers j := fun j hj => by show (if j = k then _ else _) = _; rw [if_neg hj]
  have hvs : (setV s k ls).vers k = ls := by show (if k = k then _ else _) = _; rw [if_pos rfl]
  have hAM : ablk A' ≠ some d.M := fun e => by
    obtain ⟨b, h1, h2⟩ := hf
    rw [h1] at e; have := Option.some.inj e; have := h.mlt; omega
  have hAo : ∀ j b, j ≠ k → ablk (d.v j).A = some b → ablk A' ≠ some b := fun j b hj hb e => by
    obtain ⟨b', h1, h2⟩ := hf
    rw [h1] at e; have := Option.some.inj e; have := h.vlt hb; omega
  refine ⟨⟨K.blk h.blk ?_, Nat.lt_of_lt_of_le h.llt K.size, fun j hj => range_kept (h.lies j hj) (K.block d.L h.llt ?_), there_kept h.there (K.block d.L h.llt ?_), ?_, fun j hj => ?_, fun j hj => ?_, fun i j hij => ?_, fun j => ?_, fun j hj => ?_, h.small, h.left, h.bases, h.ne, rowAt_block h.lty (K.block d.L h.llt (fun e => h.ne.2.2 e.symm))⟩, K.mono (fun b _ e => ?_), fun b hb => ?_⟩
  · intro e
    exact h.ne.2.1 e.symm
  · intro e
    exact h.ne.2.2 e.symm
  · intro e
    exact h.ne.2.2 e.symm
  · have hkeys : ∀ y, has (D.put (kl k) (.held (.slice A' ls.length c'))) y = true → ∃ j, j < s.n ∧ y = kl j ∧ (setV s k ls).vers j ≠ [] := fun y hy => by
      by_cases e : y = kl k
      · exact ⟨k, hk, e, by rw [hvs]; exact hne⟩
      · rw [has_put_other e] at hy
        obtain ⟨j, hj, e2, h2⟩ := hD.2.2 y hy
        have hjk : j ≠ k := fun e3 => e (by rw [e2, e3])
        exact ⟨j, hj, e2, by rw [hvk j hjk]; exact h2⟩
    refine ⟨_, owns_tight hm (show s.n ≤ 9223372036854775807 by omega) (fun y hy => by obtain ⟨j, h1, h2, _⟩ := hkeys y hy; exact ⟨j, h1, h2⟩), fun j hj => ?_, hkeys⟩
    by_cases e : j = k
    · subst e
      rw [atKey_put_same (hD.1.tidy law3).isMap (law3.key (key_kl j (by omega)))]
      rw [hks, hvs]
    · rw [atKey_put_other (kl_ne e), hD.2.1 j hj, hkk j e, hvk j e]
  · by_cases e : j = k
    · subst e
      rw [hks, hvs]
      exact ho.keep hg2 (.inr hAM)
    · rw [hkk j e, hvk j e]
      refine own_kept (h.vers j hj) K (fun b hb => ?_)
      intro e2
      subst e2; exact h.apM j hb
  · have e : j ≠ k := fun e => by have : s.n ≤ j := hj; omega
    rw [hkk j e]
    exact h.out j hj
  · by_cases e1 : i = k
    · subst e1
      rw [hks, hkk j (Ne.symm hij)]
      cases hb : ablk (d.v j).A with
      | none => cases hA : ablk A' with
        | none => exact .inl rfl
        | some a => exact .inr (by simp)
      | some b => exact .inr (hAo j b (Ne.symm hij) hb)
    · by_cases e2 : j = k
      · subst e2
        rw [hks, hkk i e1]
        cases hb : ablk (d.v i).A with
        | none => exact .inl rfl
        | some b => exact .inr (fun e => hAo i b e1 hb e.symm)
      · rw [hkk i e1, hkk j e2]
        exact h.apart i j hij
  · by_cases e : j = k
    · subst e
      rw [hks]
      show ablk A' ≠ some d.L
      intro e2
      obtain ⟨b, h1, h2⟩ := hf
      rw [h1] at e2; have := Option.some.inj e2; have := h.llt; omega
    · rw [hkk j e]; exact h.apL j
  · refine ⟨(h.len j hj).1, fun y hy => ?_⟩
    by_cases e : j = k
    · subst e
      rw [hvs] at hy
      exact hx y hy
    · rw [hvk j e] at hy; exact (h.len j hj).2 y hy
  · exact e
  · rcases hb with hb | hb | hb | ⟨j, hb⟩
    · exact .inl (.inl hb)
    · exact .inl (.inr (.inl hb))
    · exact .inl (.inr (.inr (.inl hb)))
    · by_cases e : j = k
      · subst e
        rw [hks] at hb
        obtain ⟨b', h1, h2⟩ := hf
        rw [show ablk A' = some b' from h1] at hb
        exact .inr (by have := Option.some.inj hb; omega)
      · rw [hkk j e] at hb
        exact .inl (.inr (.inr (.inr ⟨j, hb⟩)))
end
end Go.Proofs.Ytnclebnodkkgnaa
namespace Go.Proofs.Ytnclebnodkkgnaa
open Go.RowKit Go.Maps
set_option linter.unusedSimpArgs false
set_option linter.unusedVariables false

theorem range_rd {w : World} {b o : Nat} {xs : List Value} (h : w.rangeAt b o xs) (hb : b < w.heap.size) : Rd w 0 (some ⟨b, o, none⟩) xs := fun _ =>
  ⟨b, o, rfl, Nat.zero_le _, hb, fun k hk => h k _ (List.getElem?_eq_getElem hk)⟩

set_option maxRecDepth 100000 in
set_option maxHeartbeats 400000 in
theorem clone93 {b o n c : Nat} {l : List UInt8} {w : World} (h : w.rangeAt b o (bvs l)) (hl : l.length = n * 256) (hb : b < w.heap.size) (hn : n ≤ 549755813887) :
    Calls Try.prog 63 #[.slice (some ⟨b, o, none⟩) n c] w fun e w' => ∃ A' c', e = .returned (.slice A' n c') ∧ Own w' w.heap.size 93 256 A' n c' (bvs l) ∧ Below w.heap.size w w' := by
  have hr := range_rd h hb
  have HL := Lib.hid hl
  have HR := Lib.hid hr
  clear hl h hr
  have q1 := Lib.run_eql_slice_nil (P := Try.prog) w 84 93 (some ⟨b, o, none⟩) n c 0 0 Try.underlying84
  go_enter Try.func63, Try.ntmps63
  go_wp2_with (at_builtin; refine wpList_app rfl (.tmp 5) (.tmp 6) 84 rfl 93 256 Try.underlying84 info93f (by simp [Value.cells]) (by omega) rfl (Own.lit _ _ [] (n := 0) (base := w.heap.size) (by omega) rfl (Nat.le_refl _) rfl) rfl (HR.out.below (B := w.heap.size) ((Below.refl _ _).alloc (Nat.le_refl _) _) (Nat.le_refl _)) (by rw [length_bvs, HL.out]) (bvs_oneCell _) (by omega) (by omega) (by simp) ?_; intro A1 c1 w1 ho1 hg1 _)
  have b1 := below_own (w0 := w) ((Below.refl _ _).alloc (Nat.le_refl _) _) (Own.lit (s := 256) _ 93 [] (n := 0) (base := w.heap.size) (by omega) rfl (Nat.le_refl _) rfl) hg1 (Nat.le_refl _) (by simp)
  rw [Nat.zero_add] at ho1
  go_ret
  exact ⟨A1, c1, rfl, ho1, b1⟩

/-- sectors that lie side by side -/
def rowOf (f : Nat → List UInt8) (n : Nat) : List UInt8 := (List.range n).flatMap f
theorem rowOf_len {f : Nat → List UInt8} {n : Nat} (hf : ∀ k, k < n → (f k).length = 256) : (rowOf f n).length = n * 256 := flat_len hf
theorem row_range {w : World} {b n : Nat} {f : Nat → List UInt8} (hf : ∀ k, k < n → (f k).length = 256) (h : ∀ k, k < n → w.rangeAt b (k * 256) (bvs (f k))) : w.rangeAt b 0 (bvs (rowOf f n)) := fun j v hv => by
  have hj : j < n * 256 := by have := (List.getElem?_eq_some_iff.1 hv).1; rw [length_bvs, rowOf_len hf] at this; exact this
  have hk : j / 256 < n := by omega
  have hg := flat_get hf hk (show j % 256 < 256 by omega)
  rw [show j / 256 * 256 + j % 256 = j by omega] at hg
  have := h (j / 256) hk (j % 256) v (by
    rw [← hv, bvs, bvs, List.getElem?_map, List.getElem?_map]
    unfold rowOf
    rw [hg])
  rw [show j / 256 * 256 + j % 256 = 0 + j by omega] at this
  exact this
theorem range_row {w : World} {b n : Nat} {f : Nat → List UInt8} (hf : ∀ k, k < n → (f k).length = 256) (h : w.rangeAt b 0 (bvs (rowOf f n))) {k : Nat} (hk : k < n) : w.rangeAt b (k * 256) (bvs (f k)) := fun j v hv => by
  have hj : j < 256 := by have := (List.getElem?_eq_some_iff.1 hv).1; rw [length_bvs, hf k hk] at this; exact this
  have hg := flat_get hf hk hj
  have := h (k * 256 + j) v (by
    rw [← hv, bvs, bvs, List.getElem?_map, List.getElem?_map]
    unfold rowOf
    rw [hg])
  rw [Nat.zero_add] at this
  exact this

/-- a disk that was just made, without versions -/
def bareD (s : Dsk) : Dsk := { s with vers := fun _ => [], cut := false, left := 0 }
def bareW (gL c g : Nat) : Dw := ⟨g + 1, gL, g, fun _ => ⟨none, 0⟩, c⟩
theorem Dk.bare {w : World} {base : Nat} {d : Dw} {s : Dsk} (h : Dk w base d s) {w1 : World} {gL c : Nat} (hb : Below w.heap.size w w1) (ho : Own w1 w.heap.size 93 256 (some ⟨gL, 0, none⟩) s.n c (bvs (rowOf s.lies s.n))) :
    Dk ((w1.alloc (.map #[] 0)).alloc (.cells #[.slice (some ⟨gL, 0, none⟩) s.n c, .map (some w1.heap.size), .bool false, .int .i64 0] 87)) w.heap.size (bareW gL c w1.heap.size) (bareD s) := by
  have hsm := h.small
  have hz := hb.size
  obtain ⟨hgb, hgl⟩ := ho.blk (show ablk (some (⟨gL, 0, none⟩ : Addr)) = some gL from rfl)
  have h2 : Below w1.heap.size w1 ((w1.alloc (.map #[] 0)).alloc (.cells #[.slice (some ⟨gL, 0, none⟩) s.n c, .map (some w1.heap.size), .bool false, .int .i64 0] 87)) := ((Below.refl _ _).alloc (Nat.le_refl _) _).alloc (by simp) _
  have hr := rd_range ho.rd
  have hrow : ∀ k, k < s.n → w1.rangeAt gL (k * 256) (bvs (s.lies k)) := fun k hk => range_row (fun k hk => (h.len k hk).1) hr hk
  have hth : w1.there gL 0 (s.n * 256) := fun j hj => by
    have hl : (bvs (rowOf s.lies s.n)).length = s.n * 256 := by rw [length_bvs, rowOf_len (fun k hk => (h.len k hk).1)]
    have hc := hr j _ (List.getElem?_eq_getElem (show j < (bvs (rowOf s.lies s.n)).length by omega))
    refine ⟨by rw [hc]; rfl, ?_⟩
    rcases ho.cases with ⟨h0, _⟩ | ⟨g, cur, hA, _, hh, _⟩
    · cases h0
    · injection hA with hA
      injection hA with hA
      subst hA
      simp [World.frozen?, hh]
  have hblk : ∀ k, k < w1.heap.size → ((w1.alloc (.map #[] 0)).alloc (.cells #[.slice (some ⟨gL, 0, none⟩) s.n c, .map (some w1.heap.size), .bool false, .int .i64 0] 87)).heap[k]? = w1.heap[k]? := fun k hk => h2.block k hk
  refine ⟨?_, by simp [bareW]; omega, fun k hk => range_kept (hrow k hk) (hblk gL hgl), there_kept hth (hblk gL hgl), ⟨.map [], ?_, fun k hk => ?_, fun x hx => ?_⟩, fun k hk => Own.nil_ _ _ _ _, fun k _ => rfl, fun j k _ => .inl rfl, fun k => by simp [bareW], fun k hk => ⟨(h.len k hk).1, fun x hx => by cases hx⟩, h.small, ⟨by show (-9223372036854775808 : Int) ≤ 0; omega, by show (0 : Int) ≤ 9223372036854775807; omega⟩, ⟨by show w.heap.size ≤ w1.heap.size + 1; omega, hgb, hz⟩, ⟨by show gL ≠ w1.heap.size + 1; omega, by show w1.heap.size ≠ w1.heap.size + 1; omega, by show w1.heap.size ≠ gL; omega⟩, ?_⟩
  · exact Blk.new_at (cs := [.slice (some ⟨gL, 0, none⟩) s.n c, .map (some w1.heap.size), .bool false, .int .i64 0]) (by simp [bareW])
  · exact ((World.ownsMap_made (H := Value) w1 Try.prog 3 RV).alloc (.cells #[.slice (some ⟨gL, 0, none⟩) s.n c, .map (some w1.heap.size), .bool false, .int .i64 0] 87)).mono (Nat.zero_le _)
  · rfl
  · cases hx
  · rcases ho.cases with ⟨h0, _⟩ | ⟨g, cur, hA, _, hh, _⟩
    · cases h0
    · injection hA with hA
      injection hA with hA
      subst hA
      exact ⟨cur, (hblk gL hgl).trans hh⟩
end Go.Proofs.Ytnclebnodkkgnaa
