/- A part of a node: node.part. Condition: no longer than memory. -/
import Derived.Test.YtnjpibbmgbiofaaNodPiece
import Derived.Deep.RegionHeld3
namespace Go.Proofs.Ytnjpibbmgbiofaa
open Go.RowKit

/-- a node's keys from one up to another, with what goes with them -/
def partN (s : Nd) (a b : Nat) : Nd := ⟨s.leaf, (s.keys.take b).drop a, (s.vals.take b).drop a, (s.kids.take b).drop a⟩
theorem kAt_part (s : Nd) (a b i : Nat) (h : a + i < b) : kAt (partN s a b) i = kAt s (a + i) := by
  unfold kAt partN
  rw [List.getD_eq_getElem?_getD, List.getD_eq_getElem?_getD, List.getElem?_drop, List.getElem?_take_of_lt h]
theorem vAt_part (s : Nd) (a b i : Nat) (h : a + i < b) : vAt (partN s a b) i = vAt s (a + i) := by
  unfold vAt partN
  rw [List.getD_eq_getElem?_getD, List.getD_eq_getElem?_getD, List.getElem?_drop, List.getElem?_take_of_lt h]
theorem dAt_part (s : Nd) (a b i : Nat) (h : a + i < b) : dAt (partN s a b) i = dAt s (a + i) := by
  unfold dAt partN
  rw [List.getD_eq_getElem?_getD, List.getD_eq_getElem?_getD, List.getElem?_drop, List.getElem?_take_of_lt h]
theorem small_cut {l : List ByteArray} (h : ∀ i, (l.getD i .empty).size ≤ 140737488355328) (a b i : Nat) : (((l.take b).drop a).getD i .empty).size ≤ 140737488355328 := by
  by_cases hi : a + i < b
  · have := h (a + i)
    rw [List.getD_eq_getElem?_getD, List.getElem?_drop, List.getElem?_take_of_lt hi, ← List.getD_eq_getElem?_getD]
    exact this
  · rw [List.getD_eq_getElem?_getD, List.getElem?_drop, List.getElem?_take, if_neg hi]
    simp

/-- a node that came out of a call -/
def NodeTo (w : World) (t : Nd) (e : Ending) (w' : World) : Prop :=
  ∃ K nk ck V nv cv D nd cd, e = .returned (.agg #[.bool t.leaf, .slice K nk ck, .slice V nv cv, .slice D nd cd]) ∧ NdR w' w.heap.size t K nk ck V nv cv D nd cd ∧ Below w.heap.size w w'

set_option maxRecDepth 100000 in
set_option maxHeartbeats 2000000 in
theorem part_any (s : Nd) {w : World} {lo : Nat} {K V D : Option Addr} {nk ck nv cv nd cd : Nat} (h : NdR w lo s K nk ck V nv cv D nd cd) (a b : Nat) (hab : a ≤ b) (hb : b ≤ 4611686018427387904) :
    Calls Try.prog 36 #[.agg #[.bool s.leaf, .slice K nk ck, .slice V nv cv, .slice D nd cd], .int .i64 a, .int .i64 b] w (NodeTo w (partN s a b)) := by
  have hz := zero26
  have HR := Lib.hid h
  have HAB := Lib.hid hab
  have HBB := Lib.hid hb
  have k1 := h.kroom
  have v1 := h.vroom
  have d1 := h.droom
  have lk : ((s.keys.take b).drop a).length ≤ nk := by have := h.nk_eq; rw [List.length_drop, List.length_take]; omega
  have lv : ((s.vals.take b).drop a).length ≤ nv := by have := h.nv_eq; rw [List.length_drop, List.length_take]; omega
  have ld : ((s.kids.take b).drop a).length ≤ nd := by have := h.nd_eq; rw [List.length_drop, List.length_take]; omega
  have HL := Lib.hid (And.intro lk (And.intro lv ld))
  clear h lk lv ld hab hb
  go_enter Try.func36, Try.ntmps36
  go_upto_region 1 with fail
  refine wp_world (fun U => Blk U w.heap.size 26 [.bool s.leaf, .slice K nk ck, .slice V nv cv, .slice D nd cd] ∧ Blk U (w.heap.size + 1) 26 [.bool false, .slice none 0 0, .slice none 0 0, .slice none 0 0] ∧ Below w.heap.size w U)
    ⟨(Blk.new w _ [.bool s.leaf, .slice K nk ck, .slice V nv cv, .slice D nd cd]).alloc _, Blk.new_at (cs := [.bool false, .slice none 0 0, .slice none 0 0, .slice none 0 0]) (n := w.heap.size + 1) (by simp), ((Below.refl _ _).alloc (Nat.le_refl _) _).alloc (by simp) _⟩ ?_
  clear hz
  rintro U ⟨B0, B1, b0⟩
  have HB0 := Lib.hid B0
  have HB1 := Lib.hid B1
  have hz0 := B0.lt
  have hz1 := B1.lt
  have c0 := B0.cell 0
  have c1 := B0.cell 1
  have c2 := B0.cell 2
  have c3 := B0.cell 3
  simp only [List.getElem?_cons_zero, List.getElem?_cons_succ] at c0 c1 c2 c3
  clear B0 B1
  have P1 := Lib.hid (piece_str (HR.out.keys.below b0.drew (Nat.le_refl _)) k1 a b HAB.out HBB.out)
  go_region_held3 (fun w' => w'.cell? ⟨w.heap.size, 0, none⟩ = some (.bool s.leaf) ∧ w'.cell? ⟨w.heap.size, 1, none⟩ = some (.slice K nk ck) ∧ w'.cell? ⟨w.heap.size, 2, none⟩ = some (.slice V nv cv) ∧ w'.cell? ⟨w.heap.size, 3, none⟩ = some (.slice D nd cd))
    (first | (exact K7.out) | (exact K6.out) | (exact K5.out) | go_keep)
    (first
      | ((with_reducible refine Calls.mono P1.out ?_); rintro e w5 ⟨A5, m5, c5, rfl, ho5, hb5⟩; have B5 := HB0.out.drew.below hb5 hz0; have N5 := HB1.out.drew.below hb5 hz1; have K5 : Hid (w5.cell? ⟨w.heap.size, 0, none⟩ = some (.bool s.leaf) ∧ w5.cell? ⟨w.heap.size, 1, none⟩ = some (.slice K nk ck) ∧ w5.cell? ⟨w.heap.size, 2, none⟩ = some (.slice V nv cv) ∧ w5.cell? ⟨w.heap.size, 3, none⟩ = some (.slice D nd cd)) := ⟨B5.cell 0, B5.cell 1, B5.cell 2, B5.cell 3⟩; have b5 : Below w.heap.size w w5 := b0.drew.trans (hb5.mono b0.size); have P2 := Lib.hid (piece_str (HR.out.vals.below b5 (Nat.le_refl _)) v1 a b HAB.out HBB.out))
      | ((with_reducible refine Calls.mono P2.out ?_); rintro e w6 ⟨A6, m6, c6, rfl, ho6, hb6⟩; have B6 := B5.below hb6 B5.lt; have N6 := N5.below hb6 N5.lt; have K6 : Hid (w6.cell? ⟨w.heap.size, 0, none⟩ = some (.bool s.leaf) ∧ w6.cell? ⟨w.heap.size, 1, none⟩ = some (.slice K nk ck) ∧ w6.cell? ⟨w.heap.size, 2, none⟩ = some (.slice V nv cv) ∧ w6.cell? ⟨w.heap.size, 3, none⟩ = some (.slice D nd cd)) := ⟨B6.cell 0, B6.cell 1, B6.cell 2, B6.cell 3⟩; have b6 : Below w.heap.size w w6 := b5.trans (hb6.mono b5.size); have P3 := Lib.hid (piece_int (HR.out.kids.below b6 (Nat.le_refl _)) d1 a b HAB.out HBB.out))
      | ((with_reducible refine Calls.mono P3.out ?_); rintro e w7 ⟨A7, m7, c7, rfl, ho7, hb7⟩; have B7 := B6.below hb7 B6.lt; have N7 := N6.below hb7 N6.lt; have K7 : Hid (w7.cell? ⟨w.heap.size, 0, none⟩ = some (.bool s.leaf) ∧ w7.cell? ⟨w.heap.size, 1, none⟩ = some (.slice K nk ck) ∧ w7.cell? ⟨w.heap.size, 2, none⟩ = some (.slice V nv cv) ∧ w7.cell? ⟨w.heap.size, 3, none⟩ = some (.slice D nd cd)) := ⟨B7.cell 0, B7.cell 1, B7.cell 2, B7.cell 3⟩; have rc := N7.cells; have rf := N7.frees; have b7 : Below w.heap.size w w7 := b6.trans (hb7.mono b6.size)))
  go_wp2
  have hB := (((N7.set_ 0 (.bool s.leaf)).set_ 1 (.slice A5 m5 c5)).set_ 2 (.slice A6 m6 c6)).set_ 3 (.slice A7 m7 c7)
  refine bodyPost_ret (results_cell_row rfl _ _ (w.heap.size + 1) 26 #[.bool s.leaf, .slice A5 m5 c5, .slice A6 m6 c6, .slice A7 m7 c7] (0, 0) _ rfl hB Try.underlying26 rfl (by rw [size26]; rfl)) rfl ?_
  have l5 := own_ls ((((((ho5.below hb6 (Nat.le_refl _)).below hb7 (Nat.le_trans (Nat.le_refl _) (Nat.le_refl _))).far (by simp <;> omega) (.bool s.leaf) (p := ⟨w.heap.size + 1, 0, none⟩)).far (by simp <;> omega) (.slice A5 m5 c5) (p := ⟨w.heap.size + 1, 1, none⟩)).far (by simp <;> omega) (.slice A6 m6 c6) (p := ⟨w.heap.size + 1, 2, none⟩)).far (by simp <;> omega) (.slice A7 m7 c7) (p := ⟨w.heap.size + 1, 3, none⟩))
  have l6 := own_ls (((((ho6.below hb7 (Nat.le_refl _)).far (by have := hb5.size; simp at this ⊢; omega) (.bool s.leaf) (p := ⟨w.heap.size + 1, 0, none⟩)).far (by have := hb5.size; simp at this ⊢; omega) (.slice A5 m5 c5) (p := ⟨w.heap.size + 1, 1, none⟩)).far (by have := hb5.size; simp at this ⊢; omega) (.slice A6 m6 c6) (p := ⟨w.heap.size + 1, 2, none⟩)).far (by have := hb5.size; simp at this ⊢; omega) (.slice A7 m7 c7) (p := ⟨w.heap.size + 1, 3, none⟩))
  have l7 := own_ls ((((ho7.far (by have := hb5.size; have := hb6.size; simp at *; omega) (.bool s.leaf) (p := ⟨w.heap.size + 1, 0, none⟩)).far (by have := hb5.size; have := hb6.size; simp at *; omega) (.slice A5 m5 c5) (p := ⟨w.heap.size + 1, 1, none⟩)).far (by have := hb5.size; have := hb6.size; simp at *; omega) (.slice A6 m6 c6) (p := ⟨w.heap.size + 1, 2, none⟩)).far (by have := hb5.size; have := hb6.size; simp at *; omega) (.slice A7 m7 c7) (p := ⟨w.heap.size + 1, 3, none⟩))
  have e5 := l5.1
  have e6 := l6.1
  have e7 := l7.1
  rw [length_sl] at e5 e6
  rw [length_il] at e7
  have hl := HL.out
  have z5 := b0.size
  have z6 := b5.size
  have z7 := b6.size
  exact ⟨A5, m5, c5, A6, m6, c6, A7, m7, c7, rfl,
    ⟨l5.weak (by simp; omega), l6.weak (by omega), l7.weak (by omega), fun i => small_cut HR.out.ksmall a b i, fun i => small_cut HR.out.vsmall a b i, by omega, by omega, by omega⟩,
    (((b7.setCell (by simp) _).setCell (by simp) _).setCell (by simp) _).setCell (by simp) _⟩
end Go.Proofs.Ytnjpibbmgbiofaa
