/- Two nodes joined: node.Join. (Printed by gen_nodjoin.py.) Condition: no longer than memory. -/
import Derived.Test.YtdakohbfibcjeaaNodCat
import Derived.Test.YtdakohbfibcjeaaTvI
import Derived.Test.YtdakohbfibcjeaaTvD
namespace Go.Proofs.Ytdakohbfibcjeaa
open Go.RowKit
set_option linter.unusedSimpArgs false
set_option linter.unusedVariables false

def joinN (p q : Nd) : Nd := ⟨p.leaf, p.keys ++ q.keys, p.vals ++ q.vals, p.kids ++ q.kids⟩
theorem small_app {a b : List ByteArray} (ha : ∀ i, (a.getD i .empty).size ≤ 140737488355328) (hb : ∀ i, (b.getD i .empty).size ≤ 140737488355328) (i : Nat) : ((a ++ b).getD i .empty).size ≤ 140737488355328 := by
  by_cases h : i < a.length
  · rw [List.getD_eq_getElem?_getD, List.getElem?_append_left h, ← List.getD_eq_getElem?_getD]; exact ha i
  · rw [List.getD_eq_getElem?_getD, List.getElem?_append_right (by omega), ← List.getD_eq_getElem?_getD]; exact hb _
/-- the heap while two nodes are joined -/
structure JnW (w W : World) (av bv : List Value) : Prop where
  a : Blk W w.heap.size 59 av
  b : Blk W (w.heap.size + 1) 59 bv
  res : Blk W (w.heap.size + 2) 59 [.bool false, .slice none 0 0, .slice none 0 0, .slice none 0 0]
  below : Below w.heap.size w W
  high : w.heap.size + 3 ≤ W.heap.size
section
variable {w W W' : World} {av bv : List Value}
theorem JnW.under (h : JnW w W av bv) (hb : Below W.heap.size W W') : JnW w W' av bv := ⟨h.a.below hb h.a.lt, h.b.below hb h.b.lt, h.res.below hb h.res.lt, h.below.trans (hb.mono h.below.size), Nat.le_trans h.high hb.size⟩
theorem JnW.drew (h : JnW w W av bv) : JnW w W.drew av bv := ⟨h.a, h.b, h.res, h.below.drew, h.high⟩
theorem JnW.alloc (h : JnW w W av bv) (o : Obj) : JnW w (W.alloc o) av bv := h.under ((Below.refl _ _).alloc (Nat.le_refl _) _)
theorem JnW.init (a0 a1 a2 a3 b0 b1 b2 b3 : Value) : JnW w (((w.alloc (.cells #[a0, a1, a2, a3] 59)).alloc (.cells #[b0, b1, b2, b3] 59)).alloc (.cells #[.bool false, .slice none 0 0, .slice none 0 0, .slice none 0 0] 59)) [a0, a1, a2, a3] [b0, b1, b2, b3] :=
  ⟨((Blk.new w _ [a0, a1, a2, a3]).alloc _).alloc _, (Blk.new_at (cs := [b0, b1, b2, b3]) (n := w.heap.size + 1) (by simp)).alloc _, Blk.new_at (cs := [.bool false, .slice none 0 0, .slice none 0 0, .slice none 0 0]) (n := w.heap.size + 2) (by simp),
    (((Below.refl _ _).alloc (Nat.le_refl _) _).alloc (by simp) _).alloc (by simp; omega) _, by simp⟩
end

theorem join_end {p q : Nd} {w W : World} {lo lo2 : Nat} {K V D K' V' D' : Option Addr} {nk ck nv cv nd cd nk' ck' nv' cv' nd' cd' : Nat} (h : NdR w lo p K nk ck V nv cv D nd cd) (h2 : NdR w lo2 q K' nk' ck' V' nv' cv' D' nd' cd')
    (hk : nk + nk' ≤ 8796093022208) (hv : nv + nv' ≤ 8796093022208) (hd : nd + nd' ≤ 17592186044416) {av bv : List Value} (J : JnW w W av bv) {A7 A13 A19 : Option Addr} {m7 c7 m13 c13 m19 c19 : Nat}
    (o7 : Own W (w.heap.size + 3) 9 1 A7 m7 c7 (sl (p.keys ++ q.keys))) (o13 : Own W (w.heap.size + 3) 9 1 A13 m13 c13 (sl (p.vals ++ q.vals))) (o19 : Own W (w.heap.size + 3) 3 1 A19 m19 c19 (il (p.kids ++ q.kids))) {x0 x1 x2 x3 : Value} :
    NodeTo w (joinN p q) (.returned (.agg #[.bool p.leaf, .slice A7 m7 c7, .slice A13 m13 c13, .slice A19 m19 c19])) ((((W.setCell ⟨w.heap.size + 2, 0, none⟩ x0).setCell ⟨w.heap.size + 2, 1, none⟩ x1).setCell ⟨w.heap.size + 2, 2, none⟩ x2).setCell ⟨w.heap.size + 2, 3, none⟩ x3) := by
  have e7 := (own_ls o7).1
  have e13 := (own_ls o13).1
  have e19 := (own_ls o19).1
  rw [length_sl, List.length_append] at e7 e13
  rw [length_il, List.length_append] at e19
  have a1 := h.nk_eq
  have a2 := h.nv_eq
  have a3 := h.nd_eq
  have b1 := h2.nk_eq
  have b2 := h2.nv_eq
  have b3 := h2.nd_eq
  exact ⟨A7, m7, c7, A13, m13, c13, A19, m19, c19, rfl,
    ⟨(own_ls ((((o7.far (by simp) _).far (by simp) _).far (by simp) _).far (by simp) _)).weak (by omega), (own_ls ((((o13.far (by simp) _).far (by simp) _).far (by simp) _).far (by simp) _)).weak (by omega), (own_ls ((((o19.far (by simp) _).far (by simp) _).far (by simp) _).far (by simp) _)).weak (by omega),
      fun i => small_app h.ksmall h2.ksmall i, fun i => small_app h.vsmall h2.vsmall i, by omega, by omega, by omega⟩,
    (((J.below.setCell (by simp) _).setCell (by simp) _).setCell (by simp) _).setCell (by simp) _⟩

set_option maxRecDepth 100000 in
set_option maxHeartbeats 8000000 in
theorem join_any (p q : Nd) {w : World} {lo lo2 : Nat} {K V D K' V' D' : Option Addr} {nk ck nv cv nd cd nk' ck' nv' cv' nd' cd' : Nat} (h : NdR w lo p K nk ck V nv cv D nd cd) (h2 : NdR w lo2 q K' nk' ck' V' nv' cv' D' nd' cd')
    (hk : nk + nk' ≤ 8796093022208) (hv : nv + nv' ≤ 8796093022208) (hd : nd + nd' ≤ 17592186044416) :
    Calls Try.prog 46 #[.agg #[.bool p.leaf, .slice K nk ck, .slice V nv cv, .slice D nd cd], .agg #[.bool q.leaf, .slice K' nk' ck', .slice V' nv' cv', .slice D' nd' cd']] w (NodeTo w (joinN p q)) := by
  have hz := zero26
  have HP := Lib.hid h
  have HQ := Lib.hid h2
  have HK := Lib.hid hk
  have HV := Lib.hid hv
  have HD := Lib.hid hd
  clear h h2 hk hv hd
  go_enter Try.func46, Try.ntmps46
  go_upto_region 1 with fail
  refine wp_world (fun U => JnW w U [.bool p.leaf, .slice K nk ck, .slice V nv cv, .slice D nd cd] [.bool q.leaf, .slice K' nk' ck', .slice V' nv' cv', .slice D' nd' cd']) (JnW.init _ _ _ _ _ _ _ _) ?_
  clear hz
  rintro U J0
  refine wp_region_last (S := fun w' => w'.cell? ⟨w.heap.size, 0, none⟩ = some (.bool p.leaf) ∧ w'.cell? ⟨w.heap.size, 1, none⟩ = some (.slice K nk ck) ∧ w'.cell? ⟨w.heap.size, 2, none⟩ = some (.slice V nv cv) ∧ w'.cell? ⟨w.heap.size, 3, none⟩ = some (.slice D nd cd) ∧ w'.cell? ⟨w.heap.size + 1, 1, none⟩ = some (.slice K' nk' ck') ∧ w'.cell? ⟨w.heap.size + 1, 2, none⟩ = some (.slice V' nv' cv') ∧ w'.cell? ⟨w.heap.size + 1, 3, none⟩ = some (.slice D' nd' cd')) 21 (by kernel_rfl) rfl (by kernel_rfl) ?_ ?_
  · exact ⟨J0.drew.a.cell 0, J0.drew.a.cell 1, J0.drew.a.cell 2, J0.drew.a.cell 3, J0.drew.b.cell 1, J0.drew.b.cell 2, J0.drew.b.cell 3⟩
  intro hHeld
  simp only [List.take_succ_cons, List.take_zero]
  refine wpAnyH_take (i := 0) (v := ?_) (by simp only [List.getElem?_toArray, List.getElem?_cons_succ, List.getElem?_cons_zero]; rfl) (by kernel_rfl) (by kernel_rfl) (by kernel_rfl) (fun _ _ _ h => h) (Or.inl ⟨by rfl, ?_⟩) hHeld ?_
  rotate_left
  · intro wz hSw; (try dsimp only at hSw); go_simp; try with_reducible rfl
  (try simp only [Act.put, List.setIfInBounds_toArray, List.set_cons_zero, List.set_cons_succ])
  refine wpAnyH_take (i := 1) (v := ?_) (by simp only [List.getElem?_toArray, List.getElem?_cons_succ, List.getElem?_cons_zero]; rfl) (by kernel_rfl) (by kernel_rfl) (by kernel_rfl) (fun _ _ _ h => h) (Or.inl ⟨by rfl, ?_⟩) hHeld ?_
  rotate_left
  · intro wz hSw; (try dsimp only at hSw); go_simp; try with_reducible rfl
  (try simp only [Act.put, List.setIfInBounds_toArray, List.set_cons_zero, List.set_cons_succ])
  refine wpAnyH_take (i := 2) (v := ?_) (by simp only [List.getElem?_toArray, List.getElem?_cons_succ, List.getElem?_cons_zero]; rfl) (by kernel_rfl) (by kernel_rfl) (by kernel_rfl) (fun _ _ _ h => h) (Or.inl ⟨by rfl, ?_⟩) hHeld ?_
  rotate_left
  · intro wz hSw; (try dsimp only at hSw); go_simp; try with_reducible rfl
  (try simp only [Act.put, List.setIfInBounds_toArray, List.set_cons_zero, List.set_cons_succ])
  refine wpAnyH_take (i := 3) (v := ?_) (by simp only [List.getElem?_toArray, List.getElem?_cons_succ, List.getElem?_cons_zero]; rfl) (by kernel_rfl) (by kernel_rfl) (by kernel_rfl) (fun _ _ _ h => h) (Or.inl ⟨by rfl, ?_⟩) hHeld ?_
  rotate_left
  · intro wz hSw; (try dsimp only at hSw); go_simp; try with_reducible rfl
  (try simp only [Act.put, List.setIfInBounds_toArray, List.set_cons_zero, List.set_cons_succ])
  refine wpAnyH_take (i := 4) (v := ?_) (by simp only [List.getElem?_toArray, List.getElem?_cons_succ, List.getElem?_cons_zero]; rfl) (by kernel_rfl) (by kernel_rfl) (by kernel_rfl) (fun _ _ _ h => h) (Or.inl ⟨by rfl, ?_⟩) hHeld ?_
  rotate_left
  · intro wz hSw; (try dsimp only at hSw); go_simp; try with_reducible rfl
  (try simp only [Act.put, List.setIfInBounds_toArray, List.set_cons_zero, List.set_cons_succ])
  refine wpAnyH_take (i := 5) (v := ?_) (by simp only [List.getElem?_toArray, List.getElem?_cons_succ, List.getElem?_cons_zero]; rfl) (by kernel_rfl) (by kernel_rfl) (by kernel_rfl) (fun _ _ _ h => h) (Or.inl ⟨by rfl, ?_⟩) hHeld ?_
  rotate_left
  · intro wz hSw; (try dsimp only at hSw); go_simp; try with_reducible rfl
  (try simp only [Act.put, List.setIfInBounds_toArray, List.set_cons_zero, List.set_cons_succ])
  refine wpAnyH_take (i := 8) (v := ?_) (by simp only [List.getElem?_toArray, List.getElem?_cons_succ, List.getElem?_cons_zero]; rfl) (by kernel_rfl) (by kernel_rfl) (by kernel_rfl) (fun _ _ _ h => h) (Or.inl ⟨by rfl, ?_⟩) hHeld ?_
  rotate_left
  · intro wz hSw; (try dsimp only at hSw); go_simp; try with_reducible rfl
  (try simp only [Act.put, List.setIfInBounds_toArray, List.set_cons_zero, List.set_cons_succ])
  refine wpAnyH_take (i := 9) (v := ?_) (by simp only [List.getElem?_toArray, List.getElem?_cons_succ, List.getElem?_cons_zero]; rfl) (by kernel_rfl) (by kernel_rfl) (by kernel_rfl) (fun _ _ _ h => h) (Or.inl ⟨by rfl, ?_⟩) hHeld ?_
  rotate_left
  · intro wz hSw; (try dsimp only at hSw); go_simp; try with_reducible rfl
  (try simp only [Act.put, List.setIfInBounds_toArray, List.set_cons_zero, List.set_cons_succ])
  refine wpAnyH_take (i := 10) (v := ?_) (by simp only [List.getElem?_toArray, List.getElem?_cons_succ, List.getElem?_cons_zero]; rfl) (by kernel_rfl) (by kernel_rfl) (by kernel_rfl) (fun _ _ _ h => h) (Or.inl ⟨by rfl, ?_⟩) hHeld ?_
  rotate_left
  · intro wz hSw; (try dsimp only at hSw); go_simp; try with_reducible rfl
  (try simp only [Act.put, List.setIfInBounds_toArray, List.set_cons_zero, List.set_cons_succ])
  refine wpAnyH_take (i := 11) (v := ?_) (by simp only [List.getElem?_toArray, List.getElem?_cons_succ, List.getElem?_cons_zero]; rfl) (by kernel_rfl) (by kernel_rfl) (by kernel_rfl) (fun _ _ _ h => h) (Or.inl ⟨by rfl, ?_⟩) hHeld ?_
  rotate_left
  · intro wz hSw; (try dsimp only at hSw); go_simp; try with_reducible rfl
  (try simp only [Act.put, List.setIfInBounds_toArray, List.set_cons_zero, List.set_cons_succ])
  refine wpAnyH_take (i := 14) (v := ?_) (by simp only [List.getElem?_toArray, List.getElem?_cons_succ, List.getElem?_cons_zero]; rfl) (by kernel_rfl) (by kernel_rfl) (by kernel_rfl) (fun _ _ _ h => h) (Or.inl ⟨by rfl, ?_⟩) hHeld ?_
  rotate_left
  · intro wz hSw; (try dsimp only at hSw); go_simp; try with_reducible rfl
  (try simp only [Act.put, List.setIfInBounds_toArray, List.set_cons_zero, List.set_cons_succ])
  refine wpAnyH_take (i := 15) (v := ?_) (by simp only [List.getElem?_toArray, List.getElem?_cons_succ, List.getElem?_cons_zero]; rfl) (by kernel_rfl) (by kernel_rfl) (by kernel_rfl) (fun _ _ _ h => h) (Or.inl ⟨by rfl, ?_⟩) hHeld ?_
  rotate_left
  · intro wz hSw; (try dsimp only at hSw); go_simp; try with_reducible rfl
  (try simp only [Act.put, List.setIfInBounds_toArray, List.set_cons_zero, List.set_cons_succ])
  refine wpAnyH_take (i := 16) (v := ?_) (by simp only [List.getElem?_toArray, List.getElem?_cons_succ, List.getElem?_cons_zero]; rfl) (by kernel_rfl) (by kernel_rfl) (by kernel_rfl) (fun _ _ _ h => h) (Or.inl ⟨by rfl, ?_⟩) hHeld ?_
  rotate_left
  · intro wz hSw; (try dsimp only at hSw); go_simp; try with_reducible rfl
  (try simp only [Act.put, List.setIfInBounds_toArray, List.set_cons_zero, List.set_cons_succ])
  refine wpAnyH_take (i := 17) (v := ?_) (by simp only [List.getElem?_toArray, List.getElem?_cons_succ, List.getElem?_cons_zero]; rfl) (by kernel_rfl) (by kernel_rfl) (by kernel_rfl) (fun _ _ _ h => h) (Or.inl ⟨by rfl, ?_⟩) hHeld ?_
  rotate_left
  · intro wz hSw; (try dsimp only at hSw); go_simp; try with_reducible rfl
  (try simp only [Act.put, List.setIfInBounds_toArray, List.set_cons_zero, List.set_cons_succ])
  have J1 := J0.drew
  clear J0
  generalize U.drew = W1 at *
  refine wpAnyH_ready (rs := [6, 12, 18]) (by kernel_rfl) (by simp) ?_
  refine AllReadyH.cons (by simp only [List.getElem?_toArray, List.getElem?_cons_succ, List.getElem?_cons_zero]; rfl) (fun KK hK => ?_) (AllReadyH.cons (by simp only [List.getElem?_toArray, List.getElem?_cons_succ, List.getElem?_cons_zero]; rfl) (fun KK hK => ?_) (AllReadyH.cons (by simp only [List.getElem?_toArray, List.getElem?_cons_succ, List.getElem?_cons_zero]; rfl) (fun KK hK => ?_) AllReadyH.nil))
  · go_simp
    refine hK.out _ _ ?_ (fun hHeld => ?_)
    · exact ⟨(J1.alloc _).a.cell 0, (J1.alloc _).a.cell 1, (J1.alloc _).a.cell 2, (J1.alloc _).a.cell 3, (J1.alloc _).b.cell 1, (J1.alloc _).b.cell 2, (J1.alloc _).b.cell 3⟩
    clear hK KK
    (try simp only [Act.put, List.setIfInBounds_toArray, List.set_cons_zero, List.set_cons_succ])
    have J2 := J1.alloc (.cells #[.slice K nk ck, .slice K' nk' ck'] 56)
    have B6_2 := Blk.new W1 56 [.slice K nk ck, .slice K' nk' ck']
    have hw2 : Below W1.heap.size W1 (W1.alloc (.cells #[.slice K nk ck, .slice K' nk' ck'] 56)) := (Below.refl _ _).alloc (Nat.le_refl _) _
    change Blk (W1.alloc (.cells #[.slice K nk ck, .slice K' nk' ck'] 56)) _ _ _ at B6_2
    generalize W1.alloc (.cells #[.slice K nk ck, .slice K' nk' ck'] 56) = W2 at *
    clear J1 hw2
    refine wpAnyH_ready (rs := [7, 12, 18]) (by kernel_rfl) (by simp) ?_
    refine AllReadyH.cons (by simp only [List.getElem?_toArray, List.getElem?_cons_succ, List.getElem?_cons_zero]; rfl) (fun KK hK => ?_) (AllReadyH.cons (by simp only [List.getElem?_toArray, List.getElem?_cons_succ, List.getElem?_cons_zero]; rfl) (fun KK hK => ?_) (AllReadyH.cons (by simp only [List.getElem?_toArray, List.getElem?_cons_succ, List.getElem?_cons_zero]; rfl) (fun KK hK => ?_) AllReadyH.nil))
    · have C3 := Lib.hid (cat_str B6_2 ((HP.out.keys.below J2.below (Nat.le_refl _)).weak (Nat.zero_le _)) ((HQ.out.keys.below J2.below (Nat.le_refl _)).weak (Nat.zero_le _)) HK.out)
      go_simp; ((with_reducible refine Calls.mono C3.out ?_); rintro e W3 ⟨A7, m7, c7, rfl, ho, hw3⟩; have J3 := J2.under hw3); go_wp2_with fail
      refine hK.out _ _ ?_ (fun hHeld => ?_)
      · exact ⟨J3.a.cell 0, J3.a.cell 1, J3.a.cell 2, J3.a.cell 3, J3.b.cell 1, J3.b.cell 2, J3.b.cell 3⟩
      clear hK KK
      (try simp only [Act.put, List.setIfInBounds_toArray, List.set_cons_zero, List.set_cons_succ])
      have O7_3 := ho.weak J2.high
      clear ho C3 J2 hw3 B6_2
      refine wpAnyH_ready (rs := [12, 18]) (by kernel_rfl) (by simp) ?_
      refine AllReadyH.cons (by simp only [List.getElem?_toArray, List.getElem?_cons_succ, List.getElem?_cons_zero]; rfl) (fun KK hK => ?_) (AllReadyH.cons (by simp only [List.getElem?_toArray, List.getElem?_cons_succ, List.getElem?_cons_zero]; rfl) (fun KK hK => ?_) AllReadyH.nil)
      · go_simp
        refine hK.out _ _ ?_ (fun hHeld => ?_)
        · exact ⟨(J3.alloc _).a.cell 0, (J3.alloc _).a.cell 1, (J3.alloc _).a.cell 2, (J3.alloc _).a.cell 3, (J3.alloc _).b.cell 1, (J3.alloc _).b.cell 2, (J3.alloc _).b.cell 3⟩
        clear hK KK
        (try simp only [Act.put, List.setIfInBounds_toArray, List.set_cons_zero, List.set_cons_succ])
        have J4 := J3.alloc (.cells #[.slice V nv cv, .slice V' nv' cv'] 56)
        have B12_4 := Blk.new W3 56 [.slice V nv cv, .slice V' nv' cv']
        have hw4 : Below W3.heap.size W3 (W3.alloc (.cells #[.slice V nv cv, .slice V' nv' cv'] 56)) := (Below.refl _ _).alloc (Nat.le_refl _) _
        change Blk (W3.alloc (.cells #[.slice V nv cv, .slice V' nv' cv'] 56)) _ _ _ at B12_4
        have O7_4 := O7_3.below hw4 (Nat.le_refl _)
        generalize W3.alloc (.cells #[.slice V nv cv, .slice V' nv' cv'] 56) = W4 at *
        clear J3 hw4 O7_3
        refine wpAnyH_ready (rs := [13, 18]) (by kernel_rfl) (by simp) ?_
        refine AllReadyH.cons (by simp only [List.getElem?_toArray, List.getElem?_cons_succ, List.getElem?_cons_zero]; rfl) (fun KK hK => ?_) (AllReadyH.cons (by simp only [List.getElem?_toArray, List.getElem?_cons_succ, List.getElem?_cons_zero]; rfl) (fun KK hK => ?_) AllReadyH.nil)
        · have C5 := Lib.hid (cat_str B12_4 ((HP.out.vals.below J4.below (Nat.le_refl _)).weak (Nat.zero_le _)) ((HQ.out.vals.below J4.below (Nat.le_refl _)).weak (Nat.zero_le _)) HV.out)
          go_simp; ((with_reducible refine Calls.mono C5.out ?_); rintro e W5 ⟨A13, m13, c13, rfl, ho, hw5⟩; have J5 := J4.under hw5); go_wp2_with fail
          refine hK.out _ _ ?_ (fun hHeld => ?_)
          · exact ⟨J5.a.cell 0, J5.a.cell 1, J5.a.cell 2, J5.a.cell 3, J5.b.cell 1, J5.b.cell 2, J5.b.cell 3⟩
          clear hK KK
          (try simp only [Act.put, List.setIfInBounds_toArray, List.set_cons_zero, List.set_cons_succ])
          have O13_5 := ho.weak J4.high
          have O7_5 := O7_4.below hw5 (Nat.le_refl _)
          clear ho C5 J4 hw5 B12_4 O7_4
          refine wpAnyH_ready (rs := [18]) (by kernel_rfl) (by simp) ?_
          refine AllReadyH.cons (by simp only [List.getElem?_toArray, List.getElem?_cons_succ, List.getElem?_cons_zero]; rfl) (fun KK hK => ?_) AllReadyH.nil
          · go_simp
            refine hK.out _ _ ?_ (fun hHeld => ?_)
            · exact ⟨(J5.alloc _).a.cell 0, (J5.alloc _).a.cell 1, (J5.alloc _).a.cell 2, (J5.alloc _).a.cell 3, (J5.alloc _).b.cell 1, (J5.alloc _).b.cell 2, (J5.alloc _).b.cell 3⟩
            clear hK KK
            (try simp only [Act.put, List.setIfInBounds_toArray, List.set_cons_zero, List.set_cons_succ])
            have J6 := J5.alloc (.cells #[.slice D nd cd, .slice D' nd' cd'] 57)
            have B18_6 := Blk.new W5 57 [.slice D nd cd, .slice D' nd' cd']
            have hw6 : Below W5.heap.size W5 (W5.alloc (.cells #[.slice D nd cd, .slice D' nd' cd'] 57)) := (Below.refl _ _).alloc (Nat.le_refl _) _
            change Blk (W5.alloc (.cells #[.slice D nd cd, .slice D' nd' cd'] 57)) _ _ _ at B18_6
            have O7_6 := O7_5.below hw6 (Nat.le_refl _)
            have O13_6 := O13_5.below hw6 (Nat.le_refl _)
            generalize W5.alloc (.cells #[.slice D nd cd, .slice D' nd' cd'] 57) = W6 at *
            clear J5 hw6 O7_5 O13_5
            refine wpAnyH_ready (rs := [19]) (by kernel_rfl) (by simp) ?_
            refine AllReadyH.cons (by simp only [List.getElem?_toArray, List.getElem?_cons_succ, List.getElem?_cons_zero]; rfl) (fun KK hK => ?_) AllReadyH.nil
            · have C7 := Lib.hid (cat_int B18_6 ((HP.out.kids.below J6.below (Nat.le_refl _)).weak (Nat.zero_le _)) ((HQ.out.kids.below J6.below (Nat.le_refl _)).weak (Nat.zero_le _)) HD.out)
              go_simp; ((with_reducible refine Calls.mono C7.out ?_); rintro e W7 ⟨A19, m19, c19, rfl, ho, hw7⟩; have J7 := J6.under hw7); go_wp2_with fail
              refine hK.out _ _ ?_ (fun hHeld => ?_)
              · exact ⟨J7.a.cell 0, J7.a.cell 1, J7.a.cell 2, J7.a.cell 3, J7.b.cell 1, J7.b.cell 2, J7.b.cell 3⟩
              clear hK KK
              (try simp only [Act.put, List.setIfInBounds_toArray, List.set_cons_zero, List.set_cons_succ])
              have O19_7 := ho.weak J6.high
              have O7_7 := O7_6.below hw7 (Nat.le_refl _)
              have O13_7 := O13_6.below hw7 (Nat.le_refl _)
              clear ho C7 J6 hw7 B18_6 O7_6 O13_6
              refine wpAnyH_take (i := 20) (v := ?_) (by simp only [List.getElem?_toArray, List.getElem?_cons_succ, List.getElem?_cons_zero]; rfl) (by kernel_rfl) (by kernel_rfl) (by kernel_rfl) (fun _ _ _ h => h) (Or.inl ⟨by rfl, ?_⟩) hHeld ?_
              rotate_left
              · intro wz hSw; (try dsimp only at hSw); go_simp; try with_reducible rfl
              (try simp only [Act.put, List.setIfInBounds_toArray, List.set_cons_zero, List.set_cons_succ])
              have rc := J7.res.cells
              have rf := J7.res.frees
              refine wpAnyH_done (by kernel_rfl) ?_ _
              simp only [lastQ]
              go_simp
              clear hHeld rc rf
              go_wp2
              have hB := (((J7.res.set_ 0 (.bool p.leaf)).set_ 1 (.slice A7 m7 c7)).set_ 2 (.slice A13 m13 c13)).set_ 3 (.slice A19 m19 c19)
              refine bodyPost_ret (results_cell_row rfl _ _ (w.heap.size + 2) 59 #[.bool p.leaf, .slice A7 m7 c7, .slice A13 m13 c13, .slice A19 m19 c19] (0, 0) _ rfl hB Try.underlying59 rfl (by rw [size26]; rfl)) rfl ?_
              exact join_end HP.out HQ.out HK.out HV.out HD.out J7 O7_7 O13_7 O19_7
        · go_simp
          refine hK.out _ _ ?_ (fun hHeld => ?_)
          · exact ⟨(J4.alloc _).a.cell 0, (J4.alloc _).a.cell 1, (J4.alloc _).a.cell 2, (J4.alloc _).a.cell 3, (J4.alloc _).b.cell 1, (J4.alloc _).b.cell 2, (J4.alloc _).b.cell 3⟩
          clear hK KK
          (try simp only [Act.put, List.setIfInBounds_toArray, List.set_cons_zero, List.set_cons_succ])
          have J5 := J4.alloc (.cells #[.slice D nd cd, .slice D' nd' cd'] 57)
          have B18_5 := Blk.new W4 57 [.slice D nd cd, .slice D' nd' cd']
          have hw5 : Below W4.heap.size W4 (W4.alloc (.cells #[.slice D nd cd, .slice D' nd' cd'] 57)) := (Below.refl _ _).alloc (Nat.le_refl _) _
          change Blk (W4.alloc (.cells #[.slice D nd cd, .slice D' nd' cd'] 57)) _ _ _ at B18_5
          have O7_5 := O7_4.below hw5 (Nat.le_refl _)
          have B12_5 := B12_4.below hw5 B12_4.lt
          generalize W4.alloc (.cells #[.slice D nd cd, .slice D' nd' cd'] 57) = W5 at *
          clear J4 hw5 O7_4 B12_4
          refine wpAnyH_ready (rs := [13]) (by kernel_rfl) (by simp) ?_
          refine AllReadyH.cons (by simp only [List.getElem?_toArray, List.getElem?_cons_succ, List.getElem?_cons_zero]; rfl) (fun KK hK => ?_) AllReadyH.nil
          · have C6 := Lib.hid (cat_str B12_5 ((HP.out.vals.below J5.below (Nat.le_refl _)).weak (Nat.zero_le _)) ((HQ.out.vals.below J5.below (Nat.le_refl _)).weak (Nat.zero_le _)) HV.out)
            go_simp; ((with_reducible refine Calls.mono C6.out ?_); rintro e W6 ⟨A13, m13, c13, rfl, ho, hw6⟩; have J6 := J5.under hw6); go_wp2_with fail
            refine hK.out _ _ ?_ (fun hHeld => ?_)
            · exact ⟨J6.a.cell 0, J6.a.cell 1, J6.a.cell 2, J6.a.cell 3, J6.b.cell 1, J6.b.cell 2, J6.b.cell 3⟩
            clear hK KK
            (try simp only [Act.put, List.setIfInBounds_toArray, List.set_cons_zero, List.set_cons_succ])
            have O13_6 := ho.weak J5.high
            have O7_6 := O7_5.below hw6 (Nat.le_refl _)
            have B18_6 := B18_5.below hw6 B18_5.lt
            clear ho C6 J5 hw6 B12_5 O7_5 B18_5
            refine wpAnyH_ready (rs := [19]) (by kernel_rfl) (by simp) ?_
            refine AllReadyH.cons (by simp only [List.getElem?_toArray, List.getElem?_cons_succ, List.getElem?_cons_zero]; rfl) (fun KK hK => ?_) AllReadyH.nil
            · have C7 := Lib.hid (cat_int B18_6 ((HP.out.kids.below J6.below (Nat.le_refl _)).weak (Nat.zero_le _)) ((HQ.out.kids.below J6.below (Nat.le_refl _)).weak (Nat.zero_le _)) HD.out)
              go_simp; ((with_reducible refine Calls.mono C7.out ?_); rintro e W7 ⟨A19, m19, c19, rfl, ho, hw7⟩; have J7 := J6.under hw7); go_wp2_with fail
              refine hK.out _ _ ?_ (fun hHeld => ?_)
              · exact ⟨J7.a.cell 0, J7.a.cell 1, J7.a.cell 2, J7.a.cell 3, J7.b.cell 1, J7.b.cell 2, J7.b.cell 3⟩
              clear hK KK
              (try simp only [Act.put, List.setIfInBounds_toArray, List.set_cons_zero, List.set_cons_succ])
              have O19_7 := ho.weak J6.high
              have O7_7 := O7_6.below hw7 (Nat.le_refl _)
              have O13_7 := O13_6.below hw7 (Nat.le_refl _)
              clear ho C7 J6 hw7 B18_6 O7_6 O13_6
              refine wpAnyH_take (i := 20) (v := ?_) (by simp only [List.getElem?_toArray, List.getElem?_cons_succ, List.getElem?_cons_zero]; rfl) (by kernel_rfl) (by kernel_rfl) (by kernel_rfl) (fun _ _ _ h => h) (Or.inl ⟨by rfl, ?_⟩) hHeld ?_
              rotate_left
              · intro wz hSw; (try dsimp only at hSw); go_simp; try with_reducible rfl
              (try simp only [Act.put, List.setIfInBounds_toArray, List.set_cons_zero, List.set_cons_succ])
              have rc := J7.res.cells
              have rf := J7.res.frees
              refine wpAnyH_done (by kernel_rfl) ?_ _
              simp only [lastQ]
              go_simp
              clear hHeld rc rf
              go_wp2
              have hB := (((J7.res.set_ 0 (.bool p.leaf)).set_ 1 (.slice A7 m7 c7)).set_ 2 (.slice A13 m13 c13)).set_ 3 (.slice A19 m19 c19)
              refine bodyPost_ret (results_cell_row rfl _ _ (w.heap.size + 2) 59 #[.bool p.leaf, .slice A7 m7 c7, .slice A13 m13 c13, .slice A19 m19 c19] (0, 0) _ rfl hB Try.underlying59 rfl (by rw [size26]; rfl)) rfl ?_
              exact join_end HP.out HQ.out HK.out HV.out HD.out J7 O7_7 O13_7 O19_7
      · go_simp
        refine hK.out _ _ ?_ (fun hHeld => ?_)
        · exact ⟨(J3.alloc _).a.cell 0, (J3.alloc _).a.cell 1, (J3.alloc _).a.cell 2, (J3.alloc _).a.cell 3, (J3.alloc _).b.cell 1, (J3.alloc _).b.cell 2, (J3.alloc _).b.cell 3⟩
        clear hK KK
        (try simp only [Act.put, List.setIfInBounds_toArray, List.set_cons_zero, List.set_cons_succ])
        have J4 := J3.alloc (.cells #[.slice D nd cd, .slice D' nd' cd'] 57)
        have B18_4 := Blk.new W3 57 [.slice D nd cd, .slice D' nd' cd']
        have hw4 : Below W3.heap.size W3 (W3.alloc (.cells #[.slice D nd cd, .slice D' nd' cd'] 57)) := (Below.refl _ _).alloc (Nat.le_refl _) _
        change Blk (W3.alloc (.cells #[.slice D nd cd, .slice D' nd' cd'] 57)) _ _ _ at B18_4
        have O7_4 := O7_3.below hw4 (Nat.le_refl _)
        generalize W3.alloc (.cells #[.slice D nd cd, .slice D' nd' cd'] 57) = W4 at *
        clear J3 hw4 O7_3
        refine wpAnyH_ready (rs := [12]) (by kernel_rfl) (by simp) ?_
        refine AllReadyH.cons (by simp only [List.getElem?_toArray, List.getElem?_cons_succ, List.getElem?_cons_zero]; rfl) (fun KK hK => ?_) AllReadyH.nil
        · go_simp
          refine hK.out _ _ ?_ (fun hHeld => ?_)
          · exact ⟨(J4.alloc _).a.cell 0, (J4.alloc _).a.cell 1, (J4.alloc _).a.cell 2, (J4.alloc _).a.cell 3, (J4.alloc _).b.cell 1, (J4.alloc _).b.cell 2, (J4.alloc _).b.cell 3⟩
          clear hK KK
          (try simp only [Act.put, List.setIfInBounds_toArray, List.set_cons_zero, List.set_cons_succ])
          have J5 := J4.alloc (.cells #[.slice V nv cv, .slice V' nv' cv'] 56)
          have B12_5 := Blk.new W4 56 [.slice V nv cv, .slice V' nv' cv']
          have hw5 : Below W4.heap.size W4 (W4.alloc (.cells #[.slice V nv cv, .slice V' nv' cv'] 56)) := (Below.refl _ _).alloc (Nat.le_refl _) _
          change Blk (W4.alloc (.cells #[.slice V nv cv, .slice V' nv' cv'] 56)) _ _ _ at B12_5
          have O7_5 := O7_4.below hw5 (Nat.le_refl _)
          have B18_5 := B18_4.below hw5 B18_4.lt
          generalize W4.alloc (.cells #[.slice V nv cv, .slice V' nv' cv'] 56) = W5 at *
          clear J4 hw5 O7_4 B18_4
          refine wpAnyH_ready (rs := [13]) (by kernel_rfl) (by simp) ?_
          refine AllReadyH.cons (by simp only [List.getElem?_toArray, List.getElem?_cons_succ, List.getElem?_cons_zero]; rfl) (fun KK hK => ?_) AllReadyH.nil
          · have C6 := Lib.hid (cat_str B12_5 ((HP.out.vals.below J5.below (Nat.le_refl _)).weak (Nat.zero_le _)) ((HQ.out.vals.below J5.below (Nat.le_refl _)).weak (Nat.zero_le _)) HV.out)
            go_simp; ((with_reducible refine Calls.mono C6.out ?_); rintro e W6 ⟨A13, m13, c13, rfl, ho, hw6⟩; have J6 := J5.under hw6); go_wp2_with fail
            refine hK.out _ _ ?_ (fun hHeld => ?_)
            · exact ⟨J6.a.cell 0, J6.a.cell 1, J6.a.cell 2, J6.a.cell 3, J6.b.cell 1, J6.b.cell 2, J6.b.cell 3⟩
            clear hK KK
            (try simp only [Act.put, List.setIfInBounds_toArray, List.set_cons_zero, List.set_cons_succ])
            have O13_6 := ho.weak J5.high
            have O7_6 := O7_5.below hw6 (Nat.le_refl _)
            have B18_6 := B18_5.below hw6 B18_5.lt
            clear ho C6 J5 hw6 B12_5 O7_5 B18_5
            refine wpAnyH_ready (rs := [19]) (by kernel_rfl) (by simp) ?_
            refine AllReadyH.cons (by simp only [List.getElem?_toArray, List.getElem?_cons_succ, List.getElem?_cons_zero]; rfl) (fun KK hK => ?_) AllReadyH.nil
            · have C7 := Lib.hid (cat_int B18_6 ((HP.out.kids.below J6.below (Nat.le_refl _)).weak (Nat.zero_le _)) ((HQ.out.kids.below J6.below (Nat.le_refl _)).weak (Nat.zero_le _)) HD.out)
              go_simp; ((with_reducible refine Calls.mono C7.out ?_); rintro e W7 ⟨A19, m19, c19, rfl, ho, hw7⟩; have J7 := J6.under hw7); go_wp2_with fail
              refine hK.out _ _ ?_ (fun hHeld => ?_)
              · exact ⟨J7.a.cell 0, J7.a.cell 1, J7.a.cell 2, J7.a.cell 3, J7.b.cell 1, J7.b.cell 2, J7.b.cell 3⟩
              clear hK KK
              (try simp only [Act.put, List.setIfInBounds_toArray, List.set_cons_zero, List.set_cons_succ])
              have O19_7 := ho.weak J6.high
              have O7_7 := O7_6.below hw7 (Nat.le_refl _)
              have O13_7 := O13_6.below hw7 (Nat.le_refl _)
              clear ho C7 J6 hw7 B18_6 O7_6 O13_6
              refine wpAnyH_take (i := 20) (v := ?_) (by simp only [List.getElem?_toArray, List.getElem?_cons_succ, List.getElem?_cons_zero]; rfl) (by kernel_rfl) (by kernel_rfl) (by kernel_rfl) (fun _ _ _ h => h) (Or.inl ⟨by rfl, ?_⟩) hHeld ?_
              rotate_left
              · intro wz hSw; (try dsimp only at hSw); go_simp; try with_reducible rfl
              (try simp only [Act.put, List.setIfInBounds_toArray, List.set_cons_zero, List.set_cons_succ])
              have rc := J7.res.cells
              have rf := J7.res.frees
              refine wpAnyH_done (by kernel_rfl) ?_ _
              simp only [lastQ]
              go_simp
              clear hHeld rc rf
              go_wp2
              have hB := (((J7.res.set_ 0 (.bool p.leaf)).set_ 1 (.slice A7 m7 c7)).set_ 2 (.slice A13 m13 c13)).set_ 3 (.slice A19 m19 c19)
              refine bodyPost_ret (results_cell_row rfl _ _ (w.heap.size + 2) 59 #[.bool p.leaf, .slice A7 m7 c7, .slice A13 m13 c13, .slice A19 m19 c19] (0, 0) _ rfl hB Try.underlying59 rfl (by rw [size26]; rfl)) rfl ?_
              exact join_end HP.out HQ.out HK.out HV.out HD.out J7 O7_7 O13_7 O19_7
    · go_simp
      refine hK.out _ _ ?_ (fun hHeld => ?_)
      · exact ⟨(J2.alloc _).a.cell 0, (J2.alloc _).a.cell 1, (J2.alloc _).a.cell 2, (J2.alloc _).a.cell 3, (J2.alloc _).b.cell 1, (J2.alloc _).b.cell 2, (J2.alloc _).b.cell 3⟩
      clear hK KK
      (try simp only [Act.put, List.setIfInBounds_toArray, List.set_cons_zero, List.set_cons_succ])
      have J3 := J2.alloc (.cells #[.slice V nv cv, .slice V' nv' cv'] 56)
      have B12_3 := Blk.new W2 56 [.slice V nv cv, .slice V' nv' cv']
      have hw3 : Below W2.heap.size W2 (W2.alloc (.cells #[.slice V nv cv, .slice V' nv' cv'] 56)) := (Below.refl _ _).alloc (Nat.le_refl _) _
      change Blk (W2.alloc (.cells #[.slice V nv cv, .slice V' nv' cv'] 56)) _ _ _ at B12_3
      have B6_3 := B6_2.below hw3 B6_2.lt
      generalize W2.alloc (.cells #[.slice V nv cv, .slice V' nv' cv'] 56) = W3 at *
      clear J2 hw3 B6_2
      refine wpAnyH_ready (rs := [7, 18]) (by kernel_rfl) (by simp) ?_
      refine AllReadyH.cons (by simp only [List.getElem?_toArray, List.getElem?_cons_succ, List.getElem?_cons_zero]; rfl) (fun KK hK => ?_) (AllReadyH.cons (by simp only [List.getElem?_toArray, List.getElem?_cons_succ, List.getElem?_cons_zero]; rfl) (fun KK hK => ?_) AllReadyH.nil)
      · have C4 := Lib.hid (cat_str B6_3 ((HP.out.keys.below J3.below (Nat.le_refl _)).weak (Nat.zero_le _)) ((HQ.out.keys.below J3.below (Nat.le_refl _)).weak (Nat.zero_le _)) HK.out)
        go_simp; ((with_reducible refine Calls.mono C4.out ?_); rintro e W4 ⟨A7, m7, c7, rfl, ho, hw4⟩; have J4 := J3.under hw4); go_wp2_with fail
        refine hK.out _ _ ?_ (fun hHeld => ?_)
        · exact ⟨J4.a.cell 0, J4.a.cell 1, J4.a.cell 2, J4.a.cell 3, J4.b.cell 1, J4.b.cell 2, J4.b.cell 3⟩
        clear hK KK
        (try simp only [Act.put, List.setIfInBounds_toArray, List.set_cons_zero, List.set_cons_succ])
        have O7_4 := ho.weak J3.high
        have B12_4 := B12_3.below hw4 B12_3.lt
        clear ho C4 J3 hw4 B6_3 B12_3
        refine wpAnyH_ready (rs := [13, 18]) (by kernel_rfl) (by simp) ?_
        refine AllReadyH.cons (by simp only [List.getElem?_toArray, List.getElem?_cons_succ, List.getElem?_cons_zero]; rfl) (fun KK hK => ?_) (AllReadyH.cons (by simp only [List.getElem?_toArray, List.getElem?_cons_succ, List.getElem?_cons_zero]; rfl) (fun KK hK => ?_) AllReadyH.nil)
        · have C5 := Lib.hid (cat_str B12_4 ((HP.out.vals.below J4.below (Nat.le_refl _)).weak (Nat.zero_le _)) ((HQ.out.vals.below J4.below (Nat.le_refl _)).weak (Nat.zero_le _)) HV.out)
          go_simp; ((with_reducible refine Calls.mono C5.out ?_); rintro e W5 ⟨A13, m13, c13, rfl, ho, hw5⟩; have J5 := J4.under hw5); go_wp2_with fail
          refine hK.out _ _ ?_ (fun hHeld => ?_)
          · exact ⟨J5.a.cell 0, J5.a.cell 1, J5.a.cell 2, J5.a.cell 3, J5.b.cell 1, J5.b.cell 2, J5.b.cell 3⟩
          clear hK KK
          (try simp only [Act.put, List.setIfInBounds_toArray, List.set_cons_zero, List.set_cons_succ])
          have O13_5 := ho.weak J4.high
          have O7_5 := O7_4.below hw5 (Nat.le_refl _)
          clear ho C5 J4 hw5 B12_4 O7_4
          refine wpAnyH_ready (rs := [18]) (by kernel_rfl) (by simp) ?_
          refine AllReadyH.cons (by simp only [List.getElem?_toArray, List.getElem?_cons_succ, List.getElem?_cons_zero]; rfl) (fun KK hK => ?_) AllReadyH.nil
          · go_simp
            refine hK.out _ _ ?_ (fun hHeld => ?_)
            · exact ⟨(J5.alloc _).a.cell 0, (J5.alloc _).a.cell 1, (J5.alloc _).a.cell 2, (J5.alloc _).a.cell 3, (J5.alloc _).b.cell 1, (J5.alloc _).b.cell 2, (J5.alloc _).b.cell 3⟩
            clear hK KK
            (try simp only [Act.put, List.setIfInBounds_toArray, List.set_cons_zero, List.set_cons_succ])
            have J6 := J5.alloc (.cells #[.slice D nd cd, .slice D' nd' cd'] 57)
            have B18_6 := Blk.new W5 57 [.slice D nd cd, .slice D' nd' cd']
            have hw6 : Below W5.heap.size W5 (W5.alloc (.cells #[.slice D nd cd, .slice D' nd' cd'] 57)) := (Below.refl _ _).alloc (Nat.le_refl _) _
            change Blk (W5.alloc (.cells #[.slice D nd cd, .slice D' nd' cd'] 57)) _ _ _ at B18_6
            have O7_6 := O7_5.below hw6 (Nat.le_refl _)
            have O13_6 := O13_5.below hw6 (Nat.le_refl _)
            generalize W5.alloc (.cells #[.slice D nd cd, .slice D' nd' cd'] 57) = W6 at *
            clear J5 hw6 O7_5 O13_5
            refine wpAnyH_ready (rs := [19]) (by kernel_rfl) (by simp) ?_
            refine AllReadyH.cons (by simp only [List.getElem?_toArray, List.getElem?_cons_succ, List.getElem?_cons_zero]; rfl) (fun KK hK => ?_) AllReadyH.nil
            · have C7 := Lib.hid (cat_int B18_6 ((HP.out.kids.below J6.below (Nat.le_refl _)).weak (Nat.zero_le _)) ((HQ.out.kids.below J6.below (Nat.le_refl _)).weak (Nat.zero_le _)) HD.out)
              go_simp; ((with_reducible refine Calls.mono C7.out ?_); rintro e W7 ⟨A19, m19, c19, rfl, ho, hw7⟩; have J7 := J6.under hw7); go_wp2_with fail
              refine hK.out _ _ ?_ (fun hHeld => ?_)
              · exact ⟨J7.a.cell 0, J7.a.cell 1, J7.a.cell 2, J7.a.cell 3, J7.b.cell 1, J7.b.cell 2, J7.b.cell 3⟩
              clear hK KK
              (try simp only [Act.put, List.setIfInBounds_toArray, List.set_cons_zero, List.set_cons_succ])
              have O19_7 := ho.weak J6.high
              have O7_7 := O7_6.below hw7 (Nat.le_refl _)
              have O13_7 := O13_6.below hw7 (Nat.le_refl _)
              clear ho C7 J6 hw7 B18_6 O7_6 O13_6
              refine wpAnyH_take (i := 20) (v := ?_) (by simp only [List.getElem?_toArray, List.getElem?_cons_succ, List.getElem?_cons_zero]; rfl) (by kernel_rfl) (by kernel_rfl) (by kernel_rfl) (fun _ _ _ h => h) (Or.inl ⟨by rfl, ?_⟩) hHeld ?_
              rotate_left
              · intro wz hSw; (try dsimp only at hSw); go_simp; try with_reducible rfl
              (try simp only [Act.put, List.setIfInBounds_toArray, List.set_cons_zero, List.set_cons_succ])
              have rc := J7.res.cells
              have rf := J7.res.frees
              refine wpAnyH_done (by kernel_rfl) ?_ _
              simp only [lastQ]
              go_simp
              clear hHeld rc rf
              go_wp2
              have hB := (((J7.res.set_ 0 (.bool p.leaf)).set_ 1 (.slice A7 m7 c7)).set_ 2 (.slice A13 m13 c13)).set_ 3 (.slice A19 m19 c19)
              refine bodyPost_ret (results_cell_row rfl _ _ (w.heap.size + 2) 59 #[.bool p.leaf, .slice A7 m7 c7, .slice A13 m13 c13, .slice A19 m19 c19] (0, 0) _ rfl hB Try.underlying59 rfl (by rw [size26]; rfl)) rfl ?_
              exact join_end HP.out HQ.out HK.out HV.out HD.out J7 O7_7 O13_7 O19_7
        · go_simp
          refine hK.out _ _ ?_ (fun hHeld => ?_)
          · exact ⟨(J4.alloc _).a.cell 0, (J4.alloc _).a.cell 1, (J4.alloc _).a.cell 2, (J4.alloc _).a.cell 3, (J4.alloc _).b.cell 1, (J4.alloc _).b.cell 2, (J4.alloc _).b.cell 3⟩
          clear hK KK
          (try simp only [Act.put, List.setIfInBounds_toArray, List.set_cons_zero, List.set_cons_succ])
          have J5 := J4.alloc (.cells #[.slice D nd cd, .slice D' nd' cd'] 57)
          have B18_5 := Blk.new W4 57 [.slice D nd cd, .slice D' nd' cd']
          have hw5 : Below W4.heap.size W4 (W4.alloc (.cells #[.slice D nd cd, .slice D' nd' cd'] 57)) := (Below.refl _ _).alloc (Nat.le_refl _) _
          change Blk (W4.alloc (.cells #[.slice D nd cd, .slice D' nd' cd'] 57)) _ _ _ at B18_5
          have B12_5 := B12_4.below hw5 B12_4.lt
          have O7_5 := O7_4.below hw5 (Nat.le_refl _)
          generalize W4.alloc (.cells #[.slice D nd cd, .slice D' nd' cd'] 57) = W5 at *
          clear J4 hw5 B12_4 O7_4
          refine wpAnyH_ready (rs := [13]) (by kernel_rfl) (by simp) ?_
          refine AllReadyH.cons (by simp only [List.getElem?_toArray, List.getElem?_cons_succ, List.getElem?_cons_zero]; rfl) (fun KK hK => ?_) AllReadyH.nil
          · have C6 := Lib.hid (cat_str B12_5 ((HP.out.vals.below J5.below (Nat.le_refl _)).weak (Nat.zero_le _)) ((HQ.out.vals.below J5.below (Nat.le_refl _)).weak (Nat.zero_le _)) HV.out)
            go_simp; ((with_reducible refine Calls.mono C6.out ?_); rintro e W6 ⟨A13, m13, c13, rfl, ho, hw6⟩; have J6 := J5.under hw6); go_wp2_with fail
            refine hK.out _ _ ?_ (fun hHeld => ?_)
            · exact ⟨J6.a.cell 0, J6.a.cell 1, J6.a.cell 2, J6.a.cell 3, J6.b.cell 1, J6.b.cell 2, J6.b.cell 3⟩
            clear hK KK
            (try simp only [Act.put, List.setIfInBounds_toArray, List.set_cons_zero, List.set_cons_succ])
            have O13_6 := ho.weak J5.high
            have O7_6 := O7_5.below hw6 (Nat.le_refl _)
            have B18_6 := B18_5.below hw6 B18_5.lt
            clear ho C6 J5 hw6 B12_5 O7_5 B18_5
            refine wpAnyH_ready (rs := [19]) (by kernel_rfl) (by simp) ?_
            refine AllReadyH.cons (by simp only [List.getElem?_toArray, List.getElem?_cons_succ, List.getElem?_cons_zero]; rfl) (fun KK hK => ?_) AllReadyH.nil
            · have C7 := Lib.hid (cat_int B18_6 ((HP.out.kids.below J6.below (Nat.le_refl _)).weak (Nat.zero_le _)) ((HQ.out.kids.below J6.below (Nat.le_refl _)).weak (Nat.zero_le _)) HD.out)
              go_simp; ((with_reducible refine Calls.mono C7.out ?_); rintro e W7 ⟨A19, m19, c19, rfl, ho, hw7⟩; have J7 := J6.under hw7); go_wp2_with fail
              refine hK.out _ _ ?_ (fun hHeld => ?_)
              · exact ⟨J7.a.cell 0, J7.a.cell 1, J7.a.cell 2, J7.a.cell 3, J7.b.cell 1, J7.b.cell 2, J7.b.cell 3⟩
              clear hK KK
              (try simp only [Act.put, List.setIfInBounds_toArray, List.set_cons_zero, List.set_cons_succ])
              have O19_7 := ho.weak J6.high
              have O7_7 := O7_6.below hw7 (Nat.le_refl _)
              have O13_7 := O13_6.below hw7 (Nat.le_refl _)
              clear ho C7 J6 hw7 B18_6 O7_6 O13_6
              refine wpAnyH_take (i := 20) (v := ?_) (by simp only [List.getElem?_toArray, List.getElem?_cons_succ, List.getElem?_cons_zero]; rfl) (by kernel_rfl) (by kernel_rfl) (by kernel_rfl) (fun _ _ _ h => h) (Or.inl ⟨by rfl, ?_⟩) hHeld ?_
              rotate_left
              · intro wz hSw; (try dsimp only at hSw); go_simp; try with_reducible rfl
              (try simp only [Act.put, List.setIfInBounds_toArray, List.set_cons_zero, List.set_cons_succ])
              have rc := J7.res.cells
              have rf := J7.res.frees
              refine wpAnyH_done (by kernel_rfl) ?_ _
              simp only [lastQ]
              go_simp
              clear hHeld rc rf
              go_wp2
              have hB := (((J7.res.set_ 0 (.bool p.leaf)).set_ 1 (.slice A7 m7 c7)).set_ 2 (.slice A13 m13 c13)).set_ 3 (.slice A19 m19 c19)
              refine bodyPost_ret (results_cell_row rfl _ _ (w.heap.size + 2) 59 #[.bool p.leaf, .slice A7 m7 c7, .slice A13 m13 c13, .slice A19 m19 c19] (0, 0) _ rfl hB Try.underlying59 rfl (by rw [size26]; rfl)) rfl ?_
              exact join_end HP.out HQ.out HK.out HV.out HD.out J7 O7_7 O13_7 O19_7
      · go_simp
        refine hK.out _ _ ?_ (fun hHeld => ?_)
        · exact ⟨(J3.alloc _).a.cell 0, (J3.alloc _).a.cell 1, (J3.alloc _).a.cell 2, (J3.alloc _).a.cell 3, (J3.alloc _).b.cell 1, (J3.alloc _).b.cell 2, (J3.alloc _).b.cell 3⟩
        clear hK KK
        (try simp only [Act.put, List.setIfInBounds_toArray, List.set_cons_zero, List.set_cons_succ])
        have J4 := J3.alloc (.cells #[.slice D nd cd, .slice D' nd' cd'] 57)
        have B18_4 := Blk.new W3 57 [.slice D nd cd, .slice D' nd' cd']
        have hw4 : Below W3.heap.size W3 (W3.alloc (.cells #[.slice D nd cd, .slice D' nd' cd'] 57)) := (Below.refl _ _).alloc (Nat.le_refl _) _
        change Blk (W3.alloc (.cells #[.slice D nd cd, .slice D' nd' cd'] 57)) _ _ _ at B18_4
        have B6_4 := B6_3.below hw4 B6_3.lt
        have B12_4 := B12_3.below hw4 B12_3.lt
        generalize W3.alloc (.cells #[.slice D nd cd, .slice D' nd' cd'] 57) = W4 at *
        clear J3 hw4 B6_3 B12_3
        refine wpAnyH_ready (rs := [7]) (by kernel_rfl) (by simp) ?_
        refine AllReadyH.cons (by simp only [List.getElem?_toArray, List.getElem?_cons_succ, List.getElem?_cons_zero]; rfl) (fun KK hK => ?_) AllReadyH.nil
        · have C5 := Lib.hid (cat_str B6_4 ((HP.out.keys.below J4.below (Nat.le_refl _)).weak (Nat.zero_le _)) ((HQ.out.keys.below J4.below (Nat.le_refl _)).weak (Nat.zero_le _)) HK.out)
          go_simp; ((with_reducible refine Calls.mono C5.out ?_); rintro e W5 ⟨A7, m7, c7, rfl, ho, hw5⟩; have J5 := J4.under hw5); go_wp2_with fail
          refine hK.out _ _ ?_ (fun hHeld => ?_)
          · exact ⟨J5.a.cell 0, J5.a.cell 1, J5.a.cell 2, J5.a.cell 3, J5.b.cell 1, J5.b.cell 2, J5.b.cell 3⟩
          clear hK KK
          (try simp only [Act.put, List.setIfInBounds_toArray, List.set_cons_zero, List.set_cons_succ])
          have O7_5 := ho.weak J4.high
          have B12_5 := B12_4.below hw5 B12_4.lt
          have B18_5 := B18_4.below hw5 B18_4.lt
          clear ho C5 J4 hw5 B6_4 B12_4 B18_4
          refine wpAnyH_ready (rs := [13]) (by kernel_rfl) (by simp) ?_
          refine AllReadyH.cons (by simp only [List.getElem?_toArray, List.getElem?_cons_succ, List.getElem?_cons_zero]; rfl) (fun KK hK => ?_) AllReadyH.nil
          · have C6 := Lib.hid (cat_str B12_5 ((HP.out.vals.below J5.below (Nat.le_refl _)).weak (Nat.zero_le _)) ((HQ.out.vals.below J5.below (Nat.le_refl _)).weak (Nat.zero_le _)) HV.out)
            go_simp; ((with_reducible refine Calls.mono C6.out ?_); rintro e W6 ⟨A13, m13, c13, rfl, ho, hw6⟩; have J6 := J5.under hw6); go_wp2_with fail
            refine hK.out _ _ ?_ (fun hHeld => ?_)
            · exact ⟨J6.a.cell 0, J6.a.cell 1, J6.a.cell 2, J6.a.cell 3, J6.b.cell 1, J6.b.cell 2, J6.b.cell 3⟩
            clear hK KK
            (try simp only [Act.put, List.setIfInBounds_toArray, List.set_cons_zero, List.set_cons_succ])
            have O13_6 := ho.weak J5.high
            have B18_6 := B18_5.below hw6 B18_5.lt
            have O7_6 := O7_5.below hw6 (Nat.le_refl _)
            clear ho C6 J5 hw6 B12_5 B18_5 O7_5
            refine wpAnyH_ready (rs := [19]) (by kernel_rfl) (by simp) ?_
            refine AllReadyH.cons (by simp only [List.getElem?_toArray, List.getElem?_cons_succ, List.getElem?_cons_zero]; rfl) (fun KK hK => ?_) AllReadyH.nil
            · have C7 := Lib.hid (cat_int B18_6 ((HP.out.kids.below J6.below (Nat.le_refl _)).weak (Nat.zero_le _)) ((HQ.out.kids.below J6.below (Nat.le_refl _)).weak (Nat.zero_le _)) HD.out)
              go_simp; ((with_reducible refine Calls.mono C7.out ?_); rintro e W7 ⟨A19, m19, c19, rfl, ho, hw7⟩; have J7 := J6.under hw7); go_wp2_with fail
              refine hK.out _ _ ?_ (fun hHeld => ?_)
              · exact ⟨J7.a.cell 0, J7.a.cell 1, J7.a.cell 2, J7.a.cell 3, J7.b.cell 1, J7.b.cell 2, J7.b.cell 3⟩
              clear hK KK
              (try simp only [Act.put, List.setIfInBounds_toArray, List.set_cons_zero, List.set_cons_succ])
              have O19_7 := ho.weak J6.high
              have O7_7 := O7_6.below hw7 (Nat.le_refl _)
              have O13_7 := O13_6.below hw7 (Nat.le_refl _)
              clear ho C7 J6 hw7 B18_6 O7_6 O13_6
              refine wpAnyH_take (i := 20) (v := ?_) (by simp only [List.getElem?_toArray, List.getElem?_cons_succ, List.getElem?_cons_zero]; rfl) (by kernel_rfl) (by kernel_rfl) (by kernel_rfl) (fun _ _ _ h => h) (Or.inl ⟨by rfl, ?_⟩) hHeld ?_
              rotate_left
              · intro wz hSw; (try dsimp only at hSw); go_simp; try with_reducible rfl
              (try simp only [Act.put, List.setIfInBounds_toArray, List.set_cons_zero, List.set_cons_succ])
              have rc := J7.res.cells
              have rf := J7.res.frees
              refine wpAnyH_done (by kernel_rfl) ?_ _
              simp only [lastQ]
              go_simp
              clear hHeld rc rf
              go_wp2
              have hB := (((J7.res.set_ 0 (.bool p.leaf)).set_ 1 (.slice A7 m7 c7)).set_ 2 (.slice A13 m13 c13)).set_ 3 (.slice A19 m19 c19)
              refine bodyPost_ret (results_cell_row rfl _ _ (w.heap.size + 2) 59 #[.bool p.leaf, .slice A7 m7 c7, .slice A13 m13 c13, .slice A19 m19 c19] (0, 0) _ rfl hB Try.underlying59 rfl (by rw [size26]; rfl)) rfl ?_
              exact join_end HP.out HQ.out HK.out HV.out HD.out J7 O7_7 O13_7 O19_7
    · go_simp
      refine hK.out _ _ ?_ (fun hHeld => ?_)
      · exact ⟨(J2.alloc _).a.cell 0, (J2.alloc _).a.cell 1, (J2.alloc _).a.cell 2, (J2.alloc _).a.cell 3, (J2.alloc _).b.cell 1, (J2.alloc _).b.cell 2, (J2.alloc _).b.cell 3⟩
      clear hK KK
      (try simp only [Act.put, List.setIfInBounds_toArray, List.set_cons_zero, List.set_cons_succ])
      have J3 := J2.alloc (.cells #[.slice D nd cd, .slice D' nd' cd'] 57)
      have B18_3 := Blk.new W2 57 [.slice D nd cd, .slice D' nd' cd']
      have hw3 : Below W2.heap.size W2 (W2.alloc (.cells #[.slice D nd cd, .slice D' nd' cd'] 57)) := (Below.refl _ _).alloc (Nat.le_refl _) _
      change Blk (W2.alloc (.cells #[.slice D nd cd, .slice D' nd' cd'] 57)) _ _ _ at B18_3
      have B6_3 := B6_2.below hw3 B6_2.lt
      generalize W2.alloc (.cells #[.slice D nd cd, .slice D' nd' cd'] 57) = W3 at *
      clear J2 hw3 B6_2
      refine wpAnyH_ready (rs := [7, 12]) (by kernel_rfl) (by simp) ?_
      refine AllReadyH.cons (by simp only [List.getElem?_toArray, List.getElem?_cons_succ, List.getElem?_cons_zero]; rfl) (fun KK hK => ?_) (AllReadyH.cons (by simp only [List.getElem?_toArray, List.getElem?_cons_succ, List.getElem?_cons_zero]; rfl) (fun KK hK => ?_) AllReadyH.nil)
      · have C4 := Lib.hid (cat_str B6_3 ((HP.out.keys.below J3.below (Nat.le_refl _)).weak (Nat.zero_le _)) ((HQ.out.keys.below J3.below (Nat.le_refl _)).weak (Nat.zero_le _)) HK.out)
        go_simp; ((with_reducible refine Calls.mono C4.out ?_); rintro e W4 ⟨A7, m7, c7, rfl, ho, hw4⟩; have J4 := J3.under hw4); go_wp2_with fail
        refine hK.out _ _ ?_ (fun hHeld => ?_)
        · exact ⟨J4.a.cell 0, J4.a.cell 1, J4.a.cell 2, J4.a.cell 3, J4.b.cell 1, J4.b.cell 2, J4.b.cell 3⟩
        clear hK KK
        (try simp only [Act.put, List.setIfInBounds_toArray, List.set_cons_zero, List.set_cons_succ])
        have O7_4 := ho.weak J3.high
        have B18_4 := B18_3.below hw4 B18_3.lt
        clear ho C4 J3 hw4 B6_3 B18_3
        refine wpAnyH_ready (rs := [12]) (by kernel_rfl) (by simp) ?_
        refine AllReadyH.cons (by simp only [List.getElem?_toArray, List.getElem?_cons_succ, List.getElem?_cons_zero]; rfl) (fun KK hK => ?_) AllReadyH.nil
        · go_simp
          refine hK.out _ _ ?_ (fun hHeld => ?_)
          · exact ⟨(J4.alloc _).a.cell 0, (J4.alloc _).a.cell 1, (J4.alloc _).a.cell 2, (J4.alloc _).a.cell 3, (J4.alloc _).b.cell 1, (J4.alloc _).b.cell 2, (J4.alloc _).b.cell 3⟩
          clear hK KK
          (try simp only [Act.put, List.setIfInBounds_toArray, List.set_cons_zero, List.set_cons_succ])
          have J5 := J4.alloc (.cells #[.slice V nv cv, .slice V' nv' cv'] 56)
          have B12_5 := Blk.new W4 56 [.slice V nv cv, .slice V' nv' cv']
          have hw5 : Below W4.heap.size W4 (W4.alloc (.cells #[.slice V nv cv, .slice V' nv' cv'] 56)) := (Below.refl _ _).alloc (Nat.le_refl _) _
          change Blk (W4.alloc (.cells #[.slice V nv cv, .slice V' nv' cv'] 56)) _ _ _ at B12_5
          have B18_5 := B18_4.below hw5 B18_4.lt
          have O7_5 := O7_4.below hw5 (Nat.le_refl _)
          generalize W4.alloc (.cells #[.slice V nv cv, .slice V' nv' cv'] 56) = W5 at *
          clear J4 hw5 B18_4 O7_4
          refine wpAnyH_ready (rs := [13]) (by kernel_rfl) (by simp) ?_
          refine AllReadyH.cons (by simp only [List.getElem?_toArray, List.getElem?_cons_succ, List.getElem?_cons_zero]; rfl) (fun KK hK => ?_) AllReadyH.nil
          · have C6 := Lib.hid (cat_str B12_5 ((HP.out.vals.below J5.below (Nat.le_refl _)).weak (Nat.zero_le _)) ((HQ.out.vals.below J5.below (Nat.le_refl _)).weak (Nat.zero_le _)) HV.out)
            go_simp; ((with_reducible refine Calls.mono C6.out ?_); rintro e W6 ⟨A13, m13, c13, rfl, ho, hw6⟩; have J6 := J5.under hw6); go_wp2_with fail
            refine hK.out _ _ ?_ (fun hHeld => ?_)
            · exact ⟨J6.a.cell 0, J6.a.cell 1, J6.a.cell 2, J6.a.cell 3, J6.b.cell 1, J6.b.cell 2, J6.b.cell 3⟩
            clear hK KK
            (try simp only [Act.put, List.setIfInBounds_toArray, List.set_cons_zero, List.set_cons_succ])
            have O13_6 := ho.weak J5.high
            have B18_6 := B18_5.below hw6 B18_5.lt
            have O7_6 := O7_5.below hw6 (Nat.le_refl _)
            clear ho C6 J5 hw6 B12_5 B18_5 O7_5
            refine wpAnyH_ready (rs := [19]) (by kernel_rfl) (by simp) ?_
            refine AllReadyH.cons (by simp only [List.getElem?_toArray, List.getElem?_cons_succ, List.getElem?_cons_zero]; rfl) (fun KK hK => ?_) AllReadyH.nil
            · have C7 := Lib.hid (cat_int B18_6 ((HP.out.kids.below J6.below (Nat.le_refl _)).weak (Nat.zero_le _)) ((HQ.out.kids.below J6.below (Nat.le_refl _)).weak (Nat.zero_le _)) HD.out)
              go_simp; ((with_reducible refine Calls.mono C7.out ?_); rintro e W7 ⟨A19, m19, c19, rfl, ho, hw7⟩; have J7 := J6.under hw7); go_wp2_with fail
              refine hK.out _ _ ?_ (fun hHeld => ?_)
              · exact ⟨J7.a.cell 0, J7.a.cell 1, J7.a.cell 2, J7.a.cell 3, J7.b.cell 1, J7.b.cell 2, J7.b.cell 3⟩
              clear hK KK
              (try simp only [Act.put, List.setIfInBounds_toArray, List.set_cons_zero, List.set_cons_succ])
              have O19_7 := ho.weak J6.high
              have O7_7 := O7_6.below hw7 (Nat.le_refl _)
              have O13_7 := O13_6.below hw7 (Nat.le_refl _)
              clear ho C7 J6 hw7 B18_6 O7_6 O13_6
              refine wpAnyH_take (i := 20) (v := ?_) (by simp only [List.getElem?_toArray, List.getElem?_cons_succ, List.getElem?_cons_zero]; rfl) (by kernel_rfl) (by kernel_rfl) (by kernel_rfl) (fun _ _ _ h => h) (Or.inl ⟨by rfl, ?_⟩) hHeld ?_
              rotate_left
              · intro wz hSw; (try dsimp only at hSw); go_simp; try with_reducible rfl
              (try simp only [Act.put, List.setIfInBounds_toArray, List.set_cons_zero, List.set_cons_succ])
              have rc := J7.res.cells
              have rf := J7.res.frees
              refine wpAnyH_done (by kernel_rfl) ?_ _
              simp only [lastQ]
              go_simp
              clear hHeld rc rf
              go_wp2
              have hB := (((J7.res.set_ 0 (.bool p.leaf)).set_ 1 (.slice A7 m7 c7)).set_ 2 (.slice A13 m13 c13)).set_ 3 (.slice A19 m19 c19)
              refine bodyPost_ret (results_cell_row rfl _ _ (w.heap.size + 2) 59 #[.bool p.leaf, .slice A7 m7 c7, .slice A13 m13 c13, .slice A19 m19 c19] (0, 0) _ rfl hB Try.underlying59 rfl (by rw [size26]; rfl)) rfl ?_
              exact join_end HP.out HQ.out HK.out HV.out HD.out J7 O7_7 O13_7 O19_7
      · go_simp
        refine hK.out _ _ ?_ (fun hHeld => ?_)
        · exact ⟨(J3.alloc _).a.cell 0, (J3.alloc _).a.cell 1, (J3.alloc _).a.cell 2, (J3.alloc _).a.cell 3, (J3.alloc _).b.cell 1, (J3.alloc _).b.cell 2, (J3.alloc _).b.cell 3⟩
        clear hK KK
        (try simp only [Act.put, List.setIfInBounds_toArray, List.set_cons_zero, List.set_cons_succ])
        have J4 := J3.alloc (.cells #[.slice V nv cv, .slice V' nv' cv'] 56)
        have B12_4 := Blk.new W3 56 [.slice V nv cv, .slice V' nv' cv']
        have hw4 : Below W3.heap.size W3 (W3.alloc (.cells #[.slice V nv cv, .slice V' nv' cv'] 56)) := (Below.refl _ _).alloc (Nat.le_refl _) _
        change Blk (W3.alloc (.cells #[.slice V nv cv, .slice V' nv' cv'] 56)) _ _ _ at B12_4
        have B6_4 := B6_3.below hw4 B6_3.lt
        have B18_4 := B18_3.below hw4 B18_3.lt
        generalize W3.alloc (.cells #[.slice V nv cv, .slice V' nv' cv'] 56) = W4 at *
        clear J3 hw4 B6_3 B18_3
        refine wpAnyH_ready (rs := [7]) (by kernel_rfl) (by simp) ?_
        refine AllReadyH.cons (by simp only [List.getElem?_toArray, List.getElem?_cons_succ, List.getElem?_cons_zero]; rfl) (fun KK hK => ?_) AllReadyH.nil
        · have C5 := Lib.hid (cat_str B6_4 ((HP.out.keys.below J4.below (Nat.le_refl _)).weak (Nat.zero_le _)) ((HQ.out.keys.below J4.below (Nat.le_refl _)).weak (Nat.zero_le _)) HK.out)
          go_simp; ((with_reducible refine Calls.mono C5.out ?_); rintro e W5 ⟨A7, m7, c7, rfl, ho, hw5⟩; have J5 := J4.under hw5); go_wp2_with fail
          refine hK.out _ _ ?_ (fun hHeld => ?_)
          · exact ⟨J5.a.cell 0, J5.a.cell 1, J5.a.cell 2, J5.a.cell 3, J5.b.cell 1, J5.b.cell 2, J5.b.cell 3⟩
          clear hK KK
          (try simp only [Act.put, List.setIfInBounds_toArray, List.set_cons_zero, List.set_cons_succ])
          have O7_5 := ho.weak J4.high
          have B18_5 := B18_4.below hw5 B18_4.lt
          have B12_5 := B12_4.below hw5 B12_4.lt
          clear ho C5 J4 hw5 B6_4 B18_4 B12_4
          refine wpAnyH_ready (rs := [13]) (by kernel_rfl) (by simp) ?_
          refine AllReadyH.cons (by simp only [List.getElem?_toArray, List.getElem?_cons_succ, List.getElem?_cons_zero]; rfl) (fun KK hK => ?_) AllReadyH.nil
          · have C6 := Lib.hid (cat_str B12_5 ((HP.out.vals.below J5.below (Nat.le_refl _)).weak (Nat.zero_le _)) ((HQ.out.vals.below J5.below (Nat.le_refl _)).weak (Nat.zero_le _)) HV.out)
            go_simp; ((with_reducible refine Calls.mono C6.out ?_); rintro e W6 ⟨A13, m13, c13, rfl, ho, hw6⟩; have J6 := J5.under hw6); go_wp2_with fail
            refine hK.out _ _ ?_ (fun hHeld => ?_)
            · exact ⟨J6.a.cell 0, J6.a.cell 1, J6.a.cell 2, J6.a.cell 3, J6.b.cell 1, J6.b.cell 2, J6.b.cell 3⟩
            clear hK KK
            (try simp only [Act.put, List.setIfInBounds_toArray, List.set_cons_zero, List.set_cons_succ])
            have O13_6 := ho.weak J5.high
            have B18_6 := B18_5.below hw6 B18_5.lt
            have O7_6 := O7_5.below hw6 (Nat.le_refl _)
            clear ho C6 J5 hw6 B12_5 B18_5 O7_5
            refine wpAnyH_ready (rs := [19]) (by kernel_rfl) (by simp) ?_
            refine AllReadyH.cons (by simp only [List.getElem?_toArray, List.getElem?_cons_succ, List.getElem?_cons_zero]; rfl) (fun KK hK => ?_) AllReadyH.nil
            · have C7 := Lib.hid (cat_int B18_6 ((HP.out.kids.below J6.below (Nat.le_refl _)).weak (Nat.zero_le _)) ((HQ.out.kids.below J6.below (Nat.le_refl _)).weak (Nat.zero_le _)) HD.out)
              go_simp; ((with_reducible refine Calls.mono C7.out ?_); rintro e W7 ⟨A19, m19, c19, rfl, ho, hw7⟩; have J7 := J6.under hw7); go_wp2_with fail
              refine hK.out _ _ ?_ (fun hHeld => ?_)
              · exact ⟨J7.a.cell 0, J7.a.cell 1, J7.a.cell 2, J7.a.cell 3, J7.b.cell 1, J7.b.cell 2, J7.b.cell 3⟩
              clear hK KK
              (try simp only [Act.put, List.setIfInBounds_toArray, List.set_cons_zero, List.set_cons_succ])
              have O19_7 := ho.weak J6.high
              have O7_7 := O7_6.below hw7 (Nat.le_refl _)
              have O13_7 := O13_6.below hw7 (Nat.le_refl _)
              clear ho C7 J6 hw7 B18_6 O7_6 O13_6
              refine wpAnyH_take (i := 20) (v := ?_) (by simp only [List.getElem?_toArray, List.getElem?_cons_succ, List.getElem?_cons_zero]; rfl) (by kernel_rfl) (by kernel_rfl) (by kernel_rfl) (fun _ _ _ h => h) (Or.inl ⟨by rfl, ?_⟩) hHeld ?_
              rotate_left
              · intro wz hSw; (try dsimp only at hSw); go_simp; try with_reducible rfl
              (try simp only [Act.put, List.setIfInBounds_toArray, List.set_cons_zero, List.set_cons_succ])
              have rc := J7.res.cells
              have rf := J7.res.frees
              refine wpAnyH_done (by kernel_rfl) ?_ _
              simp only [lastQ]
              go_simp
              clear hHeld rc rf
              go_wp2
              have hB := (((J7.res.set_ 0 (.bool p.leaf)).set_ 1 (.slice A7 m7 c7)).set_ 2 (.slice A13 m13 c13)).set_ 3 (.slice A19 m19 c19)
              refine bodyPost_ret (results_cell_row rfl _ _ (w.heap.size + 2) 59 #[.bool p.leaf, .slice A7 m7 c7, .slice A13 m13 c13, .slice A19 m19 c19] (0, 0) _ rfl hB Try.underlying59 rfl (by rw [size26]; rfl)) rfl ?_
              exact join_end HP.out HQ.out HK.out HV.out HD.out J7 O7_7 O13_7 O19_7
  · go_simp
    refine hK.out _ _ ?_ (fun hHeld => ?_)
    · exact ⟨(J1.alloc _).a.cell 0, (J1.alloc _).a.cell 1, (J1.alloc _).a.cell 2, (J1.alloc _).a.cell 3, (J1.alloc _).b.cell 1, (J1.alloc _).b.cell 2, (J1.alloc _).b.cell 3⟩
    clear hK KK
    (try simp only [Act.put, List.setIfInBounds_toArray, List.set_cons_zero, List.set_cons_succ])
    have J2 := J1.alloc (.cells #[.slice V nv cv, .slice V' nv' cv'] 56)
    have B12_2 := Blk.new W1 56 [.slice V nv cv, .slice V' nv' cv']
    have hw2 : Below W1.heap.size W1 (W1.alloc (.cells #[.slice V nv cv, .slice V' nv' cv'] 56)) := (Below.refl _ _).alloc (Nat.le_refl _) _
    change Blk (W1.alloc (.cells #[.slice V nv cv, .slice V' nv' cv'] 56)) _ _ _ at B12_2
    generalize W1.alloc (.cells #[.slice V nv cv, .slice V' nv' cv'] 56) = W2 at *
    clear J1 hw2
    refine wpAnyH_ready (rs := [6, 18]) (by kernel_rfl) (by simp) ?_
    refine AllReadyH.cons (by simp only [List.getElem?_toArray, List.getElem?_cons_succ, List.getElem?_cons_zero]; rfl) (fun KK hK => ?_) (AllReadyH.cons (by simp only [List.getElem?_toArray, List.getElem?_cons_succ, List.getElem?_cons_zero]; rfl) (fun KK hK => ?_) AllReadyH.nil)
    · go_simp
      refine hK.out _ _ ?_ (fun hHeld => ?_)
      · exact ⟨(J2.alloc _).a.cell 0, (J2.alloc _).a.cell 1, (J2.alloc _).a.cell 2, (J2.alloc _).a.cell 3, (J2.alloc _).b.cell 1, (J2.alloc _).b.cell 2, (J2.alloc _).b.cell 3⟩
      clear hK KK
      (try simp only [Act.put, List.setIfInBounds_toArray, List.set_cons_zero, List.set_cons_succ])
      have J3 := J2.alloc (.cells #[.slice K nk ck, .slice K' nk' ck'] 56)
      have B6_3 := Blk.new W2 56 [.slice K nk ck, .slice K' nk' ck']
      have hw3 : Below W2.heap.size W2 (W2.alloc (.cells #[.slice K nk ck, .slice K' nk' ck'] 56)) := (Below.refl _ _).alloc (Nat.le_refl _) _
      change Blk (W2.alloc (.cells #[.slice K nk ck, .slice K' nk' ck'] 56)) _ _ _ at B6_3
      have B12_3 := B12_2.below hw3 B12_2.lt
      generalize W2.alloc (.cells #[.slice K nk ck, .slice K' nk' ck'] 56) = W3 at *
      clear J2 hw3 B12_2
      refine wpAnyH_ready (rs := [7, 18]) (by kernel_rfl) (by simp) ?_
      refine AllReadyH.cons (by simp only [List.getElem?_toArray, List.getElem?_cons_succ, List.getElem?_cons_zero]; rfl) (fun KK hK => ?_) (AllReadyH.cons (by simp only [List.getElem?_toArray, List.getElem?_cons_succ, List.getElem?_cons_zero]; rfl) (fun KK hK => ?_) AllReadyH.nil)
      · have C4 := Lib.hid (cat_str B6_3 ((HP.out.keys.below J3.below (Nat.le_refl _)).weak (Nat.zero_le _)) ((HQ.out.keys.below J3.below (Nat.le_refl _)).weak (Nat.zero_le _)) HK.out)
        go_simp; ((with_reducible refine Calls.mono C4.out ?_); rintro e W4 ⟨A7, m7, c7, rfl, ho, hw4⟩; have J4 := J3.under hw4); go_wp2_with fail
        refine hK.out _ _ ?_ (fun hHeld => ?_)
        · exact ⟨J4.a.cell 0, J4.a.cell 1, J4.a.cell 2, J4.a.cell 3, J4.b.cell 1, J4.b.cell 2, J4.b.cell 3⟩
        clear hK KK
        (try simp only [Act.put, List.setIfInBounds_toArray, List.set_cons_zero, List.set_cons_succ])
        have O7_4 := ho.weak J3.high
        have B12_4 := B12_3.below hw4 B12_3.lt
        clear ho C4 J3 hw4 B6_3 B12_3
        refine wpAnyH_ready (rs := [13, 18]) (by kernel_rfl) (by simp) ?_
        refine AllReadyH.cons (by simp only [List.getElem?_toArray, List.getElem?_cons_succ, List.getElem?_cons_zero]; rfl) (fun KK hK => ?_) (AllReadyH.cons (by simp only [List.getElem?_toArray, List.getElem?_cons_succ, List.getElem?_cons_zero]; rfl) (fun KK hK => ?_) AllReadyH.nil)
        · have C5 := Lib.hid (cat_str B12_4 ((HP.out.vals.below J4.below (Nat.le_refl _)).weak (Nat.zero_le _)) ((HQ.out.vals.below J4.below (Nat.le_refl _)).weak (Nat.zero_le _)) HV.out)
          go_simp; ((with_reducible refine Calls.mono C5.out ?_); rintro e W5 ⟨A13, m13, c13, rfl, ho, hw5⟩; have J5 := J4.under hw5); go_wp2_with fail
          refine hK.out _ _ ?_ (fun hHeld => ?_)
          · exact ⟨J5.a.cell 0, J5.a.cell 1, J5.a.cell 2, J5.a.cell 3, J5.b.cell 1, J5.b.cell 2, J5.b.cell 3⟩
          clear hK KK
          (try simp only [Act.put, List.setIfInBounds_toArray, List.set_cons_zero, List.set_cons_succ])
          have O13_5 := ho.weak J4.high
          have O7_5 := O7_4.below hw5 (Nat.le_refl _)
          clear ho C5 J4 hw5 B12_4 O7_4
          refine wpAnyH_ready (rs := [18]) (by kernel_rfl) (by simp) ?_
          refine AllReadyH.cons (by simp only [List.getElem?_toArray, List.getElem?_cons_succ, List.getElem?_cons_zero]; rfl) (fun KK hK => ?_) AllReadyH.nil
          · go_simp
            refine hK.out _ _ ?_ (fun hHeld => ?_)
            · exact ⟨(J5.alloc _).a.cell 0, (J5.alloc _).a.cell 1, (J5.alloc _).a.cell 2, (J5.alloc _).a.cell 3, (J5.alloc _).b.cell 1, (J5.alloc _).b.cell 2, (J5.alloc _).b.cell 3⟩
            clear hK KK
            (try simp only [Act.put, List.setIfInBounds_toArray, List.set_cons_zero, List.set_cons_succ])
            have J6 := J5.alloc (.cells #[.slice D nd cd, .slice D' nd' cd'] 57)
            have B18_6 := Blk.new W5 57 [.slice D nd cd, .slice D' nd' cd']
            have hw6 : Below W5.heap.size W5 (W5.alloc (.cells #[.slice D nd cd, .slice D' nd' cd'] 57)) := (Below.refl _ _).alloc (Nat.le_refl _) _
            change Blk (W5.alloc (.cells #[.slice D nd cd, .slice D' nd' cd'] 57)) _ _ _ at B18_6
            have O7_6 := O7_5.below hw6 (Nat.le_refl _)
            have O13_6 := O13_5.below hw6 (Nat.le_refl _)
            generalize W5.alloc (.cells #[.slice D nd cd, .slice D' nd' cd'] 57) = W6 at *
            clear J5 hw6 O7_5 O13_5
            refine wpAnyH_ready (rs := [19]) (by kernel_rfl) (by simp) ?_
            refine AllReadyH.cons (by simp only [List.getElem?_toArray, List.getElem?_cons_succ, List.getElem?_cons_zero]; rfl) (fun KK hK => ?_) AllReadyH.nil
            · have C7 := Lib.hid (cat_int B18_6 ((HP.out.kids.below J6.below (Nat.le_refl _)).weak (Nat.zero_le _)) ((HQ.out.kids.below J6.below (Nat.le_refl _)).weak (Nat.zero_le _)) HD.out)
              go_simp; ((with_reducible refine Calls.mono C7.out ?_); rintro e W7 ⟨A19, m19, c19, rfl, ho, hw7⟩; have J7 := J6.under hw7); go_wp2_with fail
              refine hK.out _ _ ?_ (fun hHeld => ?_)
              · exact ⟨J7.a.cell 0, J7.a.cell 1, J7.a.cell 2, J7.a.cell 3, J7.b.cell 1, J7.b.cell 2, J7.b.cell 3⟩
              clear hK KK
              (try simp only [Act.put, List.setIfInBounds_toArray, List.set_cons_zero, List.set_cons_succ])
              have O19_7 := ho.weak J6.high
              have O7_7 := O7_6.below hw7 (Nat.le_refl _)
              have O13_7 := O13_6.below hw7 (Nat.le_refl _)
              clear ho C7 J6 hw7 B18_6 O7_6 O13_6
              refine wpAnyH_take (i := 20) (v := ?_) (by simp only [List.getElem?_toArray, List.getElem?_cons_succ, List.getElem?_cons_zero]; rfl) (by kernel_rfl) (by kernel_rfl) (by kernel_rfl) (fun _ _ _ h => h) (Or.inl ⟨by rfl, ?_⟩) hHeld ?_
              rotate_left
              · intro wz hSw; (try dsimp only at hSw); go_simp; try with_reducible rfl
              (try simp only [Act.put, List.setIfInBounds_toArray, List.set_cons_zero, List.set_cons_succ])
              have rc := J7.res.cells
              have rf := J7.res.frees
              refine wpAnyH_done (by kernel_rfl) ?_ _
              simp only [lastQ]
              go_simp
              clear hHeld rc rf
              go_wp2
              have hB := (((J7.res.set_ 0 (.bool p.leaf)).set_ 1 (.slice A7 m7 c7)).set_ 2 (.slice A13 m13 c13)).set_ 3 (.slice A19 m19 c19)
              refine bodyPost_ret (results_cell_row rfl _ _ (w.heap.size + 2) 59 #[.bool p.leaf, .slice A7 m7 c7, .slice A13 m13 c13, .slice A19 m19 c19] (0, 0) _ rfl hB Try.underlying59 rfl (by rw [size26]; rfl)) rfl ?_
              exact join_end HP.out HQ.out HK.out HV.out HD.out J7 O7_7 O13_7 O19_7
        · go_simp
          refine hK.out _ _ ?_ (fun hHeld => ?_)
          · exact ⟨(J4.alloc _).a.cell 0, (J4.alloc _).a.cell 1, (J4.alloc _).a.cell 2, (J4.alloc _).a.cell 3, (J4.alloc _).b.cell 1, (J4.alloc _).b.cell 2, (J4.alloc _).b.cell 3⟩
          clear hK KK
          (try simp only [Act.put, List.setIfInBounds_toArray, List.set_cons_zero, List.set_cons_succ])
          have J5 := J4.alloc (.cells #[.slice D nd cd, .slice D' nd' cd'] 57)
          have B18_5 := Blk.new W4 57 [.slice D nd cd, .slice D' nd' cd']
          have hw5 : Below W4.heap.size W4 (W4.alloc (.cells #[.slice D nd cd, .slice D' nd' cd'] 57)) := (Below.refl _ _).alloc (Nat.le_refl _) _
          change Blk (W4.alloc (.cells #[.slice D nd cd, .slice D' nd' cd'] 57)) _ _ _ at B18_5
          have B12_5 := B12_4.below hw5 B12_4.lt
          have O7_5 := O7_4.below hw5 (Nat.le_refl _)
          generalize W4.alloc (.cells #[.slice D nd cd, .slice D' nd' cd'] 57) = W5 at *
          clear J4 hw5 B12_4 O7_4
          refine wpAnyH_ready (rs := [13]) (by kernel_rfl) (by simp) ?_
          refine AllReadyH.cons (by simp only [List.getElem?_toArray, List.getElem?_cons_succ, List.getElem?_cons_zero]; rfl) (fun KK hK => ?_) AllReadyH.nil
          · have C6 := Lib.hid (cat_str B12_5 ((HP.out.vals.below J5.below (Nat.le_refl _)).weak (Nat.zero_le _)) ((HQ.out.vals.below J5.below (Nat.le_refl _)).weak (Nat.zero_le _)) HV.out)
            go_simp; ((with_reducible refine Calls.mono C6.out ?_); rintro e W6 ⟨A13, m13, c13, rfl, ho, hw6⟩; have J6 := J5.under hw6); go_wp2_with fail
            refine hK.out _ _ ?_ (fun hHeld => ?_)
            · exact ⟨J6.a.cell 0, J6.a.cell 1, J6.a.cell 2, J6.a.cell 3, J6.b.cell 1, J6.b.cell 2, J6.b.cell 3⟩
            clear hK KK
            (try simp only [Act.put, List.setIfInBounds_toArray, List.set_cons_zero, List.set_cons_succ])
            have O13_6 := ho.weak J5.high
            have O7_6 := O7_5.below hw6 (Nat.le_refl _)
            have B18_6 := B18_5.below hw6 B18_5.lt
            clear ho C6 J5 hw6 B12_5 O7_5 B18_5
            refine wpAnyH_ready (rs := [19]) (by kernel_rfl) (by simp) ?_
            refine AllReadyH.cons (by simp only [List.getElem?_toArray, List.getElem?_cons_succ, List.getElem?_cons_zero]; rfl) (fun KK hK => ?_) AllReadyH.nil
            · have C7 := Lib.hid (cat_int B18_6 ((HP.out.kids.below J6.below (Nat.le_refl _)).weak (Nat.zero_le _)) ((HQ.out.kids.below J6.below (Nat.le_refl _)).weak (Nat.zero_le _)) HD.out)
              go_simp; ((with_reducible refine Calls.mono C7.out ?_); rintro e W7 ⟨A19, m19, c19, rfl, ho, hw7⟩; have J7 := J6.under hw7); go_wp2_with fail
              refine hK.out _ _ ?_ (fun hHeld => ?_)
              · exact ⟨J7.a.cell 0, J7.a.cell 1, J7.a.cell 2, J7.a.cell 3, J7.b.cell 1, J7.b.cell 2, J7.b.cell 3⟩
              clear hK KK
              (try simp only [Act.put, List.setIfInBounds_toArray, List.set_cons_zero, List.set_cons_succ])
              have O19_7 := ho.weak J6.high
              have O7_7 := O7_6.below hw7 (Nat.le_refl _)
              have O13_7 := O13_6.below hw7 (Nat.le_refl _)
              clear ho C7 J6 hw7 B18_6 O7_6 O13_6
              refine wpAnyH_take (i := 20) (v := ?_) (by simp only [List.getElem?_toArray, List.getElem?_cons_succ, List.getElem?_cons_zero]; rfl) (by kernel_rfl) (by kernel_rfl) (by kernel_rfl) (fun _ _ _ h => h) (Or.inl ⟨by rfl, ?_⟩) hHeld ?_
              rotate_left
              · intro wz hSw; (try dsimp only at hSw); go_simp; try with_reducible rfl
              (try simp only [Act.put, List.setIfInBounds_toArray, List.set_cons_zero, List.set_cons_succ])
              have rc := J7.res.cells
              have rf := J7.res.frees
              refine wpAnyH_done (by kernel_rfl) ?_ _
              simp only [lastQ]
              go_simp
              clear hHeld rc rf
              go_wp2
              have hB := (((J7.res.set_ 0 (.bool p.leaf)).set_ 1 (.slice A7 m7 c7)).set_ 2 (.slice A13 m13 c13)).set_ 3 (.slice A19 m19 c19)
              refine bodyPost_ret (results_cell_row rfl _ _ (w.heap.size + 2) 59 #[.bool p.leaf, .slice A7 m7 c7, .slice A13 m13 c13, .slice A19 m19 c19] (0, 0) _ rfl hB Try.underlying59 rfl (by rw [size26]; rfl)) rfl ?_
              exact join_end HP.out HQ.out HK.out HV.out HD.out J7 O7_7 O13_7 O19_7
      · go_simp
        refine hK.out _ _ ?_ (fun hHeld => ?_)
        · exact ⟨(J3.alloc _).a.cell 0, (J3.alloc _).a.cell 1, (J3.alloc _).a.cell 2, (J3.alloc _).a.cell 3, (J3.alloc _).b.cell 1, (J3.alloc _).b.cell 2, (J3.alloc _).b.cell 3⟩
        clear hK KK
        (try simp only [Act.put, List.setIfInBounds_toArray, List.set_cons_zero, List.set_cons_succ])
        have J4 := J3.alloc (.cells #[.slice D nd cd, .slice D' nd' cd'] 57)
        have B18_4 := Blk.new W3 57 [.slice D nd cd, .slice D' nd' cd']
        have hw4 : Below W3.heap.size W3 (W3.alloc (.cells #[.slice D nd cd, .slice D' nd' cd'] 57)) := (Below.refl _ _).alloc (Nat.le_refl _) _
        change Blk (W3.alloc (.cells #[.slice D nd cd, .slice D' nd' cd'] 57)) _ _ _ at B18_4
        have B12_4 := B12_3.below hw4 B12_3.lt
        have B6_4 := B6_3.below hw4 B6_3.lt
        generalize W3.alloc (.cells #[.slice D nd cd, .slice D' nd' cd'] 57) = W4 at *
        clear J3 hw4 B12_3 B6_3
        refine wpAnyH_ready (rs := [7]) (by kernel_rfl) (by simp) ?_
        refine AllReadyH.cons (by simp only [List.getElem?_toArray, List.getElem?_cons_succ, List.getElem?_cons_zero]; rfl) (fun KK hK => ?_) AllReadyH.nil
        · have C5 := Lib.hid (cat_str B6_4 ((HP.out.keys.below J4.below (Nat.le_refl _)).weak (Nat.zero_le _)) ((HQ.out.keys.below J4.below (Nat.le_refl _)).weak (Nat.zero_le _)) HK.out)
          go_simp; ((with_reducible refine Calls.mono C5.out ?_); rintro e W5 ⟨A7, m7, c7, rfl, ho, hw5⟩; have J5 := J4.under hw5); go_wp2_with fail
          refine hK.out _ _ ?_ (fun hHeld => ?_)
          · exact ⟨J5.a.cell 0, J5.a.cell 1, J5.a.cell 2, J5.a.cell 3, J5.b.cell 1, J5.b.cell 2, J5.b.cell 3⟩
          clear hK KK
          (try simp only [Act.put, List.setIfInBounds_toArray, List.set_cons_zero, List.set_cons_succ])
          have O7_5 := ho.weak J4.high
          have B12_5 := B12_4.below hw5 B12_4.lt
          have B18_5 := B18_4.below hw5 B18_4.lt
          clear ho C5 J4 hw5 B6_4 B12_4 B18_4
          refine wpAnyH_ready (rs := [13]) (by kernel_rfl) (by simp) ?_
          refine AllReadyH.cons (by simp only [List.getElem?_toArray, List.getElem?_cons_succ, List.getElem?_cons_zero]; rfl) (fun KK hK => ?_) AllReadyH.nil
          · have C6 := Lib.hid (cat_str B12_5 ((HP.out.vals.below J5.below (Nat.le_refl _)).weak (Nat.zero_le _)) ((HQ.out.vals.below J5.below (Nat.le_refl _)).weak (Nat.zero_le _)) HV.out)
            go_simp; ((with_reducible refine Calls.mono C6.out ?_); rintro e W6 ⟨A13, m13, c13, rfl, ho, hw6⟩; have J6 := J5.under hw6); go_wp2_with fail
            refine hK.out _ _ ?_ (fun hHeld => ?_)
            · exact ⟨J6.a.cell 0, J6.a.cell 1, J6.a.cell 2, J6.a.cell 3, J6.b.cell 1, J6.b.cell 2, J6.b.cell 3⟩
            clear hK KK
            (try simp only [Act.put, List.setIfInBounds_toArray, List.set_cons_zero, List.set_cons_succ])
            have O13_6 := ho.weak J5.high
            have B18_6 := B18_5.below hw6 B18_5.lt
            have O7_6 := O7_5.below hw6 (Nat.le_refl _)
            clear ho C6 J5 hw6 B12_5 B18_5 O7_5
            refine wpAnyH_ready (rs := [19]) (by kernel_rfl) (by simp) ?_
            refine AllReadyH.cons (by simp only [List.getElem?_toArray, List.getElem?_cons_succ, List.getElem?_cons_zero]; rfl) (fun KK hK => ?_) AllReadyH.nil
            · have C7 := Lib.hid (cat_int B18_6 ((HP.out.kids.below J6.below (Nat.le_refl _)).weak (Nat.zero_le _)) ((HQ.out.kids.below J6.below (Nat.le_refl _)).weak (Nat.zero_le _)) HD.out)
              go_simp; ((with_reducible refine Calls.mono C7.out ?_); rintro e W7 ⟨A19, m19, c19, rfl, ho, hw7⟩; have J7 := J6.under hw7); go_wp2_with fail
              refine hK.out _ _ ?_ (fun hHeld => ?_)
              · exact ⟨J7.a.cell 0, J7.a.cell 1, J7.a.cell 2, J7.a.cell 3, J7.b.cell 1, J7.b.cell 2, J7.b.cell 3⟩
              clear hK KK
              (try simp only [Act.put, List.setIfInBounds_toArray, List.set_cons_zero, List.set_cons_succ])
              have O19_7 := ho.weak J6.high
              have O7_7 := O7_6.below hw7 (Nat.le_refl _)
              have O13_7 := O13_6.below hw7 (Nat.le_refl _)
              clear ho C7 J6 hw7 B18_6 O7_6 O13_6
              refine wpAnyH_take (i := 20) (v := ?_) (by simp only [List.getElem?_toArray, List.getElem?_cons_succ, List.getElem?_cons_zero]; rfl) (by kernel_rfl) (by kernel_rfl) (by kernel_rfl) (fun _ _ _ h => h) (Or.inl ⟨by rfl, ?_⟩) hHeld ?_
              rotate_left
              · intro wz hSw; (try dsimp only at hSw); go_simp; try with_reducible rfl
              (try simp only [Act.put, List.setIfInBounds_toArray, List.set_cons_zero, List.set_cons_succ])
              have rc := J7.res.cells
              have rf := J7.res.frees
              refine wpAnyH_done (by kernel_rfl) ?_ _
              simp only [lastQ]
              go_simp
              clear hHeld rc rf
              go_wp2
              have hB := (((J7.res.set_ 0 (.bool p.leaf)).set_ 1 (.slice A7 m7 c7)).set_ 2 (.slice A13 m13 c13)).set_ 3 (.slice A19 m19 c19)
              refine bodyPost_ret (results_cell_row rfl _ _ (w.heap.size + 2) 59 #[.bool p.leaf, .slice A7 m7 c7, .slice A13 m13 c13, .slice A19 m19 c19] (0, 0) _ rfl hB Try.underlying59 rfl (by rw [size26]; rfl)) rfl ?_
              exact join_end HP.out HQ.out HK.out HV.out HD.out J7 O7_7 O13_7 O19_7
    · go_simp
      refine hK.out _ _ ?_ (fun hHeld => ?_)
      · exact ⟨(J2.alloc _).a.cell 0, (J2.alloc _).a.cell 1, (J2.alloc _).a.cell 2, (J2.alloc _).a.cell 3, (J2.alloc _).b.cell 1, (J2.alloc _).b.cell 2, (J2.alloc _).b.cell 3⟩
      clear hK KK
      (try simp only [Act.put, List.setIfInBounds_toArray, List.set_cons_zero, List.set_cons_succ])
      have J3 := J2.alloc (.cells #[.slice D nd cd, .slice D' nd' cd'] 57)
      have B18_3 := Blk.new W2 57 [.slice D nd cd, .slice D' nd' cd']
      have hw3 : Below W2.heap.size W2 (W2.alloc (.cells #[.slice D nd cd, .slice D' nd' cd'] 57)) := (Below.refl _ _).alloc (Nat.le_refl _) _
      change Blk (W2.alloc (.cells #[.slice D nd cd, .slice D' nd' cd'] 57)) _ _ _ at B18_3
      have B12_3 := B12_2.below hw3 B12_2.lt
      generalize W2.alloc (.cells #[.slice D nd cd, .slice D' nd' cd'] 57) = W3 at *
      clear J2 hw3 B12_2
      refine wpAnyH_ready (rs := [6]) (by kernel_rfl) (by simp) ?_
      refine AllReadyH.cons (by simp only [List.getElem?_toArray, List.getElem?_cons_succ, List.getElem?_cons_zero]; rfl) (fun KK hK => ?_) AllReadyH.nil
      · go_simp
        refine hK.out _ _ ?_ (fun hHeld => ?_)
        · exact ⟨(J3.alloc _).a.cell 0, (J3.alloc _).a.cell 1, (J3.alloc _).a.cell 2, (J3.alloc _).a.cell 3, (J3.alloc _).b.cell 1, (J3.alloc _).b.cell 2, (J3.alloc _).b.cell 3⟩
        clear hK KK
        (try simp only [Act.put, List.setIfInBounds_toArray, List.set_cons_zero, List.set_cons_succ])
        have J4 := J3.alloc (.cells #[.slice K nk ck, .slice K' nk' ck'] 56)
        have B6_4 := Blk.new W3 56 [.slice K nk ck, .slice K' nk' ck']
        have hw4 : Below W3.heap.size W3 (W3.alloc (.cells #[.slice K nk ck, .slice K' nk' ck'] 56)) := (Below.refl _ _).alloc (Nat.le_refl _) _
        change Blk (W3.alloc (.cells #[.slice K nk ck, .slice K' nk' ck'] 56)) _ _ _ at B6_4
        have B12_4 := B12_3.below hw4 B12_3.lt
        have B18_4 := B18_3.below hw4 B18_3.lt
        generalize W3.alloc (.cells #[.slice K nk ck, .slice K' nk' ck'] 56) = W4 at *
        clear J3 hw4 B12_3 B18_3
        refine wpAnyH_ready (rs := [7]) (by kernel_rfl) (by simp) ?_
        refine AllReadyH.cons (by simp only [List.getElem?_toArray, List.getElem?_cons_succ, List.getElem?_cons_zero]; rfl) (fun KK hK => ?_) AllReadyH.nil
        · have C5 := Lib.hid (cat_str B6_4 ((HP.out.keys.below J4.below (Nat.le_refl _)).weak (Nat.zero_le _)) ((HQ.out.keys.below J4.below (Nat.le_refl _)).weak (Nat.zero_le _)) HK.out)
          go_simp; ((with_reducible refine Calls.mono C5.out ?_); rintro e W5 ⟨A7, m7, c7, rfl, ho, hw5⟩; have J5 := J4.under hw5); go_wp2_with fail
          refine hK.out _ _ ?_ (fun hHeld => ?_)
          · exact ⟨J5.a.cell 0, J5.a.cell 1, J5.a.cell 2, J5.a.cell 3, J5.b.cell 1, J5.b.cell 2, J5.b.cell 3⟩
          clear hK KK
          (try simp only [Act.put, List.setIfInBounds_toArray, List.set_cons_zero, List.set_cons_succ])
          have O7_5 := ho.weak J4.high
          have B12_5 := B12_4.below hw5 B12_4.lt
          have B18_5 := B18_4.below hw5 B18_4.lt
          clear ho C5 J4 hw5 B6_4 B12_4 B18_4
          refine wpAnyH_ready (rs := [13]) (by kernel_rfl) (by simp) ?_
          refine AllReadyH.cons (by simp only [List.getElem?_toArray, List.getElem?_cons_succ, List.getElem?_cons_zero]; rfl) (fun KK hK => ?_) AllReadyH.nil
          · have C6 := Lib.hid (cat_str B12_5 ((HP.out.vals.below J5.below (Nat.le_refl _)).weak (Nat.zero_le _)) ((HQ.out.vals.below J5.below (Nat.le_refl _)).weak (Nat.zero_le _)) HV.out)
            go_simp; ((with_reducible refine Calls.mono C6.out ?_); rintro e W6 ⟨A13, m13, c13, rfl, ho, hw6⟩; have J6 := J5.under hw6); go_wp2_with fail
            refine hK.out _ _ ?_ (fun hHeld => ?_)
            · exact ⟨J6.a.cell 0, J6.a.cell 1, J6.a.cell 2, J6.a.cell 3, J6.b.cell 1, J6.b.cell 2, J6.b.cell 3⟩
            clear hK KK
            (try simp only [Act.put, List.setIfInBounds_toArray, List.set_cons_zero, List.set_cons_succ])
            have O13_6 := ho.weak J5.high
            have B18_6 := B18_5.below hw6 B18_5.lt
            have O7_6 := O7_5.below hw6 (Nat.le_refl _)
            clear ho C6 J5 hw6 B12_5 B18_5 O7_5
            refine wpAnyH_ready (rs := [19]) (by kernel_rfl) (by simp) ?_
            refine AllReadyH.cons (by simp only [List.getElem?_toArray, List.getElem?_cons_succ, List.getElem?_cons_zero]; rfl) (fun KK hK => ?_) AllReadyH.nil
            · have C7 := Lib.hid (cat_int B18_6 ((HP.out.kids.below J6.below (Nat.le_refl _)).weak (Nat.zero_le _)) ((HQ.out.kids.below J6.below (Nat.le_refl _)).weak (Nat.zero_le _)) HD.out)
              go_simp; ((with_reducible refine Calls.mono C7.out ?_); rintro e W7 ⟨A19, m19, c19, rfl, ho, hw7⟩; have J7 := J6.under hw7); go_wp2_with fail
              refine hK.out _ _ ?_ (fun hHeld => ?_)
              · exact ⟨J7.a.cell 0, J7.a.cell 1, J7.a.cell 2, J7.a.cell 3, J7.b.cell 1, J7.b.cell 2, J7.b.cell 3⟩
              clear hK KK
              (try simp only [Act.put, List.setIfInBounds_toArray, List.set_cons_zero, List.set_cons_succ])
              have O19_7 := ho.weak J6.high
              have O7_7 := O7_6.below hw7 (Nat.le_refl _)
              have O13_7 := O13_6.below hw7 (Nat.le_refl _)
              clear ho C7 J6 hw7 B18_6 O7_6 O13_6
              refine wpAnyH_take (i := 20) (v := ?_) (by simp only [List.getElem?_toArray, List.getElem?_cons_succ, List.getElem?_cons_zero]; rfl) (by kernel_rfl) (by kernel_rfl) (by kernel_rfl) (fun _ _ _ h => h) (Or.inl ⟨by rfl, ?_⟩) hHeld ?_
              rotate_left
              · intro wz hSw; (try dsimp only at hSw); go_simp; try with_reducible rfl
              (try simp only [Act.put, List.setIfInBounds_toArray, List.set_cons_zero, List.set_cons_succ])
              have rc := J7.res.cells
              have rf := J7.res.frees
              refine wpAnyH_done (by kernel_rfl) ?_ _
              simp only [lastQ]
              go_simp
              clear hHeld rc rf
              go_wp2
              have hB := (((J7.res.set_ 0 (.bool p.leaf)).set_ 1 (.slice A7 m7 c7)).set_ 2 (.slice A13 m13 c13)).set_ 3 (.slice A19 m19 c19)
              refine bodyPost_ret (results_cell_row rfl _ _ (w.heap.size + 2) 59 #[.bool p.leaf, .slice A7 m7 c7, .slice A13 m13 c13, .slice A19 m19 c19] (0, 0) _ rfl hB Try.underlying59 rfl (by rw [size26]; rfl)) rfl ?_
              exact join_end HP.out HQ.out HK.out HV.out HD.out J7 O7_7 O13_7 O19_7
  · go_simp
    refine hK.out _ _ ?_ (fun hHeld => ?_)
    · exact ⟨(J1.alloc _).a.cell 0, (J1.alloc _).a.cell 1, (J1.alloc _).a.cell 2, (J1.alloc _).a.cell 3, (J1.alloc _).b.cell 1, (J1.alloc _).b.cell 2, (J1.alloc _).b.cell 3⟩
    clear hK KK
    (try simp only [Act.put, List.setIfInBounds_toArray, List.set_cons_zero, List.set_cons_succ])
    have J2 := J1.alloc (.cells #[.slice D nd cd, .slice D' nd' cd'] 57)
    have B18_2 := Blk.new W1 57 [.slice D nd cd, .slice D' nd' cd']
    have hw2 : Below W1.heap.size W1 (W1.alloc (.cells #[.slice D nd cd, .slice D' nd' cd'] 57)) := (Below.refl _ _).alloc (Nat.le_refl _) _
    change Blk (W1.alloc (.cells #[.slice D nd cd, .slice D' nd' cd'] 57)) _ _ _ at B18_2
    generalize W1.alloc (.cells #[.slice D nd cd, .slice D' nd' cd'] 57) = W2 at *
    clear J1 hw2
    refine wpAnyH_ready (rs := [6, 12]) (by kernel_rfl) (by simp) ?_
    refine AllReadyH.cons (by simp only [List.getElem?_toArray, List.getElem?_cons_succ, List.getElem?_cons_zero]; rfl) (fun KK hK => ?_) (AllReadyH.cons (by simp only [List.getElem?_toArray, List.getElem?_cons_succ, List.getElem?_cons_zero]; rfl) (fun KK hK => ?_) AllReadyH.nil)
    · go_simp
      refine hK.out _ _ ?_ (fun hHeld => ?_)
      · exact ⟨(J2.alloc _).a.cell 0, (J2.alloc _).a.cell 1, (J2.alloc _).a.cell 2, (J2.alloc _).a.cell 3, (J2.alloc _).b.cell 1, (J2.alloc _).b.cell 2, (J2.alloc _).b.cell 3⟩
      clear hK KK
      (try simp only [Act.put, List.setIfInBounds_toArray, List.set_cons_zero, List.set_cons_succ])
      have J3 := J2.alloc (.cells #[.slice K nk ck, .slice K' nk' ck'] 56)
      have B6_3 := Blk.new W2 56 [.slice K nk ck, .slice K' nk' ck']
      have hw3 : Below W2.heap.size W2 (W2.alloc (.cells #[.slice K nk ck, .slice K' nk' ck'] 56)) := (Below.refl _ _).alloc (Nat.le_refl _) _
      change Blk (W2.alloc (.cells #[.slice K nk ck, .slice K' nk' ck'] 56)) _ _ _ at B6_3
      have B18_3 := B18_2.below hw3 B18_2.lt
      generalize W2.alloc (.cells #[.slice K nk ck, .slice K' nk' ck'] 56) = W3 at *
      clear J2 hw3 B18_2
      refine wpAnyH_ready (rs := [7, 12]) (by kernel_rfl) (by simp) ?_
      refine AllReadyH.cons (by simp only [List.getElem?_toArray, List.getElem?_cons_succ, List.getElem?_cons_zero]; rfl) (fun KK hK => ?_) (AllReadyH.cons (by simp only [List.getElem?_toArray, List.getElem?_cons_succ, List.getElem?_cons_zero]; rfl) (fun KK hK => ?_) AllReadyH.nil)
      · have C4 := Lib.hid (cat_str B6_3 ((HP.out.keys.below J3.below (Nat.le_refl _)).weak (Nat.zero_le _)) ((HQ.out.keys.below J3.below (Nat.le_refl _)).weak (Nat.zero_le _)) HK.out)
        go_simp; ((with_reducible refine Calls.mono C4.out ?_); rintro e W4 ⟨A7, m7, c7, rfl, ho, hw4⟩; have J4 := J3.under hw4); go_wp2_with fail
        refine hK.out _ _ ?_ (fun hHeld => ?_)
        · exact ⟨J4.a.cell 0, J4.a.cell 1, J4.a.cell 2, J4.a.cell 3, J4.b.cell 1, J4.b.cell 2, J4.b.cell 3⟩
        clear hK KK
        (try simp only [Act.put, List.setIfInBounds_toArray, List.set_cons_zero, List.set_cons_succ])
        have O7_4 := ho.weak J3.high
        have B18_4 := B18_3.below hw4 B18_3.lt
        clear ho C4 J3 hw4 B6_3 B18_3
        refine wpAnyH_ready (rs := [12]) (by kernel_rfl) (by simp) ?_
        refine AllReadyH.cons (by simp only [List.getElem?_toArray, List.getElem?_cons_succ, List.getElem?_cons_zero]; rfl) (fun KK hK => ?_) AllReadyH.nil
        · go_simp
          refine hK.out _ _ ?_ (fun hHeld => ?_)
          · exact ⟨(J4.alloc _).a.cell 0, (J4.alloc _).a.cell 1, (J4.alloc _).a.cell 2, (J4.alloc _).a.cell 3, (J4.alloc _).b.cell 1, (J4.alloc _).b.cell 2, (J4.alloc _).b.cell 3⟩
          clear hK KK
          (try simp only [Act.put, List.setIfInBounds_toArray, List.set_cons_zero, List.set_cons_succ])
          have J5 := J4.alloc (.cells #[.slice V nv cv, .slice V' nv' cv'] 56)
          have B12_5 := Blk.new W4 56 [.slice V nv cv, .slice V' nv' cv']
          have hw5 : Below W4.heap.size W4 (W4.alloc (.cells #[.slice V nv cv, .slice V' nv' cv'] 56)) := (Below.refl _ _).alloc (Nat.le_refl _) _
          change Blk (W4.alloc (.cells #[.slice V nv cv, .slice V' nv' cv'] 56)) _ _ _ at B12_5
          have B18_5 := B18_4.below hw5 B18_4.lt
          have O7_5 := O7_4.below hw5 (Nat.le_refl _)
          generalize W4.alloc (.cells #[.slice V nv cv, .slice V' nv' cv'] 56) = W5 at *
          clear J4 hw5 B18_4 O7_4
          refine wpAnyH_ready (rs := [13]) (by kernel_rfl) (by simp) ?_
          refine AllReadyH.cons (by simp only [List.getElem?_toArray, List.getElem?_cons_succ, List.getElem?_cons_zero]; rfl) (fun KK hK => ?_) AllReadyH.nil
          · have C6 := Lib.hid (cat_str B12_5 ((HP.out.vals.below J5.below (Nat.le_refl _)).weak (Nat.zero_le _)) ((HQ.out.vals.below J5.below (Nat.le_refl _)).weak (Nat.zero_le _)) HV.out)
            go_simp; ((with_reducible refine Calls.mono C6.out ?_); rintro e W6 ⟨A13, m13, c13, rfl, ho, hw6⟩; have J6 := J5.under hw6); go_wp2_with fail
            refine hK.out _ _ ?_ (fun hHeld => ?_)
            · exact ⟨J6.a.cell 0, J6.a.cell 1, J6.a.cell 2, J6.a.cell 3, J6.b.cell 1, J6.b.cell 2, J6.b.cell 3⟩
            clear hK KK
            (try simp only [Act.put, List.setIfInBounds_toArray, List.set_cons_zero, List.set_cons_succ])
            have O13_6 := ho.weak J5.high
            have B18_6 := B18_5.below hw6 B18_5.lt
            have O7_6 := O7_5.below hw6 (Nat.le_refl _)
            clear ho C6 J5 hw6 B12_5 B18_5 O7_5
            refine wpAnyH_ready (rs := [19]) (by kernel_rfl) (by simp) ?_
            refine AllReadyH.cons (by simp only [List.getElem?_toArray, List.getElem?_cons_succ, List.getElem?_cons_zero]; rfl) (fun KK hK => ?_) AllReadyH.nil
            · have C7 := Lib.hid (cat_int B18_6 ((HP.out.kids.below J6.below (Nat.le_refl _)).weak (Nat.zero_le _)) ((HQ.out.kids.below J6.below (Nat.le_refl _)).weak (Nat.zero_le _)) HD.out)
              go_simp; ((with_reducible refine Calls.mono C7.out ?_); rintro e W7 ⟨A19, m19, c19, rfl, ho, hw7⟩; have J7 := J6.under hw7); go_wp2_with fail
              refine hK.out _ _ ?_ (fun hHeld => ?_)
              · exact ⟨J7.a.cell 0, J7.a.cell 1, J7.a.cell 2, J7.a.cell 3, J7.b.cell 1, J7.b.cell 2, J7.b.cell 3⟩
              clear hK KK
              (try simp only [Act.put, List.setIfInBounds_toArray, List.set_cons_zero, List.set_cons_succ])
              have O19_7 := ho.weak J6.high
              have O7_7 := O7_6.below hw7 (Nat.le_refl _)
              have O13_7 := O13_6.below hw7 (Nat.le_refl _)
              clear ho C7 J6 hw7 B18_6 O7_6 O13_6
              refine wpAnyH_take (i := 20) (v := ?_) (by simp only [List.getElem?_toArray, List.getElem?_cons_succ, List.getElem?_cons_zero]; rfl) (by kernel_rfl) (by kernel_rfl) (by kernel_rfl) (fun _ _ _ h => h) (Or.inl ⟨by rfl, ?_⟩) hHeld ?_
              rotate_left
              · intro wz hSw; (try dsimp only at hSw); go_simp; try with_reducible rfl
              (try simp only [Act.put, List.setIfInBounds_toArray, List.set_cons_zero, List.set_cons_succ])
              have rc := J7.res.cells
              have rf := J7.res.frees
              refine wpAnyH_done (by kernel_rfl) ?_ _
              simp only [lastQ]
              go_simp
              clear hHeld rc rf
              go_wp2
              have hB := (((J7.res.set_ 0 (.bool p.leaf)).set_ 1 (.slice A7 m7 c7)).set_ 2 (.slice A13 m13 c13)).set_ 3 (.slice A19 m19 c19)
              refine bodyPost_ret (results_cell_row rfl _ _ (w.heap.size + 2) 59 #[.bool p.leaf, .slice A7 m7 c7, .slice A13 m13 c13, .slice A19 m19 c19] (0, 0) _ rfl hB Try.underlying59 rfl (by rw [size26]; rfl)) rfl ?_
              exact join_end HP.out HQ.out HK.out HV.out HD.out J7 O7_7 O13_7 O19_7
      · go_simp
        refine hK.out _ _ ?_ (fun hHeld => ?_)
        · exact ⟨(J3.alloc _).a.cell 0, (J3.alloc _).a.cell 1, (J3.alloc _).a.cell 2, (J3.alloc _).a.cell 3, (J3.alloc _).b.cell 1, (J3.alloc _).b.cell 2, (J3.alloc _).b.cell 3⟩
        clear hK KK
        (try simp only [Act.put, List.setIfInBounds_toArray, List.set_cons_zero, List.set_cons_succ])
        have J4 := J3.alloc (.cells #[.slice V nv cv, .slice V' nv' cv'] 56)
        have B12_4 := Blk.new W3 56 [.slice V nv cv, .slice V' nv' cv']
        have hw4 : Below W3.heap.size W3 (W3.alloc (.cells #[.slice V nv cv, .slice V' nv' cv'] 56)) := (Below.refl _ _).alloc (Nat.le_refl _) _
        change Blk (W3.alloc (.cells #[.slice V nv cv, .slice V' nv' cv'] 56)) _ _ _ at B12_4
        have B18_4 := B18_3.below hw4 B18_3.lt
        have B6_4 := B6_3.below hw4 B6_3.lt
        generalize W3.alloc (.cells #[.slice V nv cv, .slice V' nv' cv'] 56) = W4 at *
        clear J3 hw4 B18_3 B6_3
        refine wpAnyH_ready (rs := [7]) (by kernel_rfl) (by simp) ?_
        refine AllReadyH.cons (by simp only [List.getElem?_toArray, List.getElem?_cons_succ, List.getElem?_cons_zero]; rfl) (fun KK hK => ?_) AllReadyH.nil
        · have C5 := Lib.hid (cat_str B6_4 ((HP.out.keys.below J4.below (Nat.le_refl _)).weak (Nat.zero_le _)) ((HQ.out.keys.below J4.below (Nat.le_refl _)).weak (Nat.zero_le _)) HK.out)
          go_simp; ((with_reducible refine Calls.mono C5.out ?_); rintro e W5 ⟨A7, m7, c7, rfl, ho, hw5⟩; have J5 := J4.under hw5); go_wp2_with fail
          refine hK.out _ _ ?_ (fun hHeld => ?_)
          · exact ⟨J5.a.cell 0, J5.a.cell 1, J5.a.cell 2, J5.a.cell 3, J5.b.cell 1, J5.b.cell 2, J5.b.cell 3⟩
          clear hK KK
          (try simp only [Act.put, List.setIfInBounds_toArray, List.set_cons_zero, List.set_cons_succ])
          have O7_5 := ho.weak J4.high
          have B18_5 := B18_4.below hw5 B18_4.lt
          have B12_5 := B12_4.below hw5 B12_4.lt
          clear ho C5 J4 hw5 B6_4 B18_4 B12_4
          refine wpAnyH_ready (rs := [13]) (by kernel_rfl) (by simp) ?_
          refine AllReadyH.cons (by simp only [List.getElem?_toArray, List.getElem?_cons_succ, List.getElem?_cons_zero]; rfl) (fun KK hK => ?_) AllReadyH.nil
          · have C6 := Lib.hid (cat_str B12_5 ((HP.out.vals.below J5.below (Nat.le_refl _)).weak (Nat.zero_le _)) ((HQ.out.vals.below J5.below (Nat.le_refl _)).weak (Nat.zero_le _)) HV.out)
            go_simp; ((with_reducible refine Calls.mono C6.out ?_); rintro e W6 ⟨A13, m13, c13, rfl, ho, hw6⟩; have J6 := J5.under hw6); go_wp2_with fail
            refine hK.out _ _ ?_ (fun hHeld => ?_)
            · exact ⟨J6.a.cell 0, J6.a.cell 1, J6.a.cell 2, J6.a.cell 3, J6.b.cell 1, J6.b.cell 2, J6.b.cell 3⟩
            clear hK KK
            (try simp only [Act.put, List.setIfInBounds_toArray, List.set_cons_zero, List.set_cons_succ])
            have O13_6 := ho.weak J5.high
            have B18_6 := B18_5.below hw6 B18_5.lt
            have O7_6 := O7_5.below hw6 (Nat.le_refl _)
            clear ho C6 J5 hw6 B12_5 B18_5 O7_5
            refine wpAnyH_ready (rs := [19]) (by kernel_rfl) (by simp) ?_
            refine AllReadyH.cons (by simp only [List.getElem?_toArray, List.getElem?_cons_succ, List.getElem?_cons_zero]; rfl) (fun KK hK => ?_) AllReadyH.nil
            · have C7 := Lib.hid (cat_int B18_6 ((HP.out.kids.below J6.below (Nat.le_refl _)).weak (Nat.zero_le _)) ((HQ.out.kids.below J6.below (Nat.le_refl _)).weak (Nat.zero_le _)) HD.out)
              go_simp; ((with_reducible refine Calls.mono C7.out ?_); rintro e W7 ⟨A19, m19, c19, rfl, ho, hw7⟩; have J7 := J6.under hw7); go_wp2_with fail
              refine hK.out _ _ ?_ (fun hHeld => ?_)
              · exact ⟨J7.a.cell 0, J7.a.cell 1, J7.a.cell 2, J7.a.cell 3, J7.b.cell 1, J7.b.cell 2, J7.b.cell 3⟩
              clear hK KK
              (try simp only [Act.put, List.setIfInBounds_toArray, List.set_cons_zero, List.set_cons_succ])
              have O19_7 := ho.weak J6.high
              have O7_7 := O7_6.below hw7 (Nat.le_refl _)
              have O13_7 := O13_6.below hw7 (Nat.le_refl _)
              clear ho C7 J6 hw7 B18_6 O7_6 O13_6
              refine wpAnyH_take (i := 20) (v := ?_) (by simp only [List.getElem?_toArray, List.getElem?_cons_succ, List.getElem?_cons_zero]; rfl) (by kernel_rfl) (by kernel_rfl) (by kernel_rfl) (fun _ _ _ h => h) (Or.inl ⟨by rfl, ?_⟩) hHeld ?_
              rotate_left
              · intro wz hSw; (try dsimp only at hSw); go_simp; try with_reducible rfl
              (try simp only [Act.put, List.setIfInBounds_toArray, List.set_cons_zero, List.set_cons_succ])
              have rc := J7.res.cells
              have rf := J7.res.frees
              refine wpAnyH_done (by kernel_rfl) ?_ _
              simp only [lastQ]
              go_simp
              clear hHeld rc rf
              go_wp2
              have hB := (((J7.res.set_ 0 (.bool p.leaf)).set_ 1 (.slice A7 m7 c7)).set_ 2 (.slice A13 m13 c13)).set_ 3 (.slice A19 m19 c19)
              refine bodyPost_ret (results_cell_row rfl _ _ (w.heap.size + 2) 59 #[.bool p.leaf, .slice A7 m7 c7, .slice A13 m13 c13, .slice A19 m19 c19] (0, 0) _ rfl hB Try.underlying59 rfl (by rw [size26]; rfl)) rfl ?_
              exact join_end HP.out HQ.out HK.out HV.out HD.out J7 O7_7 O13_7 O19_7
    · go_simp
      refine hK.out _ _ ?_ (fun hHeld => ?_)
      · exact ⟨(J2.alloc _).a.cell 0, (J2.alloc _).a.cell 1, (J2.alloc _).a.cell 2, (J2.alloc _).a.cell 3, (J2.alloc _).b.cell 1, (J2.alloc _).b.cell 2, (J2.alloc _).b.cell 3⟩
      clear hK KK
      (try simp only [Act.put, List.setIfInBounds_toArray, List.set_cons_zero, List.set_cons_succ])
      have J3 := J2.alloc (.cells #[.slice V nv cv, .slice V' nv' cv'] 56)
      have B12_3 := Blk.new W2 56 [.slice V nv cv, .slice V' nv' cv']
      have hw3 : Below W2.heap.size W2 (W2.alloc (.cells #[.slice V nv cv, .slice V' nv' cv'] 56)) := (Below.refl _ _).alloc (Nat.le_refl _) _
      change Blk (W2.alloc (.cells #[.slice V nv cv, .slice V' nv' cv'] 56)) _ _ _ at B12_3
      have B18_3 := B18_2.below hw3 B18_2.lt
      generalize W2.alloc (.cells #[.slice V nv cv, .slice V' nv' cv'] 56) = W3 at *
      clear J2 hw3 B18_2
      refine wpAnyH_ready (rs := [6]) (by kernel_rfl) (by simp) ?_
      refine AllReadyH.cons (by simp only [List.getElem?_toArray, List.getElem?_cons_succ, List.getElem?_cons_zero]; rfl) (fun KK hK => ?_) AllReadyH.nil
      · go_simp
        refine hK.out _ _ ?_ (fun hHeld => ?_)
        · exact ⟨(J3.alloc _).a.cell 0, (J3.alloc _).a.cell 1, (J3.alloc _).a.cell 2, (J3.alloc _).a.cell 3, (J3.alloc _).b.cell 1, (J3.alloc _).b.cell 2, (J3.alloc _).b.cell 3⟩
        clear hK KK
        (try simp only [Act.put, List.setIfInBounds_toArray, List.set_cons_zero, List.set_cons_succ])
        have J4 := J3.alloc (.cells #[.slice K nk ck, .slice K' nk' ck'] 56)
        have B6_4 := Blk.new W3 56 [.slice K nk ck, .slice K' nk' ck']
        have hw4 : Below W3.heap.size W3 (W3.alloc (.cells #[.slice K nk ck, .slice K' nk' ck'] 56)) := (Below.refl _ _).alloc (Nat.le_refl _) _
        change Blk (W3.alloc (.cells #[.slice K nk ck, .slice K' nk' ck'] 56)) _ _ _ at B6_4
        have B18_4 := B18_3.below hw4 B18_3.lt
        have B12_4 := B12_3.below hw4 B12_3.lt
        generalize W3.alloc (.cells #[.slice K nk ck, .slice K' nk' ck'] 56) = W4 at *
        clear J3 hw4 B18_3 B12_3
        refine wpAnyH_ready (rs := [7]) (by kernel_rfl) (by simp) ?_
        refine AllReadyH.cons (by simp only [List.getElem?_toArray, List.getElem?_cons_succ, List.getElem?_cons_zero]; rfl) (fun KK hK => ?_) AllReadyH.nil
        · have C5 := Lib.hid (cat_str B6_4 ((HP.out.keys.below J4.below (Nat.le_refl _)).weak (Nat.zero_le _)) ((HQ.out.keys.below J4.below (Nat.le_refl _)).weak (Nat.zero_le _)) HK.out)
          go_simp; ((with_reducible refine Calls.mono C5.out ?_); rintro e W5 ⟨A7, m7, c7, rfl, ho, hw5⟩; have J5 := J4.under hw5); go_wp2_with fail
          refine hK.out _ _ ?_ (fun hHeld => ?_)
          · exact ⟨J5.a.cell 0, J5.a.cell 1, J5.a.cell 2, J5.a.cell 3, J5.b.cell 1, J5.b.cell 2, J5.b.cell 3⟩
          clear hK KK
          (try simp only [Act.put, List.setIfInBounds_toArray, List.set_cons_zero, List.set_cons_succ])
          have O7_5 := ho.weak J4.high
          have B18_5 := B18_4.below hw5 B18_4.lt
          have B12_5 := B12_4.below hw5 B12_4.lt
          clear ho C5 J4 hw5 B6_4 B18_4 B12_4
          refine wpAnyH_ready (rs := [13]) (by kernel_rfl) (by simp) ?_
          refine AllReadyH.cons (by simp only [List.getElem?_toArray, List.getElem?_cons_succ, List.getElem?_cons_zero]; rfl) (fun KK hK => ?_) AllReadyH.nil
          · have C6 := Lib.hid (cat_str B12_5 ((HP.out.vals.below J5.below (Nat.le_refl _)).weak (Nat.zero_le _)) ((HQ.out.vals.below J5.below (Nat.le_refl _)).weak (Nat.zero_le _)) HV.out)
            go_simp; ((with_reducible refine Calls.mono C6.out ?_); rintro e W6 ⟨A13, m13, c13, rfl, ho, hw6⟩; have J6 := J5.under hw6); go_wp2_with fail
            refine hK.out _ _ ?_ (fun hHeld => ?_)
            · exact ⟨J6.a.cell 0, J6.a.cell 1, J6.a.cell 2, J6.a.cell 3, J6.b.cell 1, J6.b.cell 2, J6.b.cell 3⟩
            clear hK KK
            (try simp only [Act.put, List.setIfInBounds_toArray, List.set_cons_zero, List.set_cons_succ])
            have O13_6 := ho.weak J5.high
            have B18_6 := B18_5.below hw6 B18_5.lt
            have O7_6 := O7_5.below hw6 (Nat.le_refl _)
            clear ho C6 J5 hw6 B12_5 B18_5 O7_5
            refine wpAnyH_ready (rs := [19]) (by kernel_rfl) (by simp) ?_
            refine AllReadyH.cons (by simp only [List.getElem?_toArray, List.getElem?_cons_succ, List.getElem?_cons_zero]; rfl) (fun KK hK => ?_) AllReadyH.nil
            · have C7 := Lib.hid (cat_int B18_6 ((HP.out.kids.below J6.below (Nat.le_refl _)).weak (Nat.zero_le _)) ((HQ.out.kids.below J6.below (Nat.le_refl _)).weak (Nat.zero_le _)) HD.out)
              go_simp; ((with_reducible refine Calls.mono C7.out ?_); rintro e W7 ⟨A19, m19, c19, rfl, ho, hw7⟩; have J7 := J6.under hw7); go_wp2_with fail
              refine hK.out _ _ ?_ (fun hHeld => ?_)
              · exact ⟨J7.a.cell 0, J7.a.cell 1, J7.a.cell 2, J7.a.cell 3, J7.b.cell 1, J7.b.cell 2, J7.b.cell 3⟩
              clear hK KK
              (try simp only [Act.put, List.setIfInBounds_toArray, List.set_cons_zero, List.set_cons_succ])
              have O19_7 := ho.weak J6.high
              have O7_7 := O7_6.below hw7 (Nat.le_refl _)
              have O13_7 := O13_6.below hw7 (Nat.le_refl _)
              clear ho C7 J6 hw7 B18_6 O7_6 O13_6
              refine wpAnyH_take (i := 20) (v := ?_) (by simp only [List.getElem?_toArray, List.getElem?_cons_succ, List.getElem?_cons_zero]; rfl) (by kernel_rfl) (by kernel_rfl) (by kernel_rfl) (fun _ _ _ h => h) (Or.inl ⟨by rfl, ?_⟩) hHeld ?_
              rotate_left
              · intro wz hSw; (try dsimp only at hSw); go_simp; try with_reducible rfl
              (try simp only [Act.put, List.setIfInBounds_toArray, List.set_cons_zero, List.set_cons_succ])
              have rc := J7.res.cells
              have rf := J7.res.frees
              refine wpAnyH_done (by kernel_rfl) ?_ _
              simp only [lastQ]
              go_simp
              clear hHeld rc rf
              go_wp2
              have hB := (((J7.res.set_ 0 (.bool p.leaf)).set_ 1 (.slice A7 m7 c7)).set_ 2 (.slice A13 m13 c13)).set_ 3 (.slice A19 m19 c19)
              refine bodyPost_ret (results_cell_row rfl _ _ (w.heap.size + 2) 59 #[.bool p.leaf, .slice A7 m7 c7, .slice A13 m13 c13, .slice A19 m19 c19] (0, 0) _ rfl hB Try.underlying59 rfl (by rw [size26]; rfl)) rfl ?_
              exact join_end HP.out HQ.out HK.out HV.out HD.out J7 O7_7 O13_7 O19_7
end Go.Proofs.Ytdakohbfibcjeaa
