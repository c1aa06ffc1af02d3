/- The heap while a node's first keys are taken by kistref14.first. No condition. -/
import Derived.Test.YtnjpibbmgbiofaaNodGetRM
import Derived.Test.YtnjpibbmgbiofaaNodSp
namespace Go.Proofs.Ytnjpibbmgbiofaa
open Go.RowKit

structure FiQ (w : World) (bx : List Value) (W : World) (lf : Bool) (ks vs : List ByteArray) (ds : List Int) (K : Option Addr) (ck : Nat) (V : Option Addr) (cv : Nat) (D : Option Addr) (cd : Nat) : Prop where
  box : Blk W w.heap.size 25 bx
  res : Blk W (w.heap.size + 1) 25 [.bool false, .slice none 0 0, .slice none 0 0, .slice none 0 0]
  nod : Blk W (w.heap.size + 2) 25 [.bool lf, .slice K ks.length ck, .slice V vs.length cv, .slice D ds.length cd]
  keys : Own W (w.heap.size + 3) 9 1 K ks.length ck (sl ks)
  vals : Own W (w.heap.size + 3) 9 1 V vs.length cv (sl vs)
  kids : Own W (w.heap.size + 3) 3 1 D ds.length cd (il ds)
  kv : ∀ g, ablk K = some g → ablk V ≠ some g
  below : Below w.heap.size w W
  high : w.heap.size + 3 ≤ W.heap.size
section
variable {w W w5 : World} {bx : List Value} {lf : Bool} {ks vs : List ByteArray} {ds : List Int} {K V D K' : Option Addr} {ck cv cd ck' : Nat} {o : Obj} {row : Option Nat} {k : ByteArray} {d : Int}
theorem FiQ.drew (h : FiQ w bx W lf ks vs ds K ck V cv D cd) : FiQ w bx W.drew lf ks vs ds K ck V cv D cd :=
  ⟨h.box.drew, h.res.drew, h.nod.drew, h.keys.drew, h.vals.drew, h.kids.drew, h.kv, h.below.drew, h.high⟩
theorem FiQ.alloc (h : FiQ w bx W lf ks vs ds K ck V cv D cd) (o : Obj) : FiQ w bx (W.alloc o) lf ks vs ds K ck V cv D cd :=
  ⟨h.box.alloc _, h.res.alloc _, h.nod.alloc _, h.keys.alloc _, h.vals.alloc _, h.kids.alloc _, h.kv, h.below.alloc h.below.size _, by have := h.high; simp; omega⟩
theorem FiQ.allocg (h : FiQ w bx W lf ks vs ds K ck V cv D cd) (_ : (W.alloc o).grownBy w5 row) : FiQ w bx (W.alloc o) lf ks vs ds K ck V cv D cd := h.alloc o
theorem FiQ.under (h : FiQ w bx W lf ks vs ds K ck V cv D cd) (hb : Below W.heap.size W w5) : FiQ w bx w5 lf ks vs ds K ck V cv D cd :=
  have hh := h.high
  ⟨h.box.below hb (by omega), h.res.below hb (by omega), h.nod.below hb (by omega), h.keys.below hb (Nat.le_refl _), h.vals.below hb (Nat.le_refl _), h.kids.below hb (Nat.le_refl _), h.kv, h.below.trans (hb.mono (by omega)), Nat.le_trans h.high hb.size⟩
theorem FiQ.midk (h : FiQ w bx W lf ks vs ds K ck V cv D cd) (hg : W.grownBy w5 (ablk K)) : Blk w5 (w.heap.size + 2) 25 [.bool lf, .slice K ks.length ck, .slice V vs.length cv, .slice D ds.length cd] := h.nod.grown hg (own_ne h.keys (by omega))
theorem FiQ.midv (h : FiQ w bx W lf ks vs ds K ck V cv D cd) (hg : W.grownBy w5 (ablk V)) : Blk w5 (w.heap.size + 2) 25 [.bool lf, .slice K ks.length ck, .slice V vs.length cv, .slice D ds.length cd] := h.nod.grown hg (own_ne h.vals (by omega))
theorem FiQ.midd (h : FiQ w bx W lf ks vs ds K ck V cv D cd) (hg : W.grownBy w5 (ablk D)) : Blk w5 (w.heap.size + 2) 25 [.bool lf, .slice K ks.length ck, .slice V vs.length cv, .slice D ds.length cd] := h.nod.grown hg (own_ne h.kids (by omega))
theorem FiQ.key (h : FiQ w bx W lf ks vs ds K ck V cv D cd) (ho : Own w5 (w.heap.size + 3) 9 1 K' (ks.length + 1) ck' (sl ks ++ [.string k])) (hg : W.grownBy w5 (ablk K)) (hf : ablk K' = ablk K ∨ ablk K' = some W.heap.size) :
    FiQ w bx (w5.setCell ⟨w.heap.size + 2, 1, none⟩ (.slice K' (ks.length + 1) ck')) lf (ks ++ [k]) vs ds K' ck' V cv D cd := by
  have hl : (ks ++ [k]).length = ks.length + 1 := by simp
  have hs : sl (ks ++ [k]) = sl ks ++ [.string k] := sl_append _ _
  refine ⟨(h.box.grown hg (own_ne h.keys (by omega))).far (by simp) _, (h.res.grown hg (own_ne h.keys (by omega))).far (by simp) _, ?_, ?_, ?_, ?_, ?_, ?_, ?_⟩
  · rw [hl]; exact (h.midk hg).set_ 1 _
  · rw [hl, hs]; exact ho.far (by simp) _
  · refine (h.vals.keep hg ?_).far (by simp) _
    cases hv : ablk V with
    | none => exact .inl rfl
    | some g => exact .inr fun e => h.kv g e.symm hv
  · exact (h.kids.keep hg (own_apart_ty h.kids h.keys (by decide))).far (by simp) _
  · intro g hgk hv
    rcases hf with hf | hf
    · exact h.kv g (hf ▸ hgk) hv
    · rw [hf] at hgk
      cases hgk
      exact absurd (h.vals.blk hv).2 (by omega)
  · exact (below_own h.below h.keys hg (by omega) h.below.size).setCell (by simp <;> omega) _
  · have := hg.size; have := h.high; simp; omega
theorem FiQ.val (h : FiQ w bx W lf ks vs ds K ck V cv D cd) (ho : Own w5 (w.heap.size + 3) 9 1 K' (vs.length + 1) ck' (sl vs ++ [.string k])) (hg : W.grownBy w5 (ablk V)) (hf : ablk K' = ablk V ∨ ablk K' = some W.heap.size) :
    FiQ w bx (w5.setCell ⟨w.heap.size + 2, 2, none⟩ (.slice K' (vs.length + 1) ck')) lf ks (vs ++ [k]) ds K ck K' ck' D cd := by
  have hl : (vs ++ [k]).length = vs.length + 1 := by simp
  have hs : sl (vs ++ [k]) = sl vs ++ [.string k] := sl_append _ _
  refine ⟨(h.box.grown hg (own_ne h.vals (by omega))).far (by simp) _, (h.res.grown hg (own_ne h.vals (by omega))).far (by simp) _, ?_, ?_, ?_, ?_, ?_, ?_, ?_⟩
  · rw [hl]; exact (h.midv hg).set_ 2 _
  · refine (h.keys.keep hg ?_).far (by simp) _
    cases hv : ablk K with
    | none => exact .inl rfl
    | some g => exact .inr fun e => h.kv g hv e.symm
  · rw [hl, hs]; exact ho.far (by simp) _
  · exact (h.kids.keep hg (own_apart_ty h.kids h.vals (by decide))).far (by simp) _
  · intro g hgk hv
    rcases hf with hf | hf
    · exact h.kv g hgk (hf ▸ hv)
    · rw [hf] at hv
      cases hv
      exact absurd (h.keys.blk hgk).2 (by omega)
  · exact (below_own h.below h.vals hg (by omega) h.below.size).setCell (by simp <;> omega) _
  · have := hg.size; have := h.high; simp; omega
theorem FiQ.kid (h : FiQ w bx W lf ks vs ds K ck V cv D cd) (ho : Own w5 (w.heap.size + 3) 3 1 K' (ds.length + 1) ck' (il ds ++ [.int .i64 d])) (hg : W.grownBy w5 (ablk D)) :
    FiQ w bx (w5.setCell ⟨w.heap.size + 2, 3, none⟩ (.slice K' (ds.length + 1) ck')) lf ks vs (ds ++ [d]) K ck V cv K' ck' := by
  have hl : (ds ++ [d]).length = ds.length + 1 := by simp
  have hs : il (ds ++ [d]) = il ds ++ [.int .i64 d] := il_append _ _
  refine ⟨(h.box.grown hg (own_ne h.kids (by omega))).far (by simp) _, (h.res.grown hg (own_ne h.kids (by omega))).far (by simp) _, ?_, ?_, ?_, ?_, h.kv, ?_, ?_⟩
  · rw [hl]; exact (h.midd hg).set_ 3 _
  · exact (h.keys.keep hg (own_apart_ty h.keys h.kids (by decide))).far (by simp) _
  · exact (h.vals.keep hg (own_apart_ty h.vals h.kids (by decide))).far (by simp) _
  · rw [hl, hs]; exact ho.far (by simp) _
  · exact (below_own h.below h.kids hg (by omega) h.below.size).setCell (by simp <;> omega) _
  · have := hg.size; have := h.high; simp; omega
end

theorem FiQ.init {w : World} {b0 b1 b2 b3 : Value} (lf : Bool) :
    FiQ w [b0, b1, b2, b3] (((w.alloc (.cells #[b0, b1, b2, b3] 25)).alloc (.cells #[.bool false, .slice none 0 0, .slice none 0 0, .slice none 0 0] 25)).alloc (.cells #[.bool lf, .slice none 0 0, .slice none 0 0, .slice none 0 0] 25)) lf [] [] [] none 0 none 0 none 0 :=
  ⟨((Blk.new w _ [b0, b1, b2, b3]).alloc _).alloc _,
    (Blk.new_at (cs := [.bool false, .slice none 0 0, .slice none 0 0, .slice none 0 0]) (n := w.heap.size + 1) (by simp)).alloc _,
    Blk.new_at (cs := [.bool lf, .slice none 0 0, .slice none 0 0, .slice none 0 0]) (n := w.heap.size + 2) (by simp),
    Own.nil_ _ _ _ _, Own.nil_ _ _ _ _, Own.nil_ _ _ _ _, fun g h => by simp at h,
    (((Below.refl _ _).alloc (Nat.le_refl _) _).alloc (by simp) _).alloc (by simp; omega) _, by simp⟩
theorem take_more {α : Type} (l : List α) (i : Nat) (h : l.length ≤ i) : l.take (i + 1) = l.take i := by
  rw [List.take_of_length_le h, List.take_of_length_le (by omega)]
end Go.Proofs.Ytnjpibbmgbiofaa
