/- The heap while a node is read by node.Get. No condition. -/
import Derived.Test.YtnjpibbmgbiofaaNodTake
import Derived.Test.YtnjpibbmgbiofaaNodPut
import Derived.Test.YtnjpibbmgbiofaaLibEq
import Derived.Deep.RegionHeld3
namespace Go.Proofs.Ytnjpibbmgbiofaa
open Go.RowKit

theorem own_apart_ty {w : World} {b b' n n' c c' s s' : Nat} {e e' : TypeId} {A B : Option Addr} {xs ys : List Value} (h : Own w b e s A n c xs) (k : Own w b' e' s' B n' c' ys) (he : e ≠ e') : ablk A = none ∨ ablk A ≠ ablk B := by
  rcases h.cases with ⟨rfl, _⟩ | ⟨g, cur, rfl, _, hh, _⟩
  · exact .inl rfl
  · refine .inr fun hx => ?_
    rcases k.cases with ⟨rfl, _⟩ | ⟨g', cur', rfl, _, hh', _⟩
    · simp at hx
    · simp at hx
      subst hx
      rw [hh] at hh'
      simp only [Option.some.injEq, Obj.cells.injEq] at hh'
      exact he hh'.2.1
theorem cell_alloc_old {w : World} {a : Addr} {v : Value} (h : w.cell? a = some v) (o : Obj) : (w.drew.alloc o).cell? a = some v := by
  rw [World.cell?_alloc_some _ _ _ (by show (w.cell? a).isSome = true; rw [h]; rfl)]
  exact h
theorem one_str (s : ByteArray) : ∀ u ∈ [Value.string s], u.oneCell' = true := by
  intro u hu
  simp only [List.mem_cons, List.not_mem_nil, or_false] at hu
  subst hu; rfl

structure GetR (w : World) (kd : Int) (A : Option Addr) (m c : Nat) (W : World) (lf : Bool) (ks vs : List ByteArray) (ds : List Int) (r : List UInt8) (bad : Bool) (K : Option Addr) (ck : Nat) (V : Option Addr) (cv : Nat) (D : Option Addr) (cd : Nat) (R : Option Addr) (rc : Nat) : Prop where
  box : Blk W w.heap.size 34 [.int .i64 kd, .slice A m c]
  res : Blk W (w.heap.size + 1) 26 [.bool false, .slice none 0 0, .slice none 0 0, .slice none 0 0]
  tak : Blk W (w.heap.size + 2) 63 [.slice R r.length rc, .bool bad]
  nod : Blk W (w.heap.size + 3) 26 [.bool lf, .slice K ks.length ck, .slice V vs.length cv, .slice D ds.length cd]
  rest : Bs w 0 R r.length rc r
  keys : Own W (w.heap.size + 4) 9 1 K ks.length ck (sl ks)
  vals : Own W (w.heap.size + 4) 9 1 V vs.length cv (sl vs)
  kids : Own W (w.heap.size + 4) 3 1 D ds.length cd (il ds)
  kv : ∀ g, ablk K = some g → ablk V ≠ some g
  below : Below w.heap.size w W
  high : w.heap.size + 4 ≤ W.heap.size
section
variable {w W w5 : World} {kd : Int} {A : Option Addr} {m c : Nat} {lf : Bool} {ks vs : List ByteArray} {ds : List Int} {r r' : List UInt8} {bad bad' : Bool} {K V D R K' R' : Option Addr} {ck cv cd rc ck' rc' : Nat} {o : Obj} {row : Option Nat} {k : ByteArray} {d : Int}
theorem GetR.drew (h : GetR w kd A m c W lf ks vs ds r bad K ck V cv D cd R rc) : GetR w kd A m c W.drew lf ks vs ds r bad K ck V cv D cd R rc :=
  ⟨h.box.drew, h.res.drew, h.tak.drew, h.nod.drew, h.rest, h.keys.drew, h.vals.drew, h.kids.drew, h.kv, h.below.drew, h.high⟩
theorem GetR.alloc (h : GetR w kd A m c W lf ks vs ds r bad K ck V cv D cd R rc) (o : Obj) : GetR w kd A m c (W.alloc o) lf ks vs ds r bad K ck V cv D cd R rc :=
  ⟨h.box.alloc _, h.res.alloc _, h.tak.alloc _, h.nod.alloc _, h.rest, h.keys.alloc _, h.vals.alloc _, h.kids.alloc _, h.kv, h.below.alloc h.below.size _, by have := h.high; simp; omega⟩
theorem GetR.allocg (h : GetR w kd A m c W lf ks vs ds r bad K ck V cv D cd R rc) (_ : (W.alloc o).grownBy w5 row) : GetR w kd A m c (W.alloc o) lf ks vs ds r bad K ck V cv D cd R rc := h.alloc o
theorem GetR.under (h : GetR w kd A m c W lf ks vs ds r bad K ck V cv D cd R rc) (hb : Below W.heap.size W w5) : GetR w kd A m c w5 lf ks vs ds r bad K ck V cv D cd R rc :=
  have hh := h.high
  ⟨h.box.below hb (by omega), h.res.below hb (by omega), h.tak.below hb (by omega), h.nod.below hb (by omega), h.rest, h.keys.below hb (Nat.le_refl _), h.vals.below hb (Nat.le_refl _), h.kids.below hb (Nat.le_refl _), h.kv, h.below.trans (hb.mono (by omega)), Nat.le_trans h.high hb.size⟩
theorem GetR.take (h : GetR w kd A m c W lf ks vs ds r bad K ck V cv D cd R rc) (hg : W.grownBy w5 (some (w.heap.size + 2))) (hT : Blk w5 (w.heap.size + 2) 63 [.slice R' r'.length rc', .bool bad']) (hr : Bs w 0 R' r'.length rc' r') :
    GetR w kd A m c w5 lf ks vs ds r' bad' K ck V cv D cd R' rc' :=
  ⟨h.box.grown hg (by simp), h.res.grown hg (by simp), hT, h.nod.grown hg (by simp), hr,
    h.keys.keep hg (.inr fun e => own_ne h.keys (by omega) e.symm), h.vals.keep hg (.inr fun e => own_ne h.vals (by omega) e.symm), h.kids.keep hg (.inr fun e => own_ne h.kids (by omega) e.symm), h.kv,
    h.below.grown hg h.below.size (fun k hk => by cases hk; omega), Nat.le_trans h.high hg.size⟩
theorem GetR.midk (h : GetR w kd A m c W lf ks vs ds r bad K ck V cv D cd R rc) (hg : W.grownBy w5 (ablk K)) : Blk w5 (w.heap.size + 3) 26 [.bool lf, .slice K ks.length ck, .slice V vs.length cv, .slice D ds.length cd] := h.nod.grown hg (own_ne h.keys (by omega))
theorem GetR.midv (h : GetR w kd A m c W lf ks vs ds r bad K ck V cv D cd R rc) (hg : W.grownBy w5 (ablk V)) : Blk w5 (w.heap.size + 3) 26 [.bool lf, .slice K ks.length ck, .slice V vs.length cv, .slice D ds.length cd] := h.nod.grown hg (own_ne h.vals (by omega))
theorem GetR.midd (h : GetR w kd A m c W lf ks vs ds r bad K ck V cv D cd R rc) (hg : W.grownBy w5 (ablk D)) : Blk w5 (w.heap.size + 3) 26 [.bool lf, .slice K ks.length ck, .slice V vs.length cv, .slice D ds.length cd] := h.nod.grown hg (own_ne h.kids (by omega))
theorem GetR.key (h : GetR w kd A m c W lf ks vs ds r bad K ck V cv D cd R rc) (ho : Own w5 (w.heap.size + 4) 9 1 K' (ks.length + 1) ck' (sl ks ++ [.string k])) (hg : W.grownBy w5 (ablk K)) (hf : ablk K' = ablk K ∨ ablk K' = some W.heap.size) :
    GetR w kd A m c (w5.setCell ⟨w.heap.size + 3, 1, none⟩ (.slice K' (ks.length + 1) ck')) lf (ks ++ [k]) vs ds r bad K' ck' V cv D cd R rc := by
  have hl : (ks ++ [k]).length = ks.length + 1 := by simp
  have hs : sl (ks ++ [k]) = sl ks ++ [.string k] := sl_append _ _
  refine ⟨(h.box.grown hg (own_ne h.keys (by omega))).far (by simp) _, (h.res.grown hg (own_ne h.keys (by omega))).far (by simp) _, (h.tak.grown hg (own_ne h.keys (by omega))).far (by simp) _, ?_, h.rest, ?_, ?_, ?_, ?_, ?_, ?_⟩
  · rw [hl]; exact (h.midk hg).set_ 1 _
  · rw [hl, hs]; exact ho.far (by simp) _
  · refine (h.vals.keep hg ?_).far (by simp) _
    cases hv : ablk V with
    | none => exact .inl rfl
    | some g => exact .inr fun e => h.kv g e.symm hv
  · exact (h.kids.keep hg (own_apart_ty h.kids h.keys (by decide))).far (by simp) _
  · intro g hgk hv
    rcases hf with hf | hf
    · exact h.kv g (hf ▸ hgk) hv
    · rw [hf] at hgk
      cases hgk
      exact absurd (h.vals.blk hv).2 (by omega)
  · exact (below_own h.below h.keys hg (by omega) h.below.size).setCell (by simp <;> omega) _
  · have := hg.size; have := h.high; simp; omega
theorem GetR.val (h : GetR w kd A m c W lf ks vs ds r bad K ck V cv D cd R rc) (ho : Own w5 (w.heap.size + 4) 9 1 K' (vs.length + 1) ck' (sl vs ++ [.string k])) (hg : W.grownBy w5 (ablk V)) (hf : ablk K' = ablk V ∨ ablk K' = some W.heap.size) :
    GetR w kd A m c (w5.setCell ⟨w.heap.size + 3, 2, none⟩ (.slice K' (vs.length + 1) ck')) lf ks (vs ++ [k]) ds r bad K ck K' ck' D cd R rc := by
  have hl : (vs ++ [k]).length = vs.length + 1 := by simp
  have hs : sl (vs ++ [k]) = sl vs ++ [.string k] := sl_append _ _
  refine ⟨(h.box.grown hg (own_ne h.vals (by omega))).far (by simp) _, (h.res.grown hg (own_ne h.vals (by omega))).far (by simp) _, (h.tak.grown hg (own_ne h.vals (by omega))).far (by simp) _, ?_, h.rest, ?_, ?_, ?_, ?_, ?_, ?_⟩
  · rw [hl]; exact (h.midv hg).set_ 2 _
  · refine (h.keys.keep hg ?_).far (by simp) _
    cases hv : ablk K with
    | none => exact .inl rfl
    | some g => exact .inr fun e => h.kv g hv e.symm
  · rw [hl, hs]; exact ho.far (by simp) _
  · exact (h.kids.keep hg (own_apart_ty h.kids h.vals (by decide))).far (by simp) _
  · intro g hgk hv
    rcases hf with hf | hf
    · exact h.kv g hgk (hf ▸ hv)
    · rw [hf] at hv
      cases hv
      exact absurd (h.keys.blk hgk).2 (by omega)
  · exact (below_own h.below h.vals hg (by omega) h.below.size).setCell (by simp <;> omega) _
  · have := hg.size; have := h.high; simp; omega
theorem GetR.kid (h : GetR w kd A m c W lf ks vs ds r bad K ck V cv D cd R rc) (ho : Own w5 (w.heap.size + 4) 3 1 K' (ds.length + 1) ck' (il ds ++ [.int .i64 d])) (hg : W.grownBy w5 (ablk D)) :
    GetR w kd A m c (w5.setCell ⟨w.heap.size + 3, 3, none⟩ (.slice K' (ds.length + 1) ck')) lf ks vs (ds ++ [d]) r bad K ck V cv K' ck' R rc := by
  have hl : (ds ++ [d]).length = ds.length + 1 := by simp
  have hs : il (ds ++ [d]) = il ds ++ [.int .i64 d] := il_append _ _
  refine ⟨(h.box.grown hg (own_ne h.kids (by omega))).far (by simp) _, (h.res.grown hg (own_ne h.kids (by omega))).far (by simp) _, (h.tak.grown hg (own_ne h.kids (by omega))).far (by simp) _, ?_, h.rest, ?_, ?_, ?_, h.kv, ?_, ?_⟩
  · rw [hl]; exact (h.midd hg).set_ 3 _
  · exact (h.keys.keep hg (own_apart_ty h.keys h.kids (by decide))).far (by simp) _
  · exact (h.vals.keep hg (own_apart_ty h.vals h.kids (by decide))).far (by simp) _
  · rw [hl, hs]; exact ho.far (by simp) _
  · exact (below_own h.below h.kids hg (by omega) h.below.size).setCell (by simp <;> omega) _
  · have := hg.size; have := h.high; simp; omega
end

/-- texts that were taken are short -/
def shortN (s : Nd) : Prop := (∀ i, (kAt s i).size ≤ 255) ∧ ∀ i, (vAt s i).size ≤ 255
theorem size_strOf (l : List UInt8) : (strOf l).size = l.length := rfl
theorem txOut_short (r : List UInt8) (bad : Bool) : (strOf (txOut r bad)).size ≤ 255 := by
  rw [size_strOf]
  unfold txOut
  rw [length_tkOut]
  have : txN r bad < 256 := UInt8.toNat_lt _
  omega
theorem getD_snoc_le {l : List ByteArray} {x : ByteArray} (h : ∀ i, (l.getD i .empty).size ≤ 255) (hx : x.size ≤ 255) (i : Nat) : ((l ++ [x]).getD i .empty).size ≤ 255 := by
  rcases Nat.lt_trichotomy i l.length with hi | hi | hi
  · have := h i
    rw [List.getD_eq_getElem?_getD] at this ⊢
    rwa [List.getElem?_append_left hi]
  · subst hi
    simp [List.getD_eq_getElem?_getD]
    exact hx
  · rw [List.getD_eq_getElem?_getD, List.getElem?_eq_none (by simp; omega)]
    show ByteArray.empty.size ≤ 255
    decide
theorem psKey_short {s : PS} (h : shortN s.nd) : shortN (psKey s).nd := ⟨fun i => getD_snoc_le h.1 (txOut_short _ _) i, h.2⟩
theorem psVal_short {s : PS} (h : shortN s.nd) : shortN (psVal s).nd := by
  unfold psVal
  split
  · exact ⟨h.1, fun i => getD_snoc_le h.2 (txOut_short _ _) i⟩
  · exact ⟨h.1, h.2⟩
theorem psTo_short (lf : Bool) (body : List UInt8) (k : Nat) : shortN (psTo lf body k).nd := by
  induction k with
  | zero =>
    have e : ByteArray.empty.size ≤ 255 := by decide
    exact ⟨fun i => by simp [psTo, kAt], fun i => by simp [psTo, vAt]⟩
  | succ k ih => exact psVal_short (psKey_short ih)

theorem zero26_ (w : World) : (zeroValue 26).run Try.prog w = .ok (.agg #[.bool false, .slice none 0 0, .slice none 0 0, .slice none 0 0]) w := by kernel_rfl
theorem size26 : (Try.prog.info? 26).map (·.size) = some 4 := by kernel_rfl
theorem results_nd {fn : Func} {p t : Tmp} (h : fn.results = #[.cell p 26, .tmp t]) {tmps : Array Value} {w : World} {g : Nat} {v0 v1 v2 v3 x : Value}
    (hp : tmps.getD p undef = .pointer (some ⟨g, 0, none⟩)) (hx : tmps.getD t undef = x) (hB : Blk w g 26 [v0, v1, v2, v3]) : (results fn tmps).run Try.prog w = .ok (.tuple #[.agg #[v0, v1, v2, v3], x]) w := by
  have hr := run_loadVar_row (P := Try.prog) w g 26 26 #[v0, v1, v2, v3] (0, 0) _ hB Try.underlying26 rfl size26
  have hp' : tmps[p]?.getD undef = .pointer (some ⟨g, 0, none⟩) := by simpa using hp
  have hx' : tmps[t]?.getD undef = x := by simpa using hx
  simp [results, h, hp', hx', asAddr, hr]

/-- what a Get leaves: what was read, and whether -/
def NGet (w : World) (r : Option Nd) (e : Ending) (w' : World) : Prop :=
  ∃ K nk ck V nv cv D nd cd, e = .returned (.tuple #[.agg #[.bool (r.getD Nd.nil).leaf, .slice K nk ck, .slice V nv cv, .slice D nd cd], .int .i64 (if r.isSome then 0 else 7)]) ∧ NdR w' w.heap.size (r.getD Nd.nil) K nk ck V nv cv D nd cd ∧ Below w.heap.size w w'
theorem ndr_nil (w : World) (lo : Nat) : NdR w lo Nd.nil none 0 0 none 0 0 none 0 0 :=
  ⟨Ls.nil_ _ _, Ls.nil_ _ _, Ls.nil_ _ _, fun i => by simp [kAt, Nd.nil], fun i => by simp [vAt, Nd.nil], by omega, by omega, by omega⟩
theorem nget_none {w w' : World} {e : Ending} (he : e = .returned (.tuple #[.agg #[.bool false, .slice none 0 0, .slice none 0 0, .slice none 0 0], .int .i64 7])) (hb : Below w.heap.size w w') : NGet w none e w' :=
  ⟨none, 0, 0, none, 0, 0, none, 0, 0, he, ndr_nil _ _, hb⟩
end Go.Proofs.Ytnjpibbmgbiofaa
