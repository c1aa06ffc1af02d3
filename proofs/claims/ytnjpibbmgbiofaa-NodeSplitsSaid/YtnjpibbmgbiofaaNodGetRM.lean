/- The heap while a node is read by kistref14.Get; a text at a place of bytes. Condition: fewer than 2^47 bytes. -/
import Derived.Test.YtnjpibbmgbiofaaNodGetM
import Derived.Test.YtnjpibbmgbiofaaNodPutR
import Derived.Test.YtnjpibbmgbiofaaNodOf
namespace Go.Proofs.Ytnjpibbmgbiofaa
open Go.RowKit

structure GetQ (w : World) (kd : Int) (A : Option Addr) (m c : Nat) (W : World) (lf : Bool) (ks vs : List ByteArray) (ds : List Int) (K : Option Addr) (ck : Nat) (V : Option Addr) (cv : Nat) (D : Option Addr) (cd : Nat) : Prop where
  box : Blk W w.heap.size 34 [.int .i64 kd, .slice A m c]
  res : Blk W (w.heap.size + 1) 25 [.bool false, .slice none 0 0, .slice none 0 0, .slice none 0 0]
  nod : Blk W (w.heap.size + 2) 25 [.bool lf, .slice K ks.length ck, .slice V vs.length cv, .slice D ds.length cd]
  keys : Own W (w.heap.size + 3) 9 1 K ks.length ck (sl ks)
  vals : Own W (w.heap.size + 3) 9 1 V vs.length cv (sl vs)
  kids : Own W (w.heap.size + 3) 3 1 D ds.length cd (il ds)
  kv : ∀ g, ablk K = some g → ablk V ≠ some g
  below : Below w.heap.size w W
  high : w.heap.size + 3 ≤ W.heap.size
section
variable {w W w5 : World} {kd : Int} {A : Option Addr} {m c : Nat} {lf : Bool} {ks vs : List ByteArray} {ds : List Int} {K V D K' : Option Addr} {ck cv cd ck' : Nat} {o : Obj} {row : Option Nat} {k : ByteArray} {d : Int}
theorem GetQ.drew (h : GetQ w kd A m c W lf ks vs ds K ck V cv D cd) : GetQ w kd A m c W.drew lf ks vs ds K ck V cv D cd :=
  ⟨h.box.drew, h.res.drew, h.nod.drew, h.keys.drew, h.vals.drew, h.kids.drew, h.kv, h.below.drew, h.high⟩
theorem GetQ.alloc (h : GetQ w kd A m c W lf ks vs ds K ck V cv D cd) (o : Obj) : GetQ w kd A m c (W.alloc o) lf ks vs ds K ck V cv D cd :=
  ⟨h.box.alloc _, h.res.alloc _, h.nod.alloc _, h.keys.alloc _, h.vals.alloc _, h.kids.alloc _, h.kv, h.below.alloc h.below.size _, by have := h.high; simp; omega⟩
theorem GetQ.allocg (h : GetQ w kd A m c W lf ks vs ds K ck V cv D cd) (_ : (W.alloc o).grownBy w5 row) : GetQ w kd A m c (W.alloc o) lf ks vs ds K ck V cv D cd := h.alloc o
theorem GetQ.under (h : GetQ w kd A m c W lf ks vs ds K ck V cv D cd) (hb : Below W.heap.size W w5) : GetQ w kd A m c w5 lf ks vs ds K ck V cv D cd :=
  have hh := h.high
  ⟨h.box.below hb (by omega), h.res.below hb (by omega), h.nod.below hb (by omega), h.keys.below hb (Nat.le_refl _), h.vals.below hb (Nat.le_refl _), h.kids.below hb (Nat.le_refl _), h.kv, h.below.trans (hb.mono (by omega)), Nat.le_trans h.high hb.size⟩
theorem GetQ.midk (h : GetQ w kd A m c W lf ks vs ds K ck V cv D cd) (hg : W.grownBy w5 (ablk K)) : Blk w5 (w.heap.size + 2) 25 [.bool lf, .slice K ks.length ck, .slice V vs.length cv, .slice D ds.length cd] := h.nod.grown hg (own_ne h.keys (by omega))
theorem GetQ.midv (h : GetQ w kd A m c W lf ks vs ds K ck V cv D cd) (hg : W.grownBy w5 (ablk V)) : Blk w5 (w.heap.size + 2) 25 [.bool lf, .slice K ks.length ck, .slice V vs.length cv, .slice D ds.length cd] := h.nod.grown hg (own_ne h.vals (by omega))
theorem GetQ.midd (h : GetQ w kd A m c W lf ks vs ds K ck V cv D cd) (hg : W.grownBy w5 (ablk D)) : Blk w5 (w.heap.size + 2) 25 [.bool lf, .slice K ks.length ck, .slice V vs.length cv, .slice D ds.length cd] := h.nod.grown hg (own_ne h.kids (by omega))
theorem GetQ.key (h : GetQ w kd A m c W lf ks vs ds K ck V cv D cd) (ho : Own w5 (w.heap.size + 3) 9 1 K' (ks.length + 1) ck' (sl ks ++ [.string k])) (hg : W.grownBy w5 (ablk K)) (hf : ablk K' = ablk K ∨ ablk K' = some W.heap.size) :
    GetQ w kd A m c (w5.setCell ⟨w.heap.size + 2, 1, none⟩ (.slice K' (ks.length + 1) ck')) lf (ks ++ [k]) vs ds K' ck' V cv D cd := by
  have hl : (ks ++ [k]).length = ks.length + 1 := by simp
  have hs : sl (ks ++ [k]) = sl ks ++ [.string k] := sl_append _ _
  refine ⟨(h.box.grown hg (own_ne h.keys (by omega))).far (by simp) _, (h.res.grown hg (own_ne h.keys (by omega))).far (by simp) _, ?_, ?_, ?_, ?_, ?_, ?_, ?_⟩
  · rw [hl]; exact (h.midk hg).set_ 1 _
  · rw [hl, hs]; exact ho.far (by simp) _
  · refine (h.vals.keep hg ?_).far (by simp) _
    cases hv : ablk V with
    | none => exact .inl rfl
    | some g => exact .inr fun e => h.kv g e.symm hv
  · exact (h.kids.keep hg (own_apart_ty h.kids h.keys (by decide))).far (by simp) _
  · intro g hgk hv
    rcases hf with hf | hf
    · exact h.kv g (hf ▸ hgk) hv
    · rw [hf] at hgk
      cases hgk
      exact absurd (h.vals.blk hv).2 (by omega)
  · exact (below_own h.below h.keys hg (by omega) h.below.size).setCell (by simp <;> omega) _
  · have := hg.size; have := h.high; simp; omega
theorem GetQ.val (h : GetQ w kd A m c W lf ks vs ds K ck V cv D cd) (ho : Own w5 (w.heap.size + 3) 9 1 K' (vs.length + 1) ck' (sl vs ++ [.string k])) (hg : W.grownBy w5 (ablk V)) (hf : ablk K' = ablk V ∨ ablk K' = some W.heap.size) :
    GetQ w kd A m c (w5.setCell ⟨w.heap.size + 2, 2, none⟩ (.slice K' (vs.length + 1) ck')) lf ks (vs ++ [k]) ds K ck K' ck' D cd := by
  have hl : (vs ++ [k]).length = vs.length + 1 := by simp
  have hs : sl (vs ++ [k]) = sl vs ++ [.string k] := sl_append _ _
  refine ⟨(h.box.grown hg (own_ne h.vals (by omega))).far (by simp) _, (h.res.grown hg (own_ne h.vals (by omega))).far (by simp) _, ?_, ?_, ?_, ?_, ?_, ?_, ?_⟩
  · rw [hl]; exact (h.midv hg).set_ 2 _
  · refine (h.keys.keep hg ?_).far (by simp) _
    cases hv : ablk K with
    | none => exact .inl rfl
    | some g => exact .inr fun e => h.kv g hv e.symm
  · rw [hl, hs]; exact ho.far (by simp) _
  · exact (h.kids.keep hg (own_apart_ty h.kids h.vals (by decide))).far (by simp) _
  · intro g hgk hv
    rcases hf with hf | hf
    · exact h.kv g hgk (hf ▸ hv)
    · rw [hf] at hv
      cases hv
      exact absurd (h.keys.blk hgk).2 (by omega)
  · exact (below_own h.below h.vals hg (by omega) h.below.size).setCell (by simp <;> omega) _
  · have := hg.size; have := h.high; simp; omega
theorem GetQ.kid (h : GetQ w kd A m c W lf ks vs ds K ck V cv D cd) (ho : Own w5 (w.heap.size + 3) 3 1 K' (ds.length + 1) ck' (il ds ++ [.int .i64 d])) (hg : W.grownBy w5 (ablk D)) :
    GetQ w kd A m c (w5.setCell ⟨w.heap.size + 2, 3, none⟩ (.slice K' (ds.length + 1) ck')) lf ks vs (ds ++ [d]) K ck V cv K' ck' := by
  have hl : (ds ++ [d]).length = ds.length + 1 := by simp
  have hs : il (ds ++ [d]) = il ds ++ [.int .i64 d] := il_append _ _
  refine ⟨(h.box.grown hg (own_ne h.kids (by omega))).far (by simp) _, (h.res.grown hg (own_ne h.kids (by omega))).far (by simp) _, ?_, ?_, ?_, ?_, h.kv, ?_, ?_⟩
  · rw [hl]; exact (h.midd hg).set_ 3 _
  · exact (h.keys.keep hg (own_apart_ty h.keys h.kids (by decide))).far (by simp) _
  · exact (h.vals.keep hg (own_apart_ty h.vals h.kids (by decide))).far (by simp) _
  · rw [hl, hs]; exact ho.far (by simp) _
  · exact (below_own h.below h.kids hg (by omega) h.below.size).setCell (by simp <;> omega) _
  · have := hg.size; have := h.high; simp; omega
end


theorem zero25_ (w : World) : (zeroValue 25).run Try.prog w = .ok (.agg #[.bool false, .slice none 0 0, .slice none 0 0, .slice none 0 0]) w := by kernel_rfl
theorem size25 : (Try.prog.info? 25).map (·.size) = some 4 := by kernel_rfl
theorem results_rd {fn : Func} {p t : Tmp} (h : fn.results = #[.cell p 25, .tmp t]) {tmps : Array Value} {w : World} {g : Nat} {v0 v1 v2 v3 x : Value}
    (hp : tmps.getD p undef = .pointer (some ⟨g, 0, none⟩)) (hx : tmps.getD t undef = x) (hB : Blk w g 25 [v0, v1, v2, v3]) : (results fn tmps).run Try.prog w = .ok (.tuple #[.agg #[v0, v1, v2, v3], x]) w := by
  have hr := run_loadVar_row (P := Try.prog) w g 25 25 #[v0, v1, v2, v3] (0, 0) _ hB Try.underlying25 rfl size25
  have hp' : tmps[p]?.getD undef = .pointer (some ⟨g, 0, none⟩) := by simpa using hp
  have hx' : tmps[t]?.getD undef = x := by simpa using hx
  simp [results, h, hp', hx', asAddr, hr]

theorem drop_at {l : List UInt8} {p : Nat} (h : p < l.length) : l.drop p = l.getD p 0 :: l.drop (p + 1) := by
  rw [List.drop_eq_getElem_cons h, List.getD_eq_getElem?_getD, List.getElem?_eq_getElem h, Option.getD_some]
theorem tx_far {l : List UInt8} {p : Nat} (h : l.length ≤ p) : txBad (l.drop p) false = true := by
  rw [List.drop_of_length_le h]; rfl
theorem tx_at {l : List UInt8} {p : Nat} (h : p < l.length) : txN (l.drop p) false = (l.getD p 0).toNat ∧ tkRest (l.drop p) false 1 = l.drop (p + 1) ∧ tkBad (l.drop p) false 1 = false := by
  obtain ⟨a1, a2, a3⟩ := tk_there (r := l.drop p) (n := 1) (by rw [List.length_drop]; omega)
  refine ⟨?_, ?_, a1⟩
  · unfold txN; rw [a2, drop_at h]; rfl
  · rw [a3, List.drop_drop]
theorem tx_no {l : List UInt8} {p : Nat} (h : p < l.length) (hn : l.length < p + 1 + (l.getD p 0).toNat) : txBad (l.drop p) false = true := by
  obtain ⟨a1, a2, a3⟩ := tx_at h
  unfold txBad
  rw [a1, a2, a3]
  clear a1 a2 a3
  generalize (l.getD p 0).toNat = y at *
  unfold tkBad
  simp
  omega
theorem tx_ok {l : List UInt8} {p : Nat} (h : p < l.length) (hn : p + 1 + (l.getD p 0).toNat ≤ l.length) :
    txBad (l.drop p) false = false ∧ txOut (l.drop p) false = (l.drop (p + 1)).take (l.getD p 0).toNat ∧ txRest (l.drop p) false = l.drop (p + 1 + (l.getD p 0).toNat) := by
  obtain ⟨a1, a2, a3⟩ := tx_at h
  obtain ⟨b1, b2, b3⟩ := tk_there (r := l.drop (p + 1)) (n := (l.getD p 0).toNat) (by rw [List.length_drop]; omega)
  refine ⟨?_, ?_, ?_⟩
  · unfold txBad; rw [a1, a2, a3, b1]
  · unfold txOut; rw [a1, a2, a3, b2]
  · unfold txRest; rw [a1, a2, a3, b3, List.drop_drop]

/-- a text at a place -/
def TextP (w : World) (body : List UInt8) (p : Nat) (e : Ending) (w' : World) : Prop :=
  w = w' ∧ ((txBad (body.drop p) false = true ∧ e = .returned (.tuple #[.string .empty, .int .i64 0, .bool false])) ∨
    ∃ q : Nat, txBad (body.drop p) false = false ∧ e = .returned (.tuple #[.string (strOf (txOut (body.drop p) false)), .int .i64 q, .bool true]) ∧ txRest (body.drop p) false = body.drop q ∧ q ≤ body.length)

set_option maxHeartbeats 2000000 in
theorem rtext_any {A : Option Addr} {c lo p : Nat} {body : List UInt8} {w : World} (hb : Bs w lo A body.length c body) (hr : body.length ≤ 140737488351232) (hp : p ≤ body.length) :
    Calls Try.prog 35 #[.slice A body.length c, .int .i64 p] w (TextP w body p) := by
  rcases Nat.lt_or_ge p body.length with h | h
  · obtain ⟨b, o, rfl, _, _⟩ := hb.at_ (by omega)
    have cp := hb.cell p h
    have hy := (body.getD p 0).toNat_lt
    have HNo : Hid (body.length < p + 1 + (body.getD p 0).toNat → txBad (body.drop p) false = true) := fun hn => tx_no h hn
    have HOk : Hid (p + 1 + (body.getD p 0).toNat ≤ body.length → txBad (body.drop p) false = false ∧ txOut (body.drop p) false = (body.drop (p + 1)).take (body.getD p 0).toNat ∧ txRest (body.drop p) false = body.drop (p + 1 + (body.getD p 0).toNat)) := fun hn => tx_ok h hn
    have HB := Lib.hid hb
    have hc1 := hb.2.1
    have hc2 := hb.2.2.1
    have d1 : decide ((body.length : Int) ≤ (p : Int)) = false := decide_eq_false (by omega)
    generalize (body.getD p 0).toNat = y at *
    clear hb
    by_cases hn : body.length < p + 1 + y
    · have d2 : decide ((body.length : Int) < (p : Int) + 1 + (y : Int)) = true := decide_eq_true (by omega)
      have HT := Lib.hid (HNo.out hn)
      clear HNo HOk hn
      go_enter Try.func35, Try.ntmps35
      go_wp2
      refine bodyPost_ret (v := .tuple #[.string .empty, .int .i64 0, .bool false]) (by simp [results, Try.results35, go_sem]; rfl) rfl ?_
      exact ⟨rfl, .inl ⟨HT.out, rfl⟩⟩
    · have d2 : decide ((body.length : Int) < (p : Int) + 1 + (y : Int)) = false := decide_eq_false (by omega)
      have HT := Lib.hid (HOk.out (by omega))
      have hq : p + 1 + y ≤ body.length := by omega
      clear HNo HOk hn
      by_cases hcp : c = p + 1
      · obtain rfl : y = 0 := by omega
        have kc := conv_bs (P := Try.prog) 32 5 9 Try.underlying32 Try.underlying5 Try.underlying9 (bs_zero (w := w) (lo := 0) (A := some ⟨b, o, none⟩) (c := 0) (by omega))
        have hcq : (c : Int) = (p : Int) + 1 := by omega
        subst hcp
        go_enter Try.func35, Try.ntmps35
        go_wp2
        refine bodyPost_ret (v := .tuple #[.string (strOf (txOut (body.drop p) false)), .int .i64 ((p + 1 : Nat) : Int), .bool true]) (by simp [results, Try.results35, go_sem, HT.out.2.1]; rfl) rfl ?_
        exact ⟨rfl, .inr ⟨p + 1, HT.out.1, rfl, HT.out.2.2, by omega⟩⟩
      · have hcut := HB.out.cut (p + 1) (p + 1 + y) (by omega) hq
        rw [Nat.add_sub_cancel_left] at hcut
        have kc := conv_bs (P := Try.prog) 32 5 9 Try.underlying32 Try.underlying5 Try.underlying9 hcut
        clear hcut
        go_enter Try.func35, Try.ntmps35
        go_wp2
        refine bodyPost_ret (v := .tuple #[.string (strOf (txOut (body.drop p) false)), .int .i64 ((p + 1 + y : Nat) : Int), .bool true]) (by simp [results, Try.results35, go_sem, HT.out.2.1]; rfl) rfl ?_
        exact ⟨rfl, .inr ⟨p + 1 + y, HT.out.1, rfl, HT.out.2.2, hq⟩⟩
  · have HT := Lib.hid (tx_far h)
    have d1 : decide ((body.length : Int) ≤ (p : Int)) = true := decide_eq_true (by omega)
    clear hb
    go_enter Try.func35, Try.ntmps35
    go_wp2
    refine bodyPost_ret (v := .tuple #[.string .empty, .int .i64 0, .bool false]) (by simp [results, Try.results35, go_sem]; rfl) rfl ?_
    exact ⟨rfl, .inl ⟨HT.out, rfl⟩⟩
end Go.Proofs.Ytnjpibbmgbiofaa
