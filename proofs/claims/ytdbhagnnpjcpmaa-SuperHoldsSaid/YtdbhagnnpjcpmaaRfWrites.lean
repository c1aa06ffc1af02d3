/- The reference's disk: a sector gets other bytes, other versions. No condition. -/
import Derived.Test.YtdbhagnnpjcpmaaRfRead
namespace Go.Proofs.Ytdbhagnnpjcpmaa
open Go.RowKit

theorem flat_set2 {α : Type} {f : Nat → List α} {n k : Nat} {a c : α} (hl : ∀ i, i < n → (f i).length = 2) :
    (((List.range n).flatMap f).set (k * 2) a).set (k * 2 + 1) c = (List.range n).flatMap (fun j => if j = k then [a, c] else f j) := by
  have hl' : ∀ i, i < n → ((fun j => if j = k then [a, c] else f j) i).length = 2 := fun i hi => by
    simp only
    split
    · rfl
    · exact hl i hi
  have h1 := flat_len hl
  have h2 := flat_len hl'
  apply List.ext_getElem?
  intro i
  by_cases hi : i < n * 2
  · have hq : i / 2 < n := by omega
    have g1 := flat_get hl hq (show i % 2 < 2 by omega)
    have g2 := flat_get hl' hq (show i % 2 < 2 by omega)
    rw [show i / 2 * 2 + i % 2 = i by omega] at g1 g2
    rw [g2]
    by_cases e1 : k * 2 + 1 = i
    · subst e1
      rw [List.getElem?_set_self (by rw [List.length_set, h1]; exact hi), show (k * 2 + 1) / 2 = k by omega, show (k * 2 + 1) % 2 = 1 by omega, if_pos rfl]
      rfl
    · rw [List.getElem?_set_ne e1]
      by_cases e2 : k * 2 = i
      · subst e2
        rw [List.getElem?_set_self (by rw [h1]; exact hi), show (k * 2) / 2 = k by omega, show (k * 2) % 2 = 0 by omega, if_pos rfl]
        rfl
      · rw [List.getElem?_set_ne e2, g1, if_neg (by omega)]
  · rw [List.getElem?_eq_none (by rw [List.length_set, List.length_set, h1]; omega), List.getElem?_eq_none (by rw [h2]; omega)]

def updD (s : Dsk) (k : Nat) (x : List UInt8) (ls : List (List UInt8)) : Dsk := { s with lies := fun j => if j = k then x else s.lies j, vers := fun j => if j = k then ls else s.vers j }
def Rw.put (r : Rw) (k : Nat) (v : Rv) : Rw := { r with v := fun j => if j = k then v else r.v j }
theorem put_row (r : Rw) (s : Dsk) {k : Nat} (v : Rv) (x : List UInt8) (ls : List (List UInt8)) :
    (r.put k v).row (updD s k x ls) s.n = ((r.row s s.n).set (k * 2) (.slice v.lA 256 v.lc)).set (k * 2 + 1) (.slice v.vA ls.length v.vc) := by
  unfold Rw.row
  rw [flat_set2 (fun _ _ => rfl)]
  congr 1
  funext j
  unfold Rw.cells
  by_cases e : j = k
  · subst e
    show [Value.slice (if j = j then v else r.v j).lA 256 (if j = j then v else r.v j).lc, .slice (if j = j then v else r.v j).vA (if j = j then ls else s.vers j).length (if j = j then v else r.v j).vc] = _
    simp only [if_true]
  · show [Value.slice (if j = k then v else r.v j).lA 256 (if j = k then v else r.v j).lc, .slice (if j = k then v else r.v j).vA (if j = k then ls else s.vers j).length (if j = k then v else r.v j).vc] = _
    rw [if_neg e, if_neg e, if_neg e]
theorem Rk.upd {w w' : World} {base b k lc vc : Nat} {r : Rw} {s : Dsk} {lA vA : Option Addr} {vv : List Value} {x : List UInt8} {ls : List (List UInt8)} (h : Rk w base r s) (hk : k < s.n) (hA : r.A = some ⟨b, 0, none⟩)
    (K : Kept (fun y => y = b ∨ ablk (r.v k).vA = some y) w w') (hrow : Own w' base 92 2 r.A s.n r.c (((r.row s s.n).set (k * 2) (.slice lA 256 lc)).set (k * 2 + 1) (.slice vA ls.length vc)))
    (hl : Own w' base 5 1 lA 256 lc (bvs x)) (hx : x.length = 256) (hv : Own w' base 39 1 vA ls.length vc vv) (hs : SlO w' base vv ls) (hls : ∀ y ∈ ls, y.length = 256)
    (hf : ∀ j, ablk vA = some j → ablk (r.v k).vA = some j ∨ w.heap.size ≤ j) :
    Rch w w' base r (r.put k ⟨lA, lc, vA, vc, vv⟩) s.n (updD s k x ls) := by
  have hb : ablk r.A = some b := by rw [hA]; rfl
  have hvo : ∀ j, j ≠ k → (r.put k ⟨lA, lc, vA, vc, vv⟩).v j = r.v j := fun j hj => by show (if j = k then _ else _) = _; rw [if_neg hj]
  have hvk : (r.put k ⟨lA, lc, vA, vc, vv⟩).v k = ⟨lA, lc, vA, vc, vv⟩ := by show (if k = k then _ else _) = _; rw [if_pos rfl]
  have slo : ∀ j, j ≠ k → (updD s k x ls).lies j = s.lies j ∧ (updD s k x ls).vers j = s.vers j := fun j hj => ⟨by show (if j = k then _ else _) = _; rw [if_neg hj], by show (if j = k then _ else _) = _; rw [if_neg hj]⟩
  have slk : (updD s k x ls).lies k = x ∧ (updD s k x ls).vers k = ls := ⟨by show (if k = k then _ else _) = _; rw [if_pos rfl], by show (if k = k then _ else _) = _; rw [if_pos rfl]⟩
  have n5 : ∀ {A : Option Addr} {n c : Nat} {l : List Value}, Own w base 5 1 A n c l → ∀ y, ablk A = some y → ¬ (y = b ∨ ablk (r.v k).vA = some y) := fun ho y hy e => by
    rcases e with e | e
    · rcases own_types ho h.row (by decide) with z | z
      · rw [z] at hy; cases hy
      · exact z (by rw [hy, hb, e])
    · rcases own_types ho (h.vers k hk).1 (by decide) with z | z
      · rw [z] at hy; cases hy
      · exact z (by rw [hy, e])
  refine ⟨⟨K.blk h.blk (fun e => ?_), ?_, fun j hj => ?_, fun j hj => ?_, fun i j hi hj hij => ?_, fun j hj => ?_, h.small, h.left, h.gb⟩, rfl, rfl, K.mono (fun y _ e => ?_), fun y hy => ?_⟩
  · rcases e with e | e
    · replace e : r.g = b := e
      exact blk_own_ne h.blk h.row (by decide) (by rw [hb, e])
    · exact blk_own_ne h.blk (h.vers k hk).1 (by decide) e
  · show Own w' base _ 2 r.A s.n r.c ((r.put k ⟨lA, lc, vA, vc, vv⟩).row (updD s k x ls) s.n)
    rw [put_row r s]
    exact hrow
  · by_cases e : j = k
    · subst e; rw [hvk, slk.1]; exact hl
    · rw [hvo j e, (slo j e).1]
      exact own_kept (h.lies j hj) K (n5 (h.lies j hj))
  · by_cases e : j = k
    · subst e; rw [hvk, slk.2]; exact ⟨hv, hs⟩
    · rw [hvo j e, (slo j e).2]
      refine ⟨own_kept (h.vers j hj).1 K (fun y hy e2 => ?_), slo_kept (h.vers j hj).2 K (fun A n c l y ho hy => n5 ho y hy)⟩
      rcases e2 with e2 | e2
      · rcases own_types (h.vers j hj).1 h.row (by decide) with z | z
        · rw [z] at hy; cases hy
        · exact z (by rw [hy, hb, e2])
      · rcases h.apart j k hj hk e with z | z
        · rw [z] at hy; cases hy
        · exact z (by rw [hy, e2])
  · have key : ∀ q, q < s.n → q ≠ k → ∀ y, ablk (r.v q).vA = some y → ablk vA ≠ some y := fun q hq hqk y hy e => by
      rcases hf y e with z | z
      · rcases h.apart q k hq hk hqk with u | u
        · rw [u] at hy; cases hy
        · exact u (by rw [hy, z])
      · have := ((h.vers q hq).1.blk hy).2; omega
    by_cases e1 : i = k
    · subst e1
      rw [hvk, hvo j (Ne.symm hij)]
      cases hy : ablk vA with
      | none => exact .inl rfl
      | some y => exact .inr (fun e => key j hj (Ne.symm hij) y e.symm hy)
    · by_cases e2 : j = k
      · subst e2
        rw [hvk, hvo i e1]
        cases hy : ablk (r.v i).vA with
        | none => exact .inl rfl
        | some y => exact .inr (fun e => key i hi e1 y hy e.symm)
      · rw [hvo i e1, hvo j e2]
        exact h.apart i j hi hj hij
  · by_cases e : j = k
    · subst e; rw [slk.1, slk.2]; exact ⟨hx, hls⟩
    · rw [(slo j e).1, (slo j e).2]; exact h.len j hj
  · rcases e with e | e
    · exact .inr (.inl (by rw [hb, e]))
    · exact .inr (.inr ⟨k, hk, e⟩)
  · rcases hy with hy | hy | ⟨j, hj, hy⟩
    · exact .inl (.inl hy)
    · exact .inl (.inr (.inl hy))
    · by_cases e : j = k
      · subst e
        rw [hvk] at hy
        rcases hf y hy with z | z
        · exact .inl (.inr (.inr ⟨j, hj, z⟩))
        · exact .inr z
      · rw [hvo j e] at hy
        exact .inl (.inr (.inr ⟨j, hj, hy⟩))
end Go.Proofs.Ytdbhagnnpjcpmaa
namespace Go.Proofs.Ytdbhagnnpjcpmaa
open Go.RowKit
set_option linter.unusedSimpArgs false
set_option linter.unusedVariables false

theorem info33r : (Try.prog.info? 39).map (fun i => (i.zero, i.size, i.bytes)) = some (some (.slice none 0 0), 1, 24) := by kernel_rfl
theorem fill33 (A : Option Addr) (n c : Nat) (cells : Array Value) (hc : cells.size = 1) : Instr.fill (fun i => some (i, 1)) cells [(0, .slice A n c)] = some #[.slice A n c] := by
  have h := Great.fill_whole (s := 1) (by omega) [.slice A n c] cells (by intro v hv; simp at hv; subst hv; rfl) (by simp [hc])
  simpa [Value.cells] using h
theorem run_built33 (A : Option Addr) (n c : Nat) (w : World) : (Instr.buildSlice 90 1 #[(0, .slice A n c)]).run Try.prog w = .ok (.slice (some ⟨w.heap.size, 0, none⟩) 1 1) (w.alloc (.cells #[.slice A n c] 39)) := by
  obtain ⟨i, hi, hz, hsz, _⟩ := info_parts info33r
  have h := fun cells hc => fill33 A n c cells hc
  simp [Instr.buildSlice, run_underlying Try.underlying90, sizeOf, typeInfo, zeroValue, hi, hz, hsz, newRow]
  rw [h _ (by simp [Value.cells])]
  simp

def rdoneOk (s : Dsk) : Bool := !(s.cut && decide (s.left = 0))
def rdec (s : Dsk) : Dsk := { s with left := wrap64 (s.left - 1) }
def rwriteD (s : Dsk) (k : Nat) (x : List UInt8) : Dsk := if rdoneOk s then writeS (rdec s) k x else s
theorem upd_write (s : Dsk) (k : Nat) (x : List UInt8) : updD s k (s.lies k) (s.vers k ++ [x]) = writeS s k x := by
  have : (updD s k (s.lies k) (s.vers k ++ [x])).lies = s.lies := by
    funext j
    show (if j = k then s.lies k else s.lies j) = _
    by_cases e : j = k
    · subst e; simp
    · rw [if_neg e]
  unfold writeS
  exact dsk_ext rfl this rfl rfl rfl
theorem Rk.dec {w : World} {base : Nat} {r : Rw} {s : Dsk} (h : Rk w base r s) : Rch w (w.setCell ⟨r.g, 2, none⟩ (.int .i64 (wrap64 (s.left - 1)))) base r r s.n (rdec s) := by
  have K : Kept (fun b => b = r.g) w (w.setCell ⟨r.g, 2, none⟩ (.int .i64 (wrap64 (s.left - 1)))) := ⟨rfl, rfl, rfl, by simp, fun b _ hn => Below.heap_setCell w _ _ b hn⟩
  exact h.reblk K (wrap_bd _) (h.blk.set_ 2 _)
theorem set_same {α : Type} {l : List α} {i : Nat} {a : α} (h : l[i]? = some a) : l.set i a = l := by
  apply List.ext_getElem?
  intro j
  by_cases e : i = j
  · subst e; rw [List.getElem?_set_self (List.getElem?_eq_some_iff.1 h).1, h]
  · rw [List.getElem?_set_ne e]
theorem Rk.row_l {w : World} {base : Nat} {r : Rw} {s : Dsk} (_ : Rk w base r s) {k : Nat} (hk : k < s.n) : (r.row s s.n)[k * 2]? = some (.slice (r.v k).lA 256 (r.v k).lc) := by
  have h1 := flat_get (f := r.cells s) (fun _ _ => rfl) hk (show 0 < 2 by omega)
  rw [Nat.add_zero] at h1
  exact h1
/-- the row's block, a sector's versions' block -/
def rowF (b : Nat) (v : Option Addr) : Nat → Prop := fun y => y = b ∨ ablk v = some y
theorem Rk.n5 {w : World} {base b k lo n c : Nat} {r : Rw} {s : Dsk} {A : Option Addr} {l : List Value} (h : Rk w base r s) (hk : k < s.n) (hb : ablk r.A = some b) (ho : Own w lo 5 1 A n c l) : ∀ y, ablk A = some y → ¬ rowF b (r.v k).vA y := fun y hy e => by
  rcases e with e | e
  · rcases own_types ho h.row (by decide) with z | z
    · rw [z] at hy; cases hy
    · exact z (by rw [hy, hb, e])
  · rcases own_types ho (h.vers k hk).1 (by decide) with z | z
    · rw [z] at hy; cases hy
    · exact z (by rw [hy, e])
theorem Rk.write {U0 w2 w3 : World} {base b k lo c1 c3 V : Nat} {r : Rw} {t : Dsk} {A1 A3 : Option Addr} {x : List UInt8} (h : Rk U0 base r t) (hk : k < t.n) (hA : r.A = some ⟨b, 0, none⟩) (hb2 : Below U0.heap.size U0 w2)
    (ho1 : Own U0 lo 5 1 A1 256 c1 (bvs x)) (hlo : base ≤ lo) (hx : x.length = 256) (hV : V = (t.vers k).length) (ho3 : Own w3 base 39 1 A3 (V + 1) c3 ((r.v k).vv ++ [.slice A1 256 c1])) (hg3 : w2.grownBy w3 (ablk (r.v k).vA))
    (hf3 : ablk A3 = ablk (r.v k).vA ∨ ablk A3 = some w2.heap.size) :
    Rch U0 (w3.setCell ⟨b, k * 2 + 1, none⟩ (.slice A3 (V + 1) c3)) base r (r.put k ⟨(r.v k).lA, (r.v k).lc, A3, c3, (r.v k).vv ++ [.slice A1 256 c1]⟩) t.n (writeS t k x) := by
  have hb : ablk r.A = some b := by rw [hA]; rfl
  have h2 := h.below hb2 (Nat.le_refl _)
  have K3 : Kept (rowF b (r.v k).vA) w2 w3 := Kept.of_grown hg3 (fun j e => .inr e)
  have K4 : Kept (fun y => y = b) w3 (w3.setCell ⟨b, k * 2 + 1, none⟩ (.slice A3 (V + 1) c3)) := ⟨rfl, rfl, rfl, by simp, fun y _ hn => Below.heap_setCell w3 _ _ y hn⟩
  have K34 : Kept (rowF b (r.v k).vA) w2 (w3.setCell ⟨b, k * 2 + 1, none⟩ (.slice A3 (V + 1) c3)) := K3.trans K4 (fun y _ e => .inl e)
  have K : Kept (rowF b (r.v k).vA) U0 (w3.setCell ⟨b, k * 2 + 1, none⟩ (.slice A3 (V + 1) c3)) := ((Kept.of_below (F := fun _ => False) hb2 (Nat.le_refl _)).mono (F' := rowF b (r.v k).vA) (fun _ _ z => z.elim)).trans K34 (fun _ _ e => e)
  have hvb : ablk (r.v k).vA ≠ some b := fun e => by
    rcases own_types (h.vers k hk).1 h.row (by decide) with z | z
    · rw [z] at e; cases e
    · exact z (by rw [e, hb])
  have hrow3 := own_kept h2.row (Kept.of_grown (F := fun y => ablk (r.v k).vA = some y) hg3 (fun j e => e)) (fun y hy e => hvb (by rw [hb] at hy; rw [e, ← hy]))
  have hb3 : ablk A3 ≠ some b := fun e => by
    rcases own_types ho3 hrow3 (by decide) with z | z
    · rw [z] at e; cases e
    · exact z (by rw [e, hb])
  have hls : V + 1 = (t.vers k ++ [x]).length := by rw [hV]; simp
  have hr4 : Own (w3.setCell ⟨b, k * 2 + 1, none⟩ (.slice A3 (V + 1) c3)) base 92 2 r.A t.n r.c ((r.row t t.n).set (k * 2 + 1) (.slice A3 (V + 1) c3)) := by
    rw [hA] at hrow3 ⊢
    exact hrow3.set_ _ _
  rw [← upd_write]
  refine h.upd hk hA K ?_ (own_kept (h.lies k hk) K (h.n5 hk hb (h.lies k hk))) (h.len k hk).1 ?_ ?_ ?_ (fun j hj => ?_)
  · rw [set_same (h.row_l hk), ← hls]
    exact hr4
  · rw [← hls]
    exact own_kept ho3 K4 (fun y hy e => hb3 (by rw [hy, e]))
  · have hs := slo_kept (h.vers k hk).2 K (fun A n c l y ho hy => h.n5 hk hb ho y hy)
    exact all2_append (SlO.one (own_kept (ho1.weak hlo) K (h.n5 hk hb ho1))) hs
  · intro y hy
    rcases List.mem_append.1 hy with hy | hy
    · exact (h.len k hk).2 y hy
    · rw [List.mem_singleton] at hy; rw [hy]; exact hx
  · rcases hf3 with e | e
    · rw [e] at hj; exact .inl hj
    · rw [e] at hj
      injection hj with hj
      have := hb2.size
      exact .inr (by omega)
set_option maxHeartbeats 1000000 in
theorem rwrite_far {w : World} {base : Nat} {r : Rw} {s : Dsk} (h : Rk w base r s) {k : Int} (hk : k < 0 ∨ (s.n : Int) ≤ k) (x : Value) :
    Calls Try.prog 17 #[.pointer (some ⟨r.g, 0, none⟩), .int .i64 k, x] w fun e w' => e = .returned (.int .i64 2) ∧ w' = w := by
  have bc := h.blk.cells
  clear h
  by_cases h0 : k < 0
  · go_enter Try.func17, Try.ntmps17
    go_wp2
    go_ret
    exact ⟨rfl, rfl⟩
  · have h1 : (s.n : Int) ≤ k := by omega
    go_enter Try.func17, Try.ntmps17
    go_wp2
    go_ret
    exact ⟨rfl, rfl⟩
set_option maxHeartbeats 1000000 in
theorem rwrite_bad {w : World} {base : Nat} {r : Rw} {s : Dsk} (h : Rk w base r s) {k : Nat} (hk : k < s.n) {A : Option Addr} {m c : Nat} (hm : ¬ m = 256) :
    Calls Try.prog 17 #[.pointer (some ⟨r.g, 0, none⟩), .int .i64 k, .slice A m c] w fun e w' => e = .returned (.int .i64 1) ∧ w' = w := by
  have bc := h.blk.cells
  have hkn : ¬ (s.n : Int) ≤ (k : Int) := by omega
  have hd : ((m : Int) != 256) = true := by rw [bne_iff_ne]; omega
  clear h
  go_enter Try.func17, Try.ntmps17
  go_wp2
  go_ret
  exact ⟨rfl, rfl⟩
set_option maxRecDepth 100000 in
set_option maxHeartbeats 8000000 in
theorem rwrite_ok {w : World} {base : Nat} {r : Rw} {s : Dsk} (h : Rk w base r s) {k : Nat} (hk : k < s.n) (hv : (s.vers k).length < 1099511627776) {lo c : Nat} {A : Option Addr} {x : List UInt8} (hx : Bs w lo A 256 c x) (hA : ∀ b, ablk A = some b → ¬ r.foot s.n b) :
    Calls Try.prog 17 #[.pointer (some ⟨r.g, 0, none⟩), .int .i64 k, .slice A 256 c] w fun e w' => e = .returned (.int .i64 0) ∧ ∃ r', Rch w w' base r r' s.n (rwriteD s k x) := by
  have bc := h.blk.cells
  have bf := h.blk.frees
  have hkn : ¬ (s.n : Int) ≤ (k : Int) := by omega
  have H := Lib.hid h
  have HX := Lib.hid hx
  have HA := Lib.hid hA
  have HV := Lib.hid hv
  cases hok : rdoneOk s with
  | false =>
    have HW : Hid (rwriteD s k x = s) := by show _ = _; unfold rwriteD; rw [hok]; rfl
    unfold rdoneOk at hok
    simp only [Bool.not_eq_false', Bool.and_eq_true, decide_eq_true_eq] at hok
    obtain ⟨h1, h2⟩ := hok
    rw [h1, h2] at bc
    clear h hx hA hv h1 h2
    go_enter Try.func17, Try.ntmps17
    go_wp2
    go_ret
    exact ⟨rfl, r, by rw [HW.out]; exact Rch.init H.out⟩
  | true =>
    have HW : Hid (rwriteD s k x = writeS (rdec s) k x) := by show _ = _; unfold rwriteD; rw [hok]; rfl
    have hcase : s.cut = false ∨ (s.cut = true ∧ ¬ s.left = 0) := by
      unfold rdoneOk at hok
      simp only [Bool.not_eq_true', Bool.and_eq_false_iff, decide_eq_false_iff_not] at hok
      cases hc : s.cut with
      | false => exact .inl rfl
      | true => rw [hc] at hok; exact .inr ⟨rfl, hok.resolve_left (by simp)⟩
    have hd1 := h.dec
    have HD1 := Lib.hid hd1
    have hxd := hx.kept hd1.K (fun _ b hb => hA b hb)
    have HXd := Lib.hid hxd
    have hsm := h.small
    clear h hx hA hv hok hd1 hxd
    obtain ⟨b, hbA⟩ : ∃ b, r.A = some ⟨b, 0, none⟩ := by obtain ⟨b, hA, _⟩ := H.out.row.head (by omega); exact ⟨b, hA⟩
    rw [hbA] at bc
    have HbA := Lib.hid hbA
    clear hbA
    rcases hcase with hc | ⟨hc, hl⟩
    all_goals
      rw [hc] at bc
      have HC := Lib.hid hc
      clear hc
      go_enter Try.func17, Try.ntmps17
      go_upto_region 8 with fail
      refine wp_world (fun U => Rch w U base r r s.n (rdec s) ∧ Bs U lo A 256 c x) ⟨HD1.out, HXd.out⟩ ?_
      clear bc bf HD1 HXd
      rintro U ⟨hU, hxU⟩
      have HU := Lib.hid hU
      have hzU := hU.K.size
      have HXU := Lib.hid hxU
      clear hU hxU
      go_upto_region 10 with (at_builtin; refine wpList_app rfl (.tmp 40) (.tmp 41) 39 rfl 5 1 Try.underlying39 info5 rfl (by omega) rfl (Own.nil_ _ U.heap.size 5 1) rfl HXU.out.2.2.2 (by rw [length_bvs, HXU.out.1]) (bvs_oneCell _) (by omega) (by omega) (Nat.le_refl _) ?_; intro A1 c1 w1 ho1 hg1 _; rw [Nat.zero_add, List.nil_append] at ho1; rw [Nat.zero_add])
      have hb1 := below_own (Below.refl U.heap.size U) (Own.nil_ _ U.heap.size 5 1) hg1 (Nat.le_refl _) (Nat.le_refl _)
      have h1 := HU.out.below (hb1.trans ((Below.refl _ _).drew)) (Nat.le_refl _)
      have ho1d := ho1.drew
      obtain ⟨U0, hU0⟩ : ∃ U0, U0 = w1.drew := ⟨_, rfl⟩
      rw [← hU0] at h1 ho1d
      have hz0 : U.heap.size ≤ U0.heap.size := by rw [hU0]; exact hb1.size
      have H1 := Lib.hid h1
      have HO1 := Lib.hid ho1d
      have hxl : x.length = 256 := HXU.out.1
      have HXl := Lib.hid hxl
      have bc := h1.rk.blk.cell 0
      obtain ⟨b', hb', cl, cv, fl, fv⟩ := h1.rk.cell (k := k) hk
      rw [HbA.out] at hb' bc
      injection hb' with hb'
      injection hb' with hb'
      subst hb'
      have hvn : (rdec s).vers k = s.vers k := rfl
      rw [hvn] at cv
      have hcap := (h1.rk.vers k hk).1.cap
      rw [hvn] at hcap
      have bc' : U0.cell? ⟨r.g, 0, none⟩ = some (.slice (some ⟨b, 0, none⟩) s.n r.c) := bc
      obtain ⟨V, hV⟩ : ∃ V, V = (s.vers k).length := ⟨_, rfl⟩
      rw [← hV] at cv hcap HV
      have HVe := Lib.hid hV
      have hV9 := HV.out
      have hknI : (k : Int) < (s.n : Int) := by omega
      clear ho1 hg1 hb1 h1 ho1d hxl cl fl hvn bc hV
      refine wp_region_last (S := fun w' => w'.cell? ⟨r.g, 0, none⟩ = some (.slice (some ⟨b, 0, none⟩) s.n r.c) ∧ w'.cell? ⟨b, k * 2 + 1, none⟩ = some (.slice (r.v k).vA V (r.v k).vc)) 18 (by kernel_rfl) rfl (by kernel_rfl) ?_ ?_
      · rw [← hU0]; exact ⟨bc', cv⟩
      intro hHeld
      simp only [List.take_succ_cons, List.take_zero]
      rw [← hU0] at hHeld
      rw [← hU0]
      refine wpAnyH_take (i := 0) (v := ?_) (by simp only [List.getElem?_toArray, List.getElem?_cons_succ, List.getElem?_cons_zero]; rfl) (by kernel_rfl) (by kernel_rfl) (by kernel_rfl) (fun _ _ _ h => h) (Or.inl ⟨by rfl, ?_⟩) hHeld ?_
      rotate_left
      · intro wz hSw; (try dsimp only at hSw); go_simp; try with_reducible rfl
      (try simp only [Act.put, List.setIfInBounds_toArray, List.set_cons_zero, List.set_cons_succ])
      refine wpAnyH_take (i := 1) (v := ?_) (by simp only [List.getElem?_toArray, List.getElem?_cons_succ, List.getElem?_cons_zero]; rfl) (by kernel_rfl) (by kernel_rfl) (by kernel_rfl) (fun _ _ _ h => h) (Or.inl ⟨by rfl, ?_⟩) hHeld ?_
      rotate_left
      · intro wz hSw; (try dsimp only at hSw); go_simp; try with_reducible rfl
      (try simp only [Act.put, List.setIfInBounds_toArray, List.set_cons_zero, List.set_cons_succ])
      refine wpAnyH_take (i := 2) (v := ?_) (by simp only [List.getElem?_toArray, List.getElem?_cons_succ, List.getElem?_cons_zero]; rfl) (by kernel_rfl) (by kernel_rfl) (by kernel_rfl) (fun _ _ _ h => h) (Or.inl ⟨by rfl, ?_⟩) hHeld ?_
      rotate_left
      · intro wz hSw; (try dsimp only at hSw); go_simp; try with_reducible rfl
      (try simp only [Act.put, List.setIfInBounds_toArray, List.set_cons_zero, List.set_cons_succ])
      refine wpAnyH_take (i := 3) (v := ?_) (by simp only [List.getElem?_toArray, List.getElem?_cons_succ, List.getElem?_cons_zero]; rfl) (by kernel_rfl) (by kernel_rfl) (by kernel_rfl) (fun _ _ _ h => h) (Or.inl ⟨by rfl, ?_⟩) hHeld ?_
      rotate_left
      · intro wz hSw; (try dsimp only at hSw); go_simp; try with_reducible rfl
      (try simp only [Act.put, List.setIfInBounds_toArray, List.set_cons_zero, List.set_cons_succ])
      refine wpAnyH_take (i := 4) (v := ?_) (by simp only [List.getElem?_toArray, List.getElem?_cons_succ, List.getElem?_cons_zero]; rfl) (by kernel_rfl) (by kernel_rfl) (by kernel_rfl) (fun _ _ _ h => h) (Or.inl ⟨by rfl, ?_⟩) hHeld ?_
      rotate_left
      · intro wz hSw; (try dsimp only at hSw); go_simp; try with_reducible rfl
      (try simp only [Act.put, List.setIfInBounds_toArray, List.set_cons_zero, List.set_cons_succ])
      refine wpAnyH_take (i := 5) (v := ?_) (by simp only [List.getElem?_toArray, List.getElem?_cons_succ, List.getElem?_cons_zero]; rfl) (by kernel_rfl) (by kernel_rfl) (by kernel_rfl) (fun _ _ _ h => h) (Or.inl ⟨by rfl, ?_⟩) hHeld ?_
      rotate_left
      · intro wz hSw; (try dsimp only at hSw); go_simp; try with_reducible rfl
      (try simp only [Act.put, List.setIfInBounds_toArray, List.set_cons_zero, List.set_cons_succ])
      refine wpAnyH_take (i := 6) (v := ?_) (by simp only [List.getElem?_toArray, List.getElem?_cons_succ, List.getElem?_cons_zero]; rfl) (by kernel_rfl) (by kernel_rfl) (by kernel_rfl) (fun _ _ _ h => h) (Or.inl ⟨by rfl, ?_⟩) hHeld ?_
      rotate_left
      · intro wz hSw; (try dsimp only at hSw); go_simp; try with_reducible rfl
      (try simp only [Act.put, List.setIfInBounds_toArray, List.set_cons_zero, List.set_cons_succ])
      refine wpAnyH_take (i := 7) (v := ?_) (by simp only [List.getElem?_toArray, List.getElem?_cons_succ, List.getElem?_cons_zero]; rfl) (by kernel_rfl) (by kernel_rfl) (by kernel_rfl) (fun _ _ _ h => h) (Or.inl ⟨by rfl, ?_⟩) hHeld ?_
      rotate_left
      · intro wz hSw; (try dsimp only at hSw); go_simp; try with_reducible rfl
      (try simp only [Act.put, List.setIfInBounds_toArray, List.set_cons_zero, List.set_cons_succ])
      refine wpAnyH_take (i := 8) (v := ?_) (by simp only [List.getElem?_toArray, List.getElem?_cons_succ, List.getElem?_cons_zero]; rfl) (by kernel_rfl) (by kernel_rfl) (by kernel_rfl) (fun _ _ _ h => h) (Or.inl ⟨by rfl, ?_⟩) hHeld ?_
      rotate_left
      · intro wz hSw; (try dsimp only at hSw); go_simp; try with_reducible rfl
      (try simp only [Act.put, List.setIfInBounds_toArray, List.set_cons_zero, List.set_cons_succ])
      refine wpAnyH_take (i := 9) (v := ?_) (by simp only [List.getElem?_toArray, List.getElem?_cons_succ, List.getElem?_cons_zero]; rfl) (by kernel_rfl) (by kernel_rfl) (by kernel_rfl) (fun _ _ _ h => h) (Or.inl ⟨by rfl, ?_⟩) hHeld ?_
      rotate_left
      · intro wz hSw; (try dsimp only at hSw); go_simp; try with_reducible rfl
      (try simp only [Act.put, List.setIfInBounds_toArray, List.set_cons_zero, List.set_cons_succ])
      refine wpAnyH_take (i := 10) (v := ?_) (by simp only [List.getElem?_toArray, List.getElem?_cons_succ, List.getElem?_cons_zero]; rfl) (by kernel_rfl) (by kernel_rfl) (by kernel_rfl) (fun _ _ _ h => h) (Or.inl ⟨by rfl, ?_⟩) hHeld ?_
      rotate_left
      · intro wz hSw; (try dsimp only at hSw); go_simp; try with_reducible rfl
      (try simp only [Act.put, List.setIfInBounds_toArray, List.set_cons_zero, List.set_cons_succ])
      refine wpAnyH_take (i := 11) (v := ?_) (by simp only [List.getElem?_toArray, List.getElem?_cons_succ, List.getElem?_cons_zero]; rfl) (by kernel_rfl) (by kernel_rfl) (by kernel_rfl) (fun _ _ _ h => h) (Or.inl ⟨by rfl, ?_⟩) hHeld ?_
      rotate_left
      · intro wz hSw; (try dsimp only at hSw); go_simp; try with_reducible rfl
      (try simp only [Act.put, List.setIfInBounds_toArray, List.set_cons_zero, List.set_cons_succ])
      refine wpAnyH_take (i := 12) (v := ?_) (by simp only [List.getElem?_toArray, List.getElem?_cons_succ, List.getElem?_cons_zero]; rfl) (by kernel_rfl) (by kernel_rfl) (by kernel_rfl) (fun _ _ _ h => h) (Or.inl ⟨by rfl, ?_⟩) hHeld ?_
      rotate_left
      · intro wz hSw; (try dsimp only at hSw); go_simp; try with_reducible rfl
      (try simp only [Act.put, List.setIfInBounds_toArray, List.set_cons_zero, List.set_cons_succ])
      refine wpAnyH_take (i := 13) (v := ?_) (by simp only [List.getElem?_toArray, List.getElem?_cons_succ, List.getElem?_cons_zero]; rfl) (by kernel_rfl) (by kernel_rfl) (by kernel_rfl) (fun _ _ _ h => h) (Or.inl ⟨by rfl, ?_⟩) hHeld ?_
      rotate_left
      · intro wz hSw; (try dsimp only at hSw); go_simp; try with_reducible rfl
      (try simp only [Act.put, List.setIfInBounds_toArray, List.set_cons_zero, List.set_cons_succ])
      have ha2 := (Below.refl U0.heap.size U0).alloc (Nat.le_refl _) (.cells #[.slice A1 256 c1] 39)
      have hr2 := (Blk.new U0 39 [.slice A1 256 c1]).rd0 (Nat.zero_le _)
      have hk2 := H1.out.rk.below ha2 (Nat.le_refl _)
      have hbU : b < U0.heap.size := by have := (H1.out.rk.row.blk (show ablk r.A = some b by rw [HbA.out]; rfl)).2; exact this
      refine wpAnyH_ready (rs := [14]) (by kernel_rfl) (by simp) ?_
      refine AllReadyH.cons (by simp only [List.getElem?_toArray, List.getElem?_cons_succ, List.getElem?_cons_zero]; rfl) (fun KK hK => ?_) AllReadyH.nil
      (refine step_built1 rfl 90 (.tmp 56) rfl (u := .slice A1 256 c1) rfl (run_built33 _ _ _ _) ?_)
      refine hK.out _ _ ?_ (fun hHeld => ?_)
      · exact ⟨by have := hk2.blk.cell 0; rw [HbA.out] at this; exact this, (ha2.cell (p := ⟨b, k * 2 + 1, none⟩) hbU).trans cv⟩
      clear hK KK
      (try simp only [Act.put, List.setIfInBounds_toArray, List.set_cons_zero, List.set_cons_succ])
      have hvo := (hk2.vers k hk).1
      have hvs := (hk2.vers k hk).2
      have hvn : (rdec s).vers k = s.vers k := rfl
      rw [hvn] at hvo hvs
      rw [← HVe.out] at hvo
      have hzb : base ≤ (U0.alloc (.cells #[.slice A1 256 c1] 39)).heap.size := by have := hk2.blk.lt; have := hk2.gb; omega
      refine wpAnyH_ready (rs := [15]) (by kernel_rfl) (by simp) ?_
      refine AllReadyH.cons (by simp only [List.getElem?_toArray, List.getElem?_cons_succ, List.getElem?_cons_zero]; rfl) (fun KK hK => ?_) AllReadyH.nil
      (refine step_app rfl (.tmp 55) (.tmp 57) 90 rfl 39 1 Try.underlying90 info33r rfl (by omega) rfl hvo rfl hr2 rfl (by intro u hu; simp at hu; rw [hu]; rfl) (by omega) (by omega) hzb ?_; intro A3 c3 w3 ho3 hg3 hf3; have K3 : Kept (fun j => ablk (r.v k).vA = some j) (U0.alloc (.cells #[.slice A1 256 c1] 39)) w3 := Kept.of_grown hg3 (fun j e => e); have hbV : ablk (r.v k).vA ≠ some b := (fun e => by rcases own_types hvo hk2.row (by decide) with z | z; (rw [z] at e; cases e); exact z (by rw [e, HbA.out]; rfl)))
      refine hK.out _ _ ?_ (fun hHeld => ?_)
      · exact ⟨by have := (K3.blk hk2.blk (blk_own_ne hk2.blk hvo (by decide))).cell 0; rw [HbA.out] at this; exact this, (World.cell?_of_block (a := ⟨b, k * 2 + 1, none⟩) (K3.block b (Nat.lt_of_lt_of_le hbU ha2.size) hbV)).trans ((ha2.cell (p := ⟨b, k * 2 + 1, none⟩) hbU).trans cv)⟩
      clear hK KK
      (try simp only [Act.put, List.setIfInBounds_toArray, List.set_cons_zero, List.set_cons_succ])
      have hfz : w3.frozen? ⟨b, k * 2 + 1, none⟩ = false := (World.frozen?_of_block (a := ⟨b, k * 2 + 1, none⟩) (K3.block b (Nat.lt_of_lt_of_le hbU ha2.size) hbV)).trans ((ha2.frozen (p := ⟨b, k * 2 + 1, none⟩) hbU).trans fv)
      refine wpAnyH_take (i := 16) (v := ?_) (by simp only [List.getElem?_toArray, List.getElem?_cons_succ, List.getElem?_cons_zero]; rfl) (by kernel_rfl) (by kernel_rfl) (by kernel_rfl) (fun _ _ _ h => h) (Or.inl ⟨by rfl, ?_⟩) hHeld ?_
      rotate_left
      · intro wz hSw; (try dsimp only at hSw); go_simp; try with_reducible rfl
      (try simp only [Act.put, List.setIfInBounds_toArray, List.set_cons_zero, List.set_cons_succ])
      refine wpAnyH_take (i := 17) (v := ?_) (by simp only [List.getElem?_toArray, List.getElem?_cons_succ, List.getElem?_cons_zero]; rfl) (by kernel_rfl) (by kernel_rfl) (by kernel_rfl) (fun _ _ _ h => h) (Or.inl ⟨by rfl, ?_⟩) hHeld ?_
      rotate_left
      · intro wz hSw; (try dsimp only at hSw); go_simp; try with_reducible rfl
      (try simp only [Act.put, List.setIfInBounds_toArray, List.set_cons_zero, List.set_cons_succ])
      refine wpAnyH_done (by kernel_rfl) ?_ _
      simp only [lastQ]
      go_simp
      have hfin := H1.out.rk.write (V := V) hk HbA.out ha2 HO1.out (by have := HU.out.rk.blk.lt; have := HU.out.rk.gb; omega) HXl.out (by rw [HVe.out]; rfl) ho3 hg3 hf3
      have hall := H1.out.trans hfin
      have HAll := Lib.hid hall
      clear hfin hall hfz hHeld ho3 hg3 hf3 K3 hbV hvo hvs hk2 hr2 ha2 hzb H1 HO1 HU HXU hcap
      generalize w3.setCell ⟨b, k * 2 + 1, none⟩ (.slice A3 (V + 1) c3) = w5 at *
      go_wp2
      go_ret
      exact ⟨rfl, _, by rw [HW.out]; exact HAll.out⟩
end Go.Proofs.Ytdbhagnnpjcpmaa
namespace Go.Proofs.Ytdbhagnnpjcpmaa
open Go.RowKit
set_option linter.unusedSimpArgs false
set_option linter.unusedVariables false

theorem Rk.both {w0 w1 : World} {base b k lc vc : Nat} {r : Rw} {s : Dsk} {lA vA : Option Addr} {vv : List Value} {x : List UInt8} {ls : List (List UInt8)} (h : Rk w0 base r s) (hk : k < s.n) (hA : r.A = some ⟨b, 0, none⟩) (hb : Below w0.heap.size w0 w1)
    (hl : Own w1 base 5 1 lA 256 lc (bvs x)) (hx : x.length = 256) (hv : Own w1 base 39 1 vA ls.length vc vv) (hs : SlO w1 base vv ls) (hls : ∀ y ∈ ls, y.length = 256) (hf : ∀ j, ablk vA = some j → ablk (r.v k).vA = some j ∨ w0.heap.size ≤ j) :
    Rch w0 ((w1.setCell ⟨b, k * 2, none⟩ (.slice lA 256 lc)).setCell ⟨b, k * 2 + 1, none⟩ (.slice vA ls.length vc)) base r (r.put k ⟨lA, lc, vA, vc, vv⟩) s.n (updD s k x ls) := by
  have hbA : ablk r.A = some b := by rw [hA]; rfl
  have h1 := h.below hb (Nat.le_refl _)
  have K1 : Kept (fun y => y = b) w1 ((w1.setCell ⟨b, k * 2, none⟩ (.slice lA 256 lc)).setCell ⟨b, k * 2 + 1, none⟩ (.slice vA ls.length vc)) := ⟨rfl, rfl, rfl, by simp, fun y _ hn => (Below.heap_setCell _ _ _ y hn).trans (Below.heap_setCell w1 _ _ y hn)⟩
  have K : Kept (rowF b (r.v k).vA) w0 ((w1.setCell ⟨b, k * 2, none⟩ (.slice lA 256 lc)).setCell ⟨b, k * 2 + 1, none⟩ (.slice vA ls.length vc)) := ((Kept.of_below (F := fun _ => False) hb (Nat.le_refl _)).mono (F' := rowF b (r.v k).vA) (fun _ _ z => z.elim)).trans K1 (fun _ _ e => .inl e)
  have n5 : ∀ {A : Option Addr} {lo n c : Nat} {l : List Value}, Own w1 lo 5 1 A n c l → ∀ y, ablk A = some y → ¬ y = b := fun ho y hy e => by
    rcases own_types ho h1.row (by decide) with z | z
    · rw [z] at hy; cases hy
    · exact z (by rw [hy, hbA, e])
  refine h.upd hk hA K ?_ (own_kept hl K1 (n5 hl)) hx (own_kept hv K1 (fun y hy e => ?_)) (slo_kept hs K1 (fun A n c l y ho hy => n5 ho y hy)) hls hf
  · have h2 := h1.row
    rw [hA] at h2 ⊢
    exact (h2.set_ _ _).set_ _ _
  · rcases own_types hv h1.row (by decide) with z | z
    · rw [z] at hy; cases hy
    · exact z (by rw [hy, hbA, e])

def rflTo (s : Dsk) (i : Nat) : Dsk := { s with lies := fun k => if k < i then hasD s k else s.lies k, vers := fun k => if k < i then [] else s.vers k }
def rflushD (s : Dsk) : Dsk := if rdoneOk s then rflTo (rdec s) s.n else s
theorem rflTo_0 (s : Dsk) : rflTo s 0 = s := by
  unfold rflTo
  simp
theorem rflTo_vers (s : Dsk) {i : Nat} : (rflTo s i).vers i = s.vers i := by
  show (if i < i then _ else _) = _
  rw [if_neg (by omega)]
theorem rflTo_lies (s : Dsk) {i : Nat} : (rflTo s i).lies i = s.lies i := by
  show (if i < i then _ else _) = _
  rw [if_neg (by omega)]
theorem rflTo_succ (s : Dsk) (i : Nat) : updD (rflTo s i) i (hasD s i) [] = rflTo s (i + 1) := by
  refine dsk_ext rfl ?_ ?_ rfl rfl
  · funext k
    show (if k = i then hasD s i else (if k < i then hasD s k else s.lies k)) = (if k < i + 1 then hasD s k else s.lies k)
    by_cases e : k = i
    · subst e; rw [if_pos rfl, if_pos (by omega)]
    · rw [if_neg e]
      by_cases e2 : k < i
      · rw [if_pos e2, if_pos (by omega)]
      · rw [if_neg e2, if_neg (by omega)]
  · funext k
    show (if k = i then [] else (if k < i then [] else s.vers k)) = (if k < i + 1 then [] else s.vers k)
    by_cases e : k = i
    · subst e; rw [if_pos rfl, if_pos (by omega)]
    · rw [if_neg e]
      by_cases e2 : k < i
      · rw [if_pos e2, if_pos (by omega)]
      · rw [if_neg e2, if_neg (by omega)]
theorem rflTo_skip (s : Dsk) {i : Nat} (h : s.vers i = []) : rflTo s i = rflTo s (i + 1) := by
  refine dsk_ext rfl ?_ ?_ rfl rfl
  · funext k
    show (if k < i then hasD s k else s.lies k) = (if k < i + 1 then hasD s k else s.lies k)
    by_cases e : k = i
    · subst e; rw [if_neg (by omega), if_pos (by omega), hasD_flat h]
    · by_cases e2 : k < i
      · rw [if_pos e2, if_pos (by omega)]
      · rw [if_neg e2, if_neg (by omega)]
  · funext k
    show (if k < i then [] else s.vers k) = (if k < i + 1 then [] else s.vers k)
    by_cases e : k = i
    · subst e; rw [if_neg (by omega), if_pos (by omega), h]
    · by_cases e2 : k < i
      · rw [if_pos e2, if_pos (by omega)]
      · rw [if_neg e2, if_neg (by omega)]

set_option maxRecDepth 100000 in
set_option maxHeartbeats 8000000 in
theorem rflush_any {w : World} {base : Nat} {r : Rw} {s : Dsk} (h : Rk w base r s) :
    Calls Try.prog 19 #[.pointer (some ⟨r.g, 0, none⟩)] w fun e w' => e = .returned (.tuple #[]) ∧ ∃ r', Rch w w' base r r' s.n (rflushD s) := by
  have bc := h.blk.cells
  have bf := h.blk.frees
  have H := Lib.hid h
  cases hok : rdoneOk s with
  | false =>
    have HW : Hid (rflushD s = s) := by show _ = _; unfold rflushD; rw [hok]; rfl
    unfold rdoneOk at hok
    simp only [Bool.not_eq_false', Bool.and_eq_true, decide_eq_true_eq] at hok
    obtain ⟨h1, h2⟩ := hok
    rw [h1, h2] at bc
    clear h h1 h2
    go_enter Try.func19, Try.ntmps19
    go_wp2
    refine bodyPost_ret (results_none rfl _ _ _) rfl ?_
    exact ⟨rfl, r, by rw [HW.out]; exact Rch.init H.out⟩
  | true =>
    have HW : Hid (rflushD s = rflTo (rdec s) s.n) := by show _ = _; unfold rflushD; rw [hok]; rfl
    have hcase : s.cut = false ∨ (s.cut = true ∧ ¬ s.left = 0) := by
      unfold rdoneOk at hok
      simp only [Bool.not_eq_true', Bool.and_eq_false_iff, decide_eq_false_iff_not] at hok
      cases hc : s.cut with
      | false => exact .inl rfl
      | true => rw [hc] at hok; exact .inr ⟨rfl, hok.resolve_left (by simp)⟩
    have HD1 := Lib.hid h.dec
    have hsm := h.small
    clear h hok
    rcases hcase with hc | ⟨hc, hl⟩
    all_goals
      rw [hc] at bc
      clear hc
      try have hlb : (s.left == 0) = false := by simpa using hl
      go_enter Try.func19, Try.ntmps19
      go_upto_region 2 with fail
      refine wp_world (fun U => Rch w U base r r s.n (rdec s)) HD1.out ?_
      clear bc bf HD1
      rintro U hU
      have HU := Lib.hid hU
      clear hU
      obtain ⟨t, ht⟩ : ∃ t, t = rdec s := ⟨_, rfl⟩
      have htn : t.n = s.n := by rw [ht]; rfl
      rw [← ht] at HU HW
      have HTN := Lib.hid htn
      clear ht htn
      obtain ⟨gr, hgr⟩ : ∃ gr, gr = r.g := ⟨_, rfl⟩
      rw [← hgr]
      have HGr := Lib.hid hgr
      clear hgr
      go_wp2
      go_loopw [2, 3] (fun s2 _ wr => ∃ (i : Nat) (r1 : Rw), i ≤ s.n ∧ s2 = .int .i64 i ∧ Rch w wr base r r1 s.n (rflTo t i)) (fun s2 _ _ => s.n - (intOf s2).toNat)
      case atStart => exact ⟨0, r, by omega, rfl, by rw [rflTo_0]; exact HU.out⟩
      case round =>
        clear HU
        obtain ⟨i, r1, hi, rfl, hR⟩ := hrel
        have bc := hR.rk.blk.cells
        rw [hR.g, ← HGr.out] at bc
        have hn1 : (rflTo t i).n = s.n := hR.n_
        rw [hn1] at bc
        by_cases hlt : i < s.n
        · have hkt : i < (rflTo t i).n := by rw [hn1]; exact hlt
          obtain ⟨b, hA, cl, cv, fl, fv⟩ := hR.rk.cell hkt
          rw [rflTo_vers] at cv
          rw [hA] at bc
          have hin : (i : Int) < (s.n : Int) := by omega
          have HA := Lib.hid hA
          have HR := Lib.hid hR
          have HKt := Lib.hid hkt
          clear hA hR hn1
          rcases Nat.eq_zero_or_pos (t.vers i).length with h0 | h0
          · have HSk := Lib.hid (rflTo_skip t (List.eq_nil_of_length_eq_zero h0))
            rw [h0] at cv
            clear h0 hkt
            go_wp2
            go_roundw
            case rel => exact ⟨i + 1, r1, by omega, by norm_cast, by rw [← HSk.out]; exact HR.out⟩
            case measure => simp only [intOf]; omega
          · obtain ⟨q, hq⟩ : ∃ q, (t.vers i).length = q + 1 := ⟨(t.vers i).length - 1, by omega⟩
            obtain ⟨bv_, Ax, cx, hvA, hvc, hvo⟩ := HR.out.rk.verAt hkt (q := q) (by rw [rflTo_vers]; omega)
            rw [rflTo_vers] at hvo
            have hcap := (HR.out.rk.vers i hkt).1.cap
            rw [rflTo_vers] at hcap
            have he : (t.vers i).getD q [] = hasD t i := by
              unfold hasD
              rw [List.getLast?_eq_getElem?, hq, List.getD_eq_getElem?_getD, Nat.add_sub_cancel, List.getElem?_eq_getElem (by omega)]
              rfl
            have hx := (HR.out.rk.len i hkt).2 ((t.vers i).getD q []) (by rw [rflTo_vers, List.getD_eq_getElem?_getD, List.getElem?_eq_getElem (by omega)]; exact List.getElem_mem _)
            rw [he] at hvo hx
            rw [hvA, hq] at cv
            rw [hq] at hcap
            have HVo := Lib.hid hvo
            have HXl := Lib.hid hx
            have eq1 : IntKind.i64.wrap (((q + 1 : Nat) : Int) - 1) = (q : Int) := by rw [IntWalk.i64_in _ (by omega)]; omega
            have eq2 : ((q + 1 : Nat) : Int) - 1 = (q : Int) := by omega
            have eq3 : IntKind.i64.wrap (q : Int) = (q : Int) := IntWalk.i64_in _ (by omega)
            have hqi : (0 : Int) < ((q + 1 : Nat) : Int) := by omega
            have hqi2 : (q : Int) < ((q + 1 : Nat) : Int) := by omega
            have hqi3 : (q : Int) < (q : Int) + 1 := by omega
            have hil : i * 2 + 2 ≤ s.n * 2 := by omega
            clear hvo hx he hq h0 hvA hkt
            go_upto_region 7 with fail
            have bc0 := bc 0
            clear bc
            refine wp_region_last (S := fun w' => w'.cell? ⟨gr, 0, none⟩ = some (.slice (some ⟨b, 0, none⟩) s.n r1.c) ∧ w'.cell? ⟨b, i * 2 + 1, none⟩ = some (.slice (some ⟨bv_, 0, none⟩) (q + 1) (r1.v i).vc) ∧ w'.cell? ⟨bv_, q, none⟩ = some (.slice Ax 256 cx)) 19 (by kernel_rfl) rfl (by kernel_rfl) ?_ ?_
            · exact ⟨bc0, cv, hvc⟩
            intro hHeld
            simp only [List.take_succ_cons, List.take_zero]
            refine wpAnyH_take (i := 0) (v := ?_) (by simp only [List.getElem?_toArray, List.getElem?_cons_succ, List.getElem?_cons_zero]; rfl) (by kernel_rfl) (by kernel_rfl) (by kernel_rfl) (fun _ _ _ h => h) (Or.inl ⟨by rfl, ?_⟩) hHeld ?_
            rotate_left
            · intro wz hSw; (try dsimp only at hSw); go_simp; try with_reducible rfl
            (try simp only [Act.put, List.setIfInBounds_toArray, List.set_cons_zero, List.set_cons_succ])
            refine wpAnyH_take (i := 1) (v := ?_) (by simp only [List.getElem?_toArray, List.getElem?_cons_succ, List.getElem?_cons_zero]; rfl) (by kernel_rfl) (by kernel_rfl) (by kernel_rfl) (fun _ _ _ h => h) (Or.inl ⟨by rfl, ?_⟩) hHeld ?_
            rotate_left
            · intro wz hSw; (try dsimp only at hSw); go_simp; try with_reducible rfl
            (try simp only [Act.put, List.setIfInBounds_toArray, List.set_cons_zero, List.set_cons_succ])
            refine wpAnyH_take (i := 2) (v := ?_) (by simp only [List.getElem?_toArray, List.getElem?_cons_succ, List.getElem?_cons_zero]; rfl) (by kernel_rfl) (by kernel_rfl) (by kernel_rfl) (fun _ _ _ h => h) (Or.inl ⟨by rfl, ?_⟩) hHeld ?_
            rotate_left
            · intro wz hSw; (try dsimp only at hSw); go_simp; try with_reducible rfl
            (try simp only [Act.put, List.setIfInBounds_toArray, List.set_cons_zero, List.set_cons_succ])
            refine wpAnyH_take (i := 3) (v := ?_) (by simp only [List.getElem?_toArray, List.getElem?_cons_succ, List.getElem?_cons_zero]; rfl) (by kernel_rfl) (by kernel_rfl) (by kernel_rfl) (fun _ _ _ h => h) (Or.inl ⟨by rfl, ?_⟩) hHeld ?_
            rotate_left
            · intro wz hSw; (try dsimp only at hSw); go_simp; try with_reducible rfl
            (try simp only [Act.put, List.setIfInBounds_toArray, List.set_cons_zero, List.set_cons_succ])
            refine wpAnyH_take (i := 4) (v := ?_) (by simp only [List.getElem?_toArray, List.getElem?_cons_succ, List.getElem?_cons_zero]; rfl) (by kernel_rfl) (by kernel_rfl) (by kernel_rfl) (fun _ _ _ h => h) (Or.inl ⟨by rfl, ?_⟩) hHeld ?_
            rotate_left
            · intro wz hSw; (try dsimp only at hSw); go_simp; try with_reducible rfl
            (try simp only [Act.put, List.setIfInBounds_toArray, List.set_cons_zero, List.set_cons_succ])
            refine wpAnyH_take (i := 5) (v := ?_) (by simp only [List.getElem?_toArray, List.getElem?_cons_succ, List.getElem?_cons_zero]; rfl) (by kernel_rfl) (by kernel_rfl) (by kernel_rfl) (fun _ _ _ h => h) (Or.inl ⟨by rfl, ?_⟩) hHeld ?_
            rotate_left
            · intro wz hSw; (try dsimp only at hSw); go_simp; try with_reducible rfl
            (try simp only [Act.put, List.setIfInBounds_toArray, List.set_cons_zero, List.set_cons_succ])
            refine wpAnyH_take (i := 6) (v := ?_) (by simp only [List.getElem?_toArray, List.getElem?_cons_succ, List.getElem?_cons_zero]; rfl) (by kernel_rfl) (by kernel_rfl) (by kernel_rfl) (fun _ _ _ h => h) (Or.inl ⟨by rfl, ?_⟩) hHeld ?_
            rotate_left
            · intro wz hSw; (try dsimp only at hSw); go_simp; try with_reducible rfl
            (try simp only [Act.put, List.setIfInBounds_toArray, List.set_cons_zero, List.set_cons_succ])
            refine wpAnyH_take (i := 7) (v := ?_) (by simp only [List.getElem?_toArray, List.getElem?_cons_succ, List.getElem?_cons_zero]; rfl) (by kernel_rfl) (by kernel_rfl) (by kernel_rfl) (fun _ _ _ h => h) (Or.inl ⟨by rfl, ?_⟩) hHeld ?_
            rotate_left
            · intro wz hSw; (try dsimp only at hSw); go_simp; try with_reducible rfl
            (try simp only [Act.put, List.setIfInBounds_toArray, List.set_cons_zero, List.set_cons_succ])
            refine wpAnyH_take (i := 8) (v := ?_) (by simp only [List.getElem?_toArray, List.getElem?_cons_succ, List.getElem?_cons_zero]; rfl) (by kernel_rfl) (by kernel_rfl) (by kernel_rfl) (fun _ _ _ h => h) (Or.inl ⟨by rfl, ?_⟩) hHeld ?_
            rotate_left
            · intro wz hSw; (try dsimp only at hSw); go_simp; try with_reducible rfl
            (try simp only [Act.put, List.setIfInBounds_toArray, List.set_cons_zero, List.set_cons_succ])
            refine wpAnyH_take (i := 9) (v := ?_) (by simp only [List.getElem?_toArray, List.getElem?_cons_succ, List.getElem?_cons_zero]; rfl) (by kernel_rfl) (by kernel_rfl) (by kernel_rfl) (fun _ _ _ h => h) (Or.inl ⟨by rfl, ?_⟩) hHeld ?_
            rotate_left
            · intro wz hSw; (try dsimp only at hSw); go_simp; try with_reducible rfl
            (try simp only [Act.put, List.setIfInBounds_toArray, List.set_cons_zero, List.set_cons_succ])
            refine wpAnyH_take (i := 10) (v := ?_) (by simp only [List.getElem?_toArray, List.getElem?_cons_succ, List.getElem?_cons_zero]; rfl) (by kernel_rfl) (by kernel_rfl) (by kernel_rfl) (fun _ _ _ h => h) (Or.inl ⟨by rfl, ?_⟩) hHeld ?_
            rotate_left
            · intro wz hSw; (try dsimp only at hSw); go_simp; try with_reducible rfl
            (try simp only [Act.put, List.setIfInBounds_toArray, List.set_cons_zero, List.set_cons_succ])
            refine wpAnyH_take (i := 11) (v := ?_) (by simp only [List.getElem?_toArray, List.getElem?_cons_succ, List.getElem?_cons_zero]; rfl) (by kernel_rfl) (by kernel_rfl) (by kernel_rfl) (fun _ _ _ h => h) (Or.inl ⟨by rfl, ?_⟩) hHeld ?_
            rotate_left
            · intro wz hSw; (try dsimp only at hSw); go_simp; try with_reducible rfl
            (try simp only [Act.put, List.setIfInBounds_toArray, List.set_cons_zero, List.set_cons_succ])
            refine wpAnyH_take (i := 12) (v := ?_) (by simp only [List.getElem?_toArray, List.getElem?_cons_succ, List.getElem?_cons_zero]; rfl) (by kernel_rfl) (by kernel_rfl) (by kernel_rfl) (fun _ _ _ h => h) (Or.inl ⟨by rfl, ?_⟩) hHeld ?_
            rotate_left
            · intro wz hSw; (try dsimp only at hSw); go_simp; try with_reducible rfl
            (try simp only [Act.put, List.setIfInBounds_toArray, List.set_cons_zero, List.set_cons_succ])
            refine wpAnyH_take (i := 13) (v := ?_) (by simp only [List.getElem?_toArray, List.getElem?_cons_succ, List.getElem?_cons_zero]; rfl) (by kernel_rfl) (by kernel_rfl) (by kernel_rfl) (fun _ _ _ h => h) (Or.inl ⟨by rfl, ?_⟩) hHeld ?_
            rotate_left
            · intro wz hSw; (try dsimp only at hSw); go_simp; try with_reducible rfl
            (try simp only [Act.put, List.setIfInBounds_toArray, List.set_cons_zero, List.set_cons_succ])
            refine wpAnyH_take (i := 14) (v := ?_) (by simp only [List.getElem?_toArray, List.getElem?_cons_succ, List.getElem?_cons_zero]; rfl) (by kernel_rfl) (by kernel_rfl) (by kernel_rfl) (fun _ _ _ h => h) (Or.inl ⟨by rfl, ?_⟩) hHeld ?_
            rotate_left
            · intro wz hSw; (try dsimp only at hSw); go_simp; try with_reducible rfl
            (try simp only [Act.put, List.setIfInBounds_toArray, List.set_cons_zero, List.set_cons_succ])
            refine wpAnyH_take (i := 15) (v := ?_) (by simp only [List.getElem?_toArray, List.getElem?_cons_succ, List.getElem?_cons_zero]; rfl) (by kernel_rfl) (by kernel_rfl) (by kernel_rfl) (fun _ _ _ h => h) (Or.inl ⟨by rfl, ?_⟩) hHeld ?_
            rotate_left
            · intro wz hSw; (try dsimp only at hSw); go_simp; try with_reducible rfl
            (try simp only [Act.put, List.setIfInBounds_toArray, List.set_cons_zero, List.set_cons_succ])
            refine wpAnyH_take (i := 16) (v := ?_) (by simp only [List.getElem?_toArray, List.getElem?_cons_succ, List.getElem?_cons_zero]; rfl) (by kernel_rfl) (by kernel_rfl) (by kernel_rfl) (fun _ _ _ h => h) (Or.inl ⟨by rfl, ?_⟩) hHeld ?_
            rotate_left
            · intro wz hSw; (try dsimp only at hSw); go_simp; try with_reducible rfl
            (try simp only [Act.put, List.setIfInBounds_toArray, List.set_cons_zero, List.set_cons_succ])
            refine wpAnyH_take (i := 17) (v := ?_) (by simp only [List.getElem?_toArray, List.getElem?_cons_succ, List.getElem?_cons_zero]; rfl) (by kernel_rfl) (by kernel_rfl) (by kernel_rfl) (fun _ _ _ h => h) (Or.inl ⟨by rfl, ?_⟩) hHeld ?_
            rotate_left
            · intro wz hSw; (try dsimp only at hSw); go_simp; try with_reducible rfl
            (try simp only [Act.put, List.setIfInBounds_toArray, List.set_cons_zero, List.set_cons_succ])
            refine wpAnyH_take (i := 18) (v := ?_) (by simp only [List.getElem?_toArray, List.getElem?_cons_succ, List.getElem?_cons_zero]; rfl) (by kernel_rfl) (by kernel_rfl) (by kernel_rfl) (fun _ _ _ h => h) (Or.inl ⟨by rfl, ?_⟩) hHeld ?_
            rotate_left
            · intro wz hSw; (try dsimp only at hSw); go_simp; try with_reducible rfl
            (try simp only [Act.put, List.setIfInBounds_toArray, List.set_cons_zero, List.set_cons_succ])
            refine wpAnyH_done (by kernel_rfl) ?_ _
            simp only [lastQ]
            go_simp
            clear hHeld
            have hbd : Below wr.heap.size wr wr.drew := (Below.refl _ _).drew
            have hfin := HR.out.rk.both (w1 := wr.drew) (vA := none) (vc := 0) (vv := []) (ls := []) HKt.out HA.out hbd HVo.out.drew HXl.out (Own.nil_ _ _ _ _) .nil (fun y hy => by cases hy) (fun j hj => by cases hj)
            rw [rflTo_succ, HR.out.n_] at hfin
            have hall := HR.out.trans hfin
            have HAll := Lib.hid hall
            have hbA : ablk r1.A = some b := by rw [HA.out]; rfl
            have hgb : ¬ gr = b := fun e => blk_own_ne HR.out.rk.blk HR.out.rk.row (by decide) (by rw [hbA, ← e, HGr.out, HR.out.g])
            have f2 : (wr.drew.setCell ⟨b, i * 2, none⟩ (.slice Ax 256 cx)).frozen? ⟨b, i * 2 + 1, none⟩ = false := by rw [World.frozen?_setCell]; exact fv
            have hdr : (wr.setCell ⟨b, i * 2, none⟩ (.slice Ax 256 cx)).drew = wr.drew.setCell ⟨b, i * 2, none⟩ (.slice Ax 256 cx) := rfl
            have c0 : (wr.drew.setCell ⟨b, i * 2, none⟩ (.slice Ax 256 cx)).cell? ⟨gr, 0, none⟩ = some (.slice (some ⟨b, 0, none⟩) s.n r1.c) := by rw [World.cell?_setCell_other _ _ _ _ (fun e => by injection e with e; exact hgb e.symm)]; exact bc0
            have c1 : (wr.drew.setCell ⟨b, i * 2, none⟩ (.slice Ax 256 cx)).cell? ⟨b, i * 2 + 1, none⟩ = some (.slice (some ⟨bv_, 0, none⟩) (q + 1) (r1.v i).vc) := by rw [World.cell?_setCell_other _ _ _ _ (fun e => by injection e with _ e; omega)]; exact cv
            rw [← hdr] at c0 c1 f2 HAll
            obtain ⟨W, hW⟩ : ∃ W, W = (wr.setCell ⟨b, i * 2, none⟩ (.slice Ax 256 cx)).drew := ⟨_, rfl⟩
            rw [← hW] at c0 c1 f2 HAll
            rw [← hW]
            clear hfin hall hdr hW cl fl cv hvc fv bc0 hbd HVo hbA hgb HR
            go_wp2
            go_roundw
            case rel => exact ⟨i + 1, _, by omega, by norm_cast, HAll.out⟩
            case measure => simp only [intOf]; omega
        · obtain rfl : i = s.n := by omega
          have HR := Lib.hid hR
          clear hR
          go_wp2
          go_end0
          exact ⟨rfl, r1, by rw [HW.out]; exact HR.out⟩
end Go.Proofs.Ytdbhagnnpjcpmaa
