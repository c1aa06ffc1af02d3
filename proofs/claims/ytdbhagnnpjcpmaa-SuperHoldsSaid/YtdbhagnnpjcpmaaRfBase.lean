/- The reference's disk in memory: its row of cells, each with what lies there and its versions. No condition. -/
import Derived.Test.YtdbhagnnpjcpmaaDkC
import Derived.Test.YtdbhagnnpjcpmaaDkPow
import Derived.Test.YtdbhagnnpjcpmaaLibL
import Derived.Test.YtdbhagnnpjcpmaaLastOp
namespace Go.Proofs.Ytdbhagnnpjcpmaa
set_option linter.unusedVariables false
open Go.RowKit

structure Rv where
  lA : Option Addr
  lc : Nat
  vA : Option Addr
  vc : Nat
  vv : List Value
structure Rw where
  g : Nat
  A : Option Addr
  c : Nat
  v : Nat → Rv
def Rw.cells (r : Rw) (s : Dsk) (k : Nat) : List Value := [.slice (r.v k).lA 256 (r.v k).lc, .slice (r.v k).vA (s.vers k).length (r.v k).vc]
def Rw.row (r : Rw) (s : Dsk) (n : Nat) : List Value := (List.range n).flatMap (r.cells s)
structure Rk (w : World) (base : Nat) (r : Rw) (s : Dsk) : Prop where
  blk : Blk w r.g 89 [.slice r.A s.n r.c, .bool s.cut, .int .i64 s.left]
  row : Own w base 92 2 r.A s.n r.c (r.row s s.n)
  lies : ∀ k, k < s.n → Own w base 5 1 (r.v k).lA 256 (r.v k).lc (bvs (s.lies k))
  vers : ∀ k, k < s.n → Own w base 39 1 (r.v k).vA (s.vers k).length (r.v k).vc (r.v k).vv ∧ SlO w base (r.v k).vv (s.vers k)
  apart : ∀ j k, j < s.n → k < s.n → j ≠ k → ablk (r.v j).vA = none ∨ ablk (r.v j).vA ≠ ablk (r.v k).vA
  len : ∀ k, k < s.n → (s.lies k).length = 256 ∧ ∀ x ∈ s.vers k, x.length = 256
  small : s.n ≤ 4096
  left : -9223372036854775808 ≤ s.left ∧ s.left ≤ 9223372036854775807
  gb : base ≤ r.g
/-- what a reference's disk writes to -/
def Rw.foot (r : Rw) (n : Nat) : Nat → Prop := fun b => b = r.g ∨ ablk r.A = some b ∨ ∃ k, k < n ∧ ablk (r.v k).vA = some b

section
variable {F : Nat → Prop} {w w' : World} {base B : Nat} {r : Rw} {s : Dsk}
theorem row_len (r : Rw) (s : Dsk) (n : Nat) : (r.row s n).length = n * 2 := flat_len (fun _ _ => rfl)
theorem blk_own_ne {g n c sz b : Nat} {t e : TypeId} {cs : List Value} {A : Option Addr} {xs : List Value} (h : Blk w g t cs) (ho : Own w b e sz A n c xs) (hne : t ≠ e) : ablk A ≠ some g := fun hg => by
  rcases ho.cases with ⟨h0, _⟩ | ⟨g', cur, hA, _, hh, _⟩
  · rw [h0] at hg; cases hg
  · rw [hA] at hg
    have e1 : g' = g := by injection hg
    subst e1
    have h2 : w.heap[g']? = _ := h
    rw [h2] at hh
    simp only [Option.some.injEq, Obj.cells.injEq] at hh
    exact hne hh.2.1
theorem slo_kept {vs : List Value} {ls : List (List UInt8)} (h : SlO w base vs ls) (K : Kept F w w') (hf : ∀ A n c l b, Own w base 5 1 A n c l → ablk A = some b → ¬ F b) : SlO w' base vs ls :=
  all2_imp (fun _ _ ⟨A, n, c, e, ho⟩ => ⟨A, n, c, e, own_kept ho K (fun b hb => hf A n c _ b ho hb)⟩) h
theorem Rk.foot_base (h : Rk w base r s) : ∀ b, r.foot s.n b → base ≤ b ∧ b < w.heap.size := by
  rintro b (rfl | hb | ⟨k, hk, hb⟩)
  · exact ⟨h.gb, h.blk.lt⟩
  · exact h.row.blk hb
  · exact (h.vers k hk).1.blk hb
/-- a change of other blocks -/
theorem Rk.kept (h : Rk w base r s) (K : Kept F w w') (hF : ∀ b, r.foot s.n b → ¬ F b) (h5 : ∀ A n c l b, Own w base 5 1 A n c l → ablk A = some b → ¬ F b) : Rk w' base r s :=
  ⟨K.blk h.blk (hF _ (.inl rfl)), own_kept h.row K (fun b hb => hF b (.inr (.inl hb))), fun k hk => own_kept (h.lies k hk) K (fun b hb => h5 _ _ _ _ b (h.lies k hk) hb),
    fun k hk => ⟨own_kept (h.vers k hk).1 K (fun b hb => hF b (.inr (.inr ⟨k, hk, hb⟩))), slo_kept (h.vers k hk).2 K h5⟩, h.apart, h.len, h.small, h.left, h.gb⟩
theorem Rk.below (h : Rk w base r s) (hb : Below B w w') (hB : w.heap.size ≤ B) : Rk w' base r s := h.kept (F := fun _ => False) (Kept.of_below hb hB) (fun _ _ x => x) (fun _ _ _ _ _ _ _ x => x)
theorem Rk.alloc (h : Rk w base r s) (o : Obj) : Rk (w.alloc o) base r s := h.below ((Below.refl _ _).alloc (Nat.le_refl _) o) (Nat.le_refl _)
theorem Rk.drewN (h : Rk w base r s) (n : Nat) : Rk (w.drewN n) base r s := h.below (below_drewN (Below.refl _ _) n) (Nat.le_refl _)
/-- the two cells of a sector -/
theorem Rk.cell (h : Rk w base r s) {k : Nat} (hk : k < s.n) : ∃ b, r.A = some ⟨b, 0, none⟩ ∧ w.cell? ⟨b, k * 2, none⟩ = some (.slice (r.v k).lA 256 (r.v k).lc) ∧ w.cell? ⟨b, k * 2 + 1, none⟩ = some (.slice (r.v k).vA (s.vers k).length (r.v k).vc) ∧ w.frozen? ⟨b, k * 2, none⟩ = false ∧ w.frozen? ⟨b, k * 2 + 1, none⟩ = false := by
  obtain ⟨b, hA, _, _⟩ := h.row.head (by omega)
  have hl := row_len r s s.n
  have h1 := flat_get (f := r.cells s) (fun _ _ => rfl) hk (show 0 < 2 by omega)
  have h2 := flat_get (f := r.cells s) (fun _ _ => rfl) hk (show 1 < 2 by omega)
  obtain ⟨b1, e1, _, _, c1, f1⟩ := h.row.cell (k := k * 2) (by rw [hl]; omega)
  obtain ⟨b2, e2, _, _, c2, f2⟩ := h.row.cell (k := k * 2 + 1) (by rw [hl]; omega)
  rw [hA] at e1 e2
  injection e1 with e1
  injection e1 with e1
  injection e2 with e2
  injection e2 with e2
  subst e1
  subst e2
  rw [Nat.add_zero] at h1
  refine ⟨b, hA, ?_, ?_, f1, f2⟩
  · rw [c1, ← List.getElem?_eq_getElem]; exact h1
  · rw [c2, ← List.getElem?_eq_getElem]; exact h2
/-- the cells of a sector, as a row -/
theorem Rk.range (h : Rk w base r s) {k : Nat} (hk : k < s.n) : ∃ b, r.A = some ⟨b, 0, none⟩ ∧ w.rangeAt b (k * 2) [.slice (r.v k).lA 256 (r.v k).lc, .slice (r.v k).vA (s.vers k).length (r.v k).vc] := by
  obtain ⟨b, hA, c1, c2, _, _⟩ := h.cell hk
  refine ⟨b, hA, fun j v hv => ?_⟩
  match j with
  | 0 => simp at hv; rw [Nat.add_zero, c1, hv]
  | 1 => simp at hv; rw [c2, hv]
  | j + 2 => simp at hv
/-- the disk's pieces lie apart, by their types -/
theorem Dk.off {d : Dw} {n c sz b : Nat} {e : TypeId} {A : Option Addr} {xs : List Value} (h : Dk w base d s) (ho : Own w b e sz A n c xs) (h1 : 86 ≠ e) (h2 : 100 ≠ e) : ∀ k, ablk A = some k → ¬ d.foot k := fun k hk x => by
  rcases ho.cases with ⟨h0, _⟩ | ⟨g', cur, hA, _, hh, _⟩
  · rw [h0] at hk; cases hk
  · rw [hA] at hk
    have e1 : g' = k := by injection hk
    subst e1
    rcases x with x | x | x | ⟨j, x⟩
    · subst x
      have h3 : w.heap[d.g]? = _ := h.blk
      rw [h3] at hh
      simp only [Option.some.injEq, Obj.cells.injEq] at hh
      exact h1 hh.2.1
    · subst x
      obtain ⟨cs, h3⟩ := h.lty
      rw [h3] at hh
      simp only [Option.some.injEq, Obj.cells.injEq] at hh
      exact h2 hh.2.1
    · subst x
      obtain ⟨D, ⟨es, clock, h3, _⟩, _⟩ := h.map
      rw [h3] at hh
      simp at hh
    · by_cases hj : j < s.n
      · rcases own_types (h.vers j hj) ho h2 with y | y
        · rw [y] at x; cases x
        · exact y (by rw [x, hA]; rfl)
      · rw [h.out j (by omega)] at x; cases x
end
/-- the two disks lie apart -/
theorem two_apart {w w' : World} {base b2 : Nat} {d : Dw} {s t : Dsk} {r : Rw} (h : Dk w base d s) (hr : Rk w b2 r t) : (∀ b, r.foot t.n b → ¬ d.foot b) ∧ (∀ A n c l b, Own w b2 5 1 A n c l → ablk A = some b → ¬ d.foot b) := by
  refine ⟨?_, fun A n c l b ho hb => h.off ho (by decide) (by decide) b hb⟩
  rintro b (rfl | hb | ⟨k, hk, hb⟩) x
  · rcases x with x | x | x | ⟨j, x⟩
    · have h1 : w.heap[r.g]? = _ := hr.blk
      have h2 : w.heap[d.g]? = _ := h.blk
      rw [x, h2] at h1
      simp only [Option.some.injEq, Obj.cells.injEq] at h1
      exact absurd h1.2.1 (by decide)
    · have h1 : w.heap[r.g]? = _ := hr.blk
      obtain ⟨cs, h2⟩ := h.lty
      rw [x, h2] at h1
      simp only [Option.some.injEq, Obj.cells.injEq] at h1
      exact absurd h1.2.1 (by decide)
    · have h1 : w.heap[r.g]? = _ := hr.blk
      obtain ⟨D, ⟨es, clock, h3, _⟩, _⟩ := h.map
      rw [x, h3] at h1
      simp at h1
    · by_cases hj : j < s.n
      · exact blk_own_ne hr.blk (h.vers j hj) (by decide) x
      · rw [h.out j (by omega)] at x; cases x
  · exact h.off hr.row (by decide) (by decide) b hb x
  · exact h.off (hr.vers k hk).1 (by decide) (by decide) b hb x

/-- from w to w' the reference's disk r became r', of what s' says; nothing else turned -/
structure Rch (w w' : World) (base : Nat) (r r' : Rw) (n : Nat) (s' : Dsk) : Prop where
  rk : Rk w' base r' s'
  n_ : s'.n = n
  g : r'.g = r.g
  K : Kept (r.foot n) w w'
  foot : ∀ b, r'.foot n b → r.foot n b ∨ w.heap.size ≤ b
section
variable {w w' w2 : World} {base n : Nat} {r r' r2 : Rw} {s s' s2 : Dsk}
theorem Rch.init (h : Rk w base r s) : Rch w w base r r s.n s := ⟨h, rfl, rfl, Kept.refl _ _, fun _ h => .inl h⟩
theorem Rch.trans (h : Rch w w' base r r' n s') (k : Rch w' w2 base r' r2 n s2) : Rch w w2 base r r2 n s2 :=
  ⟨k.rk, k.n_, k.g.trans h.g, h.K.trans k.K (fun b hb x => by rcases h.foot b x with y | y; exact y; omega), fun b hb => by
    rcases k.foot b hb with y | y
    · exact h.foot b y
    · exact .inr (by have := h.K.size; omega)⟩
theorem Rch.below (h : Rch w w' base r r' n s') {B : Nat} (hb : Below B w' w2) (hB : w'.heap.size ≤ B) : Rch w w2 base r r' n s' :=
  ⟨h.rk.below hb hB, h.n_, h.g, h.K.trans (F' := fun _ => False) (Kept.of_below hb hB) (fun _ _ x => x.elim), h.foot⟩
theorem Rch.pre (h : Rch w' w2 base r r2 n s2) {B : Nat} (hb : Below B w w') (hB : w.heap.size ≤ B) : Rch w w2 base r r2 n s2 :=
  ⟨h.rk, h.n_, h.g, ((Kept.of_below (F := fun _ => False) hb hB).mono (F' := r.foot n) (fun _ _ x => x.elim)).trans h.K (fun _ _ x => x), fun b hb2 => by
    rcases h.foot b hb2 with y | y
    · exact .inl y
    · exact .inr (by have := hb.size; omega)⟩
theorem Rch.bel (h : Rch w w' base r r' s.n s') (h0 : Rk w base r s) : Below base w w' :=
  h.K.below (by have := h0.foot_base r.g (.inl rfl); omega) (fun b hb => (h0.foot_base b hb).1)
end
end Go.Proofs.Ytdbhagnnpjcpmaa
namespace Go.Proofs.Ytdbhagnnpjcpmaa
open Go.RowKit
set_option linter.unusedSimpArgs false
set_option linter.unusedVariables false

section
variable {P : Program} {ops : Array Oper} {o : Oper} {a : Act} {w : World} {K : Act → World → Prop} {Q : Exit → Act → World → Prop} {E : Prop}
theorem step_made (hgd : o.guard = none) (t : TypeId) (x y : Operand) (ho : o.op = .makeSlice t x y) {u1 u2 v : Value} {w' : World} (hx : a.eval x = u1) (hy : a.eval y = u2) (hr : (Instr.makeSlice t u1 u2).run P w = .ok v w') (h : K (a.put o.dst v) w') :
    if Region.wanted o (yielded ops a.tmps) = true then Oper.wp P o a w K Q else E := by
  have hw : Region.wanted o (yielded ops a.tmps) = true := by simp [Region.wanted, hgd]
  rw [if_pos hw]
  unfold Oper.wp execOp
  simp [ho, hx, hy, hr]
  exact h
end
theorem info102 : (Try.prog.info? 92).map (fun i => (i.zero, i.size, i.bytes)) = some (some (.agg #[.slice none 0 0, .slice none 0 0]), 2, 48) := by kernel_rfl
theorem zero102 (w : World) : (zeroValue 92).run Try.prog w = .ok (.agg #[.slice none 0 0, .slice none 0 0]) w := by kernel_rfl
theorem fill102 (x y : Value) (cells : Array Value) (hc : cells.size = 2) : Instr.fill (fun i => some (i * 2, 2)) cells [(0, .agg #[x, y])] = some #[x, y] := by
  have h := Great.fill_whole (s := 2) (by omega) [.agg #[x, y]] cells (by intro v hv; simp at hv; subst hv; simp [Value.cells]) (by simp [hc])
  simpa [Value.cells] using h
theorem run_built102 (x y : Value) (w : World) : (Instr.buildSlice 87 1 #[(0, .agg #[x, y])]).run Try.prog w = .ok (.slice (some ⟨w.heap.size, 0, none⟩) 1 1) (w.alloc (.cells #[x, y] 92)) := by
  obtain ⟨i, hi, hz, hsz, _⟩ := info_parts info102
  have h := fun cells hc => fill102 x y cells hc
  have hs : (Value.agg #[.slice none 0 0, .slice none 0 0]).cells.size = 2 := rfl
  simp [Instr.buildSlice, run_underlying Try.underlying87, sizeOf, typeInfo, zeroValue, hi, hz, hsz, newRow]
  rw [h _ (by simp)]
  simp

theorem newD_hasD (n k : Nat) : hasD (newD n) k = z256 := by simp only [hasD, newD, List.getLast?_nil, Option.getD_none, z256]
theorem row_new {r r' : Rw} {i : Nat} (h : ∀ k, k < i → r'.v k = r.v k) : r'.row (newD (i + 1)) (i + 1) = r.row (newD i) i ++ [.slice (r'.v i).lA 256 (r'.v i).lc, .slice (r'.v i).vA 0 (r'.v i).vc] := by
  unfold Rw.row
  rw [List.range_succ, List.flatMap_append]
  congr 1
  have : ∀ l : List Nat, (∀ k ∈ l, k < i) → l.flatMap (r'.cells (newD (i + 1))) = l.flatMap (r.cells (newD i)) := fun l => by
    induction l with
    | nil => intro _; rfl
    | cons k l ih =>
      intro hk
      rw [List.flatMap_cons, List.flatMap_cons, ih (fun j hj => hk j (by simp [hj]))]
      unfold Rw.cells
      rw [h k (hk k (by simp))]
      rfl
  exact this _ (fun k hk => List.mem_range.1 hk)
theorem Rk.grow {w w2 w3 : World} {base i lc c' : Nat} {r : Rw} {lA A' : Option Addr} (h : Rk w base r (newD i)) (hi : i + 1 ≤ 4096) (hb : Below w.heap.size w w2) (hl : Own w2 w.heap.size 5 1 lA 256 lc (bvs z256))
    (ho : Own w3 base 92 2 A' (i + 1) c' (r.row (newD i) i ++ [.slice lA 256 lc, .slice none 0 0])) (hg : w2.grownBy w3 (ablk r.A)) :
    Rk (w3.setCell ⟨r.g, 0, none⟩ (.slice A' (i + 1) c')) base { r with A := A', c := c', v := fun k => if k = i then ⟨lA, lc, none, 0, []⟩ else r.v k } (newD (i + 1)) := by
  have hz := hb.size
  have hbs : base ≤ w.heap.size := by have := h.blk.lt; have := h.gb; omega
  have h2 := h.below hb (Nat.le_refl _)
  have hgA : ablk r.A ≠ some r.g := blk_own_ne h2.blk h2.row (by decide)
  have K : Kept (fun b => ablk r.A = some b) w2 w3 := Kept.of_grown hg (fun b e => e)
  have b3 := K.blk h2.blk hgA
  have hgA' : ablk A' ≠ some r.g := blk_own_ne b3 ho (by decide)
  have K2 : Kept (fun b => b = r.g) w3 (w3.setCell ⟨r.g, 0, none⟩ (.slice A' (i + 1) c')) := ⟨rfl, rfl, rfl, by simp, fun b _ hn => Below.heap_setCell w3 _ _ b hn⟩
  have hv : ∀ k, k < i → (if k = i then (⟨lA, lc, none, 0, []⟩ : Rv) else r.v k) = r.v k := fun k hk => if_neg (by omega)
  have hrow : Rw.row { r with A := A', c := c', v := fun k => if k = i then ⟨lA, lc, none, 0, []⟩ else r.v k } (newD (i + 1)) (i + 1) = r.row (newD i) i ++ [.slice lA 256 lc, .slice none 0 0] := by
    rw [row_new (r := r) hv]
    simp only [if_true]
  refine ⟨b3.set_ 0 _, ?_, fun k hk => ?_, fun k hk => ?_, fun j k hj hk hne => ?_, fun k hk => ⟨List.length_replicate, fun x hx => by cases hx⟩, hi, ⟨by show (-9223372036854775808 : Int) ≤ 0; omega, by show (0 : Int) ≤ 9223372036854775807; omega⟩, h.gb⟩
  · show Own _ base _ 2 A' (i + 1) c' (Rw.row _ (newD (i + 1)) (i + 1))
    rw [hrow]
    exact own_kept ho K2 (fun b hb e => hgA' (by rw [hb, e]))
  · by_cases e : k = i
    · subst e
      show Own _ base 5 1 (if k = k then (⟨lA, lc, none, 0, []⟩ : Rv) else r.v k).lA 256 (if k = k then (⟨lA, lc, none, 0, []⟩ : Rv) else r.v k).lc (bvs z256)
      rw [if_pos rfl]
      refine own_kept (own_kept (hl.weak hbs) K (fun b hb e => ?_)) K2 (fun b hb e => ?_)
      · rcases own_types hl h2.row (by decide) with y | y
        · rw [y] at hb; cases hb
        · exact y (by rw [hb, e])
      · subst e
        have := (hl.blk hb).1
        have := h.blk.lt
        omega
    · have hk' : k < i := by have : k < i + 1 := hk; omega
      have h1 := h2.lies k hk'
      show Own _ base 5 1 (if k = i then (⟨lA, lc, none, 0, []⟩ : Rv) else r.v k).lA 256 (if k = i then (⟨lA, lc, none, 0, []⟩ : Rv) else r.v k).lc _
      rw [if_neg e]
      refine own_kept (own_kept h1 K (fun b hb e => ?_)) K2 (fun b hb e => ?_)
      · rcases own_types h1 h2.row (by decide) with y | y
        · rw [y] at hb; cases hb
        · exact y (by rw [hb, e])
      · subst e; exact blk_own_ne h2.blk h1 (by decide) hb
  · by_cases e : k = i
    · subst e
      show Own _ base _ 1 (if k = k then (⟨lA, lc, none, 0, []⟩ : Rv) else r.v k).vA 0 (if k = k then (⟨lA, lc, none, 0, []⟩ : Rv) else r.v k).vc (if k = k then (⟨lA, lc, none, 0, []⟩ : Rv) else r.v k).vv ∧ SlO _ base (if k = k then (⟨lA, lc, none, 0, []⟩ : Rv) else r.v k).vv []
      rw [if_pos rfl]
      exact ⟨Own.nil_ _ _ _ _, .nil⟩
    · have hk' : k < i := by have : k < i + 1 := hk; omega
      obtain ⟨h1, h3⟩ := h2.vers k hk'
      show Own _ base _ 1 (if k = i then (⟨lA, lc, none, 0, []⟩ : Rv) else r.v k).vA 0 (if k = i then (⟨lA, lc, none, 0, []⟩ : Rv) else r.v k).vc (if k = i then (⟨lA, lc, none, 0, []⟩ : Rv) else r.v k).vv ∧ SlO _ base (if k = i then (⟨lA, lc, none, 0, []⟩ : Rv) else r.v k).vv []
      rw [if_neg e]
      have e2 : (r.v k).vv = [] := List.eq_nil_of_length_eq_zero (all2_len h3)
      refine ⟨own_kept (own_kept h1 K (fun b hb e => ?_)) K2 (fun b hb e => ?_), by rw [e2]; exact .nil⟩
      · rcases own_types h1 h2.row (by decide) with y | y
        · rw [y] at hb; cases hb
        · exact y (by rw [hb, e])
      · subst e; exact blk_own_ne h2.blk h1 (by decide) hb
  · show ablk (if j = i then (⟨lA, lc, none, 0, []⟩ : Rv) else r.v j).vA = none ∨ ablk (if j = i then (⟨lA, lc, none, 0, []⟩ : Rv) else r.v j).vA ≠ ablk (if k = i then (⟨lA, lc, none, 0, []⟩ : Rv) else r.v k).vA
    by_cases e1 : j = i
    · rw [if_pos e1]; exact .inl rfl
    · rw [if_neg e1]
      by_cases e2 : k = i
      · rw [if_pos e2]
        cases hx : ablk (r.v j).vA with
        | none => exact .inl rfl
        | some b => exact .inr (by simp)
      · rw [if_neg e2]
        have hj' : j < i := by have : j < i + 1 := hj; omega
        have hk' : k < i := by have : k < i + 1 := hk; omega
        exact h.apart j k hj' hk' hne
theorem Rk.zero (w : World) : Rk (w.alloc (.cells #[.slice none 0 0, .bool false, .int .i64 0] 89)) w.heap.size ⟨w.heap.size, none, 0, fun _ => ⟨none, 0, none, 0, []⟩⟩ (newD 0) :=
  ⟨Blk.new w _ [.slice none 0 0, .bool false, .int .i64 0], Own.nil_ _ _ _ _, fun k hk => absurd hk (by show ¬ k < 0; omega), fun k hk => absurd hk (by show ¬ k < 0; omega), fun j k hj => absurd hj (by show ¬ j < 0; omega), fun k hk => absurd hk (by show ¬ k < 0; omega), by show 0 ≤ 4096; omega, ⟨by show (-9223372036854775808 : Int) ≤ 0; omega, by show (0 : Int) ≤ 9223372036854775807; omega⟩, Nat.le_refl _⟩

set_option maxRecDepth 100000 in
set_option maxHeartbeats 4000000 in
theorem rnew_ok (n : Nat) (hn : 1 ≤ n ∧ n ≤ 4096) (w : World) :
    Calls Try.prog 11 #[.int .i64 n] w fun e w' => ∃ r, e = .returned (.tuple #[.pointer (some ⟨r.g, 0, none⟩), .int .i64 0]) ∧ Rk w' w.heap.size r (newD n) ∧ Below w.heap.size w w' := by
  have d1 : decide ((n : Int) < 1) = false := decide_eq_false (by omega)
  have d2 : decide ((4096 : Int) < (n : Int)) = false := decide_eq_false (by omega)
  have HI := Lib.hid (Rk.zero w)
  go_enter Try.func11, Try.ntmps11
  go_upto_region 4 with fail
  refine wp_world (fun U => Rk U w.heap.size ⟨w.heap.size, none, 0, fun _ => ⟨none, 0, none, 0, []⟩⟩ (newD 0) ∧ Below w.heap.size w U) ⟨HI.out, (Below.refl _ _).alloc (Nat.le_refl _) _⟩ ?_
  rintro U ⟨hR, hB⟩
  obtain ⟨gx, hgx⟩ : ∃ gx, gx = w.heap.size := ⟨_, rfl⟩
  have HR : Hid (∃ r, Rk U w.heap.size r (newD 0) ∧ r.g = gx) := ⟨_, hR, hgx.symm⟩
  rw [← hgx]
  have HB := Lib.hid hB
  have HGx := Lib.hid hgx
  clear hR hB HI hgx
  go_wp2
  go_loopw [5] (fun s5 wr => ∃ (i : Nat) (r : Rw), i ≤ n ∧ s5 = .int .i64 i ∧ Rk wr w.heap.size r (newD i) ∧ r.g = gx ∧ Below w.heap.size w wr) (fun s5 _ => n - (intOf s5).toNat)
  case atStart =>
    obtain ⟨r, h1, h2⟩ := HR.out
    exact ⟨0, r, by omega, rfl, h1, h2, HB.out⟩
  case round =>
    clear HR HB
    obtain ⟨i, r, hi, rfl, hR, hg, hB⟩ := hrel
    by_cases hlt : i < n
    · have bc0 := hR.blk.cell 0
      rw [hg] at bc0
      have bc0' : wr.cell? ⟨gx, 0, none⟩ = some (.slice r.A i r.c) := bc0
      have HR := Lib.hid hR
      have HB := Lib.hid hB
      have HG := Lib.hid hg
      clear hR hB hg bc0
      go_upto_region 7 with fail
      have hR2 := HR.out.below (B := wr.heap.size) (Below.refl _ _).drew (Nat.le_refl _)
      have bc1 : wr.drew.cell? ⟨gx, 0, none⟩ = some (.slice r.A i r.c) := bc0'
      have hzw : w.heap.size ≤ wr.heap.size := HB.out.size
      have hmk := make_256 wr.drew
      refine wp_region_last (S := fun w' => w'.cell? ⟨gx, 0, none⟩ = some (.slice r.A i r.c)) 11 (by kernel_rfl) rfl (by kernel_rfl) ?_ ?_
      · exact bc1
      intro hHeld
      simp only [List.take_succ_cons, List.take_zero]
      refine wpAnyH_take (i := 0) (v := ?_) (by simp only [List.getElem?_toArray, List.getElem?_cons_succ, List.getElem?_cons_zero]; rfl) (by kernel_rfl) (by kernel_rfl) (by kernel_rfl) (fun _ _ _ h => h) (Or.inl ⟨by rfl, ?_⟩) hHeld ?_
      rotate_left
      · intro wz hSw; (try dsimp only at hSw); go_simp; try with_reducible rfl
      (try simp only [Act.put, List.setIfInBounds_toArray, List.set_cons_zero, List.set_cons_succ])
      refine wpAnyH_take (i := 1) (v := ?_) (by simp only [List.getElem?_toArray, List.getElem?_cons_succ, List.getElem?_cons_zero]; rfl) (by kernel_rfl) (by kernel_rfl) (by kernel_rfl) (fun _ _ _ h => h) (Or.inl ⟨by rfl, ?_⟩) hHeld ?_
      rotate_left
      · intro wz hSw; (try dsimp only at hSw); go_simp; try with_reducible rfl
      (try simp only [Act.put, List.setIfInBounds_toArray, List.set_cons_zero, List.set_cons_succ])
      refine wpAnyH_take (i := 2) (v := ?_) (by simp only [List.getElem?_toArray, List.getElem?_cons_succ, List.getElem?_cons_zero]; rfl) (by kernel_rfl) (by kernel_rfl) (by kernel_rfl) (fun _ _ _ h => h) (Or.inl ⟨by rfl, ?_⟩) hHeld ?_
      rotate_left
      · intro wz hSw; (try dsimp only at hSw); go_simp; try with_reducible rfl
      (try simp only [Act.put, List.setIfInBounds_toArray, List.set_cons_zero, List.set_cons_succ])
      refine wpAnyH_take (i := 3) (v := ?_) (by simp only [List.getElem?_toArray, List.getElem?_cons_succ, List.getElem?_cons_zero]; rfl) (by kernel_rfl) (by kernel_rfl) (by kernel_rfl) (fun _ _ _ h => h) (Or.inl ⟨by rfl, ?_⟩) hHeld ?_
      rotate_left
      · intro wz hSw; (try dsimp only at hSw); go_simp; try with_reducible rfl
      (try simp only [Act.put, List.setIfInBounds_toArray, List.set_cons_zero, List.set_cons_succ])
      refine wpAnyH_take (i := 4) (v := ?_) (by simp only [List.getElem?_toArray, List.getElem?_cons_succ, List.getElem?_cons_zero]; rfl) (by kernel_rfl) (by kernel_rfl) (by kernel_rfl) (fun _ _ _ h => h) (Or.inl ⟨by rfl, ?_⟩) hHeld ?_
      rotate_left
      · intro wz hSw; (try dsimp only at hSw); go_simp; try with_reducible rfl
      (try simp only [Act.put, List.setIfInBounds_toArray, List.set_cons_zero, List.set_cons_succ])
      refine wpAnyH_ready (rs := [5]) (by kernel_rfl) (by simp) ?_
      refine AllReadyH.cons (by simp only [List.getElem?_toArray, List.getElem?_cons_succ, List.getElem?_cons_zero]; rfl) (fun KK hK => ?_) AllReadyH.nil
      (refine step_made rfl 39 (.const (.int .i64 256)) (.const (.int .i64 256)) rfl (u1 := .int .i64 256) (u2 := .int .i64 256) rfl rfl hmk ?_)
      refine hK.out _ _ ?_ (fun hHeld => ?_)
      · (rw [← HG.out]; exact (hR2.alloc (.cells (bvs z256).toArray 5)).blk.cell 0)
      clear hK KK
      (try simp only [Act.put, List.setIfInBounds_toArray, List.set_cons_zero, List.set_cons_succ])
      have hz102 := zero102
      refine wpAnyH_take (i := 6) (v := ?_) (by simp only [List.getElem?_toArray, List.getElem?_cons_succ, List.getElem?_cons_zero]; rfl) (by kernel_rfl) (by kernel_rfl) (by kernel_rfl) (fun _ _ _ h => h) (Or.inl ⟨by rfl, ?_⟩) hHeld ?_
      rotate_left
      · intro wz hSw; (try dsimp only at hSw); go_simp; try with_reducible rfl
      (try simp only [Act.put, List.setIfInBounds_toArray, List.set_cons_zero, List.set_cons_succ])
      have ho1 : Own (wr.drew.alloc (.cells (bvs z256).toArray 5)) wr.drew.heap.size 5 1 (some ⟨wr.drew.heap.size, 0, none⟩) 256 256 (bvs z256) := Own.lit wr.drew 5 _ (by omega) (by rw [length_bvs, z256_len]) (Nat.le_refl _) rfl
      obtain ⟨lA, hlA⟩ : ∃ lA, lA = (some ⟨wr.drew.heap.size, 0, none⟩ : Option Addr) := ⟨_, rfl⟩
      obtain ⟨W1, hW1⟩ : ∃ W1, W1 = wr.drew.alloc (.cells (bvs z256).toArray 5) := ⟨_, rfl⟩
      have hb1 : Below wr.drew.heap.size wr.drew W1 := by rw [hW1]; exact (Below.refl _ _).alloc (Nat.le_refl _) _
      rw [← hlA, ← hW1] at ho1
      rw [← hW1] at hHeld
      rw [← hlA, ← hW1]
      have hlA2 : (some ⟨wr.heap.size, 0, none⟩ : Option Addr) = lA := hlA.symm
      rw [hlA2]
      clear hmk hlA hW1 hlA2
      refine wpAnyH_ready (rs := [7]) (by kernel_rfl) (by simp) ?_
      refine AllReadyH.cons (by simp only [List.getElem?_toArray, List.getElem?_cons_succ, List.getElem?_cons_zero]; rfl) (fun KK hK => ?_) AllReadyH.nil
      (refine step_built1 rfl 87 (.tmp 25) rfl (u := .agg #[.slice lA 256 256, .slice none 0 0]) rfl (run_built102 _ _ _) ?_)
      refine hK.out _ _ ?_ (fun hHeld => ?_)
      · (rw [← HG.out]; exact ((hR2.below hb1 (Nat.le_refl _)).alloc (.cells #[.slice lA 256 256, .slice none 0 0] 92)).blk.cell 0)
      clear hK KK
      (try simp only [Act.put, List.setIfInBounds_toArray, List.set_cons_zero, List.set_cons_succ])
      have hr2 := (Blk.new W1 92 [.slice lA 256 256, .slice none 0 0]).rd0 (Nat.zero_le _)
      have hb2 : Below wr.drew.heap.size wr.drew (W1.alloc (.cells #[.slice lA 256 256, .slice none 0 0] 92)) := hb1.alloc hb1.size _
      have ho2 := ho1.alloc (.cells #[.slice lA 256 256, .slice none 0 0] 92)
      have hz2 := hb2.size
      have hzw2 : w.heap.size ≤ (W1.alloc (.cells #[.slice lA 256 256, .slice none 0 0] 92)).heap.size := Nat.le_trans hzw hz2
      refine wpAnyH_ready (rs := [8]) (by kernel_rfl) (by simp) ?_
      refine AllReadyH.cons (by simp only [List.getElem?_toArray, List.getElem?_cons_succ, List.getElem?_cons_zero]; rfl) (fun KK hK => ?_) AllReadyH.nil
      (refine step_app rfl (.tmp 23) (.tmp 26) 87 rfl 92 2 Try.underlying87 info102 (by simp [Value.cells]) (by omega) rfl (hR2.below hb2 (Nat.le_refl _)).row rfl hr2 rfl (by intro u hu; simp at hu; rcases hu with rfl | rfl <;> rfl) (by show i + 1 ≤ _; omega) (by show (i + 1) * 48 ≤ _; omega) hzw2 ?_; intro A3 c3 w3 ho3 hg3 hf3)
      refine hK.out _ _ ?_ (fun hHeld => ?_)
      · (rw [← HG.out]; exact ((Kept.of_grown (F := fun b => ablk r.A = some b) hg3 (fun b e => e)).blk (hR2.below hb2 (Nat.le_refl _)).blk (blk_own_ne (hR2.below hb2 (Nat.le_refl _)).blk (hR2.below hb2 (Nat.le_refl _)).row (by decide))).cell 0)
      clear hK KK
      (try simp only [Act.put, List.setIfInBounds_toArray, List.set_cons_zero, List.set_cons_succ])
      have hb3k := (Kept.of_grown (F := fun b => ablk r.A = some b) hg3 (fun b e => e)).blk (hR2.below hb2 (Nat.le_refl _)).blk (blk_own_ne (hR2.below hb2 (Nat.le_refl _)).blk (hR2.below hb2 (Nat.le_refl _)).row (by decide))
      rw [HG.out] at hb3k
      have hfz := hb3k.frozen 0
      have hcc := hb3k.cell 0
      clear hb3k
      refine wpAnyH_take (i := 9) (v := ?_) (by simp only [List.getElem?_toArray, List.getElem?_cons_succ, List.getElem?_cons_zero]; rfl) (by kernel_rfl) (by kernel_rfl) (by kernel_rfl) (fun _ _ _ h => h) (Or.inl ⟨by rfl, ?_⟩) hHeld ?_
      rotate_left
      · intro wz hSw; (try dsimp only at hSw); go_simp; try with_reducible rfl
      (try simp only [Act.put, List.setIfInBounds_toArray, List.set_cons_zero, List.set_cons_succ])
      refine wpAnyH_take (i := 10) (v := ?_) (by simp only [List.getElem?_toArray, List.getElem?_cons_succ, List.getElem?_cons_zero]; rfl) (by kernel_rfl) (by kernel_rfl) (by kernel_rfl) (fun _ _ _ h => h) (Or.inl ⟨by rfl, ?_⟩) hHeld ?_
      rotate_left
      · intro wz hSw; (try dsimp only at hSw); go_simp; try with_reducible rfl
      (try simp only [Act.put, List.setIfInBounds_toArray, List.set_cons_zero, List.set_cons_succ])
      refine wpAnyH_done (by kernel_rfl) ?_ _
      simp only [lastQ]
      go_simp
      have hgr := hR2.grow (by omega) hb2 ho2 ho3 hg3
      have hb3 : Below w.heap.size w w3 := (HB.out.drew.trans (hb2.mono HB.out.size)).grown hg3 (HB.out.drew.trans (hb2.mono HB.out.size)).size (fun k hk => ((hR2.below hb2 (Nat.le_refl _)).row.blk hk).1)
      rw [HG.out] at hgr
      have hb4 : Below w.heap.size w (w3.setCell ⟨gx, 0, none⟩ (.slice A3 (i + 1) c3)) := hb3.setCell (show w.heap.size ≤ (⟨gx, 0, none⟩ : Addr).block by show w.heap.size ≤ gx; have := HGx.out; omega) _
      have HGr := Lib.hid hgr
      have HB4 := Lib.hid hb4
      clear hgr hb4 hb3 ho3 hg3 hf3 hr2 hb2 ho2 hz2 hzw2 ho1 hb1 hHeld hR2 bc1 bc0'
      generalize w3.setCell ⟨gx, 0, none⟩ (.slice A3 (i + 1) c3) = w4 at *
      clear hfz hcc
      go_wp2
      go_roundw
      case rel => exact ⟨i + 1, _, by omega, by norm_cast, HGr.out, rfl, HB4.out⟩
      case measure => simp only [intOf]; omega
    · obtain rfl : i = n := by omega
      have HR := Lib.hid hR
      have HG := Lib.hid hg
      have HB := Lib.hid hB
      clear hR hg hB
      go_wp2
      go_ret2
      exact ⟨r, by rw [HG.out]; rfl, HR.out, HB.out⟩
end Go.Proofs.Ytdbhagnnpjcpmaa
