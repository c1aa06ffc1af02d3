/- The reference's disk in memory: its row of cells, each with what lies there and its versions. No condition. -/
import Derived.Test.YtjndopmjlbhajaaDkC
import Derived.Test.YtjndopmjlbhajaaDkPow
import Derived.Test.YtjndopmjlbhajaaLibL
import Derived.Test.YtjndopmjlbhajaaLastOp
import Derived.Test.YtjndopmjlbhajaaDkRots
import Derived.Test.YtjndopmjlbhajaaDkLaws
namespace Go.Proofs.Ytjndopmjlbhajaa
set_option linter.unusedVariables false
open Go.RowKit

structure Rv where
  lA : Option Addr
  lc : Nat
  vA : Option Addr
  vc : Nat
  vv : List Value
structure Rw where
  g : Nat
  A : Option Addr
  c : Nat
  v : Nat → Rv
def Rw.cells (r : Rw) (s : Dsk) (k : Nat) : List Value := [.slice (r.v k).lA 256 (r.v k).lc, .slice (r.v k).vA (s.vers k).length (r.v k).vc]
def Rw.row (r : Rw) (s : Dsk) (n : Nat) : List Value := (List.range n).flatMap (r.cells s)
structure Rk (w : World) (base : Nat) (r : Rw) (s : Dsk) : Prop where
  blk : Blk w r.g 88 [.slice r.A s.n r.c, .bool s.cut, .int .i64 s.left]
  row : Own w base 91 2 r.A s.n r.c (r.row s s.n)
  lies : ∀ k, k < s.n → Own w base 5 1 (r.v k).lA 256 (r.v k).lc (bvs (s.lies k))
  vers : ∀ k, k < s.n → Own w base 31 1 (r.v k).vA (s.vers k).length (r.v k).vc (r.v k).vv ∧ SlO w base (r.v k).vv (s.vers k)
  apart : ∀ j k, j < s.n → k < s.n → j ≠ k → ablk (r.v j).vA = none ∨ ablk (r.v j).vA ≠ ablk (r.v k).vA
  len : ∀ k, k < s.n → (s.lies k).length = 256 ∧ ∀ x ∈ s.vers k, x.length = 256
  small : s.n ≤ 4096
  left : -9223372036854775808 ≤ s.left ∧ s.left ≤ 9223372036854775807
  gb : base ≤ r.g
/-- what a reference's disk writes to -/
def Rw.foot (r : Rw) (n : Nat) : Nat → Prop := fun b => b = r.g ∨ ablk r.A = some b ∨ ∃ k, k < n ∧ ablk (r.v k).vA = some b

section
variable {F : Nat → Prop} {w w' : World} {base B : Nat} {r : Rw} {s : Dsk}
theorem row_len (r : Rw) (s : Dsk) (n : Nat) : (r.row s n).length = n * 2 := flat_len (fun _ _ => rfl)
theorem blk_own_ne {g n c sz b : Nat} {t e : TypeId} {cs : List Value} {A : Option Addr} {xs : List Value} (h : Blk w g t cs) (ho : Own w b e sz A n c xs) (hne : t ≠ e) : ablk A ≠ some g := fun hg => by
  rcases ho.cases with ⟨h0, _⟩ | ⟨g', cur, hA, _, hh, _⟩
  · rw [h0] at hg; cases hg
  · rw [hA] at hg
    have e1 : g' = g := by injection hg
    subst e1
    have h2 : w.heap[g']? = _ := h
    rw [h2] at hh
    simp only [Option.some.injEq, Obj.cells.injEq] at hh
    exact hne hh.2.1
theorem slo_kept {vs : List Value} {ls : List (List UInt8)} (h : SlO w base vs ls) (K : Kept F w w') (hf : ∀ A n c l b, Own w base 5 1 A n c l → ablk A = some b → ¬ F b) : SlO w' base vs ls :=
  all2_imp (fun _ _ ⟨A, n, c, e, ho⟩ => ⟨A, n, c, e, own_kept ho K (fun b hb => hf A n c _ b ho hb)⟩) h
theorem Rk.foot_base (h : Rk w base r s) : ∀ b, r.foot s.n b → base ≤ b ∧ b < w.heap.size := by
  rintro b (rfl | hb | ⟨k, hk, hb⟩)
  · exact ⟨h.gb, h.blk.lt⟩
  · exact h.row.blk hb
  · exact (h.vers k hk).1.blk hb
/-- a change of other blocks -/
theorem Rk.kept (h : Rk w base r s) (K : Kept F w w') (hF : ∀ b, r.foot s.n b → ¬ F b) (h5 : ∀ A n c l b, Own w base 5 1 A n c l → ablk A = some b → ¬ F b) : Rk w' base r s :=
  ⟨K.blk h.blk (hF _ (.inl rfl)), own_kept h.row K (fun b hb => hF b (.inr (.inl hb))), fun k hk => own_kept (h.lies k hk) K (fun b hb => h5 _ _ _ _ b (h.lies k hk) hb),
    fun k hk => ⟨own_kept (h.vers k hk).1 K (fun b hb => hF b (.inr (.inr ⟨k, hk, hb⟩))), slo_kept (h.vers k hk).2 K h5⟩, h.apart, h.len, h.small, h.left, h.gb⟩
theorem Rk.below (h : Rk w base r s) (hb : Below B w w') (hB : w.heap.size ≤ B) : Rk w' base r s := h.kept (F := fun _ => False) (Kept.of_below hb hB) (fun _ _ x => x) (fun _ _ _ _ _ _ _ x => x)
theorem Rk.alloc (h : Rk w base r s) (o : Obj) : Rk (w.alloc o) base r s := h.below ((Below.refl _ _).alloc (Nat.le_refl _) o) (Nat.le_refl _)
theorem Rk.drewN (h : Rk w base r s) (n : Nat) : Rk (w.drewN n) base r s := h.below (below_drewN (Below.refl _ _) n) (Nat.le_refl _)
/-- the two cells of a sector -/
theorem Rk.cell (h : Rk w base r s) {k : Nat} (hk : k < s.n) : ∃ b, r.A = some ⟨b, 0, none⟩ ∧ w.cell? ⟨b, k * 2, none⟩ = some (.slice (r.v k).lA 256 (r.v k).lc) ∧ w.cell? ⟨b, k * 2 + 1, none⟩ = some (.slice (r.v k).vA (s.vers k).length (r.v k).vc) ∧ w.frozen? ⟨b, k * 2, none⟩ = false ∧ w.frozen? ⟨b, k * 2 + 1, none⟩ = false := by
  obtain ⟨b, hA, _, _⟩ := h.row.head (by omega)
  have hl := row_len r s s.n
  have h1 := flat_get (f := r.cells s) (fun _ _ => rfl) hk (show 0 < 2 by omega)
  have h2 := flat_get (f := r.cells s) (fun _ _ => rfl) hk (show 1 < 2 by omega)
  obtain ⟨b1, e1, _, _, c1, f1⟩ := h.row.cell (k := k * 2) (by rw [hl]; omega)
  obtain ⟨b2, e2, _, _, c2, f2⟩ := h.row.cell (k := k * 2 + 1) (by rw [hl]; omega)
  rw [hA] at e1 e2
  injection e1 with e1
  injection e1 with e1
  injection e2 with e2
  injection e2 with e2
  subst e1
  subst e2
  rw [Nat.add_zero] at h1
  refine ⟨b, hA, ?_, ?_, f1, f2⟩
  · rw [c1, ← List.getElem?_eq_getElem]; exact h1
  · rw [c2, ← List.getElem?_eq_getElem]; exact h2
/-- the cells of a sector, as a row -/
theorem Rk.range (h : Rk w base r s) {k : Nat} (hk : k < s.n) : ∃ b, r.A = some ⟨b, 0, none⟩ ∧ w.rangeAt b (k * 2) [.slice (r.v k).lA 256 (r.v k).lc, .slice (r.v k).vA (s.vers k).length (r.v k).vc] := by
  obtain ⟨b, hA, c1, c2, _, _⟩ := h.cell hk
  refine ⟨b, hA, fun j v hv => ?_⟩
  match j with
  | 0 => simp at hv; rw [Nat.add_zero, c1, hv]
  | 1 => simp at hv; rw [c2, hv]
  | j + 2 => simp at hv
/-- the disk's pieces lie apart, by their types -/
theorem Dk.off {d : Dw} {n c sz b : Nat} {e : TypeId} {A : Option Addr} {xs : List Value} (h : Dk w base d s) (ho : Own w b e sz A n c xs) (h1 : 64 ≠ e) (h2 : 100 ≠ e) : ∀ k, ablk A = some k → ¬ d.foot k := fun k hk x => by
  rcases ho.cases with ⟨h0, _⟩ | ⟨g', cur, hA, _, hh, _⟩
  · rw [h0] at hk; cases hk
  · rw [hA] at hk
    have e1 : g' = k := by injection hk
    subst e1
    rcases x with x | x | x | ⟨j, x⟩
    · subst x
      have h3 : w.heap[d.g]? = _ := h.blk
      rw [h3] at hh
      simp only [Option.some.injEq, Obj.cells.injEq] at hh
      exact h1 hh.2.1
    · subst x
      obtain ⟨cs, h3⟩ := h.lty
      rw [h3] at hh
      simp only [Option.some.injEq, Obj.cells.injEq] at hh
      exact h2 hh.2.1
    · subst x
      obtain ⟨D, ⟨es, clock, h3, _⟩, _⟩ := h.map
      rw [h3] at hh
      simp at hh
    · by_cases hj : j < s.n
      · rcases own_types (h.vers j hj) ho h2 with y | y
        · rw [y] at x; cases x
        · exact y (by rw [x, hA]; rfl)
      · rw [h.out j (by omega)] at x; cases x
end
/-- the two disks lie apart -/
theorem two_apart {w w' : World} {base b2 : Nat} {d : Dw} {s t : Dsk} {r : Rw} (h : Dk w base d s) (hr : Rk w b2 r t) : (∀ b, r.foot t.n b → ¬ d.foot b) ∧ (∀ A n c l b, Own w b2 5 1 A n c l → ablk A = some b → ¬ d.foot b) := by
  refine ⟨?_, fun A n c l b ho hb => h.off ho (by decide) (by decide) b hb⟩
  rintro b (rfl | hb | ⟨k, hk, hb⟩) x
  · rcases x with x | x | x | ⟨j, x⟩
    · have h1 : w.heap[r.g]? = _ := hr.blk
      have h2 : w.heap[d.g]? = _ := h.blk
      rw [x, h2] at h1
      simp only [Option.some.injEq, Obj.cells.injEq] at h1
      exact absurd h1.2.1 (by decide)
    · have h1 : w.heap[r.g]? = _ := hr.blk
      obtain ⟨cs, h2⟩ := h.lty
      rw [x, h2] at h1
      simp only [Option.some.injEq, Obj.cells.injEq] at h1
      exact absurd h1.2.1 (by decide)
    · have h1 : w.heap[r.g]? = _ := hr.blk
      obtain ⟨D, ⟨es, clock, h3, _⟩, _⟩ := h.map
      rw [x, h3] at h1
      simp at h1
    · by_cases hj : j < s.n
      · exact blk_own_ne hr.blk (h.vers j hj) (by decide) x
      · rw [h.out j (by omega)] at x; cases x
  · exact h.off hr.row (by decide) (by decide) b hb x
  · exact h.off (hr.vers k hk).1 (by decide) (by decide) b hb x

/-- from w to w' the reference's disk r became r', of what s' says; nothing else turned -/
structure Rch (w w' : World) (base : Nat) (r r' : Rw) (n : Nat) (s' : Dsk) : Prop where
  rk : Rk w' base r' s'
  n_ : s'.n = n
  g : r'.g = r.g
  K : Kept (r.foot n) w w'
  foot : ∀ b, r'.foot n b → r.foot n b ∨ w.heap.size ≤ b
section
variable {w w' w2 : World} {base n : Nat} {r r' r2 : Rw} {s s' s2 : Dsk}
theorem Rch.init (h : Rk w base r s) : Rch w w base r r s.n s := ⟨h, rfl, rfl, Kept.refl _ _, fun _ h => .inl h⟩
theorem Rch.trans (h : Rch w w' base r r' n s') (k : Rch w' w2 base r' r2 n s2) : Rch w w2 base r r2 n s2 :=
  ⟨k.rk, k.n_, k.g.trans h.g, h.K.trans k.K (fun b hb x => by rcases h.foot b x with y | y; exact y; omega), fun b hb => by
    rcases k.foot b hb with y | y
    · exact h.foot b y
    · exact .inr (by have := h.K.size; omega)⟩
theorem Rch.below (h : Rch w w' base r r' n s') {B : Nat} (hb : Below B w' w2) (hB : w'.heap.size ≤ B) : Rch w w2 base r r' n s' :=
  ⟨h.rk.below hb hB, h.n_, h.g, h.K.trans (F' := fun _ => False) (Kept.of_below hb hB) (fun _ _ x => x.elim), h.foot⟩
theorem Rch.pre (h : Rch w' w2 base r r2 n s2) {B : Nat} (hb : Below B w w') (hB : w.heap.size ≤ B) : Rch w w2 base r r2 n s2 :=
  ⟨h.rk, h.n_, h.g, ((Kept.of_below (F := fun _ => False) hb hB).mono (F' := r.foot n) (fun _ _ x => x.elim)).trans h.K (fun _ _ x => x), fun b hb2 => by
    rcases h.foot b hb2 with y | y
    · exact .inl y
    · exact .inr (by have := hb.size; omega)⟩
theorem Rch.bel (h : Rch w w' base r r' s.n s') (h0 : Rk w base r s) : Below base w w' :=
  h.K.below (by have := h0.foot_base r.g (.inl rfl); omega) (fun b hb => (h0.foot_base b hb).1)
end
end Go.Proofs.Ytjndopmjlbhajaa
namespace Go.Proofs.Ytjndopmjlbhajaa
open Go.RowKit
set_option linter.unusedSimpArgs false
set_option linter.unusedVariables false

section
variable {P : Program} {ops : Array Oper} {o : Oper} {a : Act} {w : World} {K : Act → World → Prop} {Q : Exit → Act → World → Prop} {E : Prop}
theorem step_made (hgd : o.guard = none) (t : TypeId) (x y : Operand) (ho : o.op = .makeSlice t x y) {u1 u2 v : Value} {w' : World} (hx : a.eval x = u1) (hy : a.eval y = u2) (hr : (Instr.makeSlice t u1 u2).run P w = .ok v w') (h : K (a.put o.dst v) w') :
    if Region.wanted o (yielded ops a.tmps) = true then Oper.wp P o a w K Q else E := by
  have hw : Region.wanted o (yielded ops a.tmps) = true := by simp [Region.wanted, hgd]
  rw [if_pos hw]
  unfold Oper.wp execOp
  simp [ho, hx, hy, hr]
  exact h
end
theorem info102 : (Try.prog.info? 91).map (fun i => (i.zero, i.size, i.bytes)) = some (some (.agg #[.slice none 0 0, .slice none 0 0]), 2, 48) := by kernel_rfl
theorem zero102 (w : World) : (zeroValue 91).run Try.prog w = .ok (.agg #[.slice none 0 0, .slice none 0 0]) w := by kernel_rfl
theorem fill102 (x y : Value) (cells : Array Value) (hc : cells.size = 2) : Instr.fill (fun i => some (i * 2, 2)) cells [(0, .agg #[x, y])] = some #[x, y] := by
  have h := Great.fill_whole (s := 2) (by omega) [.agg #[x, y]] cells (by intro v hv; simp at hv; subst hv; simp [Value.cells]) (by simp [hc])
  simpa [Value.cells] using h
theorem run_built102 (x y : Value) (w : World) : (Instr.buildSlice 86 1 #[(0, .agg #[x, y])]).run Try.prog w = .ok (.slice (some ⟨w.heap.size, 0, none⟩) 1 1) (w.alloc (.cells #[x, y] 91)) := by
  obtain ⟨i, hi, hz, hsz, _⟩ := info_parts info102
  have h := fun cells hc => fill102 x y cells hc
  have hs : (Value.agg #[.slice none 0 0, .slice none 0 0]).cells.size = 2 := rfl
  simp [Instr.buildSlice, run_underlying Try.underlying86, sizeOf, typeInfo, zeroValue, hi, hz, hsz, newRow]
  rw [h _ (by simp)]
  simp

theorem newD_hasD (n k : Nat) : hasD (newD n) k = z256 := by simp only [hasD, newD, List.getLast?_nil, Option.getD_none, z256]
theorem row_new {r r' : Rw} {i : Nat} (h : ∀ k, k < i → r'.v k = r.v k) : r'.row (newD (i + 1)) (i + 1) = r.row (newD i) i ++ [.slice (r'.v i).lA 256 (r'.v i).lc, .slice (r'.v i).vA 0 (r'.v i).vc] := by
  unfold Rw.row
  rw [List.range_succ, List.flatMap_append]
  congr 1
  have : ∀ l : List Nat, (∀ k ∈ l, k < i) → l.flatMap (r'.cells (newD (i + 1))) = l.flatMap (r.cells (newD i)) := fun l => by
    induction l with
    | nil => intro _; rfl
    | cons k l ih =>
      intro hk
      rw [List.flatMap_cons, List.flatMap_cons, ih (fun j hj => hk j (by simp [hj]))]
      unfold Rw.cells
      rw [h k (hk k (by simp))]
      rfl
  exact this _ (fun k hk => List.mem_range.1 hk)
theorem Rk.grow {w w2 w3 : World} {base i lc c' : Nat} {r : Rw} {lA A' : Option Addr} (h : Rk w base r (newD i)) (hi : i + 1 ≤ 4096) (hb : Below w.heap.size w w2) (hl : Own w2 w.heap.size 5 1 lA 256 lc (bvs z256))
    (ho : Own w3 base 91 2 A' (i + 1) c' (r.row (newD i) i ++ [.slice lA 256 lc, .slice none 0 0])) (hg : w2.grownBy w3 (ablk r.A)) :
    Rk (w3.setCell ⟨r.g, 0, none⟩ (.slice A' (i + 1) c')) base { r with A := A', c := c', v := fun k => if k = i then ⟨lA, lc, none, 0, []⟩ else r.v k } (newD (i + 1)) := by
  have hz := hb.size
  have hbs : base ≤ w.heap.size := by have := h.blk.lt; have := h.gb; omega
  have h2 := h.below hb (Nat.le_refl _)
  have hgA : ablk r.A ≠ some r.g := blk_own_ne h2.blk h2.row (by decide)
  have K : Kept (fun b => ablk r.A = some b) w2 w3 := Kept.of_grown hg (fun b e => e)
  have b3 := K.blk h2.blk hgA
  have hgA' : ablk A' ≠ some r.g := blk_own_ne b3 ho (by decide)
  have K2 : Kept (fun b => b = r.g) w3 (w3.setCell ⟨r.g, 0, none⟩ (.slice A' (i + 1) c')) := ⟨rfl, rfl, rfl, by simp, fun b _ hn => Below.heap_setCell w3 _ _ b hn⟩
  have hv : ∀ k, k < i → (if k = i then (⟨lA, lc, none, 0, []⟩ : Rv) else r.v k) = r.v k := fun k hk => if_neg (by omega)
  have hrow : Rw.row { r with A := A', c := c', v := fun k => if k = i then ⟨lA, lc, none, 0, []⟩ else r.v k } (newD (i + 1)) (i + 1) = r.row (newD i) i ++ [.slice lA 256 lc, .slice none 0 0] := by
    rw [row_new (r := r) hv]
    simp only [if_true]
  refine ⟨b3.set_ 0 _, ?_, fun k hk => ?_, fun k hk => ?_, fun j k hj hk hne => ?_, fun k hk => ⟨List.length_replicate, fun x hx => by cases hx⟩, hi, ⟨by show (-9223372036854775808 : Int) ≤ 0; omega, by show (0 : Int) ≤ 9223372036854775807; omega⟩, h.gb⟩
  · show Own _ base _ 2 A' (i + 1) c' (Rw.row _ (newD (i + 1)) (i + 1))
    rw [hrow]
    exact own_kept ho K2 (fun b hb e => hgA' (by rw [hb, e]))
  · by_cases e : k = i
    · subst e
      show Own _ base 5 1 (if k = k then (⟨lA, lc, none, 0, []⟩ : Rv) else r.v k).lA 256 (if k = k then (⟨lA, lc, none, 0, []⟩ : Rv) else r.v k).lc (bvs z256)
      rw [if_pos rfl]
      refine own_kept (own_kept (hl.weak hbs) K (fun b hb e => ?_)) K2 (fun b hb e => ?_)
      · rcases own_types hl h2.row (by decide) with y | y
        · rw [y] at hb; cases hb
        · exact y (by rw [hb, e])
      · subst e
        have := (hl.blk hb).1
        have := h.blk.lt
        omega
    · have hk' : k < i := by have : k < i + 1 := hk; omega
      have h1 := h2.lies k hk'
      show Own _ base 5 1 (if k = i then (⟨lA, lc, none, 0, []⟩ : Rv) else r.v k).lA 256 (if k = i then (⟨lA, lc, none, 0, []⟩ : Rv) else r.v k).lc _
      rw [if_neg e]
      refine own_kept (own_kept h1 K (fun b hb e => ?_)) K2 (fun b hb e => ?_)
      · rcases own_types h1 h2.row (by decide) with y | y
        · rw [y] at hb; cases hb
        · exact y (by rw [hb, e])
      · subst e; exact blk_own_ne h2.blk h1 (by decide) hb
  · by_cases e : k = i
    · subst e
      show Own _ base _ 1 (if k = k then (⟨lA, lc, none, 0, []⟩ : Rv) else r.v k).vA 0 (if k = k then (⟨lA, lc, none, 0, []⟩ : Rv) else r.v k).vc (if k = k then (⟨lA, lc, none, 0, []⟩ : Rv) else r.v k).vv ∧ SlO _ base (if k = k then (⟨lA, lc, none, 0, []⟩ : Rv) else r.v k).vv []
      rw [if_pos rfl]
      exact ⟨Own.nil_ _ _ _ _, .nil⟩
    · have hk' : k < i := by have : k < i + 1 := hk; omega
      obtain ⟨h1, h3⟩ := h2.vers k hk'
      show Own _ base _ 1 (if k = i then (⟨lA, lc, none, 0, []⟩ : Rv) else r.v k).vA 0 (if k = i then (⟨lA, lc, none, 0, []⟩ : Rv) else r.v k).vc (if k = i then (⟨lA, lc, none, 0, []⟩ : Rv) else r.v k).vv ∧ SlO _ base (if k = i then (⟨lA, lc, none, 0, []⟩ : Rv) else r.v k).vv []
      rw [if_neg e]
      have e2 : (r.v k).vv = [] := List.eq_nil_of_length_eq_zero (all2_len h3)
      refine ⟨own_kept (own_kept h1 K (fun b hb e => ?_)) K2 (fun b hb e => ?_), by rw [e2]; exact .nil⟩
      · rcases own_types h1 h2.row (by decide) with y | y
        · rw [y] at hb; cases hb
        · exact y (by rw [hb, e])
      · subst e; exact blk_own_ne h2.blk h1 (by decide) hb
  · show ablk (if j = i then (⟨lA, lc, none, 0, []⟩ : Rv) else r.v j).vA = none ∨ ablk (if j = i then (⟨lA, lc, none, 0, []⟩ : Rv) else r.v j).vA ≠ ablk (if k = i then (⟨lA, lc, none, 0, []⟩ : Rv) else r.v k).vA
    by_cases e1 : j = i
    · rw [if_pos e1]; exact .inl rfl
    · rw [if_neg e1]
      by_cases e2 : k = i
      · rw [if_pos e2]
        cases hx : ablk (r.v j).vA with
        | none => exact .inl rfl
        | some b => exact .inr (by simp)
      · rw [if_neg e2]
        have hj' : j < i := by have : j < i + 1 := hj; omega
        have hk' : k < i := by have : k < i + 1 := hk; omega
        exact h.apart j k hj' hk' hne
theorem Rk.zero (w : World) : Rk (w.alloc (.cells #[.slice none 0 0, .bool false, .int .i64 0] 88)) w.heap.size ⟨w.heap.size, none, 0, fun _ => ⟨none, 0, none, 0, []⟩⟩ (newD 0) :=
  ⟨Blk.new w _ [.slice none 0 0, .bool false, .int .i64 0], Own.nil_ _ _ _ _, fun k hk => absurd hk (by show ¬ k < 0; omega), fun k hk => absurd hk (by show ¬ k < 0; omega), fun j k hj => absurd hj (by show ¬ j < 0; omega), fun k hk => absurd hk (by show ¬ k < 0; omega), by show 0 ≤ 4096; omega, ⟨by show (-9223372036854775808 : Int) ≤ 0; omega, by show (0 : Int) ≤ 9223372036854775807; omega⟩, Nat.le_refl _⟩

set_option maxRecDepth 100000 in
set_option maxHeartbeats 4000000 in
theorem rnew_ok (n : Nat) (hn : 1 ≤ n ∧ n ≤ 4096) (w : World) :
    Calls Try.prog 22 #[.int .i64 n] w fun e w' => ∃ r, e = .returned (.tuple #[.pointer (some ⟨r.g, 0, none⟩), .int .i64 0]) ∧ Rk w' w.heap.size r (newD n) ∧ Below w.heap.size w w' := by
  have d1 : decide ((n : Int) < 1) = false := decide_eq_false (by omega)
  have d2 : decide ((4096 : Int) < (n : Int)) = false := decide_eq_false (by omega)
  have HI := Lib.hid (Rk.zero w)
  go_enter Try.func22, Try.ntmps22
  go_upto_region 4 with fail
  refine wp_world (fun U => Rk U w.heap.size ⟨w.heap.size, none, 0, fun _ => ⟨none, 0, none, 0, []⟩⟩ (newD 0) ∧ Below w.heap.size w U) ⟨HI.out, (Below.refl _ _).alloc (Nat.le_refl _) _⟩ ?_
  rintro U ⟨hR, hB⟩
  obtain ⟨gx, hgx⟩ : ∃ gx, gx = w.heap.size := ⟨_, rfl⟩
  have HR : Hid (∃ r, Rk U w.heap.size r (newD 0) ∧ r.g = gx) := ⟨_, hR, hgx.symm⟩
  rw [← hgx]
  have HB := Lib.hid hB
  have HGx := Lib.hid hgx
  clear hR hB HI hgx
  go_wp2
  go_loopw [5] (fun s5 wr => ∃ (i : Nat) (r : Rw), i ≤ n ∧ s5 = .int .i64 i ∧ Rk wr w.heap.size r (newD i) ∧ r.g = gx ∧ Below w.heap.size w wr) (fun s5 _ => n - (intOf s5).toNat)
  case atStart =>
    obtain ⟨r, h1, h2⟩ := HR.out
    exact ⟨0, r, by omega, rfl, h1, h2, HB.out⟩
  case round =>
    clear HR HB
    obtain ⟨i, r, hi, rfl, hR, hg, hB⟩ := hrel
    by_cases hlt : i < n
    · have bc0 := hR.blk.cell 0
      rw [hg] at bc0
      have bc0' : wr.cell? ⟨gx, 0, none⟩ = some (.slice r.A i r.c) := bc0
      have HR := Lib.hid hR
      have HB := Lib.hid hB
      have HG := Lib.hid hg
      clear hR hB hg bc0
      go_upto_region 7 with fail
      have hR2 := HR.out.below (B := wr.heap.size) (Below.refl _ _).drew (Nat.le_refl _)
      have bc1 : wr.drew.cell? ⟨gx, 0, none⟩ = some (.slice r.A i r.c) := bc0'
      have hzw : w.heap.size ≤ wr.heap.size := HB.out.size
      have hmk := make_256 wr.drew
      refine wp_region_last (S := fun w' => w'.cell? ⟨gx, 0, none⟩ = some (.slice r.A i r.c)) 11 (by kernel_rfl) rfl (by kernel_rfl) ?_ ?_
      · exact bc1
      intro hHeld
      simp only [List.take_succ_cons, List.take_zero]
      refine wpAnyH_take (i := 0) (v := ?_) (by simp only [List.getElem?_toArray, List.getElem?_cons_succ, List.getElem?_cons_zero]; rfl) (by kernel_rfl) (by kernel_rfl) (by kernel_rfl) (fun _ _ _ h => h) (Or.inl ⟨by rfl, ?_⟩) hHeld ?_
      rotate_left
      · intro wz hSw; (try dsimp only at hSw); go_simp; try with_reducible rfl
      (try simp only [Act.put, List.setIfInBounds_toArray, List.set_cons_zero, List.set_cons_succ])
      refine wpAnyH_take (i := 1) (v := ?_) (by simp only [List.getElem?_toArray, List.getElem?_cons_succ, List.getElem?_cons_zero]; rfl) (by kernel_rfl) (by kernel_rfl) (by kernel_rfl) (fun _ _ _ h => h) (Or.inl ⟨by rfl, ?_⟩) hHeld ?_
      rotate_left
      · intro wz hSw; (try dsimp only at hSw); go_simp; try with_reducible rfl
      (try simp only [Act.put, List.setIfInBounds_toArray, List.set_cons_zero, List.set_cons_succ])
      refine wpAnyH_take (i := 2) (v := ?_) (by simp only [List.getElem?_toArray, List.getElem?_cons_succ, List.getElem?_cons_zero]; rfl) (by kernel_rfl) (by kernel_rfl) (by kernel_rfl) (fun _ _ _ h => h) (Or.inl ⟨by rfl, ?_⟩) hHeld ?_
      rotate_left
      · intro wz hSw; (try dsimp only at hSw); go_simp; try with_reducible rfl
      (try simp only [Act.put, List.setIfInBounds_toArray, List.set_cons_zero, List.set_cons_succ])
      refine wpAnyH_take (i := 3) (v := ?_) (by simp only [List.getElem?_toArray, List.getElem?_cons_succ, List.getElem?_cons_zero]; rfl) (by kernel_rfl) (by kernel_rfl) (by kernel_rfl) (fun _ _ _ h => h) (Or.inl ⟨by rfl, ?_⟩) hHeld ?_
      rotate_left
      · intro wz hSw; (try dsimp only at hSw); go_simp; try with_reducible rfl
      (try simp only [Act.put, List.setIfInBounds_toArray, List.set_cons_zero, List.set_cons_succ])
      refine wpAnyH_take (i := 4) (v := ?_) (by simp only [List.getElem?_toArray, List.getElem?_cons_succ, List.getElem?_cons_zero]; rfl) (by kernel_rfl) (by kernel_rfl) (by kernel_rfl) (fun _ _ _ h => h) (Or.inl ⟨by rfl, ?_⟩) hHeld ?_
      rotate_left
      · intro wz hSw; (try dsimp only at hSw); go_simp; try with_reducible rfl
      (try simp only [Act.put, List.setIfInBounds_toArray, List.set_cons_zero, List.set_cons_succ])
      refine wpAnyH_ready (rs := [5]) (by kernel_rfl) (by simp) ?_
      refine AllReadyH.cons (by simp only [List.getElem?_toArray, List.getElem?_cons_succ, List.getElem?_cons_zero]; rfl) (fun KK hK => ?_) AllReadyH.nil
      (refine step_made rfl 31 (.const (.int .i64 256)) (.const (.int .i64 256)) rfl (u1 := .int .i64 256) (u2 := .int .i64 256) rfl rfl hmk ?_)
      refine hK.out _ _ ?_ (fun hHeld => ?_)
      · (rw [← HG.out]; exact (hR2.alloc (.cells (bvs z256).toArray 5)).blk.cell 0)
      clear hK KK
      (try simp only [Act.put, List.setIfInBounds_toArray, List.set_cons_zero, List.set_cons_succ])
      have hz102 := zero102
      refine wpAnyH_take (i := 6) (v := ?_) (by simp only [List.getElem?_toArray, List.getElem?_cons_succ, List.getElem?_cons_zero]; rfl) (by kernel_rfl) (by kernel_rfl) (by kernel_rfl) (fun _ _ _ h => h) (Or.inl ⟨by rfl, ?_⟩) hHeld ?_
      rotate_left
      · intro wz hSw; (try dsimp only at hSw); go_simp; try with_reducible rfl
      (try simp only [Act.put, List.setIfInBounds_toArray, List.set_cons_zero, List.set_cons_succ])
      have ho1 : Own (wr.drew.alloc (.cells (bvs z256).toArray 5)) wr.drew.heap.size 5 1 (some ⟨wr.drew.heap.size, 0, none⟩) 256 256 (bvs z256) := Own.lit wr.drew 5 _ (by omega) (by rw [length_bvs, z256_len]) (Nat.le_refl _) rfl
      obtain ⟨lA, hlA⟩ : ∃ lA, lA = (some ⟨wr.drew.heap.size, 0, none⟩ : Option Addr) := ⟨_, rfl⟩
      obtain ⟨W1, hW1⟩ : ∃ W1, W1 = wr.drew.alloc (.cells (bvs z256).toArray 5) := ⟨_, rfl⟩
      have hb1 : Below wr.drew.heap.size wr.drew W1 := by rw [hW1]; exact (Below.refl _ _).alloc (Nat.le_refl _) _
      rw [← hlA, ← hW1] at ho1
      rw [← hW1] at hHeld
      rw [← hlA, ← hW1]
      have hlA2 : (some ⟨wr.heap.size, 0, none⟩ : Option Addr) = lA := hlA.symm
      rw [hlA2]
      clear hmk hlA hW1 hlA2
      refine wpAnyH_ready (rs := [7]) (by kernel_rfl) (by simp) ?_
      refine AllReadyH.cons (by simp only [List.getElem?_toArray, List.getElem?_cons_succ, List.getElem?_cons_zero]; rfl) (fun KK hK => ?_) AllReadyH.nil
      (refine step_built1 rfl 86 (.tmp 25) rfl (u := .agg #[.slice lA 256 256, .slice none 0 0]) rfl (run_built102 _ _ _) ?_)
      refine hK.out _ _ ?_ (fun hHeld => ?_)
      · (rw [← HG.out]; exact ((hR2.below hb1 (Nat.le_refl _)).alloc (.cells #[.slice lA 256 256, .slice none 0 0] 91)).blk.cell 0)
      clear hK KK
      (try simp only [Act.put, List.setIfInBounds_toArray, List.set_cons_zero, List.set_cons_succ])
      have hr2 := (Blk.new W1 91 [.slice lA 256 256, .slice none 0 0]).rd0 (Nat.zero_le _)
      have hb2 : Below wr.drew.heap.size wr.drew (W1.alloc (.cells #[.slice lA 256 256, .slice none 0 0] 91)) := hb1.alloc hb1.size _
      have ho2 := ho1.alloc (.cells #[.slice lA 256 256, .slice none 0 0] 91)
      have hz2 := hb2.size
      have hzw2 : w.heap.size ≤ (W1.alloc (.cells #[.slice lA 256 256, .slice none 0 0] 91)).heap.size := Nat.le_trans hzw hz2
      refine wpAnyH_ready (rs := [8]) (by kernel_rfl) (by simp) ?_
      refine AllReadyH.cons (by simp only [List.getElem?_toArray, List.getElem?_cons_succ, List.getElem?_cons_zero]; rfl) (fun KK hK => ?_) AllReadyH.nil
      (refine step_app rfl (.tmp 23) (.tmp 26) 86 rfl 91 2 Try.underlying86 info102 (by simp [Value.cells]) (by omega) rfl (hR2.below hb2 (Nat.le_refl _)).row rfl hr2 rfl (by intro u hu; simp at hu; rcases hu with rfl | rfl <;> rfl) (by show i + 1 ≤ _; omega) (by show (i + 1) * 48 ≤ _; omega) hzw2 ?_; intro A3 c3 w3 ho3 hg3 hf3)
      refine hK.out _ _ ?_ (fun hHeld => ?_)
      · (rw [← HG.out]; exact ((Kept.of_grown (F := fun b => ablk r.A = some b) hg3 (fun b e => e)).blk (hR2.below hb2 (Nat.le_refl _)).blk (blk_own_ne (hR2.below hb2 (Nat.le_refl _)).blk (hR2.below hb2 (Nat.le_refl _)).row (by decide))).cell 0)
      clear hK KK
      (try simp only [Act.put, List.setIfInBounds_toArray, List.set_cons_zero, List.set_cons_succ])
      have hb3k := (Kept.of_grown (F := fun b => ablk r.A = some b) hg3 (fun b e => e)).blk (hR2.below hb2 (Nat.le_refl _)).blk (blk_own_ne (hR2.below hb2 (Nat.le_refl _)).blk (hR2.below hb2 (Nat.le_refl _)).row (by decide))
      rw [HG.out] at hb3k
      have hfz := hb3k.frozen 0
      have hcc := hb3k.cell 0
      clear hb3k
      refine wpAnyH_take (i := 9) (v := ?_) (by simp only [List.getElem?_toArray, List.getElem?_cons_succ, List.getElem?_cons_zero]; rfl) (by kernel_rfl) (by kernel_rfl) (by kernel_rfl) (fun _ _ _ h => h) (Or.inl ⟨by rfl, ?_⟩) hHeld ?_
      rotate_left
      · intro wz hSw; (try dsimp only at hSw); go_simp; try with_reducible rfl
      (try simp only [Act.put, List.setIfInBounds_toArray, List.set_cons_zero, List.set_cons_succ])
      refine wpAnyH_take (i := 10) (v := ?_) (by simp only [List.getElem?_toArray, List.getElem?_cons_succ, List.getElem?_cons_zero]; rfl) (by kernel_rfl) (by kernel_rfl) (by kernel_rfl) (fun _ _ _ h => h) (Or.inl ⟨by rfl, ?_⟩) hHeld ?_
      rotate_left
      · intro wz hSw; (try dsimp only at hSw); go_simp; try with_reducible rfl
      (try simp only [Act.put, List.setIfInBounds_toArray, List.set_cons_zero, List.set_cons_succ])
      refine wpAnyH_done (by kernel_rfl) ?_ _
      simp only [lastQ]
      go_simp
      have hgr := hR2.grow (by omega) hb2 ho2 ho3 hg3
      have hb3 : Below w.heap.size w w3 := (HB.out.drew.trans (hb2.mono HB.out.size)).grown hg3 (HB.out.drew.trans (hb2.mono HB.out.size)).size (fun k hk => ((hR2.below hb2 (Nat.le_refl _)).row.blk hk).1)
      rw [HG.out] at hgr
      have hb4 : Below w.heap.size w (w3.setCell ⟨gx, 0, none⟩ (.slice A3 (i + 1) c3)) := hb3.setCell (show w.heap.size ≤ (⟨gx, 0, none⟩ : Addr).block by show w.heap.size ≤ gx; have := HGx.out; omega) _
      have HGr := Lib.hid hgr
      have HB4 := Lib.hid hb4
      clear hgr hb4 hb3 ho3 hg3 hf3 hr2 hb2 ho2 hz2 hzw2 ho1 hb1 hHeld hR2 bc1 bc0'
      generalize w3.setCell ⟨gx, 0, none⟩ (.slice A3 (i + 1) c3) = w4 at *
      clear hfz hcc
      go_wp2
      go_roundw
      case rel => exact ⟨i + 1, _, by omega, by norm_cast, HGr.out, rfl, HB4.out⟩
      case measure => simp only [intOf]; omega
    · obtain rfl : i = n := by omega
      have HR := Lib.hid hR
      have HG := Lib.hid hg
      have HB := Lib.hid hB
      clear hR hg hB
      go_wp2
      go_ret2
      exact ⟨r, by rw [HG.out]; rfl, HR.out, HB.out⟩
end Go.Proofs.Ytjndopmjlbhajaa
namespace Go.Proofs.Ytjndopmjlbhajaa
open Go.RowKit
set_option linter.unusedSimpArgs false
set_option linter.unusedVariables false

theorem size102 : (Try.prog.info? 91).map (·.size) = some 2 := by kernel_rfl
theorem two_one (A B : Option Addr) (a b c d : Nat) : ∀ u ∈ [Value.slice A a b, Value.slice B c d], u.oneCell' = true := by
  intro u hu
  simp at hu
  rcases hu with rfl | rfl <;> rfl
/-- a version's slice -/
theorem Rk.verAt {w : World} {base : Nat} {r : Rw} {s : Dsk} (h : Rk w base r s) {k q : Nat} (hk : k < s.n) (hq : q < (s.vers k).length) :
    ∃ b A c, (r.v k).vA = some ⟨b, 0, none⟩ ∧ w.cell? ⟨b, q, none⟩ = some (.slice A 256 c) ∧ Own w base 5 1 A 256 c (bvs ((s.vers k).getD q [])) := by
  obtain ⟨ho, hs⟩ := h.vers k hk
  have hl := all2_len hs
  obtain ⟨b, hA, _, _, hc, _⟩ := ho.cell (k := q) (by omega)
  obtain ⟨A, n, c, e, hown⟩ := all2_get hs (k := q) (by omega) hq
  have hx : (s.vers k).getD q [] = (s.vers k)[q] := by rw [List.getD_eq_getElem?_getD, List.getElem?_eq_getElem hq]; rfl
  have hn : n = 256 := by
    have h1 := hown.len1
    rw [length_bvs, (h.len k hk).2 _ (List.getElem_mem _)] at h1
    exact h1.symm
  subst hn
  exact ⟨b, A, c, hA, by rw [hc, e], by rw [hx]; exact hown⟩

set_option maxRecDepth 100000 in
set_option maxHeartbeats 4000000 in
theorem rread_ok {w : World} {base : Nat} {r : Rw} {s : Dsk} (h : Rk w base r s) {k : Nat} (hk : k < s.n) :
    Calls Try.prog 68 #[.pointer (some ⟨r.g, 0, none⟩), .int .i64 k] w fun e w' => ∃ A c, e = .returned (.tuple #[.slice A 256 c, .int .i64 0]) ∧ Own w' w.heap.size 5 1 A 256 c (bvs (hasD s k)) ∧ Below w.heap.size w w' := by
  have bc := h.blk.cells
  obtain ⟨b, hA, hrg⟩ := h.range hk
  have hz := zero102
  have hkn : (k : Int) < (s.n : Int) := by omega
  have hkl : k * 2 + 2 ≤ s.n * 2 := by omega
  have hsm := h.small
  rw [hA] at bc
  have HN : Hid (Blk (w.alloc (.cells #[.slice none 0 0, .slice none 0 0] 91)) w.heap.size 91 [.slice none 0 0, .slice none 0 0]) := Lib.hid (Blk.new w _ [.slice none 0 0, .slice none 0 0])
  have HR := Lib.hid hrg
  have H := Lib.hid h
  clear h hA hrg
  go_enter Try.func68, Try.ntmps68
  go_upto_region 4 with (first
    | (((with_reducible refine wpList_load_mid (op := ⟨some 26, _, _, _, _, _⟩) ?_ 91 (.tmp 25) ?_ b (k * 2) ?_ [.slice (r.v k).lA 256 (r.v k).lc, .slice (r.v k).vA (s.vers k).length (r.v k).vc] _ ?_ Try.underlying91 ?_ ?_ ?_); rfl; rfl; (first | rfl | (go_simp; rfl)); exact HR.out; rfl; (rw [size102]; rfl)))
    | (((with_reducible refine row_put (o := ⟨none, _, _, _, _, _⟩) ?_ ?_ 91 (.tmp 6) (.tmp 26) ?_ w.heap.size ?_ [.slice (r.v k).lA 256 (r.v k).lc, .slice (r.v k).vA (s.vers k).length (r.v k).vc] ?_ 91 [.slice none 0 0, .slice none 0 0] ?_ ?_ ?_ ?_ ?_); rfl; rfl; rfl; rfl; rfl; exact HN.out; (rw [size102]; rfl); rfl; exact two_one _ _ _ _ _ _; (intro w9 X9 g9))))
  have hb9 : Below w.heap.size w w9 := ((Below.refl _ _).alloc (Nat.le_refl _) _).grown g9 (by simp) (by intro k hk; cases hk; exact Nat.le_refl _)
  obtain ⟨gx, hgx⟩ : ∃ gx, gx = w.heap.size := ⟨_, rfl⟩
  have X9b := X9.out
  rw [← hgx] at X9b
  rw [← hgx]
  have c0 := X9b.cell 0
  have c1 := X9b.cell 1
  simp only [List.getElem?_cons_zero, List.getElem?_cons_succ] at c0 c1
  have h9 := H.out.below hb9 (Nat.le_refl _)
  have HB9 := Lib.hid hb9
  have H9 := Lib.hid h9
  have hz9 := hb9.size
  have HGx := Lib.hid hgx
  clear X9 X9b hb9 h9 HN HR g9 bc hz hgx
  rcases Nat.eq_zero_or_pos (s.vers k).length with h0 | h0
  · have hl := H9.out.lies k hk
    have he := hasD_none h0
    rw [← he] at hl
    have HO := Lib.hid (own_bs hl)
    have hlen := hl.len1
    have HLn := Lib.hid hlen
    rw [h0] at c1
    clear hl he h0 hlen
    go_wp2_with (at_builtin; refine wpList_app rfl (.tmp 41) (.tmp 42) 31 rfl 5 1 Try.underlying31 info5 rfl (by omega) rfl (Own.nil_ _ w9.heap.size 5 1) rfl HO.out.2.2.2 (by rw [HLn.out]) (bvs_oneCell _) (by omega) (by omega) (Nat.le_refl _) ?_; intro A1 c1 w1 ho1 hg1 _; rw [Nat.zero_add, List.nil_append] at ho1; rw [Nat.zero_add])
    go_ret2
    refine ⟨A1, c1, rfl, ho1.weak hz9, ?_⟩
    have := below_own HB9.out (Own.nil_ _ w9.heap.size 5 1) hg1 hz9 hz9
    exact this
  · obtain ⟨q, hq⟩ : ∃ q, (s.vers k).length = q + 1 := ⟨(s.vers k).length - 1, by omega⟩
    obtain ⟨bv_, Ax, cx, hvA, hvc, hvo⟩ := H9.out.verAt hk (q := q) (by omega)
    have hcap := (H9.out.vers k hk).1.cap
    have he : (s.vers k).getD q [] = hasD s k := by
      unfold hasD
      rw [List.getLast?_eq_getElem?, hq, List.getD_eq_getElem?_getD, Nat.add_sub_cancel, List.getElem?_eq_getElem (by omega)]
      rfl
    rw [he] at hvo
    rw [hvA, hq] at c1
    rw [hq] at hcap
    have HO := Lib.hid (own_bs hvo)
    have hlen := hvo.len1
    have HLn := Lib.hid hlen
    have eq1 : IntKind.i64.wrap (((q + 1 : Nat) : Int) - 1) = (q : Int) := by rw [IntWalk.i64_in _ (by omega)]; omega
    have eq2 : ((q + 1 : Nat) : Int) - 1 = (q : Int) := by omega
    clear hvo he hq h0 hvA hlen
    go_wp2_with (at_builtin; refine wpList_app rfl (.tmp 41) (.tmp 42) 31 rfl 5 1 Try.underlying31 info5 rfl (by omega) rfl (Own.nil_ _ w9.heap.size 5 1) rfl HO.out.2.2.2 (by rw [HLn.out]) (bvs_oneCell _) (by omega) (by omega) (Nat.le_refl _) ?_; intro A1 c1 w1 ho1 hg1 _; rw [Nat.zero_add, List.nil_append] at ho1; rw [Nat.zero_add])
    go_ret2
    exact ⟨A1, c1, rfl, ho1.weak hz9, below_own HB9.out (Own.nil_ _ w9.heap.size 5 1) hg1 hz9 hz9⟩

set_option maxHeartbeats 1000000 in
theorem rread_far {w : World} {base : Nat} {r : Rw} {s : Dsk} (h : Rk w base r s) {k : Int} (hk : k < 0 ∨ (s.n : Int) ≤ k) :
    Calls Try.prog 68 #[.pointer (some ⟨r.g, 0, none⟩), .int .i64 k] w fun e w' => e = .returned (.tuple #[.slice none 0 0, .int .i64 2]) ∧ w' = w := by
  have bc := h.blk.cells
  clear h
  by_cases h0 : k < 0
  · go_enter Try.func68, Try.ntmps68
    go_wp2
    go_ret2
    exact ⟨rfl, rfl⟩
  · have h1 : (s.n : Int) ≤ k := by omega
    go_enter Try.func68, Try.ntmps68
    go_wp2
    go_ret2
    exact ⟨rfl, rfl⟩

set_option maxRecDepth 100000 in
set_option maxHeartbeats 4000000 in
theorem rdirty_any {w : World} {base : Nat} {r : Rw} {s : Dsk} (h : Rk w base r s) :
    Calls Try.prog 25 #[.pointer (some ⟨r.g, 0, none⟩)] w fun e w' => ∃ A c, e = .returned (.slice A (dirtyL s).length c) ∧ Own w' w.heap.size 3 1 A (dirtyL s).length c (iv (dirtyL s)) ∧ Below w.heap.size w w' := by
  have H := Lib.hid h
  have hsm := h.small
  clear h
  go_enter Try.func25, Try.ntmps25
  go_wp2
  go_loopw [3, 4] (fun s3 s4 wr => ∃ (i : Nat) (A : Option Addr) (c : Nat) (l : List Nat), i ≤ s.n ∧ s4 = .int .i64 i ∧ s3 = .slice A l.length c ∧ l = (List.range i).filter (fun k => !(s.vers k).isEmpty) ∧ Own wr w.heap.size 3 1 A l.length c (iv l) ∧ Below w.heap.size w wr) (fun _ s4 _ => s.n - (intOf s4).toNat)
  case atStart => exact ⟨0, none, 0, [], by omega, rfl, rfl, rfl, Own.nil_ _ _ _ _, Below.refl _ _⟩
  case round =>
    obtain ⟨i, A, c, l, hi, rfl, rfl, hl, ho, hb⟩ := hrel
    have hR := H.out.below hb (Nat.le_refl _)
    have bc := hR.blk.cells
    have hll : l.length ≤ 4096 := by
      rw [hl]
      have h1 := List.length_filter_le (fun k => !(s.vers k).isEmpty) (List.range i)
      rw [List.length_range] at h1
      omega
    have HL := Lib.hid hl
    have HO := Lib.hid ho
    have HB := Lib.hid hb
    have hzb := hb.size
    clear hl ho hb
    by_cases hlt : i < s.n
    · obtain ⟨b, hA, _, c1, _, _⟩ := hR.cell hlt
      rw [hA] at bc
      have hin : (i : Int) < (s.n : Int) := by omega
      have hstep : (List.range (i + 1)).filter (fun k => !(s.vers k).isEmpty) = l ++ (if (s.vers i).length = 0 then [] else [i]) := by
        rw [List.range_succ, List.filter_append, ← HL.out]
        congr 1
        cases hv : s.vers i <;> simp [hv]
      have HSt := Lib.hid hstep
      clear hA hR hstep
      rcases Nat.eq_zero_or_pos (s.vers i).length with h0 | h0
      · rw [h0] at HSt
        rw [h0] at c1
        have HS2 : Hid (l = (List.range (i + 1)).filter (fun k => !(s.vers k).isEmpty)) := Lib.hid (by rw [HSt.out]; simp)
        clear h0 HSt
        go_wp2
        go_roundw
        case rel => exact ⟨i + 1, A, c, l, by omega, by norm_cast, rfl, HS2.out, HO.out, HB.out⟩
        case measure => simp only [intOf]; omega
      · have HS2 : Hid (l ++ [i] = (List.range (i + 1)).filter (fun k => !(s.vers k).isEmpty)) := Lib.hid (by rw [HSt.out, if_neg (by omega)])
        have h0i : (0 : Int) < ((s.vers i).length : Int) := by omega
        obtain ⟨V, hV⟩ : ∃ V, V = (s.vers i).length := ⟨_, rfl⟩
        rw [← hV] at h0 h0i c1
        clear HSt hV
        go_wp2_with (at_builtin; refine wpList_app rfl (.tmp 24) (.tmp 26) 35 rfl 3 1 Try.underlying35 info3v rfl (by omega) rfl (HO.out.alloc _) rfl (rd_one _ _ rfl) rfl (one_int _ _) (by omega) (by omega) (by simp; omega) ?_; intro A5 c5 w5 ho5 hg5 _)
        rw [iv_snoc] at ho5
        have hb5 := below_own (HB.out.alloc hzb _) (HO.out.alloc (.cells #[.int .i64 (i : Int)] 3)) hg5 (Nat.le_refl _) (by simp; omega)
        have hl1 : l.length + 1 = (l ++ [i]).length := by simp
        rw [hl1] at ho5
        have HO5 := Lib.hid ho5
        have HB5 := Lib.hid hb5
        have HL1 := Lib.hid hl1
        clear ho5 hb5 hg5 hl1 hzb HO HB
        go_roundw
        case rel => exact ⟨i + 1, A5, c5, l ++ [i], by omega, by norm_cast, by rw [HL1.out], HS2.out, HO5.out, HB5.out⟩
        case measure => simp only [intOf]; omega
    · obtain rfl : i = s.n := by omega
      have HD : Hid (dirtyL s = l) := Lib.hid HL.out.symm
      clear hR
      go_wp2
      go_ret
      exact ⟨A, c, by rw [HD.out]; rfl, by rw [HD.out]; exact HO.out, HB.out⟩

/-- the reference's count of writes that are left -/
def rcutD (s : Dsk) (n : Int) : Dsk := { s with cut := true, left := if s.cut = true ∧ s.left < n then s.left else n }
theorem Rk.reblk {w w' : World} {base : Nat} {r : Rw} {s : Dsk} (h : Rk w base r s) (K : Kept (fun b => b = r.g) w w') {ct : Bool} {lf : Int} (hl : -9223372036854775808 ≤ lf ∧ lf ≤ 9223372036854775807)
    (hb : Blk w' r.g 88 [.slice r.A s.n r.c, .bool ct, .int .i64 lf]) : Rch w w' base r r s.n { s with cut := ct, left := lf } := by
  refine ⟨⟨hb, own_kept h.row K (fun b hb e => ?_), fun k hk => own_kept (h.lies k hk) K (fun b hb e => ?_), fun k hk => ⟨own_kept (h.vers k hk).1 K (fun b hb e => ?_), slo_kept (h.vers k hk).2 K (fun A n c l b ho hb e => ?_)⟩, h.apart, h.len, h.small, hl, h.gb⟩, rfl, rfl, K.mono (fun b _ e => .inl e), fun b hb => .inl hb⟩
  · subst e; exact blk_own_ne h.blk h.row (by decide) hb
  · subst e; exact blk_own_ne h.blk (h.lies k hk) (by decide) hb
  · subst e; exact blk_own_ne h.blk (h.vers k hk).1 (by decide) hb
  · subst e; exact blk_own_ne h.blk ho (by decide) hb
theorem Rk.setCut {w : World} {base : Nat} {r : Rw} {s : Dsk} (h : Rk w base r s) {l : Int} (hl : -9223372036854775808 ≤ l ∧ l ≤ 9223372036854775807) :
    Rch w ((w.setCell ⟨r.g, 1, none⟩ (.bool true)).setCell ⟨r.g, 2, none⟩ (.int .i64 l)) base r r s.n { s with cut := true, left := l } := by
  have K : Kept (fun b => b = r.g) w ((w.setCell ⟨r.g, 1, none⟩ (.bool true)).setCell ⟨r.g, 2, none⟩ (.int .i64 l)) := ⟨rfl, rfl, rfl, by simp, fun b _ hn => (Below.heap_setCell _ _ _ b hn).trans (Below.heap_setCell w _ _ b hn)⟩
  exact h.reblk K hl ((h.blk.set_ 1 (.bool true)).set_ 2 (.int .i64 l))
end Go.Proofs.Ytjndopmjlbhajaa
namespace Go.Proofs.Ytjndopmjlbhajaa
open Go.RowKit

theorem flat_set2 {α : Type} {f : Nat → List α} {n k : Nat} {a c : α} (hl : ∀ i, i < n → (f i).length = 2) :
    (((List.range n).flatMap f).set (k * 2) a).set (k * 2 + 1) c = (List.range n).flatMap (fun j => if j = k then [a, c] else f j) := by
  have hl' : ∀ i, i < n → ((fun j => if j = k then [a, c] else f j) i).length = 2 := fun i hi => by
    simp only
    split
    · rfl
    · exact hl i hi
  have h1 := flat_len hl
  have h2 := flat_len hl'
  apply List.ext_getElem?
  intro i
  by_cases hi : i < n * 2
  · have hq : i / 2 < n := by omega
    have g1 := flat_get hl hq (show i % 2 < 2 by omega)
    have g2 := flat_get hl' hq (show i % 2 < 2 by omega)
    rw [show i / 2 * 2 + i % 2 = i by omega] at g1 g2
    rw [g2]
    by_cases e1 : k * 2 + 1 = i
    · subst e1
      rw [List.getElem?_set_self (by rw [List.length_set, h1]; exact hi), show (k * 2 + 1) / 2 = k by omega, show (k * 2 + 1) % 2 = 1 by omega, if_pos rfl]
      rfl
    · rw [List.getElem?_set_ne e1]
      by_cases e2 : k * 2 = i
      · subst e2
        rw [List.getElem?_set_self (by rw [h1]; exact hi), show (k * 2) / 2 = k by omega, show (k * 2) % 2 = 0 by omega, if_pos rfl]
        rfl
      · rw [List.getElem?_set_ne e2, g1, if_neg (by omega)]
  · rw [List.getElem?_eq_none (by rw [List.length_set, List.length_set, h1]; omega), List.getElem?_eq_none (by rw [h2]; omega)]

def updD (s : Dsk) (k : Nat) (x : List UInt8) (ls : List (List UInt8)) : Dsk := { s with lies := fun j => if j = k then x else s.lies j, vers := fun j => if j = k then ls else s.vers j }
def Rw.put (r : Rw) (k : Nat) (v : Rv) : Rw := { r with v := fun j => if j = k then v else r.v j }
theorem put_row (r : Rw) (s : Dsk) {k : Nat} (v : Rv) (x : List UInt8) (ls : List (List UInt8)) :
    (r.put k v).row (updD s k x ls) s.n = ((r.row s s.n).set (k * 2) (.slice v.lA 256 v.lc)).set (k * 2 + 1) (.slice v.vA ls.length v.vc) := by
  unfold Rw.row
  rw [flat_set2 (fun _ _ => rfl)]
  congr 1
  funext j
  unfold Rw.cells
  by_cases e : j = k
  · subst e
    show [Value.slice (if j = j then v else r.v j).lA 256 (if j = j then v else r.v j).lc, .slice (if j = j then v else r.v j).vA (if j = j then ls else s.vers j).length (if j = j then v else r.v j).vc] = _
    simp only [if_true]
  · show [Value.slice (if j = k then v else r.v j).lA 256 (if j = k then v else r.v j).lc, .slice (if j = k then v else r.v j).vA (if j = k then ls else s.vers j).length (if j = k then v else r.v j).vc] = _
    rw [if_neg e, if_neg e, if_neg e]
theorem Rk.upd {w w' : World} {base b k lc vc : Nat} {r : Rw} {s : Dsk} {lA vA : Option Addr} {vv : List Value} {x : List UInt8} {ls : List (List UInt8)} (h : Rk w base r s) (hk : k < s.n) (hA : r.A = some ⟨b, 0, none⟩)
    (K : Kept (fun y => y = b ∨ ablk (r.v k).vA = some y) w w') (hrow : Own w' base 91 2 r.A s.n r.c (((r.row s s.n).set (k * 2) (.slice lA 256 lc)).set (k * 2 + 1) (.slice vA ls.length vc)))
    (hl : Own w' base 5 1 lA 256 lc (bvs x)) (hx : x.length = 256) (hv : Own w' base 31 1 vA ls.length vc vv) (hs : SlO w' base vv ls) (hls : ∀ y ∈ ls, y.length = 256)
    (hf : ∀ j, ablk vA = some j → ablk (r.v k).vA = some j ∨ w.heap.size ≤ j) :
    Rch w w' base r (r.put k ⟨lA, lc, vA, vc, vv⟩) s.n (updD s k x ls) := by
  have hb : ablk r.A = some b := by rw [hA]; rfl
  have hvo : ∀ j, j ≠ k → (r.put k ⟨lA, lc, vA, vc, vv⟩).v j = r.v j := fun j hj => by show (if j = k then _ else _) = _; rw [if_neg hj]
  have hvk : (r.put k ⟨lA, lc, vA, vc, vv⟩).v k = ⟨lA, lc, vA, vc, vv⟩ := by show (if k = k then _ else _) = _; rw [if_pos rfl]
  have slo : ∀ j, j ≠ k → (updD s k x ls).lies j = s.lies j ∧ (updD s k x ls).vers j = s.vers j := fun j hj => ⟨by show (if j = k then _ else _) = _; rw [if_neg hj], by show (if j = k then _ else _) = _; rw [if_neg hj]⟩
  have slk : (updD s k x ls).lies k = x ∧ (updD s k x ls).vers k = ls := ⟨by show (if k = k then _ else _) = _; rw [if_pos rfl], by show (if k = k then _ else _) = _; rw [if_pos rfl]⟩
  have n5 : ∀ {A : Option Addr} {n c : Nat} {l : List Value}, Own w base 5 1 A n c l → ∀ y, ablk A = some y → ¬ (y = b ∨ ablk (r.v k).vA = some y) := fun ho y hy e => by
    rcases e with e | e
    · rcases own_types ho h.row (by decide) with z | z
      · rw [z] at hy; cases hy
      · exact z (by rw [hy, hb, e])
    · rcases own_types ho (h.vers k hk).1 (by decide) with z | z
      · rw [z] at hy; cases hy
      · exact z (by rw [hy, e])
  refine ⟨⟨K.blk h.blk (fun e => ?_), ?_, fun j hj => ?_, fun j hj => ?_, fun i j hi hj hij => ?_, fun j hj => ?_, h.small, h.left, h.gb⟩, rfl, rfl, K.mono (fun y _ e => ?_), fun y hy => ?_⟩
  · rcases e with e | e
    · replace e : r.g = b := e
      exact blk_own_ne h.blk h.row (by decide) (by rw [hb, e])
    · exact blk_own_ne h.blk (h.vers k hk).1 (by decide) e
  · show Own w' base _ 2 r.A s.n r.c ((r.put k ⟨lA, lc, vA, vc, vv⟩).row (updD s k x ls) s.n)
    rw [put_row r s]
    exact hrow
  · by_cases e : j = k
    · subst e; rw [hvk, slk.1]; exact hl
    · rw [hvo j e, (slo j e).1]
      exact own_kept (h.lies j hj) K (n5 (h.lies j hj))
  · by_cases e : j = k
    · subst e; rw [hvk, slk.2]; exact ⟨hv, hs⟩
    · rw [hvo j e, (slo j e).2]
      refine ⟨own_kept (h.vers j hj).1 K (fun y hy e2 => ?_), slo_kept (h.vers j hj).2 K (fun A n c l y ho hy => n5 ho y hy)⟩
      rcases e2 with e2 | e2
      · rcases own_types (h.vers j hj).1 h.row (by decide) with z | z
        · rw [z] at hy; cases hy
        · exact z (by rw [hy, hb, e2])
      · rcases h.apart j k hj hk e with z | z
        · rw [z] at hy; cases hy
        · exact z (by rw [hy, e2])
  · have key : ∀ q, q < s.n → q ≠ k → ∀ y, ablk (r.v q).vA = some y → ablk vA ≠ some y := fun q hq hqk y hy e => by
      rcases hf y e with z | z
      · rcases h.apart q k hq hk hqk with u | u
        · rw [u] at hy; cases hy
        · exact u (by rw [hy, z])
      · have := ((h.vers q hq).1.blk hy).2; omega
    by_cases e1 : i = k
    · subst e1
      rw [hvk, hvo j (Ne.symm hij)]
      cases hy : ablk vA with
      | none => exact .inl rfl
      | some y => exact .inr (fun e => key j hj (Ne.symm hij) y e.symm hy)
    · by_cases e2 : j = k
      · subst e2
        rw [hvk, hvo i e1]
        cases hy : ablk (r.v i).vA with
        | none => exact .inl rfl
        | some y => exact .inr (fun e => key i hi e1 y hy e.symm)
      · rw [hvo i e1, hvo j e2]
        exact h.apart i j hi hj hij
  · by_cases e : j = k
    · subst e; rw [slk.1, slk.2]; exact ⟨hx, hls⟩
    · rw [(slo j e).1, (slo j e).2]; exact h.len j hj
  · rcases e with e | e
    · exact .inr (.inl (by rw [hb, e]))
    · exact .inr (.inr ⟨k, hk, e⟩)
  · rcases hy with hy | hy | ⟨j, hj, hy⟩
    · exact .inl (.inl hy)
    · exact .inl (.inr (.inl hy))
    · by_cases e : j = k
      · subst e
        rw [hvk] at hy
        rcases hf y hy with z | z
        · exact .inl (.inr (.inr ⟨j, hj, z⟩))
        · exact .inr z
      · rw [hvo j e] at hy
        exact .inl (.inr (.inr ⟨j, hj, hy⟩))
end Go.Proofs.Ytjndopmjlbhajaa
namespace Go.Proofs.Ytjndopmjlbhajaa
open Go.RowKit
set_option linter.unusedSimpArgs false
set_option linter.unusedVariables false

theorem info33r : (Try.prog.info? 31).map (fun i => (i.zero, i.size, i.bytes)) = some (some (.slice none 0 0), 1, 24) := by kernel_rfl
theorem fill33 (A : Option Addr) (n c : Nat) (cells : Array Value) (hc : cells.size = 1) : Instr.fill (fun i => some (i, 1)) cells [(0, .slice A n c)] = some #[.slice A n c] := by
  have h := Great.fill_whole (s := 1) (by omega) [.slice A n c] cells (by intro v hv; simp at hv; subst hv; rfl) (by simp [hc])
  simpa [Value.cells] using h
theorem run_built33 (A : Option Addr) (n c : Nat) (w : World) : (Instr.buildSlice 89 1 #[(0, .slice A n c)]).run Try.prog w = .ok (.slice (some ⟨w.heap.size, 0, none⟩) 1 1) (w.alloc (.cells #[.slice A n c] 31)) := by
  obtain ⟨i, hi, hz, hsz, _⟩ := info_parts info33r
  have h := fun cells hc => fill33 A n c cells hc
  simp [Instr.buildSlice, run_underlying Try.underlying89, sizeOf, typeInfo, zeroValue, hi, hz, hsz, newRow]
  rw [h _ (by simp [Value.cells])]
  simp

def rdoneOk (s : Dsk) : Bool := !(s.cut && decide (s.left = 0))
def rdec (s : Dsk) : Dsk := { s with left := wrap64 (s.left - 1) }
def rwriteD (s : Dsk) (k : Nat) (x : List UInt8) : Dsk := if rdoneOk s then writeS (rdec s) k x else s
theorem upd_write (s : Dsk) (k : Nat) (x : List UInt8) : updD s k (s.lies k) (s.vers k ++ [x]) = writeS s k x := by
  have : (updD s k (s.lies k) (s.vers k ++ [x])).lies = s.lies := by
    funext j
    show (if j = k then s.lies k else s.lies j) = _
    by_cases e : j = k
    · subst e; simp
    · rw [if_neg e]
  unfold writeS
  exact dsk_ext rfl this rfl rfl rfl
theorem Rk.dec {w : World} {base : Nat} {r : Rw} {s : Dsk} (h : Rk w base r s) : Rch w (w.setCell ⟨r.g, 2, none⟩ (.int .i64 (wrap64 (s.left - 1)))) base r r s.n (rdec s) := by
  have K : Kept (fun b => b = r.g) w (w.setCell ⟨r.g, 2, none⟩ (.int .i64 (wrap64 (s.left - 1)))) := ⟨rfl, rfl, rfl, by simp, fun b _ hn => Below.heap_setCell w _ _ b hn⟩
  exact h.reblk K (wrap_bd _) (h.blk.set_ 2 _)
theorem set_same {α : Type} {l : List α} {i : Nat} {a : α} (h : l[i]? = some a) : l.set i a = l := by
  apply List.ext_getElem?
  intro j
  by_cases e : i = j
  · subst e; rw [List.getElem?_set_self (List.getElem?_eq_some_iff.1 h).1, h]
  · rw [List.getElem?_set_ne e]
theorem Rk.row_l {w : World} {base : Nat} {r : Rw} {s : Dsk} (_ : Rk w base r s) {k : Nat} (hk : k < s.n) : (r.row s s.n)[k * 2]? = some (.slice (r.v k).lA 256 (r.v k).lc) := by
  have h1 := flat_get (f := r.cells s) (fun _ _ => rfl) hk (show 0 < 2 by omega)
  rw [Nat.add_zero] at h1
  exact h1
/-- the row's block, a sector's versions' block -/
def rowF (b : Nat) (v : Option Addr) : Nat → Prop := fun y => y = b ∨ ablk v = some y
theorem Rk.n5 {w : World} {base b k lo n c : Nat} {r : Rw} {s : Dsk} {A : Option Addr} {l : List Value} (h : Rk w base r s) (hk : k < s.n) (hb : ablk r.A = some b) (ho : Own w lo 5 1 A n c l) : ∀ y, ablk A = some y → ¬ rowF b (r.v k).vA y := fun y hy e => by
  rcases e with e | e
  · rcases own_types ho h.row (by decide) with z | z
    · rw [z] at hy; cases hy
    · exact z (by rw [hy, hb, e])
  · rcases own_types ho (h.vers k hk).1 (by decide) with z | z
    · rw [z] at hy; cases hy
    · exact z (by rw [hy, e])
theorem Rk.write {U0 w2 w3 : World} {base b k lo c1 c3 V : Nat} {r : Rw} {t : Dsk} {A1 A3 : Option Addr} {x : List UInt8} (h : Rk U0 base r t) (hk : k < t.n) (hA : r.A = some ⟨b, 0, none⟩) (hb2 : Below U0.heap.size U0 w2)
    (ho1 : Own U0 lo 5 1 A1 256 c1 (bvs x)) (hlo : base ≤ lo) (hx : x.length = 256) (hV : V = (t.vers k).length) (ho3 : Own w3 base 31 1 A3 (V + 1) c3 ((r.v k).vv ++ [.slice A1 256 c1])) (hg3 : w2.grownBy w3 (ablk (r.v k).vA))
    (hf3 : ablk A3 = ablk (r.v k).vA ∨ ablk A3 = some w2.heap.size) :
    Rch U0 (w3.setCell ⟨b, k * 2 + 1, none⟩ (.slice A3 (V + 1) c3)) base r (r.put k ⟨(r.v k).lA, (r.v k).lc, A3, c3, (r.v k).vv ++ [.slice A1 256 c1]⟩) t.n (writeS t k x) := by
  have hb : ablk r.A = some b := by rw [hA]; rfl
  have h2 := h.below hb2 (Nat.le_refl _)
  have K3 : Kept (rowF b (r.v k).vA) w2 w3 := Kept.of_grown hg3 (fun j e => .inr e)
  have K4 : Kept (fun y => y = b) w3 (w3.setCell ⟨b, k * 2 + 1, none⟩ (.slice A3 (V + 1) c3)) := ⟨rfl, rfl, rfl, by simp, fun y _ hn => Below.heap_setCell w3 _ _ y hn⟩
  have K34 : Kept (rowF b (r.v k).vA) w2 (w3.setCell ⟨b, k * 2 + 1, none⟩ (.slice A3 (V + 1) c3)) := K3.trans K4 (fun y _ e => .inl e)
  have K : Kept (rowF b (r.v k).vA) U0 (w3.setCell ⟨b, k * 2 + 1, none⟩ (.slice A3 (V + 1) c3)) := ((Kept.of_below (F := fun _ => False) hb2 (Nat.le_refl _)).mono (F' := rowF b (r.v k).vA) (fun _ _ z => z.elim)).trans K34 (fun _ _ e => e)
  have hvb : ablk (r.v k).vA ≠ some b := fun e => by
    rcases own_types (h.vers k hk).1 h.row (by decide) with z | z
    · rw [z] at e; cases e
    · exact z (by rw [e, hb])
  have hrow3 := own_kept h2.row (Kept.of_grown (F := fun y => ablk (r.v k).vA = some y) hg3 (fun j e => e)) (fun y hy e => hvb (by rw [hb] at hy; rw [e, ← hy]))
  have hb3 : ablk A3 ≠ some b := fun e => by
    rcases own_types ho3 hrow3 (by decide) with z | z
    · rw [z] at e; cases e
    · exact z (by rw [e, hb])
  have hls : V + 1 = (t.vers k ++ [x]).length := by rw [hV]; simp
  have hr4 : Own (w3.setCell ⟨b, k * 2 + 1, none⟩ (.slice A3 (V + 1) c3)) base 91 2 r.A t.n r.c ((r.row t t.n).set (k * 2 + 1) (.slice A3 (V + 1) c3)) := by
    rw [hA] at hrow3 ⊢
    exact hrow3.set_ _ _
  rw [← upd_write]
  refine h.upd hk hA K ?_ (own_kept (h.lies k hk) K (h.n5 hk hb (h.lies k hk))) (h.len k hk).1 ?_ ?_ ?_ (fun j hj => ?_)
  · rw [set_same (h.row_l hk), ← hls]
    exact hr4
  · rw [← hls]
    exact own_kept ho3 K4 (fun y hy e => hb3 (by rw [hy, e]))
  · have hs := slo_kept (h.vers k hk).2 K (fun A n c l y ho hy => h.n5 hk hb ho y hy)
    exact all2_append (SlO.one (own_kept (ho1.weak hlo) K (h.n5 hk hb ho1))) hs
  · intro y hy
    rcases List.mem_append.1 hy with hy | hy
    · exact (h.len k hk).2 y hy
    · rw [List.mem_singleton] at hy; rw [hy]; exact hx
  · rcases hf3 with e | e
    · rw [e] at hj; exact .inl hj
    · rw [e] at hj
      injection hj with hj
      have := hb2.size
      exact .inr (by omega)
set_option maxHeartbeats 1000000 in
theorem rwrite_far {w : World} {base : Nat} {r : Rw} {s : Dsk} (h : Rk w base r s) {k : Int} (hk : k < 0 ∨ (s.n : Int) ≤ k) (x : Value) :
    Calls Try.prog 70 #[.pointer (some ⟨r.g, 0, none⟩), .int .i64 k, x] w fun e w' => e = .returned (.int .i64 2) ∧ w' = w := by
  have bc := h.blk.cells
  clear h
  by_cases h0 : k < 0
  · go_enter Try.func70, Try.ntmps70
    go_wp2
    go_ret
    exact ⟨rfl, rfl⟩
  · have h1 : (s.n : Int) ≤ k := by omega
    go_enter Try.func70, Try.ntmps70
    go_wp2
    go_ret
    exact ⟨rfl, rfl⟩
set_option maxHeartbeats 1000000 in
theorem rwrite_bad {w : World} {base : Nat} {r : Rw} {s : Dsk} (h : Rk w base r s) {k : Nat} (hk : k < s.n) {A : Option Addr} {m c : Nat} (hm : ¬ m = 256) :
    Calls Try.prog 70 #[.pointer (some ⟨r.g, 0, none⟩), .int .i64 k, .slice A m c] w fun e w' => e = .returned (.int .i64 1) ∧ w' = w := by
  have bc := h.blk.cells
  have hkn : ¬ (s.n : Int) ≤ (k : Int) := by omega
  have hd : ((m : Int) != 256) = true := by rw [bne_iff_ne]; omega
  clear h
  go_enter Try.func70, Try.ntmps70
  go_wp2
  go_ret
  exact ⟨rfl, rfl⟩
set_option maxRecDepth 100000 in
set_option maxHeartbeats 8000000 in
theorem rwrite_ok {w : World} {base : Nat} {r : Rw} {s : Dsk} (h : Rk w base r s) {k : Nat} (hk : k < s.n) (hv : (s.vers k).length < 1099511627776) {lo c : Nat} {A : Option Addr} {x : List UInt8} (hx : Bs w lo A 256 c x) (hA : ∀ b, ablk A = some b → ¬ r.foot s.n b) :
    Calls Try.prog 70 #[.pointer (some ⟨r.g, 0, none⟩), .int .i64 k, .slice A 256 c] w fun e w' => e = .returned (.int .i64 0) ∧ ∃ r', Rch w w' base r r' s.n (rwriteD s k x) := by
  have bc := h.blk.cells
  have bf := h.blk.frees
  have hkn : ¬ (s.n : Int) ≤ (k : Int) := by omega
  have H := Lib.hid h
  have HX := Lib.hid hx
  have HA := Lib.hid hA
  have HV := Lib.hid hv
  cases hok : rdoneOk s with
  | false =>
    have HW : Hid (rwriteD s k x = s) := by show _ = _; unfold rwriteD; rw [hok]; rfl
    unfold rdoneOk at hok
    simp only [Bool.not_eq_false', Bool.and_eq_true, decide_eq_true_eq] at hok
    obtain ⟨h1, h2⟩ := hok
    rw [h1, h2] at bc
    clear h hx hA hv h1 h2
    go_enter Try.func70, Try.ntmps70
    go_wp2
    go_ret
    exact ⟨rfl, r, by rw [HW.out]; exact Rch.init H.out⟩
  | true =>
    have HW : Hid (rwriteD s k x = writeS (rdec s) k x) := by show _ = _; unfold rwriteD; rw [hok]; rfl
    have hcase : s.cut = false ∨ (s.cut = true ∧ ¬ s.left = 0) := by
      unfold rdoneOk at hok
      simp only [Bool.not_eq_true', Bool.and_eq_false_iff, decide_eq_false_iff_not] at hok
      cases hc : s.cut with
      | false => exact .inl rfl
      | true => rw [hc] at hok; exact .inr ⟨rfl, hok.resolve_left (by simp)⟩
    have hd1 := h.dec
    have HD1 := Lib.hid hd1
    have hxd := hx.kept hd1.K (fun _ b hb => hA b hb)
    have HXd := Lib.hid hxd
    have hsm := h.small
    clear h hx hA hv hok hd1 hxd
    obtain ⟨b, hbA⟩ : ∃ b, r.A = some ⟨b, 0, none⟩ := by obtain ⟨b, hA, _⟩ := H.out.row.head (by omega); exact ⟨b, hA⟩
    rw [hbA] at bc
    have HbA := Lib.hid hbA
    clear hbA
    rcases hcase with hc | ⟨hc, hl⟩
    all_goals
      rw [hc] at bc
      have HC := Lib.hid hc
      clear hc
      go_enter Try.func70, Try.ntmps70
      go_upto_region 8 with fail
      refine wp_world (fun U => Rch w U base r r s.n (rdec s) ∧ Bs U lo A 256 c x) ⟨HD1.out, HXd.out⟩ ?_
      clear bc bf HD1 HXd
      rintro U ⟨hU, hxU⟩
      have HU := Lib.hid hU
      have hzU := hU.K.size
      have HXU := Lib.hid hxU
      clear hU hxU
      go_upto_region 10 with (at_builtin; refine wpList_app rfl (.tmp 40) (.tmp 41) 31 rfl 5 1 Try.underlying31 info5 rfl (by omega) rfl (Own.nil_ _ U.heap.size 5 1) rfl HXU.out.2.2.2 (by rw [length_bvs, HXU.out.1]) (bvs_oneCell _) (by omega) (by omega) (Nat.le_refl _) ?_; intro A1 c1 w1 ho1 hg1 _; rw [Nat.zero_add, List.nil_append] at ho1; rw [Nat.zero_add])
      have hb1 := below_own (Below.refl U.heap.size U) (Own.nil_ _ U.heap.size 5 1) hg1 (Nat.le_refl _) (Nat.le_refl _)
      have h1 := HU.out.below (hb1.trans ((Below.refl _ _).drew)) (Nat.le_refl _)
      have ho1d := ho1.drew
      obtain ⟨U0, hU0⟩ : ∃ U0, U0 = w1.drew := ⟨_, rfl⟩
      rw [← hU0] at h1 ho1d
      have hz0 : U.heap.size ≤ U0.heap.size := by rw [hU0]; exact hb1.size
      have H1 := Lib.hid h1
      have HO1 := Lib.hid ho1d
      have hxl : x.length = 256 := HXU.out.1
      have HXl := Lib.hid hxl
      have bc := h1.rk.blk.cell 0
      obtain ⟨b', hb', cl, cv, fl, fv⟩ := h1.rk.cell (k := k) hk
      rw [HbA.out] at hb' bc
      injection hb' with hb'
      injection hb' with hb'
      subst hb'
      have hvn : (rdec s).vers k = s.vers k := rfl
      rw [hvn] at cv
      have hcap := (h1.rk.vers k hk).1.cap
      rw [hvn] at hcap
      have bc' : U0.cell? ⟨r.g, 0, none⟩ = some (.slice (some ⟨b, 0, none⟩) s.n r.c) := bc
      obtain ⟨V, hV⟩ : ∃ V, V = (s.vers k).length := ⟨_, rfl⟩
      rw [← hV] at cv hcap HV
      have HVe := Lib.hid hV
      have hV9 := HV.out
      have hknI : (k : Int) < (s.n : Int) := by omega
      clear ho1 hg1 hb1 h1 ho1d hxl cl fl hvn bc hV
      refine wp_region_last (S := fun w' => w'.cell? ⟨r.g, 0, none⟩ = some (.slice (some ⟨b, 0, none⟩) s.n r.c) ∧ w'.cell? ⟨b, k * 2 + 1, none⟩ = some (.slice (r.v k).vA V (r.v k).vc)) 18 (by kernel_rfl) rfl (by kernel_rfl) ?_ ?_
      · rw [← hU0]; exact ⟨bc', cv⟩
      intro hHeld
      simp only [List.take_succ_cons, List.take_zero]
      rw [← hU0] at hHeld
      rw [← hU0]
      refine wpAnyH_take (i := 0) (v := ?_) (by simp only [List.getElem?_toArray, List.getElem?_cons_succ, List.getElem?_cons_zero]; rfl) (by kernel_rfl) (by kernel_rfl) (by kernel_rfl) (fun _ _ _ h => h) (Or.inl ⟨by rfl, ?_⟩) hHeld ?_
      rotate_left
      · intro wz hSw; (try dsimp only at hSw); go_simp; try with_reducible rfl
      (try simp only [Act.put, List.setIfInBounds_toArray, List.set_cons_zero, List.set_cons_succ])
      refine wpAnyH_take (i := 1) (v := ?_) (by simp only [List.getElem?_toArray, List.getElem?_cons_succ, List.getElem?_cons_zero]; rfl) (by kernel_rfl) (by kernel_rfl) (by kernel_rfl) (fun _ _ _ h => h) (Or.inl ⟨by rfl, ?_⟩) hHeld ?_
      rotate_left
      · intro wz hSw; (try dsimp only at hSw); go_simp; try with_reducible rfl
      (try simp only [Act.put, List.setIfInBounds_toArray, List.set_cons_zero, List.set_cons_succ])
      refine wpAnyH_take (i := 2) (v := ?_) (by simp only [List.getElem?_toArray, List.getElem?_cons_succ, List.getElem?_cons_zero]; rfl) (by kernel_rfl) (by kernel_rfl) (by kernel_rfl) (fun _ _ _ h => h) (Or.inl ⟨by rfl, ?_⟩) hHeld ?_
      rotate_left
      · intro wz hSw; (try dsimp only at hSw); go_simp; try with_reducible rfl
      (try simp only [Act.put, List.setIfInBounds_toArray, List.set_cons_zero, List.set_cons_succ])
      refine wpAnyH_take (i := 3) (v := ?_) (by simp only [List.getElem?_toArray, List.getElem?_cons_succ, List.getElem?_cons_zero]; rfl) (by kernel_rfl) (by kernel_rfl) (by kernel_rfl) (fun _ _ _ h => h) (Or.inl ⟨by rfl, ?_⟩) hHeld ?_
      rotate_left
      · intro wz hSw; (try dsimp only at hSw); go_simp; try with_reducible rfl
      (try simp only [Act.put, List.setIfInBounds_toArray, List.set_cons_zero, List.set_cons_succ])
      refine wpAnyH_take (i := 4) (v := ?_) (by simp only [List.getElem?_toArray, List.getElem?_cons_succ, List.getElem?_cons_zero]; rfl) (by kernel_rfl) (by kernel_rfl) (by kernel_rfl) (fun _ _ _ h => h) (Or.inl ⟨by rfl, ?_⟩) hHeld ?_
      rotate_left
      · intro wz hSw; (try dsimp only at hSw); go_simp; try with_reducible rfl
      (try simp only [Act.put, List.setIfInBounds_toArray, List.set_cons_zero, List.set_cons_succ])
      refine wpAnyH_take (i := 5) (v := ?_) (by simp only [List.getElem?_toArray, List.getElem?_cons_succ, List.getElem?_cons_zero]; rfl) (by kernel_rfl) (by kernel_rfl) (by kernel_rfl) (fun _ _ _ h => h) (Or.inl ⟨by rfl, ?_⟩) hHeld ?_
      rotate_left
      · intro wz hSw; (try dsimp only at hSw); go_simp; try with_reducible rfl
      (try simp only [Act.put, List.setIfInBounds_toArray, List.set_cons_zero, List.set_cons_succ])
      refine wpAnyH_take (i := 6) (v := ?_) (by simp only [List.getElem?_toArray, List.getElem?_cons_succ, List.getElem?_cons_zero]; rfl) (by kernel_rfl) (by kernel_rfl) (by kernel_rfl) (fun _ _ _ h => h) (Or.inl ⟨by rfl, ?_⟩) hHeld ?_
      rotate_left
      · intro wz hSw; (try dsimp only at hSw); go_simp; try with_reducible rfl
      (try simp only [Act.put, List.setIfInBounds_toArray, List.set_cons_zero, List.set_cons_succ])
      refine wpAnyH_take (i := 7) (v := ?_) (by simp only [List.getElem?_toArray, List.getElem?_cons_succ, List.getElem?_cons_zero]; rfl) (by kernel_rfl) (by kernel_rfl) (by kernel_rfl) (fun _ _ _ h => h) (Or.inl ⟨by rfl, ?_⟩) hHeld ?_
      rotate_left
      · intro wz hSw; (try dsimp only at hSw); go_simp; try with_reducible rfl
      (try simp only [Act.put, List.setIfInBounds_toArray, List.set_cons_zero, List.set_cons_succ])
      refine wpAnyH_take (i := 8) (v := ?_) (by simp only [List.getElem?_toArray, List.getElem?_cons_succ, List.getElem?_cons_zero]; rfl) (by kernel_rfl) (by kernel_rfl) (by kernel_rfl) (fun _ _ _ h => h) (Or.inl ⟨by rfl, ?_⟩) hHeld ?_
      rotate_left
      · intro wz hSw; (try dsimp only at hSw); go_simp; try with_reducible rfl
      (try simp only [Act.put, List.setIfInBounds_toArray, List.set_cons_zero, List.set_cons_succ])
      refine wpAnyH_take (i := 9) (v := ?_) (by simp only [List.getElem?_toArray, List.getElem?_cons_succ, List.getElem?_cons_zero]; rfl) (by kernel_rfl) (by kernel_rfl) (by kernel_rfl) (fun _ _ _ h => h) (Or.inl ⟨by rfl, ?_⟩) hHeld ?_
      rotate_left
      · intro wz hSw; (try dsimp only at hSw); go_simp; try with_reducible rfl
      (try simp only [Act.put, List.setIfInBounds_toArray, List.set_cons_zero, List.set_cons_succ])
      refine wpAnyH_take (i := 10) (v := ?_) (by simp only [List.getElem?_toArray, List.getElem?_cons_succ, List.getElem?_cons_zero]; rfl) (by kernel_rfl) (by kernel_rfl) (by kernel_rfl) (fun _ _ _ h => h) (Or.inl ⟨by rfl, ?_⟩) hHeld ?_
      rotate_left
      · intro wz hSw; (try dsimp only at hSw); go_simp; try with_reducible rfl
      (try simp only [Act.put, List.setIfInBounds_toArray, List.set_cons_zero, List.set_cons_succ])
      refine wpAnyH_take (i := 11) (v := ?_) (by simp only [List.getElem?_toArray, List.getElem?_cons_succ, List.getElem?_cons_zero]; rfl) (by kernel_rfl) (by kernel_rfl) (by kernel_rfl) (fun _ _ _ h => h) (Or.inl ⟨by rfl, ?_⟩) hHeld ?_
      rotate_left
      · intro wz hSw; (try dsimp only at hSw); go_simp; try with_reducible rfl
      (try simp only [Act.put, List.setIfInBounds_toArray, List.set_cons_zero, List.set_cons_succ])
      refine wpAnyH_take (i := 12) (v := ?_) (by simp only [List.getElem?_toArray, List.getElem?_cons_succ, List.getElem?_cons_zero]; rfl) (by kernel_rfl) (by kernel_rfl) (by kernel_rfl) (fun _ _ _ h => h) (Or.inl ⟨by rfl, ?_⟩) hHeld ?_
      rotate_left
      · intro wz hSw; (try dsimp only at hSw); go_simp; try with_reducible rfl
      (try simp only [Act.put, List.setIfInBounds_toArray, List.set_cons_zero, List.set_cons_succ])
      refine wpAnyH_take (i := 13) (v := ?_) (by simp only [List.getElem?_toArray, List.getElem?_cons_succ, List.getElem?_cons_zero]; rfl) (by kernel_rfl) (by kernel_rfl) (by kernel_rfl) (fun _ _ _ h => h) (Or.inl ⟨by rfl, ?_⟩) hHeld ?_
      rotate_left
      · intro wz hSw; (try dsimp only at hSw); go_simp; try with_reducible rfl
      (try simp only [Act.put, List.setIfInBounds_toArray, List.set_cons_zero, List.set_cons_succ])
      have ha2 := (Below.refl U0.heap.size U0).alloc (Nat.le_refl _) (.cells #[.slice A1 256 c1] 31)
      have hr2 := (Blk.new U0 31 [.slice A1 256 c1]).rd0 (Nat.zero_le _)
      have hk2 := H1.out.rk.below ha2 (Nat.le_refl _)
      have hbU : b < U0.heap.size := by have := (H1.out.rk.row.blk (show ablk r.A = some b by rw [HbA.out]; rfl)).2; exact this
      refine wpAnyH_ready (rs := [14]) (by kernel_rfl) (by simp) ?_
      refine AllReadyH.cons (by simp only [List.getElem?_toArray, List.getElem?_cons_succ, List.getElem?_cons_zero]; rfl) (fun KK hK => ?_) AllReadyH.nil
      (refine step_built1 rfl 89 (.tmp 56) rfl (u := .slice A1 256 c1) rfl (run_built33 _ _ _ _) ?_)
      refine hK.out _ _ ?_ (fun hHeld => ?_)
      · exact ⟨by have := hk2.blk.cell 0; rw [HbA.out] at this; exact this, (ha2.cell (p := ⟨b, k * 2 + 1, none⟩) hbU).trans cv⟩
      clear hK KK
      (try simp only [Act.put, List.setIfInBounds_toArray, List.set_cons_zero, List.set_cons_succ])
      have hvo := (hk2.vers k hk).1
      have hvs := (hk2.vers k hk).2
      have hvn : (rdec s).vers k = s.vers k := rfl
      rw [hvn] at hvo hvs
      rw [← HVe.out] at hvo
      have hzb : base ≤ (U0.alloc (.cells #[.slice A1 256 c1] 31)).heap.size := by have := hk2.blk.lt; have := hk2.gb; omega
      refine wpAnyH_ready (rs := [15]) (by kernel_rfl) (by simp) ?_
      refine AllReadyH.cons (by simp only [List.getElem?_toArray, List.getElem?_cons_succ, List.getElem?_cons_zero]; rfl) (fun KK hK => ?_) AllReadyH.nil
      (refine step_app rfl (.tmp 55) (.tmp 57) 89 rfl 31 1 Try.underlying89 info33r rfl (by omega) rfl hvo rfl hr2 rfl (by intro u hu; simp at hu; rw [hu]; rfl) (by omega) (by omega) hzb ?_; intro A3 c3 w3 ho3 hg3 hf3; have K3 : Kept (fun j => ablk (r.v k).vA = some j) (U0.alloc (.cells #[.slice A1 256 c1] 31)) w3 := Kept.of_grown hg3 (fun j e => e); have hbV : ablk (r.v k).vA ≠ some b := (fun e => by rcases own_types hvo hk2.row (by decide) with z | z; (rw [z] at e; cases e); exact z (by rw [e, HbA.out]; rfl)))
      refine hK.out _ _ ?_ (fun hHeld => ?_)
      · exact ⟨by have := (K3.blk hk2.blk (blk_own_ne hk2.blk hvo (by decide))).cell 0; rw [HbA.out] at this; exact this, (World.cell?_of_block (a := ⟨b, k * 2 + 1, none⟩) (K3.block b (Nat.lt_of_lt_of_le hbU ha2.size) hbV)).trans ((ha2.cell (p := ⟨b, k * 2 + 1, none⟩) hbU).trans cv)⟩
      clear hK KK
      (try simp only [Act.put, List.setIfInBounds_toArray, List.set_cons_zero, List.set_cons_succ])
      have hfz : w3.frozen? ⟨b, k * 2 + 1, none⟩ = false := (World.frozen?_of_block (a := ⟨b, k * 2 + 1, none⟩) (K3.block b (Nat.lt_of_lt_of_le hbU ha2.size) hbV)).trans ((ha2.frozen (p := ⟨b, k * 2 + 1, none⟩) hbU).trans fv)
      refine wpAnyH_take (i := 16) (v := ?_) (by simp only [List.getElem?_toArray, List.getElem?_cons_succ, List.getElem?_cons_zero]; rfl) (by kernel_rfl) (by kernel_rfl) (by kernel_rfl) (fun _ _ _ h => h) (Or.inl ⟨by rfl, ?_⟩) hHeld ?_
      rotate_left
      · intro wz hSw; (try dsimp only at hSw); go_simp; try with_reducible rfl
      (try simp only [Act.put, List.setIfInBounds_toArray, List.set_cons_zero, List.set_cons_succ])
      refine wpAnyH_take (i := 17) (v := ?_) (by simp only [List.getElem?_toArray, List.getElem?_cons_succ, List.getElem?_cons_zero]; rfl) (by kernel_rfl) (by kernel_rfl) (by kernel_rfl) (fun _ _ _ h => h) (Or.inl ⟨by rfl, ?_⟩) hHeld ?_
      rotate_left
      · intro wz hSw; (try dsimp only at hSw); go_simp; try with_reducible rfl
      (try simp only [Act.put, List.setIfInBounds_toArray, List.set_cons_zero, List.set_cons_succ])
      refine wpAnyH_done (by kernel_rfl) ?_ _
      simp only [lastQ]
      go_simp
      have hfin := H1.out.rk.write (V := V) hk HbA.out ha2 HO1.out (by have := HU.out.rk.blk.lt; have := HU.out.rk.gb; omega) HXl.out (by rw [HVe.out]; rfl) ho3 hg3 hf3
      have hall := H1.out.trans hfin
      have HAll := Lib.hid hall
      clear hfin hall hfz hHeld ho3 hg3 hf3 K3 hbV hvo hvs hk2 hr2 ha2 hzb H1 HO1 HU HXU hcap
      generalize w3.setCell ⟨b, k * 2 + 1, none⟩ (.slice A3 (V + 1) c3) = w5 at *
      go_wp2
      go_ret
      exact ⟨rfl, _, by rw [HW.out]; exact HAll.out⟩
end Go.Proofs.Ytjndopmjlbhajaa
namespace Go.Proofs.Ytjndopmjlbhajaa
open Go.RowKit
set_option linter.unusedSimpArgs false
set_option linter.unusedVariables false

theorem Rk.both {w0 w1 : World} {base b k lc vc : Nat} {r : Rw} {s : Dsk} {lA vA : Option Addr} {vv : List Value} {x : List UInt8} {ls : List (List UInt8)} (h : Rk w0 base r s) (hk : k < s.n) (hA : r.A = some ⟨b, 0, none⟩) (hb : Below w0.heap.size w0 w1)
    (hl : Own w1 base 5 1 lA 256 lc (bvs x)) (hx : x.length = 256) (hv : Own w1 base 31 1 vA ls.length vc vv) (hs : SlO w1 base vv ls) (hls : ∀ y ∈ ls, y.length = 256) (hf : ∀ j, ablk vA = some j → ablk (r.v k).vA = some j ∨ w0.heap.size ≤ j) :
    Rch w0 ((w1.setCell ⟨b, k * 2, none⟩ (.slice lA 256 lc)).setCell ⟨b, k * 2 + 1, none⟩ (.slice vA ls.length vc)) base r (r.put k ⟨lA, lc, vA, vc, vv⟩) s.n (updD s k x ls) := by
  have hbA : ablk r.A = some b := by rw [hA]; rfl
  have h1 := h.below hb (Nat.le_refl _)
  have K1 : Kept (fun y => y = b) w1 ((w1.setCell ⟨b, k * 2, none⟩ (.slice lA 256 lc)).setCell ⟨b, k * 2 + 1, none⟩ (.slice vA ls.length vc)) := ⟨rfl, rfl, rfl, by simp, fun y _ hn => (Below.heap_setCell _ _ _ y hn).trans (Below.heap_setCell w1 _ _ y hn)⟩
  have K : Kept (rowF b (r.v k).vA) w0 ((w1.setCell ⟨b, k * 2, none⟩ (.slice lA 256 lc)).setCell ⟨b, k * 2 + 1, none⟩ (.slice vA ls.length vc)) := ((Kept.of_below (F := fun _ => False) hb (Nat.le_refl _)).mono (F' := rowF b (r.v k).vA) (fun _ _ z => z.elim)).trans K1 (fun _ _ e => .inl e)
  have n5 : ∀ {A : Option Addr} {lo n c : Nat} {l : List Value}, Own w1 lo 5 1 A n c l → ∀ y, ablk A = some y → ¬ y = b := fun ho y hy e => by
    rcases own_types ho h1.row (by decide) with z | z
    · rw [z] at hy; cases hy
    · exact z (by rw [hy, hbA, e])
  refine h.upd hk hA K ?_ (own_kept hl K1 (n5 hl)) hx (own_kept hv K1 (fun y hy e => ?_)) (slo_kept hs K1 (fun A n c l y ho hy => n5 ho y hy)) hls hf
  · have h2 := h1.row
    rw [hA] at h2 ⊢
    exact (h2.set_ _ _).set_ _ _
  · rcases own_types hv h1.row (by decide) with z | z
    · rw [z] at hy; cases hy
    · exact z (by rw [hy, hbA, e])

def rflTo (s : Dsk) (i : Nat) : Dsk := { s with lies := fun k => if k < i then hasD s k else s.lies k, vers := fun k => if k < i then [] else s.vers k }
def rflushD (s : Dsk) : Dsk := if rdoneOk s then rflTo (rdec s) s.n else s
theorem rflTo_0 (s : Dsk) : rflTo s 0 = s := by
  unfold rflTo
  simp
theorem rflTo_vers (s : Dsk) {i : Nat} : (rflTo s i).vers i = s.vers i := by
  show (if i < i then _ else _) = _
  rw [if_neg (by omega)]
theorem rflTo_lies (s : Dsk) {i : Nat} : (rflTo s i).lies i = s.lies i := by
  show (if i < i then _ else _) = _
  rw [if_neg (by omega)]
theorem rflTo_succ (s : Dsk) (i : Nat) : updD (rflTo s i) i (hasD s i) [] = rflTo s (i + 1) := by
  refine dsk_ext rfl ?_ ?_ rfl rfl
  · funext k
    show (if k = i then hasD s i else (if k < i then hasD s k else s.lies k)) = (if k < i + 1 then hasD s k else s.lies k)
    by_cases e : k = i
    · subst e; rw [if_pos rfl, if_pos (by omega)]
    · rw [if_neg e]
      by_cases e2 : k < i
      · rw [if_pos e2, if_pos (by omega)]
      · rw [if_neg e2, if_neg (by omega)]
  · funext k
    show (if k = i then [] else (if k < i then [] else s.vers k)) = (if k < i + 1 then [] else s.vers k)
    by_cases e : k = i
    · subst e; rw [if_pos rfl, if_pos (by omega)]
    · rw [if_neg e]
      by_cases e2 : k < i
      · rw [if_pos e2, if_pos (by omega)]
      · rw [if_neg e2, if_neg (by omega)]
theorem rflTo_skip (s : Dsk) {i : Nat} (h : s.vers i = []) : rflTo s i = rflTo s (i + 1) := by
  refine dsk_ext rfl ?_ ?_ rfl rfl
  · funext k
    show (if k < i then hasD s k else s.lies k) = (if k < i + 1 then hasD s k else s.lies k)
    by_cases e : k = i
    · subst e; rw [if_neg (by omega), if_pos (by omega), hasD_flat h]
    · by_cases e2 : k < i
      · rw [if_pos e2, if_pos (by omega)]
      · rw [if_neg e2, if_neg (by omega)]
  · funext k
    show (if k < i then [] else s.vers k) = (if k < i + 1 then [] else s.vers k)
    by_cases e : k = i
    · subst e; rw [if_neg (by omega), if_pos (by omega), h]
    · by_cases e2 : k < i
      · rw [if_pos e2, if_pos (by omega)]
      · rw [if_neg e2, if_neg (by omega)]

set_option maxRecDepth 100000 in
set_option maxHeartbeats 8000000 in
theorem rflush_any {w : World} {base : Nat} {r : Rw} {s : Dsk} (h : Rk w base r s) :
    Calls Try.prog 51 #[.pointer (some ⟨r.g, 0, none⟩)] w fun e w' => e = .returned (.tuple #[]) ∧ ∃ r', Rch w w' base r r' s.n (rflushD s) := by
  have bc := h.blk.cells
  have bf := h.blk.frees
  have H := Lib.hid h
  cases hok : rdoneOk s with
  | false =>
    have HW : Hid (rflushD s = s) := by show _ = _; unfold rflushD; rw [hok]; rfl
    unfold rdoneOk at hok
    simp only [Bool.not_eq_false', Bool.and_eq_true, decide_eq_true_eq] at hok
    obtain ⟨h1, h2⟩ := hok
    rw [h1, h2] at bc
    clear h h1 h2
    go_enter Try.func51, Try.ntmps51
    go_wp2
    refine bodyPost_ret (results_none rfl _ _ _) rfl ?_
    exact ⟨rfl, r, by rw [HW.out]; exact Rch.init H.out⟩
  | true =>
    have HW : Hid (rflushD s = rflTo (rdec s) s.n) := by show _ = _; unfold rflushD; rw [hok]; rfl
    have hcase : s.cut = false ∨ (s.cut = true ∧ ¬ s.left = 0) := by
      unfold rdoneOk at hok
      simp only [Bool.not_eq_true', Bool.and_eq_false_iff, decide_eq_false_iff_not] at hok
      cases hc : s.cut with
      | false => exact .inl rfl
      | true => rw [hc] at hok; exact .inr ⟨rfl, hok.resolve_left (by simp)⟩
    have HD1 := Lib.hid h.dec
    have hsm := h.small
    clear h hok
    rcases hcase with hc | ⟨hc, hl⟩
    all_goals
      rw [hc] at bc
      clear hc
      try have hlb : (s.left == 0) = false := by simpa using hl
      go_enter Try.func51, Try.ntmps51
      go_upto_region 2 with fail
      refine wp_world (fun U => Rch w U base r r s.n (rdec s)) HD1.out ?_
      clear bc bf HD1
      rintro U hU
      have HU := Lib.hid hU
      clear hU
      obtain ⟨t, ht⟩ : ∃ t, t = rdec s := ⟨_, rfl⟩
      have htn : t.n = s.n := by rw [ht]; rfl
      rw [← ht] at HU HW
      have HTN := Lib.hid htn
      clear ht htn
      obtain ⟨gr, hgr⟩ : ∃ gr, gr = r.g := ⟨_, rfl⟩
      rw [← hgr]
      have HGr := Lib.hid hgr
      clear hgr
      go_wp2
      go_loopw [2, 3] (fun s2 _ wr => ∃ (i : Nat) (r1 : Rw), i ≤ s.n ∧ s2 = .int .i64 i ∧ Rch w wr base r r1 s.n (rflTo t i)) (fun s2 _ _ => s.n - (intOf s2).toNat)
      case atStart => exact ⟨0, r, by omega, rfl, by rw [rflTo_0]; exact HU.out⟩
      case round =>
        clear HU
        obtain ⟨i, r1, hi, rfl, hR⟩ := hrel
        have bc := hR.rk.blk.cells
        rw [hR.g, ← HGr.out] at bc
        have hn1 : (rflTo t i).n = s.n := hR.n_
        rw [hn1] at bc
        by_cases hlt : i < s.n
        · have hkt : i < (rflTo t i).n := by rw [hn1]; exact hlt
          obtain ⟨b, hA, cl, cv, fl, fv⟩ := hR.rk.cell hkt
          rw [rflTo_vers] at cv
          rw [hA] at bc
          have hin : (i : Int) < (s.n : Int) := by omega
          have HA := Lib.hid hA
          have HR := Lib.hid hR
          have HKt := Lib.hid hkt
          clear hA hR hn1
          rcases Nat.eq_zero_or_pos (t.vers i).length with h0 | h0
          · have HSk := Lib.hid (rflTo_skip t (List.eq_nil_of_length_eq_zero h0))
            rw [h0] at cv
            clear h0 hkt
            go_wp2
            go_roundw
            case rel => exact ⟨i + 1, r1, by omega, by norm_cast, by rw [← HSk.out]; exact HR.out⟩
            case measure => simp only [intOf]; omega
          · obtain ⟨q, hq⟩ : ∃ q, (t.vers i).length = q + 1 := ⟨(t.vers i).length - 1, by omega⟩
            obtain ⟨bv_, Ax, cx, hvA, hvc, hvo⟩ := HR.out.rk.verAt hkt (q := q) (by rw [rflTo_vers]; omega)
            rw [rflTo_vers] at hvo
            have hcap := (HR.out.rk.vers i hkt).1.cap
            rw [rflTo_vers] at hcap
            have he : (t.vers i).getD q [] = hasD t i := by
              unfold hasD
              rw [List.getLast?_eq_getElem?, hq, List.getD_eq_getElem?_getD, Nat.add_sub_cancel, List.getElem?_eq_getElem (by omega)]
              rfl
            have hx := (HR.out.rk.len i hkt).2 ((t.vers i).getD q []) (by rw [rflTo_vers, List.getD_eq_getElem?_getD, List.getElem?_eq_getElem (by omega)]; exact List.getElem_mem _)
            rw [he] at hvo hx
            rw [hvA, hq] at cv
            rw [hq] at hcap
            have HVo := Lib.hid hvo
            have HXl := Lib.hid hx
            have eq1 : IntKind.i64.wrap (((q + 1 : Nat) : Int) - 1) = (q : Int) := by rw [IntWalk.i64_in _ (by omega)]; omega
            have eq2 : ((q + 1 : Nat) : Int) - 1 = (q : Int) := by omega
            have eq3 : IntKind.i64.wrap (q : Int) = (q : Int) := IntWalk.i64_in _ (by omega)
            have hqi : (0 : Int) < ((q + 1 : Nat) : Int) := by omega
            have hqi2 : (q : Int) < ((q + 1 : Nat) : Int) := by omega
            have hqi3 : (q : Int) < (q : Int) + 1 := by omega
            have hil : i * 2 + 2 ≤ s.n * 2 := by omega
            clear hvo hx he hq h0 hvA hkt
            go_upto_region 7 with fail
            have bc0 := bc 0
            clear bc
            refine wp_region_last (S := fun w' => w'.cell? ⟨gr, 0, none⟩ = some (.slice (some ⟨b, 0, none⟩) s.n r1.c) ∧ w'.cell? ⟨b, i * 2 + 1, none⟩ = some (.slice (some ⟨bv_, 0, none⟩) (q + 1) (r1.v i).vc) ∧ w'.cell? ⟨bv_, q, none⟩ = some (.slice Ax 256 cx)) 19 (by kernel_rfl) rfl (by kernel_rfl) ?_ ?_
            · exact ⟨bc0, cv, hvc⟩
            intro hHeld
            simp only [List.take_succ_cons, List.take_zero]
            refine wpAnyH_take (i := 0) (v := ?_) (by simp only [List.getElem?_toArray, List.getElem?_cons_succ, List.getElem?_cons_zero]; rfl) (by kernel_rfl) (by kernel_rfl) (by kernel_rfl) (fun _ _ _ h => h) (Or.inl ⟨by rfl, ?_⟩) hHeld ?_
            rotate_left
            · intro wz hSw; (try dsimp only at hSw); go_simp; try with_reducible rfl
            (try simp only [Act.put, List.setIfInBounds_toArray, List.set_cons_zero, List.set_cons_succ])
            refine wpAnyH_take (i := 1) (v := ?_) (by simp only [List.getElem?_toArray, List.getElem?_cons_succ, List.getElem?_cons_zero]; rfl) (by kernel_rfl) (by kernel_rfl) (by kernel_rfl) (fun _ _ _ h => h) (Or.inl ⟨by rfl, ?_⟩) hHeld ?_
            rotate_left
            · intro wz hSw; (try dsimp only at hSw); go_simp; try with_reducible rfl
            (try simp only [Act.put, List.setIfInBounds_toArray, List.set_cons_zero, List.set_cons_succ])
            refine wpAnyH_take (i := 2) (v := ?_) (by simp only [List.getElem?_toArray, List.getElem?_cons_succ, List.getElem?_cons_zero]; rfl) (by kernel_rfl) (by kernel_rfl) (by kernel_rfl) (fun _ _ _ h => h) (Or.inl ⟨by rfl, ?_⟩) hHeld ?_
            rotate_left
            · intro wz hSw; (try dsimp only at hSw); go_simp; try with_reducible rfl
            (try simp only [Act.put, List.setIfInBounds_toArray, List.set_cons_zero, List.set_cons_succ])
            refine wpAnyH_take (i := 3) (v := ?_) (by simp only [List.getElem?_toArray, List.getElem?_cons_succ, List.getElem?_cons_zero]; rfl) (by kernel_rfl) (by kernel_rfl) (by kernel_rfl) (fun _ _ _ h => h) (Or.inl ⟨by rfl, ?_⟩) hHeld ?_
            rotate_left
            · intro wz hSw; (try dsimp only at hSw); go_simp; try with_reducible rfl
            (try simp only [Act.put, List.setIfInBounds_toArray, List.set_cons_zero, List.set_cons_succ])
            refine wpAnyH_take (i := 4) (v := ?_) (by simp only [List.getElem?_toArray, List.getElem?_cons_succ, List.getElem?_cons_zero]; rfl) (by kernel_rfl) (by kernel_rfl) (by kernel_rfl) (fun _ _ _ h => h) (Or.inl ⟨by rfl, ?_⟩) hHeld ?_
            rotate_left
            · intro wz hSw; (try dsimp only at hSw); go_simp; try with_reducible rfl
            (try simp only [Act.put, List.setIfInBounds_toArray, List.set_cons_zero, List.set_cons_succ])
            refine wpAnyH_take (i := 5) (v := ?_) (by simp only [List.getElem?_toArray, List.getElem?_cons_succ, List.getElem?_cons_zero]; rfl) (by kernel_rfl) (by kernel_rfl) (by kernel_rfl) (fun _ _ _ h => h) (Or.inl ⟨by rfl, ?_⟩) hHeld ?_
            rotate_left
            · intro wz hSw; (try dsimp only at hSw); go_simp; try with_reducible rfl
            (try simp only [Act.put, List.setIfInBounds_toArray, List.set_cons_zero, List.set_cons_succ])
            refine wpAnyH_take (i := 6) (v := ?_) (by simp only [List.getElem?_toArray, List.getElem?_cons_succ, List.getElem?_cons_zero]; rfl) (by kernel_rfl) (by kernel_rfl) (by kernel_rfl) (fun _ _ _ h => h) (Or.inl ⟨by rfl, ?_⟩) hHeld ?_
            rotate_left
            · intro wz hSw; (try dsimp only at hSw); go_simp; try with_reducible rfl
            (try simp only [Act.put, List.setIfInBounds_toArray, List.set_cons_zero, List.set_cons_succ])
            refine wpAnyH_take (i := 7) (v := ?_) (by simp only [List.getElem?_toArray, List.getElem?_cons_succ, List.getElem?_cons_zero]; rfl) (by kernel_rfl) (by kernel_rfl) (by kernel_rfl) (fun _ _ _ h => h) (Or.inl ⟨by rfl, ?_⟩) hHeld ?_
            rotate_left
            · intro wz hSw; (try dsimp only at hSw); go_simp; try with_reducible rfl
            (try simp only [Act.put, List.setIfInBounds_toArray, List.set_cons_zero, List.set_cons_succ])
            refine wpAnyH_take (i := 8) (v := ?_) (by simp only [List.getElem?_toArray, List.getElem?_cons_succ, List.getElem?_cons_zero]; rfl) (by kernel_rfl) (by kernel_rfl) (by kernel_rfl) (fun _ _ _ h => h) (Or.inl ⟨by rfl, ?_⟩) hHeld ?_
            rotate_left
            · intro wz hSw; (try dsimp only at hSw); go_simp; try with_reducible rfl
            (try simp only [Act.put, List.setIfInBounds_toArray, List.set_cons_zero, List.set_cons_succ])
            refine wpAnyH_take (i := 9) (v := ?_) (by simp only [List.getElem?_toArray, List.getElem?_cons_succ, List.getElem?_cons_zero]; rfl) (by kernel_rfl) (by kernel_rfl) (by kernel_rfl) (fun _ _ _ h => h) (Or.inl ⟨by rfl, ?_⟩) hHeld ?_
            rotate_left
            · intro wz hSw; (try dsimp only at hSw); go_simp; try with_reducible rfl
            (try simp only [Act.put, List.setIfInBounds_toArray, List.set_cons_zero, List.set_cons_succ])
            refine wpAnyH_take (i := 10) (v := ?_) (by simp only [List.getElem?_toArray, List.getElem?_cons_succ, List.getElem?_cons_zero]; rfl) (by kernel_rfl) (by kernel_rfl) (by kernel_rfl) (fun _ _ _ h => h) (Or.inl ⟨by rfl, ?_⟩) hHeld ?_
            rotate_left
            · intro wz hSw; (try dsimp only at hSw); go_simp; try with_reducible rfl
            (try simp only [Act.put, List.setIfInBounds_toArray, List.set_cons_zero, List.set_cons_succ])
            refine wpAnyH_take (i := 11) (v := ?_) (by simp only [List.getElem?_toArray, List.getElem?_cons_succ, List.getElem?_cons_zero]; rfl) (by kernel_rfl) (by kernel_rfl) (by kernel_rfl) (fun _ _ _ h => h) (Or.inl ⟨by rfl, ?_⟩) hHeld ?_
            rotate_left
            · intro wz hSw; (try dsimp only at hSw); go_simp; try with_reducible rfl
            (try simp only [Act.put, List.setIfInBounds_toArray, List.set_cons_zero, List.set_cons_succ])
            refine wpAnyH_take (i := 12) (v := ?_) (by simp only [List.getElem?_toArray, List.getElem?_cons_succ, List.getElem?_cons_zero]; rfl) (by kernel_rfl) (by kernel_rfl) (by kernel_rfl) (fun _ _ _ h => h) (Or.inl ⟨by rfl, ?_⟩) hHeld ?_
            rotate_left
            · intro wz hSw; (try dsimp only at hSw); go_simp; try with_reducible rfl
            (try simp only [Act.put, List.setIfInBounds_toArray, List.set_cons_zero, List.set_cons_succ])
            refine wpAnyH_take (i := 13) (v := ?_) (by simp only [List.getElem?_toArray, List.getElem?_cons_succ, List.getElem?_cons_zero]; rfl) (by kernel_rfl) (by kernel_rfl) (by kernel_rfl) (fun _ _ _ h => h) (Or.inl ⟨by rfl, ?_⟩) hHeld ?_
            rotate_left
            · intro wz hSw; (try dsimp only at hSw); go_simp; try with_reducible rfl
            (try simp only [Act.put, List.setIfInBounds_toArray, List.set_cons_zero, List.set_cons_succ])
            refine wpAnyH_take (i := 14) (v := ?_) (by simp only [List.getElem?_toArray, List.getElem?_cons_succ, List.getElem?_cons_zero]; rfl) (by kernel_rfl) (by kernel_rfl) (by kernel_rfl) (fun _ _ _ h => h) (Or.inl ⟨by rfl, ?_⟩) hHeld ?_
            rotate_left
            · intro wz hSw; (try dsimp only at hSw); go_simp; try with_reducible rfl
            (try simp only [Act.put, List.setIfInBounds_toArray, List.set_cons_zero, List.set_cons_succ])
            refine wpAnyH_take (i := 15) (v := ?_) (by simp only [List.getElem?_toArray, List.getElem?_cons_succ, List.getElem?_cons_zero]; rfl) (by kernel_rfl) (by kernel_rfl) (by kernel_rfl) (fun _ _ _ h => h) (Or.inl ⟨by rfl, ?_⟩) hHeld ?_
            rotate_left
            · intro wz hSw; (try dsimp only at hSw); go_simp; try with_reducible rfl
            (try simp only [Act.put, List.setIfInBounds_toArray, List.set_cons_zero, List.set_cons_succ])
            refine wpAnyH_take (i := 16) (v := ?_) (by simp only [List.getElem?_toArray, List.getElem?_cons_succ, List.getElem?_cons_zero]; rfl) (by kernel_rfl) (by kernel_rfl) (by kernel_rfl) (fun _ _ _ h => h) (Or.inl ⟨by rfl, ?_⟩) hHeld ?_
            rotate_left
            · intro wz hSw; (try dsimp only at hSw); go_simp; try with_reducible rfl
            (try simp only [Act.put, List.setIfInBounds_toArray, List.set_cons_zero, List.set_cons_succ])
            refine wpAnyH_take (i := 17) (v := ?_) (by simp only [List.getElem?_toArray, List.getElem?_cons_succ, List.getElem?_cons_zero]; rfl) (by kernel_rfl) (by kernel_rfl) (by kernel_rfl) (fun _ _ _ h => h) (Or.inl ⟨by rfl, ?_⟩) hHeld ?_
            rotate_left
            · intro wz hSw; (try dsimp only at hSw); go_simp; try with_reducible rfl
            (try simp only [Act.put, List.setIfInBounds_toArray, List.set_cons_zero, List.set_cons_succ])
            refine wpAnyH_take (i := 18) (v := ?_) (by simp only [List.getElem?_toArray, List.getElem?_cons_succ, List.getElem?_cons_zero]; rfl) (by kernel_rfl) (by kernel_rfl) (by kernel_rfl) (fun _ _ _ h => h) (Or.inl ⟨by rfl, ?_⟩) hHeld ?_
            rotate_left
            · intro wz hSw; (try dsimp only at hSw); go_simp; try with_reducible rfl
            (try simp only [Act.put, List.setIfInBounds_toArray, List.set_cons_zero, List.set_cons_succ])
            refine wpAnyH_done (by kernel_rfl) ?_ _
            simp only [lastQ]
            go_simp
            clear hHeld
            have hbd : Below wr.heap.size wr wr.drew := (Below.refl _ _).drew
            have hfin := HR.out.rk.both (w1 := wr.drew) (vA := none) (vc := 0) (vv := []) (ls := []) HKt.out HA.out hbd HVo.out.drew HXl.out (Own.nil_ _ _ _ _) .nil (fun y hy => by cases hy) (fun j hj => by cases hj)
            rw [rflTo_succ, HR.out.n_] at hfin
            have hall := HR.out.trans hfin
            have HAll := Lib.hid hall
            have hbA : ablk r1.A = some b := by rw [HA.out]; rfl
            have hgb : ¬ gr = b := fun e => blk_own_ne HR.out.rk.blk HR.out.rk.row (by decide) (by rw [hbA, ← e, HGr.out, HR.out.g])
            have f2 : (wr.drew.setCell ⟨b, i * 2, none⟩ (.slice Ax 256 cx)).frozen? ⟨b, i * 2 + 1, none⟩ = false := by rw [World.frozen?_setCell]; exact fv
            have hdr : (wr.setCell ⟨b, i * 2, none⟩ (.slice Ax 256 cx)).drew = wr.drew.setCell ⟨b, i * 2, none⟩ (.slice Ax 256 cx) := rfl
            have c0 : (wr.drew.setCell ⟨b, i * 2, none⟩ (.slice Ax 256 cx)).cell? ⟨gr, 0, none⟩ = some (.slice (some ⟨b, 0, none⟩) s.n r1.c) := by rw [World.cell?_setCell_other _ _ _ _ (fun e => by injection e with e; exact hgb e.symm)]; exact bc0
            have c1 : (wr.drew.setCell ⟨b, i * 2, none⟩ (.slice Ax 256 cx)).cell? ⟨b, i * 2 + 1, none⟩ = some (.slice (some ⟨bv_, 0, none⟩) (q + 1) (r1.v i).vc) := by rw [World.cell?_setCell_other _ _ _ _ (fun e => by injection e with _ e; omega)]; exact cv
            rw [← hdr] at c0 c1 f2 HAll
            obtain ⟨W, hW⟩ : ∃ W, W = (wr.setCell ⟨b, i * 2, none⟩ (.slice Ax 256 cx)).drew := ⟨_, rfl⟩
            rw [← hW] at c0 c1 f2 HAll
            rw [← hW]
            clear hfin hall hdr hW cl fl cv hvc fv bc0 hbd HVo hbA hgb HR
            go_wp2
            go_roundw
            case rel => exact ⟨i + 1, _, by omega, by norm_cast, HAll.out⟩
            case measure => simp only [intOf]; omega
        · obtain rfl : i = s.n := by omega
          have HR := Lib.hid hR
          clear hR
          go_wp2
          go_end0
          exact ⟨rfl, r1, by rw [HW.out]; exact HR.out⟩
end Go.Proofs.Ytjndopmjlbhajaa
namespace Go.Proofs.Ytjndopmjlbhajaa
open Go.RowKit
set_option linter.unusedSimpArgs false
set_option linter.unusedVariables false

set_option maxRecDepth 100000 in
set_option maxHeartbeats 4000000 in
theorem turned_any {w : World} {lo c : Nat} {A : Option Addr} {l : List UInt8} (h : Bs w lo A 256 c l) {i : Nat} (hi : i < 2048) :
    Calls Try.prog 71 #[.slice A 256 c, .int .i64 i] w fun e w' => ∃ A' c', e = .returned (.slice A' 256 c') ∧ Own w' w.heap.size 5 1 A' 256 c' (bvs (flip l i)) ∧ Below w.heap.size w w' := by
  have H := Lib.hid h
  have hl := h.1
  have HL := Lib.hid hl
  clear h hl
  go_enter Try.func71, Try.ntmps71
  go_upto_region 3 with (at_builtin; refine wpList_app rfl (.tmp 6) (.tmp 7) 31 rfl 5 1 Try.underlying31 info5 rfl (by omega) rfl (Own.nil_ _ w.heap.size 5 1) rfl H.out.2.2.2 (by rw [length_bvs, HL.out]) (bvs_oneCell _) (by omega) (by omega) (Nat.le_refl _) ?_; intro A1 c1 w1 ho1 hg1 _; rw [Nat.zero_add, List.nil_append] at ho1; rw [Nat.zero_add])
  have hb1 := below_own (Below.refl w.heap.size w) (Own.nil_ _ w.heap.size 5 1) hg1 (Nat.le_refl _) (Nat.le_refl _)
  obtain ⟨g, rfl, hgb, hgl⟩ := ho1.head (by omega)
  obtain ⟨a, ha⟩ : ∃ a, a = i / 8 := ⟨_, rfl⟩
  obtain ⟨r, hr⟩ : ∃ r, r = i % 8 := ⟨_, rfl⟩
  have ha8 : a < 256 := by omega
  have hr8 : r < 8 := by omega
  have hyc : w1.cell? ⟨g, a, none⟩ = some (.int .u8 ((l.getD a 0).toNat : Int)) := by
    have := (own_bs ho1).cell a ha8
    rwa [Nat.zero_add] at this
  have hfz : w1.frozen? ⟨g, a, none⟩ = false := own_free ho1 a
  have hfl : flip l i = l.set a (UInt8.ofNat ((l.getD a 0).toNat ^^^ 2 ^ r)) := by unfold flip; rw [← ha, ← hr]
  obtain ⟨y, hy⟩ : ∃ y, y = l.getD a 0 := ⟨_, rfl⟩
  rw [← hy] at hyc hfl
  have q3 : (i : Int) / 8 = (a : Int) := by omega
  have q4 : (i : Int) % 8 = (r : Int) := by omega
  have q5 : (a : Int) < 256 := by omega
  have q6 : IntKind.i64.wrap (a : Int) = (a : Int) := IntWalk.i64_in _ (by omega)
  have q8 : (i : Int).tmod 8 = (r : Int) := by rw [Int.tmod_eq_emod_of_nonneg (by omega)]; exact q4
  have q9 : (i : Int).tdiv 8 = (a : Int) := by rw [Int.tdiv_eq_ediv_of_nonneg (by omega)]; exact q3
  have q7 : IntKind.i64.wrap (r : Int) = (r : Int) := IntWalk.i64_in _ (by omega)
  have HFl := Lib.hid hfl
  have HO := Lib.hid ho1
  have HB := Lib.hid hb1
  clear ha hr hy hfl ho1 hb1 hg1
  have hyd : w1.drew.cell? ⟨g, a, none⟩ = some (.int .u8 (y.toNat : Int)) := hyc
  refine wp_region_last (S := fun w' => w'.cell? ⟨g, a, none⟩ = some (.int .u8 (y.toNat : Int))) 13 (by kernel_rfl) rfl (by kernel_rfl) ?_ ?_
  · exact hyd
  intro hHeld
  simp only [List.take_succ_cons, List.take_zero]
  refine wpAnyH_take (i := 0) (v := ?_) (by simp only [List.getElem?_toArray, List.getElem?_cons_succ, List.getElem?_cons_zero]; rfl) (by kernel_rfl) (by kernel_rfl) (by kernel_rfl) (fun _ _ _ h => h) (Or.inl ⟨by rfl, ?_⟩) hHeld ?_
  rotate_left
  · intro wz hSw; (try dsimp only at hSw); go_simp; try with_reducible rfl
  (try simp only [Act.put, List.setIfInBounds_toArray, List.set_cons_zero, List.set_cons_succ])
  refine wpAnyH_take (i := 1) (v := ?_) (by simp only [List.getElem?_toArray, List.getElem?_cons_succ, List.getElem?_cons_zero]; rfl) (by kernel_rfl) (by kernel_rfl) (by kernel_rfl) (fun _ _ _ h => h) (Or.inl ⟨by rfl, ?_⟩) hHeld ?_
  rotate_left
  · intro wz hSw; (try dsimp only at hSw); go_simp; try with_reducible rfl
  (try simp only [Act.put, List.setIfInBounds_toArray, List.set_cons_zero, List.set_cons_succ])
  refine wpAnyH_take (i := 2) (v := ?_) (by simp only [List.getElem?_toArray, List.getElem?_cons_succ, List.getElem?_cons_zero]; rfl) (by kernel_rfl) (by kernel_rfl) (by kernel_rfl) (fun _ _ _ h => h) (Or.inl ⟨by rfl, ?_⟩) hHeld ?_
  rotate_left
  · intro wz hSw; (try dsimp only at hSw); go_simp; try with_reducible rfl
  (try simp only [Act.put, List.setIfInBounds_toArray, List.set_cons_zero, List.set_cons_succ])
  refine wpAnyH_take (i := 3) (v := ?_) (by simp only [List.getElem?_toArray, List.getElem?_cons_succ, List.getElem?_cons_zero]; rfl) (by kernel_rfl) (by kernel_rfl) (by kernel_rfl) (fun _ _ _ h => h) (Or.inl ⟨by rfl, ?_⟩) hHeld ?_
  rotate_left
  · intro wz hSw; (try dsimp only at hSw); go_simp; try with_reducible rfl
  (try simp only [Act.put, List.setIfInBounds_toArray, List.set_cons_zero, List.set_cons_succ])
  refine wpAnyH_take (i := 4) (v := ?_) (by simp only [List.getElem?_toArray, List.getElem?_cons_succ, List.getElem?_cons_zero]; rfl) (by kernel_rfl) (by kernel_rfl) (by kernel_rfl) (fun _ _ _ h => h) (Or.inl ⟨by rfl, ?_⟩) hHeld ?_
  rotate_left
  · intro wz hSw; (try dsimp only at hSw); go_simp; try with_reducible rfl
  (try simp only [Act.put, List.setIfInBounds_toArray, List.set_cons_zero, List.set_cons_succ])
  refine wpAnyH_take (i := 5) (v := ?_) (by simp only [List.getElem?_toArray, List.getElem?_cons_succ, List.getElem?_cons_zero]; rfl) (by kernel_rfl) (by kernel_rfl) (by kernel_rfl) (fun _ _ _ h => h) (Or.inl ⟨by rfl, ?_⟩) hHeld ?_
  rotate_left
  · intro wz hSw; (try dsimp only at hSw); go_simp; try with_reducible rfl
  (try simp only [Act.put, List.setIfInBounds_toArray, List.set_cons_zero, List.set_cons_succ])
  refine wpAnyH_take (i := 6) (v := ?_) (by simp only [List.getElem?_toArray, List.getElem?_cons_succ, List.getElem?_cons_zero]; rfl) (by kernel_rfl) (by kernel_rfl) (by kernel_rfl) (fun _ _ _ h => h) (Or.inl ⟨by rfl, ?_⟩) hHeld ?_
  rotate_left
  · intro wz hSw; (try dsimp only at hSw); go_simp; try with_reducible rfl
  (try simp only [Act.put, List.setIfInBounds_toArray, List.set_cons_zero, List.set_cons_succ])
  refine wpAnyH_take (i := 7) (v := ?_) (by simp only [List.getElem?_toArray, List.getElem?_cons_succ, List.getElem?_cons_zero]; rfl) (by kernel_rfl) (by kernel_rfl) (by kernel_rfl) (fun _ _ _ h => h) (Or.inl ⟨by rfl, ?_⟩) hHeld ?_
  rotate_left
  · intro wz hSw; (try dsimp only at hSw); go_simp; try with_reducible rfl
  (try simp only [Act.put, List.setIfInBounds_toArray, List.set_cons_zero, List.set_cons_succ])
  refine wpAnyH_take (i := 8) (v := ?_) (by simp only [List.getElem?_toArray, List.getElem?_cons_succ, List.getElem?_cons_zero]; rfl) (by kernel_rfl) (by kernel_rfl) (by kernel_rfl) (fun _ _ _ h => h) (Or.inl ⟨by rfl, ?_⟩) hHeld ?_
  rotate_left
  · intro wz hSw; (try dsimp only at hSw); go_simp; try with_reducible rfl
  (try simp only [Act.put, List.setIfInBounds_toArray, List.set_cons_zero, List.set_cons_succ])
  refine wpAnyH_take (i := 9) (v := ?_) (by simp only [List.getElem?_toArray, List.getElem?_cons_succ, List.getElem?_cons_zero]; rfl) (by kernel_rfl) (by kernel_rfl) (by kernel_rfl) (fun _ _ _ h => h) (Or.inl ⟨by rfl, ?_⟩) hHeld ?_
  rotate_left
  · intro wz hSw; (try dsimp only at hSw); go_simp; try with_reducible rfl
  (try simp only [Act.put, List.setIfInBounds_toArray, List.set_cons_zero, List.set_cons_succ])
  refine wpAnyH_take (i := 10) (v := ?_) (by simp only [List.getElem?_toArray, List.getElem?_cons_succ, List.getElem?_cons_zero]; rfl) (by kernel_rfl) (by kernel_rfl) (by kernel_rfl) (fun _ _ _ h => h) (Or.inl ⟨by rfl, ?_⟩) hHeld ?_
  rotate_left
  · intro wz hSw; (try dsimp only at hSw); go_simp; try with_reducible rfl
  (try simp only [Act.put, List.setIfInBounds_toArray, List.set_cons_zero, List.set_cons_succ])
  refine wpAnyH_take (i := 11) (v := ?_) (by simp only [List.getElem?_toArray, List.getElem?_cons_succ, List.getElem?_cons_zero]; rfl) (by kernel_rfl) (by kernel_rfl) (by kernel_rfl) (fun _ _ _ h => h) (Or.inl ⟨by rfl, ?_⟩) hHeld ?_
  rotate_left
  · intro wz hSw; (try dsimp only at hSw); go_simp; try with_reducible rfl
  (try simp only [Act.put, List.setIfInBounds_toArray, List.set_cons_zero, List.set_cons_succ])
  refine wpAnyH_take (i := 12) (v := ?_) (by simp only [List.getElem?_toArray, List.getElem?_cons_succ, List.getElem?_cons_zero]; rfl) (by kernel_rfl) (by kernel_rfl) (by kernel_rfl) (fun _ _ _ h => h) (Or.inl ⟨by rfl, ?_⟩) hHeld ?_
  rotate_left
  · intro wz hSw; (try dsimp only at hSw); go_simp; try with_reducible rfl
  (try simp only [Act.put, List.setIfInBounds_toArray, List.set_cons_zero, List.set_cons_succ])
  refine wpAnyH_done (by kernel_rfl) ?_ _
  simp only [lastQ]
  go_simp
  clear hHeld
  go_upto_region 4 with fail
  rw [IntKind.wrap_u8, flip_val y r hr8]
  have ho2 := (HO.out.set_ a (bv (UInt8.ofNat (y.toNat ^^^ 2 ^ r)))).drew
  rw [bvs_set, ← HFl.out] at ho2
  have hb2 := (HB.out.setCell (show w.heap.size ≤ (⟨g, a, none⟩ : Addr).block from hgb) (bv (UInt8.ofNat (y.toNat ^^^ 2 ^ r)))).drew
  have HO2 := Lib.hid ho2
  have HB2 := Lib.hid hb2
  clear ho2 hb2 hyd hyc hfz HO HB
  generalize (w1.setCell ⟨g, a, none⟩ (bv (UInt8.ofNat (y.toNat ^^^ 2 ^ r)))).drew = w6 at *
  go_wp2
  go_ret
  exact ⟨_, c1, rfl, HO2.out, HB2.out⟩
end Go.Proofs.Ytjndopmjlbhajaa
namespace Go.Proofs.Ytjndopmjlbhajaa
open Go.RowKit
set_option linter.unusedSimpArgs false
set_option linter.unusedVariables false

theorem upd_rot (s : Dsk) (k i : Nat) : updD s k (flip (s.lies k) i) ((s.vers k).map fun x => flip x i) = rotD s k i := by
  unfold rotD
  refine dsk_ext rfl ?_ ?_ rfl rfl
  · funext j
    rfl
  · funext j
    show (if j = k then _ else s.vers j) = (if j = k then _ else s.vers j)
    by_cases e : j = k
    · rw [if_pos e, if_pos e, List.take_length, List.drop_length, List.append_nil]
    · rw [if_neg e, if_neg e]
set_option maxHeartbeats 1000000 in
theorem rrot_far {w : World} {base : Nat} {r : Rw} {s : Dsk} (h : Rk w base r s) {k : Int} (hk : k < 0 ∨ 2048 * (s.n : Int) ≤ k) :
    Calls Try.prog 49 #[.pointer (some ⟨r.g, 0, none⟩), .int .i64 k] w fun e w' => e = .returned (.int .i64 2) ∧ w' = w := by
  have bc := h.blk.cells
  have hs := h.small
  clear h
  by_cases h0 : k < 0
  · go_enter Try.func49, Try.ntmps49
    go_wp2
    go_ret
    exact ⟨rfl, rfl⟩
  · have h1 : 2048 * (s.n : Int) ≤ k := by omega
    go_enter Try.func49, Try.ntmps49
    go_wp2
    go_ret
    exact ⟨rfl, rfl⟩
set_option maxRecDepth 100000 in
set_option maxHeartbeats 8000000 in
theorem rrot_ok {w : World} {base : Nat} {r : Rw} {s : Dsk} (h : Rk w base r s) {k i : Nat} (hk : k < s.n) (hi : i < 2048) (hv : (s.vers k).length < 1099511627776) :
    Calls Try.prog 49 #[.pointer (some ⟨r.g, 0, none⟩), .int .i64 ((k * 2048 + i : Nat) : Int)] w fun e w' => e = .returned (.int .i64 0) ∧ ∃ r', Rch w w' base r r' s.n (rotD s k i) := by
  have bc := h.blk.cells
  obtain ⟨b, hA, hrg⟩ := h.range hk
  have hz := zero102
  have hs := h.small
  have hkn : (k : Int) < (s.n : Int) := by omega
  have hkl : k * 2 + 2 ≤ s.n * 2 := by omega
  rw [hA] at bc
  have HN : Hid (Blk (w.alloc (.cells #[.slice none 0 0, .slice none 0 0] 91)) w.heap.size 91 [.slice none 0 0, .slice none 0 0]) := Lib.hid (Blk.new w _ [.slice none 0 0, .slice none 0 0])
  have HR := Lib.hid hrg
  have H := Lib.hid h
  have HA := Lib.hid hA
  have HV := Lib.hid hv
  have T1 := turned_any (own_bs (h.lies k hk)) hi
  obtain ⟨bit, hbit⟩ : ∃ bit, bit = k * 2048 + i := ⟨_, rfl⟩
  rw [← hbit]
  have q1 : (bit : Int) / 2048 = (k : Int) := by omega
  have q2 : (bit : Int) % 2048 = (i : Int) := by omega
  have d1 : decide ((2048 : Int) * (s.n : Int) ≤ (bit : Int)) = false := decide_eq_false (by omega)
  have hb0 : bit ≤ 8388608 := by omega
  have q10 : IntKind.i64.wrap (k : Int) = (k : Int) := IntWalk.i64_in _ (by omega)
  clear h hA hrg hbit hv T1
  obtain ⟨gr, hgr⟩ : ∃ gr, gr = r.g := ⟨_, rfl⟩
  rw [← hgr] at bc ⊢
  have HGr := Lib.hid hgr
  clear hgr
  go_enter Try.func49, Try.ntmps49
  go_upto_region 4 with (first
    | (((with_reducible refine wpList_load_mid (op := ⟨some 27, _, _, _, _, _⟩) ?_ 91 (.tmp 26) ?_ b (k * 2) ?_ [.slice (r.v k).lA 256 (r.v k).lc, .slice (r.v k).vA (s.vers k).length (r.v k).vc] _ ?_ Try.underlying91 ?_ ?_ ?_); rfl; rfl; (first | rfl | (go_simp; rfl)); exact HR.out; rfl; (rw [size102]; rfl)))
    | (((with_reducible refine row_put (o := ⟨none, _, _, _, _, _⟩) ?_ ?_ 91 (.tmp 5) (.tmp 27) ?_ w.heap.size ?_ [.slice (r.v k).lA 256 (r.v k).lc, .slice (r.v k).vA (s.vers k).length (r.v k).vc] ?_ 91 [.slice none 0 0, .slice none 0 0] ?_ ?_ ?_ ?_ ?_); rfl; rfl; rfl; rfl; rfl; exact HN.out; (rw [size102]; rfl); rfl; exact two_one _ _ _ _ _ _; (intro w9 X9 g9))))
  have hb9 : Below w.heap.size w w9 := ((Below.refl _ _).alloc (Nat.le_refl _) _).grown g9 (by simp) (by intro k hk; cases hk; exact Nat.le_refl _)
  obtain ⟨gx, hgx⟩ : ∃ gx, gx = w.heap.size := ⟨_, rfl⟩
  have X9b := X9.out
  rw [← hgx] at X9b
  rw [← hgx]
  have h9 := H.out.below hb9 (Nat.le_refl _)
  have hz9 := hb9.size
  have c0 := X9b.cell 0
  simp only [List.getElem?_cons_zero, List.getElem?_cons_succ] at c0
  have T1 := Lib.hid (turned_any (own_bs (h9.lies k hk)) hi)
  have HB9 := Lib.hid hb9
  have HX9 := Lib.hid X9b
  have HGx := Lib.hid hgx
  have hgl := X9b.lt
  clear X9 X9b hb9 h9 HN HR g9 bc hz hgx
  go_upto_region 5 with ((with_reducible refine Calls.mono T1.out ?_); rintro e w1 ⟨A1, c1, rfl, ho1, hb1⟩; have bx1 := (HX9.out.below hb1 hgl).cells; have fx1 := (HX9.out.below hb1 hgl).frees)
  have hX1 := (HX9.out.below hb1 hgl).set_ 0 (.slice A1 256 c1)
  simp only [List.set_cons_zero] at hX1
  have hb1w := HB9.out.trans (hb1.mono HB9.out.size)
  have hgw : w.heap.size ≤ gx := by have := HGx.out; omega
  have hb2 : Below w.heap.size w (w1.setCell ⟨gx, 0, none⟩ (.slice A1 256 c1)) := hb1w.setCell (show w.heap.size ≤ (⟨gx, 0, none⟩ : Addr).block from hgw) _
  have ho2 : Own (w1.setCell ⟨gx, 0, none⟩ (.slice A1 256 c1)) w.heap.size 5 1 A1 256 c1 (bvs (flip (s.lies k) i)) := by
    have K : Kept (fun y => y = gx) w1 (w1.setCell ⟨gx, 0, none⟩ (.slice A1 256 c1)) := ⟨rfl, rfl, rfl, by simp, fun y _ hn => Below.heap_setCell w1 _ _ y hn⟩
    exact own_kept (ho1.weak HB9.out.size) K (fun y hy e => blk_own_ne (HX9.out.below hb1 hgl) ho1 (by decide) (by rw [hy, e]))
  refine wp_world (fun U => Blk U gx 91 [.slice A1 256 c1, .slice (r.v k).vA (s.vers k).length (r.v k).vc] ∧ Below w.heap.size w U ∧ Own U w.heap.size 5 1 A1 256 c1 (bvs (flip (s.lies k) i))) ⟨hX1, hb2, ho2⟩ ?_
  clear bx1 fx1 hX1 hb1w hb2 ho2 ho1 hb1 T1 HX9 HB9 c0
  rintro U ⟨hX, hB, hO⟩
  obtain ⟨V, hV⟩ : ∃ V, V = (s.vers k).length := ⟨_, rfl⟩
  rw [← hV] at hX HV
  have hV9 := HV.out
  have HVe := Lib.hid hV
  have HX := Lib.hid hX
  have HB := Lib.hid hB
  have HO := Lib.hid hO
  clear hX hB hO hV
  go_wp2
  go_loopw [6, 7] (fun s6 s7 wr => ∃ (j : Nat) (Al : Option Addr) (cl : Nat) (vl : List Value), j ≤ V ∧ s7 = .int .i64 j ∧ s6 = .slice Al j cl ∧ Own wr w.heap.size 31 1 Al j cl vl ∧ SlO wr w.heap.size vl (((s.vers k).take j).map fun x => flip x i) ∧
      Blk wr gx 91 [.slice A1 256 c1, .slice (r.v k).vA V (r.v k).vc] ∧ Below w.heap.size w wr ∧ Own wr w.heap.size 5 1 A1 256 c1 (bvs (flip (s.lies k) i))) (fun _ s7 _ => V - (intOf s7).toNat)
  case atStart => exact ⟨0, none, 0, [], by omega, rfl, rfl, Own.nil_ _ _ _ _, .nil, HX.out, HB.out, HO.out⟩
  case round =>
    clear HX HB HO
    obtain ⟨j, Al, cl, vl, hj, rfl, rfl, hol, hsl, hX, hB, hO⟩ := hrel
    have bx := hX.cells
    have fx := hX.frees
    by_cases hlt : j < V
    · have hR := H.out.below hB (Nat.le_refl _)
      obtain ⟨bv_, Ax, cx, hvA, hvc, hvo⟩ := hR.verAt hk (q := j) (by rw [← HVe.out]; exact hlt)
      rw [hvA] at bx
      have T1 := Lib.hid (turned_any (own_bs hvo) hi)
      have hjI : (j : Int) < (V : Int) := by omega
      have hstep : ((s.vers k).take (j + 1)).map (fun x => flip x i) = ((s.vers k).take j).map (fun x => flip x i) ++ [flip ((s.vers k).getD j []) i] := by
        rw [List.take_succ_eq_append_getElem (by rw [← HVe.out]; exact hlt), List.map_append, List.getD_eq_getElem?_getD, List.getElem?_eq_getElem (by rw [← HVe.out]; exact hlt)]
        rfl
      have HSt := Lib.hid hstep
      have HOl := Lib.hid hol
      have HSl := Lib.hid hsl
      have HX := Lib.hid hX
      have HB := Lib.hid hB
      have HO := Lib.hid hO
      have HvA := Lib.hid hvA
      have hgl2 := hX.lt
      clear hR hvo hol hsl hX hB hO hstep hvA
      go_upto_region 8 with (first
        | ((with_reducible refine Calls.mono T1.out ?_); rintro e w3 ⟨A3, c3, rfl, ho3, hb3⟩; have hb4 : Below wr.heap.size wr (w3.alloc (.cells #[.slice A3 256 c3] 31)) := hb3.alloc hb3.size _; have hol4 := HOl.out.below hb4 (Nat.le_refl _); have hzB := HB.out.size; have hz4 := hb4.size; have HOl4 := Lib.hid hol4; have HO3 := Lib.hid (ho3.alloc (.cells #[.slice A3 256 c3] 31)); have HB4 := Lib.hid hb4; clear ho3 hb3 hb4 hol4)
        | (at_builtin; refine wpList_app rfl (.tmp 41) (.tmp 50) 89 rfl 31 1 Try.underlying89 info33r rfl (by omega) rfl HOl4.out rfl (rd_one (.slice A3 256 c3) 31 rfl) rfl (by intro u hu; rw [List.mem_singleton] at hu; rw [hu]; rfl) (by omega) (by omega) (by omega) ?_; intro A5 c5 w5 ho5 hg5 hf5))
      have hx4 := HX.out.below HB4.out hgl2
      have hx5 := hx4.grown hg5 (fun e => blk_own_ne hx4 HOl4.out (by decide) e.symm)
      have hb5 : Below w.heap.size w w5 := below_own (HB.out.trans (HB4.out.mono hzB)) HOl4.out hg5 (Nat.le_refl _) (by omega)
      have ho5' := (HO.out.below HB4.out (Nat.le_refl _)).keep hg5 (own_types (HO.out.below HB4.out (Nat.le_refl _)) HOl4.out (by decide))
      have hs4 := all2_append (SlO.one (HO3.out.weak hzB)) (HSl.out.below HB4.out (Nat.le_refl _))
      have hs5 := SlO.keep hs4 HOl4.out (by decide) hg5
      rw [← HSt.out] at hs5
      have X5 := Lib.hid hx5
      have B5 := Lib.hid hb5
      have O5 := Lib.hid ho5'
      have S5 := Lib.hid hs5
      have L5 := Lib.hid ho5
      clear hx4 hx5 hb5 ho5' hs4 hs5 ho5 hg5 hf5 HOl4 HO3 HB4 hzB hz4 HX HB HO HOl HSl
      go_wp2
      go_roundw
      case rel => exact ⟨j + 1, A5, c5, _, by omega, by norm_cast, rfl, L5.out, S5.out, X5.out, B5.out, O5.out⟩
      case measure => simp only [intOf]; omega
    · obtain rfl : j = V := by omega
      have hjV : ¬ (j : Int) < (j : Int) := by omega
      have hX2 := hX.set_ 1 (.slice Al j cl)
      simp only [List.set_cons_zero, List.set_cons_succ] at hX2
      have hgw2 : w.heap.size ≤ gx := hgw
      have hB2 := hB.setCell (show w.heap.size ≤ (⟨gx, 1, none⟩ : Addr).block from hgw) (.slice Al j cl)
      have K : Kept (fun y => y = gx) wr (wr.setCell ⟨gx, 1, none⟩ (.slice Al j cl)) := ⟨rfl, rfl, rfl, by simp, fun y _ hn => Below.heap_setCell wr _ _ y hn⟩
      have hO2 := own_kept hO K (fun y hy e => blk_own_ne hX hO (by decide) (by rw [hy, e]))
      have hol2 := own_kept hol K (fun y hy e => blk_own_ne hX hol (by decide) (by rw [hy, e]))
      have hsl2 := slo_kept hsl K (fun A n c l y ho hy e => blk_own_ne hX ho (by decide) (by rw [hy, e]))
      have HX := Lib.hid hX2
      have HB := Lib.hid hB2
      have HO := Lib.hid hO2
      have HOl := Lib.hid hol2
      have HSl := Lib.hid hsl2
      clear hX2 hB2 K hO2 hol2 hsl2 hX hB hO hol hsl
      go_upto_region 11 with fail
      generalize wr.setCell ⟨gx, 1, none⟩ (.slice Al j cl) = W at *
      have hbd : Below w.heap.size w W.drew := HB.out.drew
      have hRd := H.out.below hbd (Nat.le_refl _)
      have bg := hRd.blk.cell 0
      rw [HA.out, ← HGr.out] at bg
      have hXr : W.drew.rangeAt gx 0 [.slice A1 256 c1, .slice Al j cl] := fun q v hv => by
        rw [Nat.zero_add, show W.drew.cell? ⟨gx, q, none⟩ = _ from HX.out.cell q]; exact hv
      obtain ⟨b', hb', _, _, f0, f1⟩ := hRd.cell hk
      rw [HA.out] at hb'
      injection hb' with hb'
      injection hb' with hb'
      subst hb'
      have hcells := hRd.cell hk
      have hth : W.drew.there b (k * 2) 2 := fun q hq => by
        obtain ⟨b2, e2, x1, x2, x3, x4⟩ := hcells
        rw [HA.out] at e2
        injection e2 with e2
        injection e2 with e2
        subst e2
        match q, hq with
        | 0, _ => exact ⟨by rw [Nat.add_zero, x1]; rfl, x3⟩
        | 1, _ => exact ⟨by rw [x2]; rfl, x4⟩
      have bg' : W.drew.cell? ⟨gr, 0, none⟩ = some (.slice (some ⟨b, 0, none⟩) s.n r.c) := bg
      clear bg hcells f0 f1 bx fx
      refine wp_region_last (S := fun w' => w'.cell? ⟨gr, 0, none⟩ = some (.slice (some ⟨b, 0, none⟩) s.n r.c) ∧ w'.rangeAt gx 0 [.slice A1 256 c1, .slice Al j cl]) 8 (by kernel_rfl) rfl (by kernel_rfl) ?_ ?_
      · exact ⟨bg', hXr⟩
      intro hHeld
      simp only [List.take_succ_cons, List.take_zero]
      refine wpAnyH_take (i := 0) (v := ?_) (by simp only [List.getElem?_toArray, List.getElem?_cons_succ, List.getElem?_cons_zero]; rfl) (by kernel_rfl) (by kernel_rfl) (by kernel_rfl) (fun _ _ _ h => h) (Or.inl ⟨by rfl, ?_⟩) hHeld ?_
      rotate_left
      · intro wz hSw; (try dsimp only at hSw); go_simp; try with_reducible rfl
      (try simp only [Act.put, List.setIfInBounds_toArray, List.set_cons_zero, List.set_cons_succ])
      refine wpAnyH_take (i := 1) (v := ?_) (by simp only [List.getElem?_toArray, List.getElem?_cons_succ, List.getElem?_cons_zero]; rfl) (by kernel_rfl) (by kernel_rfl) (by kernel_rfl) (fun _ _ _ h => h) (Or.inl ⟨by rfl, ?_⟩) hHeld ?_
      rotate_left
      · intro wz hSw; (try dsimp only at hSw); go_simp; try with_reducible rfl
      (try simp only [Act.put, List.setIfInBounds_toArray, List.set_cons_zero, List.set_cons_succ])
      refine wpAnyH_take (i := 2) (v := ?_) (by simp only [List.getElem?_toArray, List.getElem?_cons_succ, List.getElem?_cons_zero]; rfl) (by kernel_rfl) (by kernel_rfl) (by kernel_rfl) (fun _ _ _ h => h) (Or.inl ⟨by rfl, ?_⟩) hHeld ?_
      rotate_left
      · intro wz hSw; (try dsimp only at hSw); go_simp; try with_reducible rfl
      (try simp only [Act.put, List.setIfInBounds_toArray, List.set_cons_zero, List.set_cons_succ])
      refine wpAnyH_take (i := 3) (v := ?_) (by simp only [List.getElem?_toArray, List.getElem?_cons_succ, List.getElem?_cons_zero]; rfl) (by kernel_rfl) (by kernel_rfl) (by kernel_rfl) (fun _ _ _ h => h) (Or.inl ⟨by rfl, ?_⟩) hHeld ?_
      rotate_left
      · intro wz hSw; (try dsimp only at hSw); go_simp; try with_reducible rfl
      (try simp only [Act.put, List.setIfInBounds_toArray, List.set_cons_zero, List.set_cons_succ])
      refine wpAnyH_take (i := 4) (v := ?_) (by simp only [List.getElem?_toArray, List.getElem?_cons_succ, List.getElem?_cons_zero]; rfl) (by kernel_rfl) (by kernel_rfl) (by kernel_rfl) (fun _ _ _ h => h) (Or.inl ⟨by rfl, ?_⟩) hHeld ?_
      rotate_left
      · intro wz hSw; (try dsimp only at hSw); go_simp; try with_reducible rfl
      (try simp only [Act.put, List.setIfInBounds_toArray, List.set_cons_zero, List.set_cons_succ])
      refine wpAnyH_take (i := 5) (v := ?_) (by simp only [List.getElem?_toArray, List.getElem?_cons_succ, List.getElem?_cons_zero]; rfl) (by kernel_rfl) (by kernel_rfl) (by kernel_rfl) (fun _ _ _ h => h) (Or.inl ⟨by rfl, ?_⟩) hHeld ?_
      rotate_left
      · intro wz hSw; (try dsimp only at hSw); go_simp; try with_reducible rfl
      (try simp only [Act.put, List.setIfInBounds_toArray, List.set_cons_zero, List.set_cons_succ])
      refine wpAnyH_take (i := 6) (v := .agg #[.slice A1 256 c1, .slice Al j cl]) (by simp only [List.getElem?_toArray, List.getElem?_cons_succ, List.getElem?_cons_zero]; rfl) (by kernel_rfl) (by kernel_rfl) (by kernel_rfl) (fun _ _ _ h => h) (yieldsIf_load_mid (by rfl) 91 (.tmp 5) rfl gx 0 (by rfl) [.slice A1 256 c1, .slice Al j cl] _ (fun _ hS => hS.2) Try.underlying91 rfl (by rw [size102]; rfl)) hHeld ?_
      (try simp only [Act.put, List.setIfInBounds_toArray, List.set_cons_zero, List.set_cons_succ])
      refine wpAnyH_take (i := 7) (v := ?_) (by simp only [List.getElem?_toArray, List.getElem?_cons_succ, List.getElem?_cons_zero]; rfl) (by kernel_rfl) (by kernel_rfl) (by kernel_rfl) (fun _ _ _ h => h) (Or.inl ⟨by rfl, ?_⟩) hHeld ?_
      rotate_left
      · intro wz hSw; (try dsimp only at hSw); go_simp; try with_reducible rfl
      (try simp only [Act.put, List.setIfInBounds_toArray, List.set_cons_zero, List.set_cons_succ])
      refine wpAnyH_done (by kernel_rfl) ?_ _
      simp only [lastQ]
      refine wp_store_mid 91 (.tmp 61) (.tmp 60) rfl b (k * 2) #[.slice A1 256 c1, .slice Al j cl] (by first | rfl | (go_simp; rfl)) (by first | rfl | (go_simp; rfl)) hth (by rw [size102]; rfl) (all_oneCell_toArray (two_one _ _ _ _ _ _)) ?_
      (try simp only [Act.put, List.setIfInBounds_toArray, List.set_cons_zero, List.set_cons_succ])
      have hfin := H.out.both (w1 := W.drew) hk HA.out hbd (HO.out.drew.weak (by have := H.out.blk.lt; have := H.out.gb; omega)) (by rw [show (flip (s.lies k) i).length = (s.lies k).length from by unfold flip; rw [List.length_set]]; exact (H.out.len k hk).1) (vA := Al) (vc := cl) (vv := vl) (ls := (s.vers k).map fun x => flip x i) (by rw [List.length_map, ← HVe.out]; exact HOl.out.drew.weak (by have := H.out.blk.lt; have := H.out.gb; omega)) (by have h := HSl.out.weak (b := base) (by have := H.out.blk.lt; have := H.out.gb; omega); rw [HVe.out, List.take_length] at h; exact h) (fun y hy => by obtain ⟨z, hz, rfl⟩ := List.mem_map.1 hy; rw [show (flip z i).length = z.length from by unfold flip; rw [List.length_set]]; exact (H.out.len k hk).2 z hz) (fun q hq => .inr (HOl.out.blk hq).1)
      rw [upd_rot, List.length_map, ← HVe.out] at hfin
      have HF := Lib.hid hfin
      clear hfin hth hXr bg' hHeld hbd hRd HX HB HO HOl HSl
      have hset : W.drew.setCells b (k * 2) [.slice A1 256 c1, .slice Al j cl] = (W.drew.setCell ⟨b, k * 2, none⟩ (.slice A1 256 c1)).setCell ⟨b, k * 2 + 1, none⟩ (.slice Al j cl) := rfl
      rw [← hset] at HF
      clear hset
      generalize W.drew.setCells b (k * 2) [.slice A1 256 c1, .slice Al j cl] = W2 at *
      go_wp2
      go_ret
      exact ⟨rfl, _, HF.out⟩
end Go.Proofs.Ytjndopmjlbhajaa
namespace Go.Proofs.Ytjndopmjlbhajaa
open Go.RowKit
set_option linter.unusedSimpArgs false
set_option linter.unusedVariables false

def pickX (t : Dsk) (ps : List Int) (i k : Nat) : List UInt8 := if i < ps.length ∧ 0 < pmod (ps.getD i 0) (t.vers k).length then (t.vers k).getD (pmod (ps.getD i 0) (t.vers k).length - 1) [] else t.lies k
theorem upd_power (t : Dsk) (ps : List Int) (i k : Nat) : updD t k (pickX t ps i k) [] = powerStep t ps i k := by
  unfold powerStep pickX
  split
  · exact dsk_ext rfl rfl rfl rfl rfl
  · refine dsk_ext rfl ?_ rfl rfl rfl
    funext j
    show (if j = k then t.lies k else t.lies j) = t.lies j
    by_cases e : j = k
    · subst e; simp
    · rw [if_neg e]
theorem pmod_ref (x : Int) (V : Nat) : (Int.tmod x ((V : Int) + 1) < 0 ∧ Int.tmod x ((V : Int) + 1) + (V : Int) + 1 = (pmod x V : Int)) ∨ (0 ≤ Int.tmod x ((V : Int) + 1) ∧ Int.tmod x ((V : Int) + 1) = (pmod x V : Int)) := by
  obtain ⟨h1, h2, h3⟩ := pmod_go x V
  have h4 := pmod_le x V
  by_cases h : Int.tmod x ((V : Int) + 1) < 0
  · left
    refine ⟨h, ?_⟩
    rw [Int.emod_eq_of_lt (by omega) (by omega)] at h3
    omega
  · right
    refine ⟨by omega, ?_⟩
    rw [Int.add_emod, Int.emod_self, Int.add_zero, Int.emod_emod_of_dvd _ (Int.dvd_refl _), Int.emod_eq_of_lt (by omega) (by omega)] at h3
    exact h3
theorem pickX_len {w : World} {base : Nat} {r : Rw} {t : Dsk} {ps : List Int} {i k : Nat} (h : Rk w base r t) (hk : k < t.n) : (pickX t ps i k).length = 256 := by
  unfold pickX
  split
  · next c =>
    have hp := pmod_le (ps.getD i 0) (t.vers k).length
    have hq : pmod (ps.getD i 0) (t.vers k).length - 1 < (t.vers k).length := by omega
    rw [List.getD_eq_getElem?_getD, List.getElem?_eq_getElem hq]
    exact (h.len k hk).2 _ (List.getElem_mem _)
  · exact (h.len k hk).1
theorem Rk.uncut {w : World} {base : Nat} {r : Rw} {s : Dsk} (h : Rk w base r s) : Rch w (w.setCell ⟨r.g, 1, none⟩ (.bool false)) base r r s.n { s with cut := false } := by
  have K : Kept (fun b => b = r.g) w (w.setCell ⟨r.g, 1, none⟩ (.bool false)) := ⟨rfl, rfl, rfl, by simp, fun b _ hn => Below.heap_setCell w _ _ b hn⟩
  exact h.reblk K h.left (h.blk.set_ 1 _)

set_option maxRecDepth 100000 in
set_option maxHeartbeats 16000000 in
theorem rpower_any {w : World} {base : Nat} {r : Rw} {s : Dsk} (h : Rk w base r s) (hv : ∀ k, k < s.n → (s.vers k).length < 549755813887) {lo m c : Nat} {A : Option Addr} {ps : List Int} (hp : Rd w lo A (iz ps)) (hl : ps.length = m) (hm : m ≤ 4611686018427387904)
    (hA : 0 < m → ∀ b, ablk A = some b → ¬ r.foot s.n b) :
    Calls Try.prog 47 #[.pointer (some ⟨r.g, 0, none⟩), .slice A m c] w fun e w' => e = .returned (.tuple #[]) ∧ ∃ r', Rch w w' base r r' s.n (powerD s ps) := by
  have bc := h.blk.cells
  have bf := h.blk.frees
  have HV := Lib.hid hv
  have HP := Lib.hid hp
  have HL := Lib.hid hl
  have HA := Lib.hid hA
  have h1 := h.uncut
  have D0 := rdirty_any h1.rk
  rw [dirty_cut] at D0
  have H1 := Lib.hid h1
  have HS := Lib.hid h.small
  clear h hv hp hl hA h1
  have D := Lib.hid D0
  clear D0
  go_enter Try.func47, Try.ntmps47
  go_upto_region 2 with ((with_reducible refine Calls.mono D.out ?_); rintro e w1 ⟨Ad, cd, rfl, ho, hb⟩)
  have hCh := H1.out.below hb (Nat.le_refl _)
  have hOff : ∀ b, ablk Ad = some b → ¬ r.foot s.n b := fun b e x => by
    have h1 := (ho.blk e).1
    have h2 := (H1.out.rk.foot_base b x).2
    omega
  have HCh := Lib.hid hCh
  have HO := Lib.hid ho
  have HOff := Lib.hid hOff
  obtain ⟨gd, hgd⟩ : ∃ gd, gd = r.g := ⟨_, rfl⟩
  have HG := Lib.hid hgd
  rw [← hgd]
  clear hCh ho hOff hb D H1 hgd bc bf
  obtain ⟨dl, hdl⟩ : ∃ dl, dl = dirtyL s := ⟨_, rfl⟩
  have hdn : dl.length ≤ 4096 := by
    rw [hdl]
    have h1 : (dirtyL s).length ≤ s.n := by
      have := List.length_filter_le (fun k => !(s.vers k).isEmpty) (List.range s.n)
      rw [List.length_range] at this
      exact this
    exact Nat.le_trans h1 HS.out
  rw [← hdl] at HO ⊢
  have HDL := Lib.hid hdl
  clear hdl
  go_wp2
  go_loopw [5, 6, 7] (fun s5 _ _ wr => ∃ (i : Nat) (r1 : Rw), i ≤ dl.length ∧ s5 = .int .i64 i ∧ Rch w wr base r r1 s.n (powerTo s ps i) ∧ (∃ lo, Own wr lo 3 1 Ad dl.length cd (iv dl)) ∧ ∀ b, ablk Ad = some b → ¬ r1.foot s.n b) (fun s5 _ _ _ => dl.length - (intOf s5).toNat)
  case atStart => exact ⟨0, r, by omega, rfl, HCh.out, ⟨_, HO.out⟩, HOff.out⟩
  case round =>
    clear HCh HO HOff
    obtain ⟨i, r1, hi, rfl, hCh, ⟨lo1, hO⟩, hOff⟩ := hrel
    have HCh := Lib.hid hCh
    have HO := Lib.hid hO
    have HOff := Lib.hid hOff
    clear hCh hO hOff
    by_cases hlt : i < dl.length
    · obtain ⟨k, hk⟩ : ∃ k, k = dl.getD i 0 := ⟨_, rfl⟩
      obtain ⟨gi, rfl, hgl, hgc⟩ := own_iv HO.out hlt
      rw [← hk] at hgc
      have hkn : k < s.n ∧ s.vers k ≠ [] := by rw [hk, HDL.out]; exact dirty_get (by rw [← HDL.out]; exact hlt)
      have hvk : (powerTo s ps i).vers k = s.vers k := powerTo_vers s ps i (fun j hj => by rw [hk, HDL.out]; exact dirty_inj s (by rw [← HDL.out]; exact hlt) hj)
      have hstep : powerTo s ps (i + 1) = powerStep (powerTo s ps i) ps i k := by rw [powerTo, hk, HDL.out]
      obtain ⟨t, ht⟩ : ∃ t, t = powerTo s ps i := ⟨_, rfl⟩
      have hCh := HCh.out
      rw [← ht] at hCh hvk hstep
      have htn : t.n = s.n := hCh.n_
      obtain ⟨V, hV⟩ : ∃ V, V = (t.vers k).length := ⟨_, rfl⟩
      have hV1 : 0 < V ∧ V < 549755813887 := by
        rw [hV, hvk]
        refine ⟨?_, HV.out k hkn.1⟩
        cases hx : s.vers k with
        | nil => exact absurd hx hkn.2
        | cons => simp
      have hkt : k < t.n := by rw [htn]; exact hkn.1
      obtain ⟨b, hA1, hrg⟩ := hCh.rk.range hkt
      rw [← hV] at hrg
      have bc := hCh.rk.blk.cell 0
      rw [hCh.g, ← HG.out, hA1, htn] at bc
      have bc' : wr.cell? ⟨gd, 0, none⟩ = some (.slice (some ⟨b, 0, none⟩) s.n r1.c) := bc
      have HCt := Lib.hid hCh
      have HStep := Lib.hid hstep
      have HVe := Lib.hid hV
      have hs := HS.out
      have HTN := Lib.hid htn
      have HA1 := Lib.hid hA1
      have HRg := Lib.hid hrg
      have hknI : (k : Int) < (s.n : Int) := by omega
      have hkl : k * 2 + 2 ≤ s.n * 2 := by omega
      have hiI : (i : Int) < (dl.length : Int) := by omega
      have hkw : IntKind.i64.wrap (k : Int) = (k : Int) := IntWalk.i64_in _ (by omega)
      have hiw : IntKind.i64.wrap (i : Int) = (i : Int) := IntWalk.i64_in _ (by omega)
      clear hk hkn hvk hstep ht hV htn hCh bc hA1 hrg HCh
      go_upto_region 5 with fail
      have hz102 := zero102
      have hrd := (World.rangeAt_drew wr b (k * 2) [.slice (r1.v k).lA 256 (r1.v k).lc, .slice (r1.v k).vA V (r1.v k).vc]).2 HRg.out
      have bcd : wr.drew.cell? ⟨gd, 0, none⟩ = some (.slice (some ⟨b, 0, none⟩) s.n r1.c) := bc'
      have gcd : wr.drew.cell? ⟨gi, i, none⟩ = some (.int .i64 (k : Int)) := hgc
      have hgl' : gi < wr.drew.heap.size := hgl
      refine wp_region_last (S := fun w' => w'.cell? ⟨gd, 0, none⟩ = some (.slice (some ⟨b, 0, none⟩) s.n r1.c) ∧ w'.cell? ⟨gi, i, none⟩ = some (.int .i64 (k : Int)) ∧ w'.rangeAt b (k * 2) [.slice (r1.v k).lA 256 (r1.v k).lc, .slice (r1.v k).vA V (r1.v k).vc]) 11 (by kernel_rfl) rfl (by kernel_rfl) ?_ ?_
      · exact ⟨bcd, gcd, hrd⟩
      intro hHeld
      simp only [List.take_succ_cons, List.take_zero]
      refine wpAnyH_take (i := 0) (v := ?_) (by simp only [List.getElem?_toArray, List.getElem?_cons_succ, List.getElem?_cons_zero]; rfl) (by kernel_rfl) (by kernel_rfl) (by kernel_rfl) (fun _ _ _ h => h) (Or.inl ⟨by rfl, ?_⟩) hHeld ?_
      rotate_left
      · intro wz hSw; (try dsimp only at hSw); go_simp; try with_reducible rfl
      (try simp only [Act.put, List.setIfInBounds_toArray, List.set_cons_zero, List.set_cons_succ])
      refine wpAnyH_take (i := 1) (v := ?_) (by simp only [List.getElem?_toArray, List.getElem?_cons_succ, List.getElem?_cons_zero]; rfl) (by kernel_rfl) (by kernel_rfl) (by kernel_rfl) (fun _ _ _ h => h) (Or.inl ⟨by rfl, ?_⟩) hHeld ?_
      rotate_left
      · intro wz hSw; (try dsimp only at hSw); go_simp; try with_reducible rfl
      (try simp only [Act.put, List.setIfInBounds_toArray, List.set_cons_zero, List.set_cons_succ])
      refine wpAnyH_take (i := 2) (v := ?_) (by simp only [List.getElem?_toArray, List.getElem?_cons_succ, List.getElem?_cons_zero]; rfl) (by kernel_rfl) (by kernel_rfl) (by kernel_rfl) (fun _ _ _ h => h) (Or.inl ⟨by rfl, ?_⟩) hHeld ?_
      rotate_left
      · intro wz hSw; (try dsimp only at hSw); go_simp; try with_reducible rfl
      (try simp only [Act.put, List.setIfInBounds_toArray, List.set_cons_zero, List.set_cons_succ])
      refine wpAnyH_take (i := 3) (v := ?_) (by simp only [List.getElem?_toArray, List.getElem?_cons_succ, List.getElem?_cons_zero]; rfl) (by kernel_rfl) (by kernel_rfl) (by kernel_rfl) (fun _ _ _ h => h) (Or.inl ⟨by rfl, ?_⟩) hHeld ?_
      rotate_left
      · intro wz hSw; (try dsimp only at hSw); go_simp; try with_reducible rfl
      (try simp only [Act.put, List.setIfInBounds_toArray, List.set_cons_zero, List.set_cons_succ])
      refine wpAnyH_take (i := 4) (v := ?_) (by simp only [List.getElem?_toArray, List.getElem?_cons_succ, List.getElem?_cons_zero]; rfl) (by kernel_rfl) (by kernel_rfl) (by kernel_rfl) (fun _ _ _ h => h) (Or.inl ⟨by rfl, ?_⟩) hHeld ?_
      rotate_left
      · intro wz hSw; (try dsimp only at hSw); go_simp; try with_reducible rfl
      (try simp only [Act.put, List.setIfInBounds_toArray, List.set_cons_zero, List.set_cons_succ])
      refine wpAnyH_take (i := 5) (v := ?_) (by simp only [List.getElem?_toArray, List.getElem?_cons_succ, List.getElem?_cons_zero]; rfl) (by kernel_rfl) (by kernel_rfl) (by kernel_rfl) (fun _ _ _ h => h) (Or.inl ⟨by rfl, ?_⟩) hHeld ?_
      rotate_left
      · intro wz hSw; (try dsimp only at hSw); go_simp; try with_reducible rfl
      (try simp only [Act.put, List.setIfInBounds_toArray, List.set_cons_zero, List.set_cons_succ])
      refine wpAnyH_take (i := 6) (v := ?_) (by simp only [List.getElem?_toArray, List.getElem?_cons_succ, List.getElem?_cons_zero]; rfl) (by kernel_rfl) (by kernel_rfl) (by kernel_rfl) (fun _ _ _ h => h) (Or.inl ⟨by rfl, ?_⟩) hHeld ?_
      rotate_left
      · intro wz hSw; (try dsimp only at hSw); go_simp; try with_reducible rfl
      (try simp only [Act.put, List.setIfInBounds_toArray, List.set_cons_zero, List.set_cons_succ])
      refine wpAnyH_take (i := 7) (v := ?_) (by simp only [List.getElem?_toArray, List.getElem?_cons_succ, List.getElem?_cons_zero]; rfl) (by kernel_rfl) (by kernel_rfl) (by kernel_rfl) (fun _ _ _ h => h) (Or.inl ⟨by rfl, ?_⟩) hHeld ?_
      rotate_left
      · intro wz hSw; (try dsimp only at hSw); go_simp; try with_reducible rfl
      (try simp only [Act.put, List.setIfInBounds_toArray, List.set_cons_zero, List.set_cons_succ])
      refine wpAnyH_take (i := 8) (v := ?_) (by simp only [List.getElem?_toArray, List.getElem?_cons_succ, List.getElem?_cons_zero]; rfl) (by kernel_rfl) (by kernel_rfl) (by kernel_rfl) (fun _ _ _ h => h) (Or.inl ⟨by rfl, ?_⟩) hHeld ?_
      rotate_left
      · intro wz hSw; (try dsimp only at hSw); go_simp; try with_reducible rfl
      (try simp only [Act.put, List.setIfInBounds_toArray, List.set_cons_zero, List.set_cons_succ])
      refine wpAnyH_take (i := 9) (v := .agg #[.slice (r1.v k).lA 256 (r1.v k).lc, .slice (r1.v k).vA V (r1.v k).vc]) (by simp only [List.getElem?_toArray, List.getElem?_cons_succ, List.getElem?_cons_zero]; rfl) (by kernel_rfl) (by kernel_rfl) (by kernel_rfl) (fun _ _ _ h => h) (yieldsIf_load_mid (by rfl) 91 (.tmp 27) rfl b (k * 2) (by rfl) [.slice (r1.v k).lA 256 (r1.v k).lc, .slice (r1.v k).vA V (r1.v k).vc] _ (fun _ hS => hS.2.2) Try.underlying91 rfl (by rw [size102]; rfl)) hHeld ?_
      (try simp only [Act.put, List.setIfInBounds_toArray, List.set_cons_zero, List.set_cons_succ])
      have hal : Below wr.drew.heap.size wr.drew (wr.drew.alloc (.cells #[.slice none 0 0, .slice none 0 0] 91)) := (Below.refl _ _).alloc (Nat.le_refl _) _
      have hbR : b < wr.drew.heap.size := (HCt.out.rk.row.blk (show ablk r1.A = some b by rw [HA1.out]; rfl)).2
      have hgdR : gd < wr.drew.heap.size := by have := HCt.out.rk.blk.lt; rw [HCt.out.g, ← HG.out] at this; exact this
      refine wpAnyH_ready (rs := [10]) (by kernel_rfl) (by simp) ?_
      refine AllReadyH.cons (by simp only [List.getElem?_toArray, List.getElem?_cons_succ, List.getElem?_cons_zero]; rfl) (fun KK hK => ?_) AllReadyH.nil
      go_simp
      refine hK.out _ _ ?_ (fun hHeld => ?_)
      · exact ⟨(hal.cell (p := ⟨gd, 0, none⟩) hgdR).trans bcd, (hal.cell (p := ⟨gi, i, none⟩) hgl').trans gcd, range_kept hrd (hal.block b hbR)⟩
      clear hK KK
      (try simp only [Act.put, List.setIfInBounds_toArray, List.set_cons_zero, List.set_cons_succ])
      have hX0 : Blk (wr.alloc (.cells #[.slice none 0 0, .slice none 0 0] 91)).drew wr.heap.size 91 [.slice none 0 0, .slice none 0 0] := Blk.new wr _ [.slice none 0 0, .slice none 0 0]
      have hB0 : Below wr.heap.size wr (wr.alloc (.cells #[.slice none 0 0, .slice none 0 0] 91)).drew := ((Below.refl _ _).alloc (Nat.le_refl _) _).drew
      have hth : (wr.alloc (.cells #[.slice none 0 0, .slice none 0 0] 91)).drew.there wr.heap.size 0 2 := fun q hq => by
        match q, hq with
        | 0, _ => exact ⟨by rw [Nat.add_zero, hX0.cell 0]; rfl, hX0.frozen 0⟩
        | 1, _ => exact ⟨by rw [Nat.zero_add, hX0.cell 1]; rfl, hX0.frozen 1⟩
      refine wpAnyH_done (by kernel_rfl) ?_ _
      simp only [lastQ]
      refine wp_store_mid 91 (.tmp 6) (.tmp 28) rfl wr.heap.size 0 #[.slice (r1.v k).lA 256 (r1.v k).lc, .slice (r1.v k).vA V (r1.v k).vc] (by first | rfl | (go_simp; rfl)) (by first | rfl | (go_simp; rfl)) hth (by rw [size102]; rfl) (all_oneCell_toArray (two_one _ _ _ _ _ _)) ?_
      (try simp only [Act.put, List.setIfInBounds_toArray, List.set_cons_zero, List.set_cons_succ])
      have hX1 := (hX0.set_ 0 (.slice (r1.v k).lA 256 (r1.v k).lc)).set_ 1 (.slice (r1.v k).vA V (r1.v k).vc)
      simp only [List.set_cons_zero, List.set_cons_succ] at hX1
      have hB1 := (hB0.setCell (show wr.heap.size ≤ (⟨wr.heap.size, 0, none⟩ : Addr).block from Nat.le_refl _) (.slice (r1.v k).lA 256 (r1.v k).lc)).setCell (show wr.heap.size ≤ (⟨wr.heap.size, 1, none⟩ : Addr).block from Nat.le_refl _) (.slice (r1.v k).vA V (r1.v k).vc)
      have hX : Blk _ wr.heap.size 91 _ := hX1
      have hB : Below wr.heap.size wr _ := hB1
      clear hX1 hB1 hX0 hB0 hth hHeld hal hrd bcd gcd bc'
      have hset : (wr.alloc (.cells #[.slice none 0 0, .slice none 0 0] 91)).drew.setCells wr.heap.size 0 [.slice (r1.v k).lA 256 (r1.v k).lc, .slice (r1.v k).vA V (r1.v k).vc] = ((wr.alloc (.cells #[.slice none 0 0, .slice none 0 0] 91)).drew.setCell ⟨wr.heap.size, 0, none⟩ (.slice (r1.v k).lA 256 (r1.v k).lc)).setCell ⟨wr.heap.size, 1, none⟩ (.slice (r1.v k).vA V (r1.v k).vc) := rfl
      rw [← hset] at hX hB
      clear hset
      generalize (wr.alloc (.cells #[.slice none 0 0, .slice none 0 0] 91)).drew.setCells wr.heap.size 0 [.slice (r1.v k).lA 256 (r1.v k).lc, .slice (r1.v k).vA V (r1.v k).vc] = U at *
      obtain ⟨gx, hgx⟩ : ∃ gx, gx = wr.heap.size := ⟨_, rfl⟩
      rw [← hgx] at hX ⊢
      have HGx := Lib.hid hgx
      have hR := HCt.out.rk.below hB (Nat.le_refl _)
      have bx := hX.cells
      have fx := hX.frees
      have HX := Lib.hid hX
      have HB := Lib.hid hB
      clear hX hB hgx
      by_cases him : i < m
      · obtain ⟨bp, op, rfl, _, hbp, hcp⟩ := HP.out (by rw [length_iz, HL.out]; omega)
        have hcp2 := hcp i (by rw [length_iz, HL.out]; exact him)
        obtain ⟨x, hx⟩ : ∃ x, x = ps.getD i 0 := ⟨_, rfl⟩
        have hxe : (iz ps)[i]'(by rw [length_iz, HL.out]; exact him) = .int .i64 x := by
          rw [hx]
          simp only [iz, List.getElem_map]
          rw [List.getD_eq_getElem?_getD, List.getElem?_eq_getElem (by rw [HL.out]; exact him)]
          rfl
        rw [hxe] at hcp2
        have hcw : wr.cell? ⟨bp, op + i, none⟩ = some (.int .i64 x) := (World.cell?_of_block (a := ⟨bp, op + i, none⟩) (HCt.out.K.block bp hbp (HA.out (by omega) bp rfl))).trans hcp2
        have hcx : U.cell? ⟨bp, op + i, none⟩ = some (.int .i64 x) := (HB.out.cell (p := ⟨bp, op + i, none⟩) (Nat.lt_of_lt_of_le hbp HCt.out.K.size)).trans hcw
        have y0 := pmod_ref x V
        obtain ⟨y1, y2, _⟩ := pmod_go x V
        have hple := pmod_le x V
        obtain ⟨y, hy⟩ : ∃ y, y = Int.tmod x ((V : Int) + 1) := ⟨_, rfl⟩
        obtain ⟨p, hp⟩ : ∃ p, p = pmod x V := ⟨_, rfl⟩
        rw [← hy] at y0 y1 y2
        rw [← hp] at y0 hple
        have ey : Int.tmod x ((V : Int) + 1) = y := hy.symm
        have hV2 : IntKind.i64.wrap ((V : Int) + 1) = (V : Int) + 1 := IntWalk.i64_in _ (by omega)
        have ey4 : IntKind.i64.wrap y = y := IntWalk.i64_in _ (by omega)
        have hV0 : ¬ ((V : Int) + 1 = 0) := by omega
        have hiM : (i : Int) < (m : Int) := by omega
        have HX0 := Lib.hid hx
        have HPE := Lib.hid hp
        clear hy hxe hcp2 hcp hx hp hcw
        go_upto_region 7 with fail
        go_quiet (fail)
        have hXd : Blk (U.drewN nq) gx 91 _ := HX.out
        have hBd := below_drewN HB.out nq
        clear bx fx hR HX HB hcx
        generalize U.drewN nq = U2 at *
        have bx := hXd.cells
        have fx := hXd.frees
        have hR := HCt.out.rk.below hBd (Nat.le_refl _)
        have HX := Lib.hid hXd
        have HB := Lib.hid hBd
        clear hXd hBd
        rcases y0 with ⟨ylt, yeq⟩ | ⟨yge, yeq⟩
        · have ynlt : y < 0 := ylt
          have e5 : IntKind.i64.wrap (y + (V : Int)) = y + (V : Int) := IntWalk.i64_in _ (by omega)
          have e6 : IntKind.i64.wrap (y + (V : Int) + 1) = (p : Int) := by rw [yeq]; exact IntWalk.i64_in _ (by omega)
          rcases Nat.eq_zero_or_pos p with h0 | h0
          · exact absurd h0 (by omega)
          · obtain ⟨q, rfl⟩ : ∃ q, p = q + 1 := ⟨p - 1, by omega⟩
            obtain ⟨bv_, Ax, cx, hvA, hvc, hvo⟩ := hR.verAt hkt (q := q) (by rw [← HVe.out]; omega)
            obtain ⟨bv2, Ax2, cx2, hvA2, hvc2, hvo2⟩ := HCt.out.rk.verAt hkt (q := q) (by rw [← HVe.out]; omega)
            have hbv : bv_ = bv2 := by rw [hvA] at hvA2; injection hvA2 with e; injection e
            subst hbv
            have hbl : bv_ < wr.heap.size := ((HCt.out.rk.vers k hkt).1.blk (show ablk (r1.v k).vA = some bv_ by rw [hvA]; rfl)).2
            have hce := (HB.out.cell (p := ⟨bv_, q, none⟩) hbl).symm.trans hvc
            rw [hvc2] at hce
            injection hce with hce
            injection hce with hce1 _ hce2
            subst hce1 hce2
            have hOx : Hid (Own wr base 5 1 Ax2 256 cx2 (bvs (pickX t ps i k))) := Lib.hid (by
              unfold pickX
              rw [← HX0.out, ← HVe.out, ← HPE.out, if_pos ⟨by rw [HL.out]; exact him, h0⟩, Nat.add_sub_cancel]
              exact hvo2)
            rw [hvA] at bx HX
            have hqV : (q : Int) < (V : Int) := by omega
            have eq1 : IntKind.i64.wrap (((q + 1 : Nat) : Int) - 1) = (q : Int) := by rw [IntWalk.i64_in _ (by omega)]; omega
            have eq2 : ((q + 1 : Nat) : Int) - 1 = (q : Int) := by omega
            have eq3 : IntKind.i64.wrap (q : Int) = (q : Int) := IntWalk.i64_in _ (by omega)
            clear hvA hvA2 hvc2 hvo hvo2 hbl
            generalize hAq : Ax2 = Ax at *
            generalize hcq : cx2 = cx at *
            clear hAq hcq
            go_upto_region 13 with fail
            have hX2 : Blk ((U2.setCell ⟨gx, 0, none⟩ (.slice Ax 256 cx)).setCell ⟨gx, 1, none⟩ (.slice none 0 0)) gx 91 [.slice Ax 256 cx, .slice none 0 0] := (HX.out.set_ 0 (.slice Ax 256 cx)).set_ 1 (.slice none 0 0)
            have hB2 : Below wr.heap.size wr ((U2.setCell ⟨gx, 0, none⟩ (.slice Ax 256 cx)).setCell ⟨gx, 1, none⟩ (.slice none 0 0)) := (HB.out.setCell (show wr.heap.size ≤ (⟨gx, 0, none⟩ : Addr).block from Nat.le_of_eq HGx.out.symm) (.slice Ax 256 cx)).setCell (show wr.heap.size ≤ (⟨gx, 1, none⟩ : Addr).block from Nat.le_of_eq HGx.out.symm) (.slice none 0 0)
            refine wp_world (fun W => Blk W gx 91 [.slice Ax 256 cx, .slice none 0 0] ∧ Below wr.heap.size wr W) ⟨hX2, hB2⟩ ?_
            clear hX2 hB2 HX HB bx fx hR
            rintro W ⟨hX, hB⟩
            have hbd : Below wr.heap.size wr W.drew := hB.drew
            have hRd := HCt.out.rk.below hbd (Nat.le_refl _)
            have bg := hRd.blk.cell 0
            rw [HA1.out, HCt.out.g, ← HG.out, HTN.out] at bg
            have hXr : W.drew.rangeAt gx 0 [.slice Ax 256 cx, .slice none 0 0] := fun q v hv => by
              rw [Nat.zero_add, show W.drew.cell? ⟨gx, q, none⟩ = _ from hX.cell q]; exact hv
            have hcells := hRd.cell hkt
            have hth : W.drew.there b (k * 2) 2 := fun q hq => by
              obtain ⟨b2, e2, x1, x2, x3, x4⟩ := hcells
              rw [HA1.out] at e2
              injection e2 with e2
              injection e2 with e2
              subst e2
              match q, hq with
              | 0, _ => exact ⟨by rw [Nat.add_zero, x1]; rfl, x3⟩
              | 1, _ => exact ⟨by rw [x2]; rfl, x4⟩
            have bg' : W.drew.cell? ⟨gd, 0, none⟩ = some (.slice (some ⟨b, 0, none⟩) s.n r1.c) := bg
            have gi' : W.drew.cell? ⟨gi, i, none⟩ = some (.int .i64 (k : Int)) := (hbd.cell (p := ⟨gi, i, none⟩) hgl).trans hgc
            have hgl2 : gi < W.drew.heap.size := by have := hbd.size; omega
            clear bg hcells
            refine wp_region_last (S := fun w' => w'.cell? ⟨gd, 0, none⟩ = some (.slice (some ⟨b, 0, none⟩) s.n r1.c) ∧ w'.cell? ⟨gi, i, none⟩ = some (.int .i64 (k : Int)) ∧ w'.rangeAt gx 0 [.slice Ax 256 cx, .slice none 0 0]) 10 (by kernel_rfl) rfl (by kernel_rfl) ?_ ?_
            · exact ⟨bg', gi', hXr⟩
            intro hHeld
            simp only [List.take_succ_cons, List.take_zero]
            refine wpAnyH_take (i := 0) (v := ?_) (by simp only [List.getElem?_toArray, List.getElem?_cons_succ, List.getElem?_cons_zero]; rfl) (by kernel_rfl) (by kernel_rfl) (by kernel_rfl) (fun _ _ _ h => h) (Or.inl ⟨by rfl, ?_⟩) hHeld ?_
            rotate_left
            · intro wz hSw; (try dsimp only at hSw); go_simp; try with_reducible rfl
            (try simp only [Act.put, List.setIfInBounds_toArray, List.set_cons_zero, List.set_cons_succ])
            refine wpAnyH_take (i := 1) (v := ?_) (by simp only [List.getElem?_toArray, List.getElem?_cons_succ, List.getElem?_cons_zero]; rfl) (by kernel_rfl) (by kernel_rfl) (by kernel_rfl) (fun _ _ _ h => h) (Or.inl ⟨by rfl, ?_⟩) hHeld ?_
            rotate_left
            · intro wz hSw; (try dsimp only at hSw); go_simp; try with_reducible rfl
            (try simp only [Act.put, List.setIfInBounds_toArray, List.set_cons_zero, List.set_cons_succ])
            refine wpAnyH_take (i := 2) (v := ?_) (by simp only [List.getElem?_toArray, List.getElem?_cons_succ, List.getElem?_cons_zero]; rfl) (by kernel_rfl) (by kernel_rfl) (by kernel_rfl) (fun _ _ _ h => h) (Or.inl ⟨by rfl, ?_⟩) hHeld ?_
            rotate_left
            · intro wz hSw; (try dsimp only at hSw); go_simp; try with_reducible rfl
            (try simp only [Act.put, List.setIfInBounds_toArray, List.set_cons_zero, List.set_cons_succ])
            refine wpAnyH_take (i := 3) (v := ?_) (by simp only [List.getElem?_toArray, List.getElem?_cons_succ, List.getElem?_cons_zero]; rfl) (by kernel_rfl) (by kernel_rfl) (by kernel_rfl) (fun _ _ _ h => h) (Or.inl ⟨by rfl, ?_⟩) hHeld ?_
            rotate_left
            · intro wz hSw; (try dsimp only at hSw); go_simp; try with_reducible rfl
            (try simp only [Act.put, List.setIfInBounds_toArray, List.set_cons_zero, List.set_cons_succ])
            refine wpAnyH_take (i := 4) (v := ?_) (by simp only [List.getElem?_toArray, List.getElem?_cons_succ, List.getElem?_cons_zero]; rfl) (by kernel_rfl) (by kernel_rfl) (by kernel_rfl) (fun _ _ _ h => h) (Or.inl ⟨by rfl, ?_⟩) hHeld ?_
            rotate_left
            · intro wz hSw; (try dsimp only at hSw); go_simp; try with_reducible rfl
            (try simp only [Act.put, List.setIfInBounds_toArray, List.set_cons_zero, List.set_cons_succ])
            refine wpAnyH_take (i := 5) (v := ?_) (by simp only [List.getElem?_toArray, List.getElem?_cons_succ, List.getElem?_cons_zero]; rfl) (by kernel_rfl) (by kernel_rfl) (by kernel_rfl) (fun _ _ _ h => h) (Or.inl ⟨by rfl, ?_⟩) hHeld ?_
            rotate_left
            · intro wz hSw; (try dsimp only at hSw); go_simp; try with_reducible rfl
            (try simp only [Act.put, List.setIfInBounds_toArray, List.set_cons_zero, List.set_cons_succ])
            refine wpAnyH_take (i := 6) (v := ?_) (by simp only [List.getElem?_toArray, List.getElem?_cons_succ, List.getElem?_cons_zero]; rfl) (by kernel_rfl) (by kernel_rfl) (by kernel_rfl) (fun _ _ _ h => h) (Or.inl ⟨by rfl, ?_⟩) hHeld ?_
            rotate_left
            · intro wz hSw; (try dsimp only at hSw); go_simp; try with_reducible rfl
            (try simp only [Act.put, List.setIfInBounds_toArray, List.set_cons_zero, List.set_cons_succ])
            refine wpAnyH_take (i := 7) (v := ?_) (by simp only [List.getElem?_toArray, List.getElem?_cons_succ, List.getElem?_cons_zero]; rfl) (by kernel_rfl) (by kernel_rfl) (by kernel_rfl) (fun _ _ _ h => h) (Or.inl ⟨by rfl, ?_⟩) hHeld ?_
            rotate_left
            · intro wz hSw; (try dsimp only at hSw); go_simp; try with_reducible rfl
            (try simp only [Act.put, List.setIfInBounds_toArray, List.set_cons_zero, List.set_cons_succ])
            refine wpAnyH_take (i := 8) (v := .agg #[.slice Ax 256 cx, .slice none 0 0]) (by simp only [List.getElem?_toArray, List.getElem?_cons_succ, List.getElem?_cons_zero]; rfl) (by kernel_rfl) (by kernel_rfl) (by kernel_rfl) (fun _ _ _ h => h) (yieldsIf_load_mid (by rfl) 91 (.tmp 6) rfl gx 0 (by rfl) [.slice Ax 256 cx, .slice none 0 0] _ (fun _ hS => hS.2.2) Try.underlying91 rfl (by rw [size102]; rfl)) hHeld ?_
            (try simp only [Act.put, List.setIfInBounds_toArray, List.set_cons_zero, List.set_cons_succ])
            refine wpAnyH_take (i := 9) (v := ?_) (by simp only [List.getElem?_toArray, List.getElem?_cons_succ, List.getElem?_cons_zero]; rfl) (by kernel_rfl) (by kernel_rfl) (by kernel_rfl) (fun _ _ _ h => h) (Or.inl ⟨by rfl, ?_⟩) hHeld ?_
            rotate_left
            · intro wz hSw; (try dsimp only at hSw); go_simp; try with_reducible rfl
            (try simp only [Act.put, List.setIfInBounds_toArray, List.set_cons_zero, List.set_cons_succ])
            refine wpAnyH_done (by kernel_rfl) ?_ _
            simp only [lastQ]
            refine wp_store_mid 91 (.tmp 69) (.tmp 68) rfl b (k * 2) #[.slice Ax 256 cx, .slice none 0 0] (by first | rfl | (go_simp; rfl)) (by first | rfl | (go_simp; rfl)) hth (by rw [size102]; rfl) (all_oneCell_toArray (two_one _ _ _ _ _ _)) ?_
            (try simp only [Act.put, List.setIfInBounds_toArray, List.set_cons_zero, List.set_cons_succ])
            have hfin := HCt.out.rk.both (w1 := W.drew) hkt HA1.out hbd (hOx.out.below hbd (Nat.le_refl _)) (pickX_len HCt.out.rk hkt) (vA := none) (vc := 0) (vv := []) (ls := []) (Own.nil_ _ _ _ _) .nil (fun y hy => by cases hy) (fun q hq => by cases hq)
            rw [upd_power, ← HStep.out, HTN.out] at hfin
            have hOw := own_kept HO.out hfin.K (fun b e => HOff.out b e)
            have hOf : ∀ y, ablk (some ⟨gi, 0, none⟩ : Option Addr) = some y → ¬ (r1.put k ⟨Ax, cx, none, 0, []⟩).foot s.n y := fun y e z => by
              rcases hfin.foot y z with z | z
              · exact HOff.out y e z
              · have := (HO.out.blk e).2; omega
            have hc2 := HCt.out.trans hfin
            have HF := Lib.hid hc2
            have HOw := Lib.hid hOw
            have HOf := Lib.hid hOf
            clear hfin hc2 hOw hOf hth hXr bg' gi' hHeld hbd hRd hX hB
            have hset : W.drew.setCells b (k * 2) [.slice Ax 256 cx, .slice none 0 0] = (W.drew.setCell ⟨b, k * 2, none⟩ (.slice Ax 256 cx)).setCell ⟨b, k * 2 + 1, none⟩ (.slice none 0 0) := rfl
            simp only [List.length_nil] at HF HOw
            rw [← hset] at HF HOw
            clear hset
            generalize W.drew.setCells b (k * 2) [.slice Ax 256 cx, .slice none 0 0] = W2 at *
            go_wp2
            go_roundw
            case rel => exact ⟨i + 1, _, by omega, by norm_cast, HF.out, ⟨lo1, HOw.out⟩, HOf.out⟩
            case measure => simp only [intOf]; omega
        · subst yeq
          rcases Nat.eq_zero_or_pos p with h0 | h0
          · subst h0
            obtain ⟨Ax, hAx⟩ : ∃ Ax, Ax = (r1.v k).lA := ⟨_, rfl⟩
            obtain ⟨cx, hcx⟩ : ∃ cx, cx = (r1.v k).lc := ⟨_, rfl⟩
            have hOx : Hid (Own wr base 5 1 Ax 256 cx (bvs (pickX t ps i k))) := Lib.hid (by
              unfold pickX
              rw [if_neg (by rw [← HX0.out, ← HVe.out, ← HPE.out]; omega), hAx, hcx]
              exact HCt.out.rk.lies k hkt)
            rw [← hAx, ← hcx] at bx HX
            clear hAx hcx
            go_upto_region 13 with fail
            have hX2 : Blk (U2.setCell ⟨gx, 1, none⟩ (.slice none 0 0)) gx 91 [.slice Ax 256 cx, .slice none 0 0] := HX.out.set_ 1 _
            have hB2 : Below wr.heap.size wr (U2.setCell ⟨gx, 1, none⟩ (.slice none 0 0)) := (HB.out).setCell (show wr.heap.size ≤ (⟨gx, 1, none⟩ : Addr).block from Nat.le_of_eq HGx.out.symm) (.slice none 0 0)
            refine wp_world (fun W => Blk W gx 91 [.slice Ax 256 cx, .slice none 0 0] ∧ Below wr.heap.size wr W) ⟨hX2, hB2⟩ ?_
            clear hX2 hB2 HX HB bx fx hR
            rintro W ⟨hX, hB⟩
            have hbd : Below wr.heap.size wr W.drew := hB.drew
            have hRd := HCt.out.rk.below hbd (Nat.le_refl _)
            have bg := hRd.blk.cell 0
            rw [HA1.out, HCt.out.g, ← HG.out, HTN.out] at bg
            have hXr : W.drew.rangeAt gx 0 [.slice Ax 256 cx, .slice none 0 0] := fun q v hv => by
              rw [Nat.zero_add, show W.drew.cell? ⟨gx, q, none⟩ = _ from hX.cell q]; exact hv
            have hcells := hRd.cell hkt
            have hth : W.drew.there b (k * 2) 2 := fun q hq => by
              obtain ⟨b2, e2, x1, x2, x3, x4⟩ := hcells
              rw [HA1.out] at e2
              injection e2 with e2
              injection e2 with e2
              subst e2
              match q, hq with
              | 0, _ => exact ⟨by rw [Nat.add_zero, x1]; rfl, x3⟩
              | 1, _ => exact ⟨by rw [x2]; rfl, x4⟩
            have bg' : W.drew.cell? ⟨gd, 0, none⟩ = some (.slice (some ⟨b, 0, none⟩) s.n r1.c) := bg
            have gi' : W.drew.cell? ⟨gi, i, none⟩ = some (.int .i64 (k : Int)) := (hbd.cell (p := ⟨gi, i, none⟩) hgl).trans hgc
            have hgl2 : gi < W.drew.heap.size := by have := hbd.size; omega
            clear bg hcells
            refine wp_region_last (S := fun w' => w'.cell? ⟨gd, 0, none⟩ = some (.slice (some ⟨b, 0, none⟩) s.n r1.c) ∧ w'.cell? ⟨gi, i, none⟩ = some (.int .i64 (k : Int)) ∧ w'.rangeAt gx 0 [.slice Ax 256 cx, .slice none 0 0]) 10 (by kernel_rfl) rfl (by kernel_rfl) ?_ ?_
            · exact ⟨bg', gi', hXr⟩
            intro hHeld
            simp only [List.take_succ_cons, List.take_zero]
            refine wpAnyH_take (i := 0) (v := ?_) (by simp only [List.getElem?_toArray, List.getElem?_cons_succ, List.getElem?_cons_zero]; rfl) (by kernel_rfl) (by kernel_rfl) (by kernel_rfl) (fun _ _ _ h => h) (Or.inl ⟨by rfl, ?_⟩) hHeld ?_
            rotate_left
            · intro wz hSw; (try dsimp only at hSw); go_simp; try with_reducible rfl
            (try simp only [Act.put, List.setIfInBounds_toArray, List.set_cons_zero, List.set_cons_succ])
            refine wpAnyH_take (i := 1) (v := ?_) (by simp only [List.getElem?_toArray, List.getElem?_cons_succ, List.getElem?_cons_zero]; rfl) (by kernel_rfl) (by kernel_rfl) (by kernel_rfl) (fun _ _ _ h => h) (Or.inl ⟨by rfl, ?_⟩) hHeld ?_
            rotate_left
            · intro wz hSw; (try dsimp only at hSw); go_simp; try with_reducible rfl
            (try simp only [Act.put, List.setIfInBounds_toArray, List.set_cons_zero, List.set_cons_succ])
            refine wpAnyH_take (i := 2) (v := ?_) (by simp only [List.getElem?_toArray, List.getElem?_cons_succ, List.getElem?_cons_zero]; rfl) (by kernel_rfl) (by kernel_rfl) (by kernel_rfl) (fun _ _ _ h => h) (Or.inl ⟨by rfl, ?_⟩) hHeld ?_
            rotate_left
            · intro wz hSw; (try dsimp only at hSw); go_simp; try with_reducible rfl
            (try simp only [Act.put, List.setIfInBounds_toArray, List.set_cons_zero, List.set_cons_succ])
            refine wpAnyH_take (i := 3) (v := ?_) (by simp only [List.getElem?_toArray, List.getElem?_cons_succ, List.getElem?_cons_zero]; rfl) (by kernel_rfl) (by kernel_rfl) (by kernel_rfl) (fun _ _ _ h => h) (Or.inl ⟨by rfl, ?_⟩) hHeld ?_
            rotate_left
            · intro wz hSw; (try dsimp only at hSw); go_simp; try with_reducible rfl
            (try simp only [Act.put, List.setIfInBounds_toArray, List.set_cons_zero, List.set_cons_succ])
            refine wpAnyH_take (i := 4) (v := ?_) (by simp only [List.getElem?_toArray, List.getElem?_cons_succ, List.getElem?_cons_zero]; rfl) (by kernel_rfl) (by kernel_rfl) (by kernel_rfl) (fun _ _ _ h => h) (Or.inl ⟨by rfl, ?_⟩) hHeld ?_
            rotate_left
            · intro wz hSw; (try dsimp only at hSw); go_simp; try with_reducible rfl
            (try simp only [Act.put, List.setIfInBounds_toArray, List.set_cons_zero, List.set_cons_succ])
            refine wpAnyH_take (i := 5) (v := ?_) (by simp only [List.getElem?_toArray, List.getElem?_cons_succ, List.getElem?_cons_zero]; rfl) (by kernel_rfl) (by kernel_rfl) (by kernel_rfl) (fun _ _ _ h => h) (Or.inl ⟨by rfl, ?_⟩) hHeld ?_
            rotate_left
            · intro wz hSw; (try dsimp only at hSw); go_simp; try with_reducible rfl
            (try simp only [Act.put, List.setIfInBounds_toArray, List.set_cons_zero, List.set_cons_succ])
            refine wpAnyH_take (i := 6) (v := ?_) (by simp only [List.getElem?_toArray, List.getElem?_cons_succ, List.getElem?_cons_zero]; rfl) (by kernel_rfl) (by kernel_rfl) (by kernel_rfl) (fun _ _ _ h => h) (Or.inl ⟨by rfl, ?_⟩) hHeld ?_
            rotate_left
            · intro wz hSw; (try dsimp only at hSw); go_simp; try with_reducible rfl
            (try simp only [Act.put, List.setIfInBounds_toArray, List.set_cons_zero, List.set_cons_succ])
            refine wpAnyH_take (i := 7) (v := ?_) (by simp only [List.getElem?_toArray, List.getElem?_cons_succ, List.getElem?_cons_zero]; rfl) (by kernel_rfl) (by kernel_rfl) (by kernel_rfl) (fun _ _ _ h => h) (Or.inl ⟨by rfl, ?_⟩) hHeld ?_
            rotate_left
            · intro wz hSw; (try dsimp only at hSw); go_simp; try with_reducible rfl
            (try simp only [Act.put, List.setIfInBounds_toArray, List.set_cons_zero, List.set_cons_succ])
            refine wpAnyH_take (i := 8) (v := .agg #[.slice Ax 256 cx, .slice none 0 0]) (by simp only [List.getElem?_toArray, List.getElem?_cons_succ, List.getElem?_cons_zero]; rfl) (by kernel_rfl) (by kernel_rfl) (by kernel_rfl) (fun _ _ _ h => h) (yieldsIf_load_mid (by rfl) 91 (.tmp 6) rfl gx 0 (by rfl) [.slice Ax 256 cx, .slice none 0 0] _ (fun _ hS => hS.2.2) Try.underlying91 rfl (by rw [size102]; rfl)) hHeld ?_
            (try simp only [Act.put, List.setIfInBounds_toArray, List.set_cons_zero, List.set_cons_succ])
            refine wpAnyH_take (i := 9) (v := ?_) (by simp only [List.getElem?_toArray, List.getElem?_cons_succ, List.getElem?_cons_zero]; rfl) (by kernel_rfl) (by kernel_rfl) (by kernel_rfl) (fun _ _ _ h => h) (Or.inl ⟨by rfl, ?_⟩) hHeld ?_
            rotate_left
            · intro wz hSw; (try dsimp only at hSw); go_simp; try with_reducible rfl
            (try simp only [Act.put, List.setIfInBounds_toArray, List.set_cons_zero, List.set_cons_succ])
            refine wpAnyH_done (by kernel_rfl) ?_ _
            simp only [lastQ]
            refine wp_store_mid 91 (.tmp 69) (.tmp 68) rfl b (k * 2) #[.slice Ax 256 cx, .slice none 0 0] (by first | rfl | (go_simp; rfl)) (by first | rfl | (go_simp; rfl)) hth (by rw [size102]; rfl) (all_oneCell_toArray (two_one _ _ _ _ _ _)) ?_
            (try simp only [Act.put, List.setIfInBounds_toArray, List.set_cons_zero, List.set_cons_succ])
            have hfin := HCt.out.rk.both (w1 := W.drew) hkt HA1.out hbd (hOx.out.below hbd (Nat.le_refl _)) (pickX_len HCt.out.rk hkt) (vA := none) (vc := 0) (vv := []) (ls := []) (Own.nil_ _ _ _ _) .nil (fun y hy => by cases hy) (fun q hq => by cases hq)
            rw [upd_power, ← HStep.out, HTN.out] at hfin
            have hOw := own_kept HO.out hfin.K (fun b e => HOff.out b e)
            have hOf : ∀ y, ablk (some ⟨gi, 0, none⟩ : Option Addr) = some y → ¬ (r1.put k ⟨Ax, cx, none, 0, []⟩).foot s.n y := fun y e z => by
              rcases hfin.foot y z with z | z
              · exact HOff.out y e z
              · have := (HO.out.blk e).2; omega
            have hc2 := HCt.out.trans hfin
            have HF := Lib.hid hc2
            have HOw := Lib.hid hOw
            have HOf := Lib.hid hOf
            clear hfin hc2 hOw hOf hth hXr bg' gi' hHeld hbd hRd hX hB
            have hset : W.drew.setCells b (k * 2) [.slice Ax 256 cx, .slice none 0 0] = (W.drew.setCell ⟨b, k * 2, none⟩ (.slice Ax 256 cx)).setCell ⟨b, k * 2 + 1, none⟩ (.slice none 0 0) := rfl
            simp only [List.length_nil] at HF HOw
            rw [← hset] at HF HOw
            clear hset
            generalize W.drew.setCells b (k * 2) [.slice Ax 256 cx, .slice none 0 0] = W2 at *
            go_wp2
            go_roundw
            case rel => exact ⟨i + 1, _, by omega, by norm_cast, HF.out, ⟨lo1, HOw.out⟩, HOf.out⟩
            case measure => simp only [intOf]; omega
          · obtain ⟨q, rfl⟩ : ∃ q, p = q + 1 := ⟨p - 1, by omega⟩
            obtain ⟨bv_, Ax, cx, hvA, hvc, hvo⟩ := hR.verAt hkt (q := q) (by rw [← HVe.out]; omega)
            obtain ⟨bv2, Ax2, cx2, hvA2, hvc2, hvo2⟩ := HCt.out.rk.verAt hkt (q := q) (by rw [← HVe.out]; omega)
            have hbv : bv_ = bv2 := by rw [hvA] at hvA2; injection hvA2 with e; injection e
            subst hbv
            have hbl : bv_ < wr.heap.size := ((HCt.out.rk.vers k hkt).1.blk (show ablk (r1.v k).vA = some bv_ by rw [hvA]; rfl)).2
            have hce := (HB.out.cell (p := ⟨bv_, q, none⟩) hbl).symm.trans hvc
            rw [hvc2] at hce
            injection hce with hce
            injection hce with hce1 _ hce2
            subst hce1 hce2
            have hOx : Hid (Own wr base 5 1 Ax2 256 cx2 (bvs (pickX t ps i k))) := Lib.hid (by
              unfold pickX
              rw [← HX0.out, ← HVe.out, ← HPE.out, if_pos ⟨by rw [HL.out]; exact him, h0⟩, Nat.add_sub_cancel]
              exact hvo2)
            rw [hvA] at bx HX
            have hqV : (q : Int) < (V : Int) := by omega
            have eq1 : IntKind.i64.wrap (((q + 1 : Nat) : Int) - 1) = (q : Int) := by rw [IntWalk.i64_in _ (by omega)]; omega
            have eq2 : ((q + 1 : Nat) : Int) - 1 = (q : Int) := by omega
            have eq3 : IntKind.i64.wrap (q : Int) = (q : Int) := IntWalk.i64_in _ (by omega)
            clear hvA hvA2 hvc2 hvo hvo2 hbl
            generalize hAq : Ax2 = Ax at *
            generalize hcq : cx2 = cx at *
            clear hAq hcq
            go_upto_region 13 with fail
            have hX2 : Blk ((U2.setCell ⟨gx, 0, none⟩ (.slice Ax 256 cx)).setCell ⟨gx, 1, none⟩ (.slice none 0 0)) gx 91 [.slice Ax 256 cx, .slice none 0 0] := (HX.out.set_ 0 (.slice Ax 256 cx)).set_ 1 (.slice none 0 0)
            have hB2 : Below wr.heap.size wr ((U2.setCell ⟨gx, 0, none⟩ (.slice Ax 256 cx)).setCell ⟨gx, 1, none⟩ (.slice none 0 0)) := (HB.out.setCell (show wr.heap.size ≤ (⟨gx, 0, none⟩ : Addr).block from Nat.le_of_eq HGx.out.symm) (.slice Ax 256 cx)).setCell (show wr.heap.size ≤ (⟨gx, 1, none⟩ : Addr).block from Nat.le_of_eq HGx.out.symm) (.slice none 0 0)
            refine wp_world (fun W => Blk W gx 91 [.slice Ax 256 cx, .slice none 0 0] ∧ Below wr.heap.size wr W) ⟨hX2, hB2⟩ ?_
            clear hX2 hB2 HX HB bx fx hR
            rintro W ⟨hX, hB⟩
            have hbd : Below wr.heap.size wr W.drew := hB.drew
            have hRd := HCt.out.rk.below hbd (Nat.le_refl _)
            have bg := hRd.blk.cell 0
            rw [HA1.out, HCt.out.g, ← HG.out, HTN.out] at bg
            have hXr : W.drew.rangeAt gx 0 [.slice Ax 256 cx, .slice none 0 0] := fun q v hv => by
              rw [Nat.zero_add, show W.drew.cell? ⟨gx, q, none⟩ = _ from hX.cell q]; exact hv
            have hcells := hRd.cell hkt
            have hth : W.drew.there b (k * 2) 2 := fun q hq => by
              obtain ⟨b2, e2, x1, x2, x3, x4⟩ := hcells
              rw [HA1.out] at e2
              injection e2 with e2
              injection e2 with e2
              subst e2
              match q, hq with
              | 0, _ => exact ⟨by rw [Nat.add_zero, x1]; rfl, x3⟩
              | 1, _ => exact ⟨by rw [x2]; rfl, x4⟩
            have bg' : W.drew.cell? ⟨gd, 0, none⟩ = some (.slice (some ⟨b, 0, none⟩) s.n r1.c) := bg
            have gi' : W.drew.cell? ⟨gi, i, none⟩ = some (.int .i64 (k : Int)) := (hbd.cell (p := ⟨gi, i, none⟩) hgl).trans hgc
            have hgl2 : gi < W.drew.heap.size := by have := hbd.size; omega
            clear bg hcells
            refine wp_region_last (S := fun w' => w'.cell? ⟨gd, 0, none⟩ = some (.slice (some ⟨b, 0, none⟩) s.n r1.c) ∧ w'.cell? ⟨gi, i, none⟩ = some (.int .i64 (k : Int)) ∧ w'.rangeAt gx 0 [.slice Ax 256 cx, .slice none 0 0]) 10 (by kernel_rfl) rfl (by kernel_rfl) ?_ ?_
            · exact ⟨bg', gi', hXr⟩
            intro hHeld
            simp only [List.take_succ_cons, List.take_zero]
            refine wpAnyH_take (i := 0) (v := ?_) (by simp only [List.getElem?_toArray, List.getElem?_cons_succ, List.getElem?_cons_zero]; rfl) (by kernel_rfl) (by kernel_rfl) (by kernel_rfl) (fun _ _ _ h => h) (Or.inl ⟨by rfl, ?_⟩) hHeld ?_
            rotate_left
            · intro wz hSw; (try dsimp only at hSw); go_simp; try with_reducible rfl
            (try simp only [Act.put, List.setIfInBounds_toArray, List.set_cons_zero, List.set_cons_succ])
            refine wpAnyH_take (i := 1) (v := ?_) (by simp only [List.getElem?_toArray, List.getElem?_cons_succ, List.getElem?_cons_zero]; rfl) (by kernel_rfl) (by kernel_rfl) (by kernel_rfl) (fun _ _ _ h => h) (Or.inl ⟨by rfl, ?_⟩) hHeld ?_
            rotate_left
            · intro wz hSw; (try dsimp only at hSw); go_simp; try with_reducible rfl
            (try simp only [Act.put, List.setIfInBounds_toArray, List.set_cons_zero, List.set_cons_succ])
            refine wpAnyH_take (i := 2) (v := ?_) (by simp only [List.getElem?_toArray, List.getElem?_cons_succ, List.getElem?_cons_zero]; rfl) (by kernel_rfl) (by kernel_rfl) (by kernel_rfl) (fun _ _ _ h => h) (Or.inl ⟨by rfl, ?_⟩) hHeld ?_
            rotate_left
            · intro wz hSw; (try dsimp only at hSw); go_simp; try with_reducible rfl
            (try simp only [Act.put, List.setIfInBounds_toArray, List.set_cons_zero, List.set_cons_succ])
            refine wpAnyH_take (i := 3) (v := ?_) (by simp only [List.getElem?_toArray, List.getElem?_cons_succ, List.getElem?_cons_zero]; rfl) (by kernel_rfl) (by kernel_rfl) (by kernel_rfl) (fun _ _ _ h => h) (Or.inl ⟨by rfl, ?_⟩) hHeld ?_
            rotate_left
            · intro wz hSw; (try dsimp only at hSw); go_simp; try with_reducible rfl
            (try simp only [Act.put, List.setIfInBounds_toArray, List.set_cons_zero, List.set_cons_succ])
            refine wpAnyH_take (i := 4) (v := ?_) (by simp only [List.getElem?_toArray, List.getElem?_cons_succ, List.getElem?_cons_zero]; rfl) (by kernel_rfl) (by kernel_rfl) (by kernel_rfl) (fun _ _ _ h => h) (Or.inl ⟨by rfl, ?_⟩) hHeld ?_
            rotate_left
            · intro wz hSw; (try dsimp only at hSw); go_simp; try with_reducible rfl
            (try simp only [Act.put, List.setIfInBounds_toArray, List.set_cons_zero, List.set_cons_succ])
            refine wpAnyH_take (i := 5) (v := ?_) (by simp only [List.getElem?_toArray, List.getElem?_cons_succ, List.getElem?_cons_zero]; rfl) (by kernel_rfl) (by kernel_rfl) (by kernel_rfl) (fun _ _ _ h => h) (Or.inl ⟨by rfl, ?_⟩) hHeld ?_
            rotate_left
            · intro wz hSw; (try dsimp only at hSw); go_simp; try with_reducible rfl
            (try simp only [Act.put, List.setIfInBounds_toArray, List.set_cons_zero, List.set_cons_succ])
            refine wpAnyH_take (i := 6) (v := ?_) (by simp only [List.getElem?_toArray, List.getElem?_cons_succ, List.getElem?_cons_zero]; rfl) (by kernel_rfl) (by kernel_rfl) (by kernel_rfl) (fun _ _ _ h => h) (Or.inl ⟨by rfl, ?_⟩) hHeld ?_
            rotate_left
            · intro wz hSw; (try dsimp only at hSw); go_simp; try with_reducible rfl
            (try simp only [Act.put, List.setIfInBounds_toArray, List.set_cons_zero, List.set_cons_succ])
            refine wpAnyH_take (i := 7) (v := ?_) (by simp only [List.getElem?_toArray, List.getElem?_cons_succ, List.getElem?_cons_zero]; rfl) (by kernel_rfl) (by kernel_rfl) (by kernel_rfl) (fun _ _ _ h => h) (Or.inl ⟨by rfl, ?_⟩) hHeld ?_
            rotate_left
            · intro wz hSw; (try dsimp only at hSw); go_simp; try with_reducible rfl
            (try simp only [Act.put, List.setIfInBounds_toArray, List.set_cons_zero, List.set_cons_succ])
            refine wpAnyH_take (i := 8) (v := .agg #[.slice Ax 256 cx, .slice none 0 0]) (by simp only [List.getElem?_toArray, List.getElem?_cons_succ, List.getElem?_cons_zero]; rfl) (by kernel_rfl) (by kernel_rfl) (by kernel_rfl) (fun _ _ _ h => h) (yieldsIf_load_mid (by rfl) 91 (.tmp 6) rfl gx 0 (by rfl) [.slice Ax 256 cx, .slice none 0 0] _ (fun _ hS => hS.2.2) Try.underlying91 rfl (by rw [size102]; rfl)) hHeld ?_
            (try simp only [Act.put, List.setIfInBounds_toArray, List.set_cons_zero, List.set_cons_succ])
            refine wpAnyH_take (i := 9) (v := ?_) (by simp only [List.getElem?_toArray, List.getElem?_cons_succ, List.getElem?_cons_zero]; rfl) (by kernel_rfl) (by kernel_rfl) (by kernel_rfl) (fun _ _ _ h => h) (Or.inl ⟨by rfl, ?_⟩) hHeld ?_
            rotate_left
            · intro wz hSw; (try dsimp only at hSw); go_simp; try with_reducible rfl
            (try simp only [Act.put, List.setIfInBounds_toArray, List.set_cons_zero, List.set_cons_succ])
            refine wpAnyH_done (by kernel_rfl) ?_ _
            simp only [lastQ]
            refine wp_store_mid 91 (.tmp 69) (.tmp 68) rfl b (k * 2) #[.slice Ax 256 cx, .slice none 0 0] (by first | rfl | (go_simp; rfl)) (by first | rfl | (go_simp; rfl)) hth (by rw [size102]; rfl) (all_oneCell_toArray (two_one _ _ _ _ _ _)) ?_
            (try simp only [Act.put, List.setIfInBounds_toArray, List.set_cons_zero, List.set_cons_succ])
            have hfin := HCt.out.rk.both (w1 := W.drew) hkt HA1.out hbd (hOx.out.below hbd (Nat.le_refl _)) (pickX_len HCt.out.rk hkt) (vA := none) (vc := 0) (vv := []) (ls := []) (Own.nil_ _ _ _ _) .nil (fun y hy => by cases hy) (fun q hq => by cases hq)
            rw [upd_power, ← HStep.out, HTN.out] at hfin
            have hOw := own_kept HO.out hfin.K (fun b e => HOff.out b e)
            have hOf : ∀ y, ablk (some ⟨gi, 0, none⟩ : Option Addr) = some y → ¬ (r1.put k ⟨Ax, cx, none, 0, []⟩).foot s.n y := fun y e z => by
              rcases hfin.foot y z with z | z
              · exact HOff.out y e z
              · have := (HO.out.blk e).2; omega
            have hc2 := HCt.out.trans hfin
            have HF := Lib.hid hc2
            have HOw := Lib.hid hOw
            have HOf := Lib.hid hOf
            clear hfin hc2 hOw hOf hth hXr bg' gi' hHeld hbd hRd hX hB
            have hset : W.drew.setCells b (k * 2) [.slice Ax 256 cx, .slice none 0 0] = (W.drew.setCell ⟨b, k * 2, none⟩ (.slice Ax 256 cx)).setCell ⟨b, k * 2 + 1, none⟩ (.slice none 0 0) := rfl
            simp only [List.length_nil] at HF HOw
            rw [← hset] at HF HOw
            clear hset
            generalize W.drew.setCells b (k * 2) [.slice Ax 256 cx, .slice none 0 0] = W2 at *
            go_wp2
            go_roundw
            case rel => exact ⟨i + 1, _, by omega, by norm_cast, HF.out, ⟨lo1, HOw.out⟩, HOf.out⟩
            case measure => simp only [intOf]; omega
      · have hiM : ¬ (i : Int) < (m : Int) := by omega
        obtain ⟨Ax, hAx⟩ : ∃ Ax, Ax = (r1.v k).lA := ⟨_, rfl⟩
        obtain ⟨cx, hcx⟩ : ∃ cx, cx = (r1.v k).lc := ⟨_, rfl⟩
        have hOx : Hid (Own wr base 5 1 Ax 256 cx (bvs (pickX t ps i k))) := Lib.hid (by
          unfold pickX
          rw [if_neg (by rw [HL.out]; omega), hAx, hcx]
          exact HCt.out.rk.lies k hkt)
        rw [← hAx, ← hcx] at bx HX
        clear hAx hcx
        go_upto_region 13 with fail
        have hX2 : Blk (U.setCell ⟨gx, 1, none⟩ (.slice none 0 0)) gx 91 [.slice Ax 256 cx, .slice none 0 0] := HX.out.set_ 1 _
        have hB2 : Below wr.heap.size wr (U.setCell ⟨gx, 1, none⟩ (.slice none 0 0)) := (HB.out).setCell (show wr.heap.size ≤ (⟨gx, 1, none⟩ : Addr).block from Nat.le_of_eq HGx.out.symm) (.slice none 0 0)
        refine wp_world (fun W => Blk W gx 91 [.slice Ax 256 cx, .slice none 0 0] ∧ Below wr.heap.size wr W) ⟨hX2, hB2⟩ ?_
        clear hX2 hB2 HX HB bx fx hR
        rintro W ⟨hX, hB⟩
        have hbd : Below wr.heap.size wr W.drew := hB.drew
        have hRd := HCt.out.rk.below hbd (Nat.le_refl _)
        have bg := hRd.blk.cell 0
        rw [HA1.out, HCt.out.g, ← HG.out, HTN.out] at bg
        have hXr : W.drew.rangeAt gx 0 [.slice Ax 256 cx, .slice none 0 0] := fun q v hv => by
          rw [Nat.zero_add, show W.drew.cell? ⟨gx, q, none⟩ = _ from hX.cell q]; exact hv
        have hcells := hRd.cell hkt
        have hth : W.drew.there b (k * 2) 2 := fun q hq => by
          obtain ⟨b2, e2, x1, x2, x3, x4⟩ := hcells
          rw [HA1.out] at e2
          injection e2 with e2
          injection e2 with e2
          subst e2
          match q, hq with
          | 0, _ => exact ⟨by rw [Nat.add_zero, x1]; rfl, x3⟩
          | 1, _ => exact ⟨by rw [x2]; rfl, x4⟩
        have bg' : W.drew.cell? ⟨gd, 0, none⟩ = some (.slice (some ⟨b, 0, none⟩) s.n r1.c) := bg
        have gi' : W.drew.cell? ⟨gi, i, none⟩ = some (.int .i64 (k : Int)) := (hbd.cell (p := ⟨gi, i, none⟩) hgl).trans hgc
        have hgl2 : gi < W.drew.heap.size := by have := hbd.size; omega
        clear bg hcells
        refine wp_region_last (S := fun w' => w'.cell? ⟨gd, 0, none⟩ = some (.slice (some ⟨b, 0, none⟩) s.n r1.c) ∧ w'.cell? ⟨gi, i, none⟩ = some (.int .i64 (k : Int)) ∧ w'.rangeAt gx 0 [.slice Ax 256 cx, .slice none 0 0]) 10 (by kernel_rfl) rfl (by kernel_rfl) ?_ ?_
        · exact ⟨bg', gi', hXr⟩
        intro hHeld
        simp only [List.take_succ_cons, List.take_zero]
        refine wpAnyH_take (i := 0) (v := ?_) (by simp only [List.getElem?_toArray, List.getElem?_cons_succ, List.getElem?_cons_zero]; rfl) (by kernel_rfl) (by kernel_rfl) (by kernel_rfl) (fun _ _ _ h => h) (Or.inl ⟨by rfl, ?_⟩) hHeld ?_
        rotate_left
        · intro wz hSw; (try dsimp only at hSw); go_simp; try with_reducible rfl
        (try simp only [Act.put, List.setIfInBounds_toArray, List.set_cons_zero, List.set_cons_succ])
        refine wpAnyH_take (i := 1) (v := ?_) (by simp only [List.getElem?_toArray, List.getElem?_cons_succ, List.getElem?_cons_zero]; rfl) (by kernel_rfl) (by kernel_rfl) (by kernel_rfl) (fun _ _ _ h => h) (Or.inl ⟨by rfl, ?_⟩) hHeld ?_
        rotate_left
        · intro wz hSw; (try dsimp only at hSw); go_simp; try with_reducible rfl
        (try simp only [Act.put, List.setIfInBounds_toArray, List.set_cons_zero, List.set_cons_succ])
        refine wpAnyH_take (i := 2) (v := ?_) (by simp only [List.getElem?_toArray, List.getElem?_cons_succ, List.getElem?_cons_zero]; rfl) (by kernel_rfl) (by kernel_rfl) (by kernel_rfl) (fun _ _ _ h => h) (Or.inl ⟨by rfl, ?_⟩) hHeld ?_
        rotate_left
        · intro wz hSw; (try dsimp only at hSw); go_simp; try with_reducible rfl
        (try simp only [Act.put, List.setIfInBounds_toArray, List.set_cons_zero, List.set_cons_succ])
        refine wpAnyH_take (i := 3) (v := ?_) (by simp only [List.getElem?_toArray, List.getElem?_cons_succ, List.getElem?_cons_zero]; rfl) (by kernel_rfl) (by kernel_rfl) (by kernel_rfl) (fun _ _ _ h => h) (Or.inl ⟨by rfl, ?_⟩) hHeld ?_
        rotate_left
        · intro wz hSw; (try dsimp only at hSw); go_simp; try with_reducible rfl
        (try simp only [Act.put, List.setIfInBounds_toArray, List.set_cons_zero, List.set_cons_succ])
        refine wpAnyH_take (i := 4) (v := ?_) (by simp only [List.getElem?_toArray, List.getElem?_cons_succ, List.getElem?_cons_zero]; rfl) (by kernel_rfl) (by kernel_rfl) (by kernel_rfl) (fun _ _ _ h => h) (Or.inl ⟨by rfl, ?_⟩) hHeld ?_
        rotate_left
        · intro wz hSw; (try dsimp only at hSw); go_simp; try with_reducible rfl
        (try simp only [Act.put, List.setIfInBounds_toArray, List.set_cons_zero, List.set_cons_succ])
        refine wpAnyH_take (i := 5) (v := ?_) (by simp only [List.getElem?_toArray, List.getElem?_cons_succ, List.getElem?_cons_zero]; rfl) (by kernel_rfl) (by kernel_rfl) (by kernel_rfl) (fun _ _ _ h => h) (Or.inl ⟨by rfl, ?_⟩) hHeld ?_
        rotate_left
        · intro wz hSw; (try dsimp only at hSw); go_simp; try with_reducible rfl
        (try simp only [Act.put, List.setIfInBounds_toArray, List.set_cons_zero, List.set_cons_succ])
        refine wpAnyH_take (i := 6) (v := ?_) (by simp only [List.getElem?_toArray, List.getElem?_cons_succ, List.getElem?_cons_zero]; rfl) (by kernel_rfl) (by kernel_rfl) (by kernel_rfl) (fun _ _ _ h => h) (Or.inl ⟨by rfl, ?_⟩) hHeld ?_
        rotate_left
        · intro wz hSw; (try dsimp only at hSw); go_simp; try with_reducible rfl
        (try simp only [Act.put, List.setIfInBounds_toArray, List.set_cons_zero, List.set_cons_succ])
        refine wpAnyH_take (i := 7) (v := ?_) (by simp only [List.getElem?_toArray, List.getElem?_cons_succ, List.getElem?_cons_zero]; rfl) (by kernel_rfl) (by kernel_rfl) (by kernel_rfl) (fun _ _ _ h => h) (Or.inl ⟨by rfl, ?_⟩) hHeld ?_
        rotate_left
        · intro wz hSw; (try dsimp only at hSw); go_simp; try with_reducible rfl
        (try simp only [Act.put, List.setIfInBounds_toArray, List.set_cons_zero, List.set_cons_succ])
        refine wpAnyH_take (i := 8) (v := .agg #[.slice Ax 256 cx, .slice none 0 0]) (by simp only [List.getElem?_toArray, List.getElem?_cons_succ, List.getElem?_cons_zero]; rfl) (by kernel_rfl) (by kernel_rfl) (by kernel_rfl) (fun _ _ _ h => h) (yieldsIf_load_mid (by rfl) 91 (.tmp 6) rfl gx 0 (by rfl) [.slice Ax 256 cx, .slice none 0 0] _ (fun _ hS => hS.2.2) Try.underlying91 rfl (by rw [size102]; rfl)) hHeld ?_
        (try simp only [Act.put, List.setIfInBounds_toArray, List.set_cons_zero, List.set_cons_succ])
        refine wpAnyH_take (i := 9) (v := ?_) (by simp only [List.getElem?_toArray, List.getElem?_cons_succ, List.getElem?_cons_zero]; rfl) (by kernel_rfl) (by kernel_rfl) (by kernel_rfl) (fun _ _ _ h => h) (Or.inl ⟨by rfl, ?_⟩) hHeld ?_
        rotate_left
        · intro wz hSw; (try dsimp only at hSw); go_simp; try with_reducible rfl
        (try simp only [Act.put, List.setIfInBounds_toArray, List.set_cons_zero, List.set_cons_succ])
        refine wpAnyH_done (by kernel_rfl) ?_ _
        simp only [lastQ]
        refine wp_store_mid 91 (.tmp 69) (.tmp 68) rfl b (k * 2) #[.slice Ax 256 cx, .slice none 0 0] (by first | rfl | (go_simp; rfl)) (by first | rfl | (go_simp; rfl)) hth (by rw [size102]; rfl) (all_oneCell_toArray (two_one _ _ _ _ _ _)) ?_
        (try simp only [Act.put, List.setIfInBounds_toArray, List.set_cons_zero, List.set_cons_succ])
        have hfin := HCt.out.rk.both (w1 := W.drew) hkt HA1.out hbd (hOx.out.below hbd (Nat.le_refl _)) (pickX_len HCt.out.rk hkt) (vA := none) (vc := 0) (vv := []) (ls := []) (Own.nil_ _ _ _ _) .nil (fun y hy => by cases hy) (fun q hq => by cases hq)
        rw [upd_power, ← HStep.out, HTN.out] at hfin
        have hOw := own_kept HO.out hfin.K (fun b e => HOff.out b e)
        have hOf : ∀ y, ablk (some ⟨gi, 0, none⟩ : Option Addr) = some y → ¬ (r1.put k ⟨Ax, cx, none, 0, []⟩).foot s.n y := fun y e z => by
          rcases hfin.foot y z with z | z
          · exact HOff.out y e z
          · have := (HO.out.blk e).2; omega
        have hc2 := HCt.out.trans hfin
        have HF := Lib.hid hc2
        have HOw := Lib.hid hOw
        have HOf := Lib.hid hOf
        clear hfin hc2 hOw hOf hth hXr bg' gi' hHeld hbd hRd hX hB
        have hset : W.drew.setCells b (k * 2) [.slice Ax 256 cx, .slice none 0 0] = (W.drew.setCell ⟨b, k * 2, none⟩ (.slice Ax 256 cx)).setCell ⟨b, k * 2 + 1, none⟩ (.slice none 0 0) := rfl
        simp only [List.length_nil] at HF HOw
        rw [← hset] at HF HOw
        clear hset
        generalize W.drew.setCells b (k * 2) [.slice Ax 256 cx, .slice none 0 0] = W2 at *
        go_wp2
        go_roundw
        case rel => exact ⟨i + 1, _, by omega, by norm_cast, HF.out, ⟨lo1, HOw.out⟩, HOf.out⟩
        case measure => simp only [intOf]; omega
    · obtain rfl : i = dl.length := by omega
      go_wp2
      go_end0
      refine ⟨rfl, r1, ?_⟩
      have hc := HCh.out
      unfold powerD
      rw [HDL.out] at hc
      exact hc
end Go.Proofs.Ytjndopmjlbhajaa
namespace Go.Proofs.Ytjndopmjlbhajaa
set_option linter.unusedVariables false
open Go.RowKit Go.Maps

/-- the program's disk, the document's, and how many deeds were asked -/
structure Rel (s t : Dsk) (c : Nat) : Prop where
  n_ : t.n = s.n
  cut_ : t.cut = s.cut
  lies_ : ∀ k, k < s.n → t.lies k = s.lies k
  vers_ : ∀ k, k < s.n → t.vers k = s.vers k
  left_ : s.cut = true → -(c : Int) ≤ s.left ∧ max s.left 0 = t.left ∧ s.left ≤ 1073741824
  cnt : ∀ k, k < s.n → (s.vers k).length ≤ c
section
variable {s t : Dsk} {c : Nat}
theorem rel_new (n : Nat) : Rel (newD n) (newD n) 0 := ⟨rfl, rfl, fun _ _ => rfl, fun _ _ => rfl, fun h => (by cases h), fun _ _ => Nat.le_refl _⟩
theorem Rel.idle (h : Rel s t c) : Rel s t (c + 1) := ⟨h.n_, h.cut_, h.lies_, h.vers_, fun e => by obtain ⟨a, b, d⟩ := h.left_ e; exact ⟨by omega, b, d⟩, fun k hk => by have := h.cnt k hk; omega⟩
theorem Rel.has (h : Rel s t c) {k : Nat} (hk : k < s.n) : hasD t k = hasD s k := by unfold hasD; rw [h.vers_ k hk, h.lies_ k hk]
theorem Rel.dirty (h : Rel s t c) : dirtyL t = dirtyL s := by
  unfold dirtyL
  rw [h.n_]
  refine List.filter_congr fun k hk => ?_
  rw [h.vers_ k (List.mem_range.1 hk)]
theorem Rel.done (h : Rel s t c) (hc : c ≤ 1099511627776) : rdoneOk t = doneOk s ∧ (doneOk s = true → Rel (doneS s) (rdec t) (c + 1)) ∧ (doneOk s = false → Rel (doneS s) t (c + 1)) := by
  cases e : s.cut with
  | false =>
    have e1 : rdoneOk t = true := by unfold rdoneOk; rw [h.cut_, e]; rfl
    have e2 : doneOk s = true := by unfold doneOk; rw [e]; rfl
    have e3 : doneS s = s := by unfold doneS; rw [e]; rfl
    refine ⟨by rw [e1, e2], fun _ => ?_, fun h => by rw [e2] at h; cases h⟩
    rw [e3]
    exact ⟨h.n_, h.cut_, h.lies_, h.vers_, fun h => (by rw [e] at h; cases h), fun k hk => by have := h.cnt k hk; omega⟩
  | true =>
    obtain ⟨l1, l2, l3⟩ := h.left_ e
    have hw : wrap64 (s.left - 1) = s.left - 1 := by unfold wrap64; omega
    have e2 : doneOk s = decide (0 ≤ s.left - 1) := by unfold doneOk; rw [e, hw]; rfl
    have e1 : rdoneOk t = !decide (t.left = 0) := by unfold rdoneOk; rw [h.cut_, e]; rfl
    have e3 : doneS s = { s with left := s.left - 1 } := by unfold doneS; rw [e, hw]; rfl
    by_cases hp : 0 ≤ s.left - 1
    · have hwt : wrap64 (t.left - 1) = t.left - 1 := by unfold wrap64; omega
      refine ⟨by rw [e1, e2, decide_eq_true hp, decide_eq_false (by omega)]; rfl, fun _ => ?_, fun h => by rw [e2, decide_eq_true hp] at h; cases h⟩
      rw [e3]
      refine ⟨h.n_, h.cut_, h.lies_, h.vers_, fun _ => ?_, fun k hk => Nat.le_succ_of_le (h.cnt k hk)⟩
      show -((c + 1 : Nat) : Int) ≤ s.left - 1 ∧ max (s.left - 1) 0 = wrap64 (t.left - 1) ∧ s.left - 1 ≤ 1073741824
      rw [hwt]
      omega
    · refine ⟨by rw [e1, e2, decide_eq_false hp, decide_eq_true (by omega)]; rfl, fun h => (by rw [e2, decide_eq_false hp] at h; cases h), fun _ => ?_⟩
      rw [e3]
      refine ⟨h.n_, h.cut_, h.lies_, h.vers_, fun _ => ?_, fun k hk => Nat.le_succ_of_le (h.cnt k hk)⟩
      show -((c + 1 : Nat) : Int) ≤ s.left - 1 ∧ max (s.left - 1) 0 = t.left ∧ s.left - 1 ≤ 1073741824
      omega
theorem Rel.write (h : Rel s t c) (hc : c ≤ 1099511627776) (k : Nat) (x : List UInt8) : Rel (writeD s k x) (rwriteD t k x) (c + 1) := by
  obtain ⟨h1, h2, h3⟩ := h.done hc
  unfold writeD rwriteD
  rw [h1]
  have hv : ∀ j, j < s.n → ((doneS s).vers j).length ≤ c := fun j hj => by
    have : (doneS s).vers = s.vers := by unfold doneS; split <;> rfl
    rw [this]; exact h.cnt j hj
  have hnn : (doneS s).n = s.n := by unfold doneS; split <;> rfl
  cases e : doneOk s with
  | false => exact h3 e
  | true =>
    have r := h2 e
    refine ⟨r.n_, r.cut_, r.lies_, fun j hj => ?_, r.left_, fun j hj => ?_⟩
    · show (if j = k then _ else _) = (if j = k then _ else _)
      by_cases ej : j = k
      · subst ej
        rw [if_pos rfl, if_pos rfl, r.vers_ j hj]
      · rw [if_neg ej, if_neg ej, r.vers_ j hj]
    · show (if j = k then _ else _ : List (List UInt8)).length ≤ c + 1
      have hj' : j < s.n := by rw [← hnn]; exact hj
      have := hv j hj'
      by_cases ej : j = k
      · subst ej
        rw [if_pos rfl, List.length_append]
        simp
        omega
      · rw [if_neg ej]; omega
theorem Rel.flush (h : Rel s t c) (hc : c ≤ 1099511627776) : Rel (flushD s) (rflushD t) (c + 1) := by
  obtain ⟨h1, h2, h3⟩ := h.done hc
  have hnn : (doneS s).n = s.n := by unfold doneS; split <;> rfl
  unfold flushD rflushD
  rw [h1]
  cases e : doneOk s with
  | false => exact h3 e
  | true =>
    have r := h2 e
    refine ⟨r.n_, r.cut_, fun j hj => ?_, fun j hj => ?_, r.left_, fun j hj => Nat.zero_le _⟩
    · have hj' : j < s.n := by rw [← hnn]; exact hj
      show (if j < t.n then hasD (rdec t) j else _) = (if j < s.n then hasD (doneS s) j else _)
      rw [if_pos (by rw [h.n_]; exact hj'), if_pos hj']
      exact r.has hj
    · have hj' : j < s.n := by rw [← hnn]; exact hj
      show (if j < t.n then [] else _) = []
      rw [if_pos (by rw [h.n_]; exact hj')]
theorem Rel.step (h : Rel s t c) (ps : List Int) (i k : Nat) : Rel (powerStep s ps i k) (powerStep t ps i k) c := by
  refine ⟨by rw [step_n, step_n]; exact h.n_, by rw [step_cut, step_cut]; exact h.cut_, fun j hj => ?_, fun j hj => ?_, fun e => ?_, fun j hj => ?_⟩
  · rw [step_n] at hj
    rw [← upd_power, ← upd_power]
    show (if j = k then _ else _) = (if j = k then _ else _)
    by_cases ej : j = k
    · subst ej
      rw [if_pos rfl, if_pos rfl]
      unfold pickX
      rw [h.vers_ j hj, h.lies_ j hj]
    · rw [if_neg ej, if_neg ej]; exact h.lies_ j hj
  · rw [step_n] at hj
    rw [step_vers, step_vers, h.vers_ j hj]
  · rw [step_cut] at e
    have h1 : ∀ u : Dsk, (powerStep u ps i k).left = u.left := fun u => by unfold powerStep delV; split <;> rfl
    rw [h1, h1]
    exact h.left_ e
  · rw [step_n] at hj
    rw [step_vers]
    split
    · exact Nat.zero_le _
    · exact h.cnt j hj
theorem Rel.powerTo (h : Rel s t c) (ps : List Int) : ∀ i, Rel (powerTo s ps i) (powerTo t ps i) c
  | 0 => ⟨h.n_, rfl, h.lies_, h.vers_, fun e => (by cases e), h.cnt⟩
  | i + 1 => by
    rw [Go.Proofs.Ytjndopmjlbhajaa.powerTo, Go.Proofs.Ytjndopmjlbhajaa.powerTo, h.dirty]
    exact (h.powerTo ps i).step ps i _
theorem Rel.power (h : Rel s t c) (ps : List Int) : Rel (powerD s ps) (powerD t ps) c := by
  unfold powerD
  rw [h.dirty]
  exact h.powerTo ps _
theorem Rel.rot (h : Rel s t c) {k i : Nat} (hk : k < s.n) : Rel (rotD s k i) (rotD t k i) c := by
  rw [← upd_rot, ← upd_rot]
  refine ⟨h.n_, h.cut_, fun j hj => ?_, fun j hj => ?_, h.left_, fun j hj => ?_⟩
  · show (if j = k then _ else _) = (if j = k then _ else _)
    rw [h.lies_ k hk, h.lies_ j hj]
  · show (if j = k then _ else _) = (if j = k then _ else _)
    rw [h.vers_ k hk, h.vers_ j hj]
  · show (if j = k then _ else _ : List (List UInt8)).length ≤ c
    split
    · rw [List.length_map]; exact h.cnt k hk
    · exact h.cnt j hj
theorem Rel.cut (h : Rel s t c) {n : Int} (hn : 0 ≤ n ∧ n ≤ 1073741824) : Rel (cutD s n) (rcutD t n) c := by
  refine ⟨h.n_, rfl, h.lies_, h.vers_, fun _ => ?_, h.cnt⟩
  show -(c : Int) ≤ cutLeft s n ∧ max (cutLeft s n) 0 = (if t.cut = true ∧ t.left < n then t.left else n) ∧ cutLeft s n ≤ 1073741824
  unfold cutLeft
  rw [h.cut_]
  cases e : s.cut with
  | false =>
    simp only [Bool.false_eq_true, if_false, false_and]
    omega
  | true =>
    obtain ⟨l1, l2, l3⟩ := h.left_ e
    simp only [if_true, true_and]
    rw [← l2]
    split <;> omega
end
end Go.Proofs.Ytjndopmjlbhajaa
namespace Go.Proofs.Ytjndopmjlbhajaa
open Go.RowKit Go.Maps

structure Two (w : World) (bd br : Nat) (d : Dw) (r : Rw) (s t : Dsk) : Prop where
  dk : Dk w bd d s
  rk : Rk w br r t
  le : bd ≤ br
section
variable {w w' : World} {bd br : Nat} {d d' : Dw} {r r' : Rw} {s s' t t' : Dsk}
theorem Two.below (h : Two w bd br d r s t) (hb : Below w.heap.size w w') : Two w' bd br d r s t := ⟨h.dk.below hb (Nat.le_refl _), h.rk.below hb (Nat.le_refl _), h.le⟩
theorem Two.onD (h : Two w bd br d r s t) (c : Ch w w' bd d d' s') : Two w' bd br d' r s' t :=
  ⟨c.dk, h.rk.kept (F := d.foot) c.K (fun b hb => (two_apart (w' := w) h.dk h.rk).1 b hb) (two_apart (w' := w) h.dk h.rk).2, h.le⟩
theorem Two.onR (h : Two w bd br d r s t) (c : Rch w w' br r r' t.n t') : Two w' bd br d r' s t' :=
  ⟨h.dk.kept c.K (fun b hb x => (two_apart (w' := w) h.dk h.rk).1 b x hb), c.rk, h.le⟩
theorem Two.belD (h : Two w bd br d r s t) (c : Ch w w' bd d d' s') : Below bd w w' := c.bel h.dk
theorem Two.belR (h : Two w bd br d r s t) (c : Rch w w' br r r' t.n t') : Below bd w w' := (c.bel h.rk).mono h.le
theorem Two.base (h : Two w bd br d r s t) : bd ≤ w.heap.size := by have := h.dk.foot_base d.g (.inl rfl); omega
theorem Two.offD (h : Two w bd br d r s t) {b : Nat} (hb : b < bd) : ¬ d.foot b := fun x => by have := (h.dk.foot_base b x).1; omega
theorem Two.offR (h : Two w bd br d r s t) {b : Nat} (hb : b < bd) : ¬ r.foot t.n b := fun x => by have := (h.rk.foot_base b x).1; have := h.le; omega
theorem Two.newD (h : Two w bd br d r s t) {b : Nat} (hb : w.heap.size ≤ b) : ¬ d.foot b := fun x => by have := (h.dk.foot_base b x).2; omega
theorem Two.newR (h : Two w bd br d r s t) {b : Nat} (hb : w.heap.size ≤ b) : ¬ r.foot t.n b := fun x => by have := (h.rk.foot_base b x).2; omega
/-- a block that was made meanwhile is written to -/
theorem Ch.poke (h : Ch w w' bd d d' s') {g : Nat} {w2 : World} (K : Kept (fun b => b = g) w' w2) (hg : ¬ d'.foot g) (hn : w.heap.size ≤ g) : Ch w w2 bd d d' s' :=
  ⟨h.dk.kept K (fun b hb e => hg (by rw [← e]; exact hb)), h.g, h.K.trans K (fun b hb x => by omega), h.foot⟩
theorem Rch.poke (h : Rch w w' br r r' t.n t') {g : Nat} {w2 : World} (K : Kept (fun b => b = g) w' w2) (hn : w.heap.size ≤ g) (hk : Rk w2 br r' t') : Rch w w2 br r r' t.n t' :=
  ⟨hk, h.n_, h.g, h.K.trans K (fun b hb x => by omega), h.foot⟩
end
theorem D8Ok.below {w w' : World} {x : D8} {B : Nat} (h : D8Ok w x) (hb : Below B w w') (hB : 0 < x.pn → ∀ b, ablk x.pA = some b → b < B) : D8Ok w' x :=
  ⟨h.k, h.a, fun hn => by
    have hp : 0 < x.pn := by rw [length_iz, h.pl] at hn; exact hn
    obtain ⟨b, o, e, h0, h1, h2⟩ := h.p hn
    have hbB := hB hp b (by rw [e]; rfl)
    exact ⟨b, o, e, h0, Nat.lt_of_lt_of_le h1 hb.size, fun q hq => (World.cell?_of_block (a := ⟨b, o + q, none⟩) (hb.block b hbB)).trans (h2 q hq)⟩, h.pl, h.pz⟩

/-- a deed of the program's disk -/
def sdoK (s : Dsk) (x : D8) : Nat → Dsk
  | 0 => if (0 ≤ x.at_ ∧ x.at_ < (s.n : Int)) ∧ deedN x.at_ x.sh = 256 then writeD s x.at_.toNat (deedB x.at_ x.fl x.la x.sh) else s
  | 1 => flushD s
  | 2 => powerD s x.ps
  | 3 => if 0 ≤ x.at_ ∧ x.at_ < 2048 * (s.n : Int) then rotD s (x.at_.toNat / 2048) (x.at_.toNat % 2048) else s
  | 4 => s
  | 5 => if 0 ≤ x.at_ ∧ x.at_ ≤ 1073741824 then cutD s x.at_ else s
  | _ => s
/-- a deed of the document's disk -/
def tdoK (s : Dsk) (x : D8) : Nat → Dsk
  | 0 => if (0 ≤ x.at_ ∧ x.at_ < (s.n : Int)) ∧ deedN x.at_ x.sh = 256 then rwriteD s x.at_.toNat (deedB x.at_ x.fl x.la x.sh) else s
  | 1 => rflushD s
  | 2 => powerD s x.ps
  | 3 => if 0 ≤ x.at_ ∧ x.at_ < 2048 * (s.n : Int) then rotD s (x.at_.toNat / 2048) (x.at_.toNat % 2048) else s
  | 4 => s
  | 5 => if 0 ≤ x.at_ ∧ x.at_ ≤ 1073741824 then rcutD s x.at_ else s
  | _ => s
def sdo (s : Dsk) (x : D8) : Dsk := sdoK s x (pickN x.K 6)
def tdo (s : Dsk) (x : D8) : Dsk := tdoK s x (pickN x.K 6)
theorem flushD_n (s : Dsk) : (flushD s).n = s.n := by unfold flushD doneS clearD; split <;> split <;> rfl
theorem sdo_n (s : Dsk) (x : D8) : (sdo s x).n = s.n := by
  unfold sdo
  have hk := pickN_lt x.K (n := 6) (by omega)
  generalize pickN x.K 6 = kd at *
  obtain rfl | rfl | rfl | rfl | rfl | rfl : kd = 0 ∨ kd = 1 ∨ kd = 2 ∨ kd = 3 ∨ kd = 4 ∨ kd = 5 := by omega
  · show (if _ then _ else _ : Dsk).n = _
    split
    · exact writeD_n _ _ _
    · rfl
  · exact flushD_n s
  · exact (power_all s x.ps).1
  · show (if _ then _ else _ : Dsk).n = _
    split <;> rfl
  · rfl
  · show (if _ then _ else _ : Dsk).n = _
    split <;> rfl
theorem Rel.step1 {s t : Dsk} {c : Nat} (h : Rel s t c) : Rel s t (c + 1) := h.idle
theorem Rel.do_ {s t : Dsk} {c : Nat} (h : Rel s t c) (hc : c ≤ 1099511627776) (x : D8) : Rel (sdo s x) (tdo t x) (c + 1) := by
  unfold sdo tdo
  have hk := pickN_lt x.K (n := 6) (by omega)
  generalize pickN x.K 6 = kd at *
  have hup : ∀ {s' t' : Dsk}, Rel s' t' c → Rel s' t' (c + 1) := fun h => h.idle
  obtain rfl | rfl | rfl | rfl | rfl | rfl : kd = 0 ∨ kd = 1 ∨ kd = 2 ∨ kd = 3 ∨ kd = 4 ∨ kd = 5 := by omega
  · show Rel (if _ then _ else _) (if _ then _ else _) _
    rw [h.n_]
    split
    · exact h.write hc _ _
    · exact h.idle
  · exact h.flush hc
  · exact hup (h.power _)
  · show Rel (if _ then _ else _) (if _ then _ else _) _
    rw [h.n_]
    split
    · exact hup (h.rot (by omega))
    · exact h.idle
  · exact h.idle
  · show Rel (if _ then _ else _) (if _ then _ else _) _
    split
    · next e => exact hup (h.cut e)
    · exact h.idle
end Go.Proofs.Ytjndopmjlbhajaa
namespace Go.Proofs.Ytjndopmjlbhajaa
set_option linter.unusedVariables false
open Go.RowKit Go.Maps

def rotZ (n : Nat) (a : Int) : Int := if 0 ≤ a ∧ a < 2048 * (n : Int) then 0 else 2
def cutZ (a : Int) : Int := if 0 ≤ a ∧ a ≤ 1073741824 then 0 else 1
def wrZ (n : Nat) (a : Int) (m : Nat) : Int := if 0 ≤ a ∧ a < (n : Int) then (if m = 256 then 0 else 1) else 2
section
variable {w : World} {base : Nat} {d : Dw} {r : Rw} {s : Dsk} {x : D8}
theorem d_rot (h : Dk w base d s) (hv : ∀ k, k < s.n → (s.vers k).length < 549755813887) (x : D8) :
    Calls Try.prog 48 #[.pointer (some ⟨d.g, 0, none⟩), .int .i64 x.at_] w fun e w' => e = .returned (.int .i64 (rotZ s.n x.at_)) ∧ ∃ d', Ch w w' base d d' (sdoK s x 3) := by
  by_cases hin : 0 ≤ x.at_ ∧ x.at_ < 2048 * (s.n : Int)
  · have h1 : rotZ s.n x.at_ = 0 := if_pos hin
    have h2 : sdoK s x 3 = rotD s (x.at_.toNat / 2048) (x.at_.toNat % 2048) := if_pos hin
    have hk : x.at_.toNat / 2048 < s.n := by omega
    have R := drot_any h hk (Nat.mod_lt x.at_.toNat (by omega : 0 < 2048)) (hv _ hk)
    rw [show ((x.at_.toNat / 2048 * 2048 + x.at_.toNat % 2048 : Nat) : Int) = x.at_ from by omega] at R
    rw [h1, h2]
    exact R.mono fun e w' ⟨a, b⟩ => ⟨a, d, b⟩
  · have h1 : rotZ s.n x.at_ = 2 := if_neg hin
    have h2 : sdoK s x 3 = s := if_neg hin
    rw [h1, h2]
    exact (drot_far h (by omega)).mono fun e w' ⟨a, b⟩ => ⟨a, d, by rw [b]; exact Ch.init h⟩
theorem r_rot (h : Rk w base r s) (hv : ∀ k, k < s.n → (s.vers k).length < 549755813887) (x : D8) :
    Calls Try.prog 49 #[.pointer (some ⟨r.g, 0, none⟩), .int .i64 x.at_] w fun e w' => e = .returned (.int .i64 (rotZ s.n x.at_)) ∧ ∃ r', Rch w w' base r r' s.n (tdoK s x 3) := by
  by_cases hin : 0 ≤ x.at_ ∧ x.at_ < 2048 * (s.n : Int)
  · have h1 : rotZ s.n x.at_ = 0 := if_pos hin
    have h2 : tdoK s x 3 = rotD s (x.at_.toNat / 2048) (x.at_.toNat % 2048) := if_pos hin
    have hk : x.at_.toNat / 2048 < s.n := by omega
    have R := rrot_ok h hk (Nat.mod_lt x.at_.toNat (by omega : 0 < 2048)) (by have := hv _ hk; omega)
    rw [show ((x.at_.toNat / 2048 * 2048 + x.at_.toNat % 2048 : Nat) : Int) = x.at_ from by omega] at R
    rw [h1, h2]
    exact R
  · have h1 : rotZ s.n x.at_ = 2 := if_neg hin
    have h2 : tdoK s x 3 = s := if_neg hin
    rw [h1, h2]
    exact (rrot_far h (by omega)).mono fun e w' ⟨a, b⟩ => ⟨a, r, by rw [b]; exact Rch.init h⟩
theorem d_write (h : Dk w base d s) (hv : ∀ k, k < s.n → (s.vers k).length < 549755813887) (x : D8) {g : Nat} (hx : Blk w g 5 (bvs (deedB x.at_ x.fl x.la x.sh))) (hf : ¬ d.foot g) :
    Calls Try.prog 29 #[.pointer (some ⟨d.g, 0, none⟩), .int .i64 x.at_, .slice (some ⟨g, 0, none⟩) (deedN x.at_ x.sh) (deedN x.at_ x.sh)] w fun e w' => e = .returned (.int .i64 (wrZ s.n x.at_ (deedN x.at_ x.sh))) ∧ ∃ d', Ch w w' base d d' (sdoK s x 0) := by
  by_cases hin : 0 ≤ x.at_ ∧ x.at_ < (s.n : Int)
  · obtain ⟨k, hk⟩ : ∃ k : Nat, x.at_ = (k : Int) := ⟨x.at_.toNat, by omega⟩
    have hks : k < s.n := by omega
    by_cases hm : deedN x.at_ x.sh = 256
    · have h1 : wrZ s.n x.at_ (deedN x.at_ x.sh) = 0 := by unfold wrZ; rw [if_pos hin, if_pos hm]
      have h2 : sdoK s x 0 = writeD s k (deedB x.at_ x.fl x.la x.sh) := by show (if _ then _ else _) = _; rw [if_pos ⟨hin, hm⟩, hk]; rfl
      rw [h1, h2]
      have hl : (deedB x.at_ x.fl x.la x.sh).length = 256 := (deedB_len _ _ _ _).trans hm
      have W := dwrite_ok h hks (hv k hks) (hx.bs0 0 256 256 (Nat.zero_le _) (Nat.le_refl _) (by omega) hl) hf
      rw [hm, hk]
      rw [hk] at W
      exact W.mono fun e w' ⟨a, b⟩ => ⟨a, Ch.of b⟩
    · have h1 : wrZ s.n x.at_ (deedN x.at_ x.sh) = 1 := by unfold wrZ; rw [if_pos hin, if_neg hm]
      have h2 : sdoK s x 0 = s := if_neg (fun e => hm e.2)
      rw [h1, h2]
      have W := dwrite_bad (A := some ⟨g, 0, none⟩) (c := deedN x.at_ x.sh) h hks hm
      rw [← hk] at W
      exact W.mono fun e w' ⟨a, b⟩ => ⟨a, d, by rw [b]; exact Ch.init h⟩
  · have h1 : wrZ s.n x.at_ (deedN x.at_ x.sh) = 2 := if_neg hin
    have h2 : sdoK s x 0 = s := if_neg (fun e => hin e.1)
    rw [h1, h2]
    exact (dwrite_far h (by omega) _).mono fun e w' ⟨a, b⟩ => ⟨a, d, by rw [b]; exact Ch.init h⟩
theorem r_write (h : Rk w base r s) (hv : ∀ k, k < s.n → (s.vers k).length < 549755813887) (x : D8) {g : Nat} (hx : Blk w g 5 (bvs (deedB x.at_ x.fl x.la x.sh))) (hf : ¬ r.foot s.n g) :
    Calls Try.prog 70 #[.pointer (some ⟨r.g, 0, none⟩), .int .i64 x.at_, .slice (some ⟨g, 0, none⟩) (deedN x.at_ x.sh) (deedN x.at_ x.sh)] w fun e w' => e = .returned (.int .i64 (wrZ s.n x.at_ (deedN x.at_ x.sh))) ∧ ∃ r', Rch w w' base r r' s.n (tdoK s x 0) := by
  by_cases hin : 0 ≤ x.at_ ∧ x.at_ < (s.n : Int)
  · obtain ⟨k, hk⟩ : ∃ k : Nat, x.at_ = (k : Int) := ⟨x.at_.toNat, by omega⟩
    have hks : k < s.n := by omega
    by_cases hm : deedN x.at_ x.sh = 256
    · have h1 : wrZ s.n x.at_ (deedN x.at_ x.sh) = 0 := by unfold wrZ; rw [if_pos hin, if_pos hm]
      have h2 : tdoK s x 0 = rwriteD s k (deedB x.at_ x.fl x.la x.sh) := by show (if _ then _ else _) = _; rw [if_pos ⟨hin, hm⟩, hk]; rfl
      rw [h1, h2]
      have hl : (deedB x.at_ x.fl x.la x.sh).length = 256 := (deedB_len _ _ _ _).trans hm
      have W := rwrite_ok h hks (by have := hv k hks; omega) (hx.bs0 0 256 256 (Nat.zero_le _) (Nat.le_refl _) (by omega) hl) (fun b e => by injection e with e; rw [← e]; exact hf)
      rw [hm, hk]
      rw [hk] at W
      exact W
    · have h1 : wrZ s.n x.at_ (deedN x.at_ x.sh) = 1 := by unfold wrZ; rw [if_pos hin, if_neg hm]
      have h2 : tdoK s x 0 = s := if_neg (fun e => hm e.2)
      rw [h1, h2]
      have W := rwrite_bad (A := some ⟨g, 0, none⟩) (c := deedN x.at_ x.sh) h hks hm
      rw [← hk] at W
      exact W.mono fun e w' ⟨a, b⟩ => ⟨a, r, by rw [b]; exact Rch.init h⟩
  · have h1 : wrZ s.n x.at_ (deedN x.at_ x.sh) = 2 := if_neg hin
    have h2 : tdoK s x 0 = s := if_neg (fun e => hin e.1)
    rw [h1, h2]
    exact (rwrite_far h (by omega) _).mono fun e w' ⟨a, b⟩ => ⟨a, r, by rw [b]; exact Rch.init h⟩
end
theorem rd_lt {w : World} {lo m : Nat} {A : Option Addr} {ps : List Int} (h : Rd w lo A (iz ps)) (hl : ps.length = m) (hm : 0 < m) : ∀ b, ablk A = some b → b < w.heap.size := fun b e => by
  obtain ⟨b', o, rfl, _, h2, _⟩ := h (by rw [length_iz, hl]; exact hm)
  injection e with e
  rw [← e]
  exact h2
theorem D8Ok.lt {w : World} {x : D8} (h : D8Ok w x) : 0 < x.pn → ∀ b, ablk x.pA = some b → b < w.heap.size := fun hn => rd_lt h.p h.pl hn
theorem rd_below {w w' : World} {lo m : Nat} {A : Option Addr} {ps : List Int} (h : Rd w lo A (iz ps)) (hb : Below w.heap.size w w') : Rd w' lo A (iz ps) := h.below hb (Nat.le_refl _)
end Go.Proofs.Ytjndopmjlbhajaa
