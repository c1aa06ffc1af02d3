/- A disk in memory: its sectors, and the versions that its map holds. No condition. -/
import Derived.Test.YtjndopmjlbhajaaLib
import Derived.Maps.Range
import Derived.Maps.Views
import Derived.Maps.RangeWalk
import Derived.Deep.MidRow
namespace Go.Proofs.Ytjndopmjlbhajaa
open Go.RowKit Go.Maps

/-- nothing but the blocks F, and what is new, has turned -/
structure Kept (F : Nat → Prop) (w w' : World) : Prop where
  os : w'.os = w.os
  tape : w'.tape = w.tape
  output : w'.output = w.output
  size : w.heap.size ≤ w'.heap.size
  block : ∀ k, k < w.heap.size → ¬ F k → w'.heap[k]? = w.heap[k]?
section
variable {F F' : Nat → Prop} {w w' w2 : World} {B : Nat}
theorem Kept.refl (F : Nat → Prop) (w : World) : Kept F w w := ⟨rfl, rfl, rfl, Nat.le_refl _, fun _ _ _ => rfl⟩
theorem Kept.trans (h : Kept F w w') (k : Kept F' w' w2) (hf : ∀ b, b < w.heap.size → F' b → F b) : Kept F w w2 :=
  ⟨k.os.trans h.os, k.tape.trans h.tape, k.output.trans h.output, Nat.le_trans h.size k.size, fun b hb hn => (k.block b (Nat.lt_of_lt_of_le hb h.size) (fun x => hn (hf b hb x))).trans (h.block b hb hn)⟩
theorem Kept.mono (h : Kept F w w') (hf : ∀ b, b < w.heap.size → F b → F' b) : Kept F' w w' := ⟨h.os, h.tape, h.output, h.size, fun b hb hn => h.block b hb (fun x => hn (hf b hb x))⟩
theorem Kept.of_below (h : Below B w w') (hB : w.heap.size ≤ B) : Kept F w w' := ⟨h.os, h.tape, h.output, h.size, fun b hb _ => h.block b (by omega)⟩
theorem Kept.of_grown {row : Option Nat} (h : w.grownBy w' row) (hf : ∀ b, row = some b → F b) : Kept F w w' := ⟨h.os, h.tape, h.output, h.size, fun b hb hn => h.block b hb (fun e => hn (hf b e.symm))⟩
theorem Kept.below (h : Kept F w w') (hB : B ≤ w.heap.size) (hf : ∀ b, F b → B ≤ b) : Below B w w' := ⟨h.os, h.tape, h.output, h.size, fun b hb => h.block b (by omega) (fun x => by have := hf b x; omega)⟩
theorem Kept.blk (h : Kept F w w') {g : Nat} {t : TypeId} {cs : List Value} (hb : Blk w g t cs) (hf : ¬ F g) : Blk w' g t cs := (h.block g hb.lt hf).trans hb
theorem range_kept {b o : Nat} {cs : List Value} (h : w.rangeAt b o cs) (hb : w'.heap[b]? = w.heap[b]?) : w'.rangeAt b o cs := fun j v hv => (World.cell?_of_block (a := ⟨b, o + j, none⟩) hb).trans (h j v hv)
theorem there_kept {b o n : Nat} (h : w.there b o n) (hb : w'.heap[b]? = w.heap[b]?) : w'.there b o n := fun j hj =>
  ⟨by rw [World.cell?_of_block (a := ⟨b, o + j, none⟩) hb]; exact (h j hj).1, (World.frozen?_of_block (a := ⟨b, o + j, none⟩) hb).trans (h j hj).2⟩
theorem own_kept {base : Nat} {e : TypeId} {s n c : Nat} {A : Option Addr} {xs : List Value} (h : Own w base e s A n c xs) (k : Kept F w w') (hf : ∀ b, ablk A = some b → ¬ F b) : Own w' base e s A n c xs := by
  have hh : w.grownBy w' none ∨ True := .inr trivial
  refine ⟨h.1, ?_⟩
  rcases h.2 with h2 | ⟨g, cap, cur, hv, hg, r1, r2⟩
  · exact .inl h2
  · have hA : A = some ⟨g, 0, none⟩ := by injection hv
    exact .inr ⟨g, cap, cur, hv, hg, (k.block g (Array.getElem?_eq_some_iff.1 r1).1 (hf g (by rw [hA]; rfl))).trans r1, r2⟩
end

def RV (v : Value) : Option (DataW Value × List MemPlace) := some (.held v, [])
theorem law3 : Keyed Try.prog 3 := int_keyed Try.underlying3
theorem zero84 (w : World) : (zeroValue 61).run Try.prog w = .ok (.slice none 0 0) w := by kernel_rfl
theorem info93 : (Try.prog.info? 100).map (·.size) = some 256 := by kernel_rfl
def kl (k : Nat) : Lit := .int .i64 k
theorem kl_wf (k : Nat) (h : k ≤ 9223372036854775807) : (Lit.int .i64 (k : Int)).wf = true := WalkArith.wf_i64 (by omega)
theorem key_kl (k : Nat) (h : k ≤ 9223372036854775807) : keyOf Try.prog 3 (.int .i64 (k : Int)) = some (kl k) := keyOf_int_mk Try.underlying3 (kl_wf k h)
theorem kl_ne {j k : Nat} (h : j ≠ k) : kl j ≠ kl k := fun e => by injection e with _ e; omega

structure Dsk where
  n : Nat
  lies : Nat → List UInt8
  vers : Nat → List (List UInt8)
  cut : Bool
  left : Int
/-- what a sector has -/
def hasD (s : Dsk) (k : Nat) : List UInt8 := (s.vers k).getLast?.getD (s.lies k)

structure Sv where
  A : Option Addr
  c : Nat
/-- where a disk lies -/
structure Dw where
  g : Nat
  L : Nat
  M : Nat
  v : Nat → Sv
  lc : Nat
def Dw.foot (d : Dw) : Nat → Prop := fun b => b = d.g ∨ b = d.L ∨ b = d.M ∨ ∃ k, ablk (d.v k).A = some b

def nilv : Value := .slice none 0 0
def MapD (w : World) (d : Dw) (s : Dsk) (D : DataW Value) : Prop :=
  w.ownsMap Try.prog 3 RV d.M s.n D ∧ (∀ k, k < s.n → D.atKey (kl k) (.held nilv) = .held (.slice (d.v k).A (s.vers k).length (d.v k).c)) ∧ (∀ x, has D x = true → ∃ k, k < s.n ∧ x = kl k ∧ s.vers k ≠ [])

/-- a block of cells of type t -/
def RowAt (w : World) (b : Nat) (t : TypeId) : Prop := ∃ cs, w.heap[b]? = some (.cells cs t (0, 0))
theorem rowAt_block {w w' : World} {b : Nat} {t : TypeId} (h : RowAt w b t) (e : w'.heap[b]? = w.heap[b]?) : RowAt w' b t := by
  obtain ⟨cs, h⟩ := h
  exact ⟨cs, e.trans h⟩
theorem rowAt_set {w : World} {b : Nat} {t : TypeId} (h : RowAt w b t) (j : Nat) (u : Value) : RowAt (w.setCell ⟨b, j, none⟩ u) b t := by
  obtain ⟨cs, h⟩ := h
  exact ⟨_, heap_setCell_same w b j cs t u h⟩
theorem rowAt_sets {b : Nat} {t : TypeId} : ∀ (vs : List Value) (o : Nat) {w : World}, RowAt w b t → RowAt (w.setCells b o vs) b t
  | [], _, _, h => h
  | v :: vs, o, _, h => by rw [World.setCells]; exact rowAt_sets vs _ (rowAt_set h o v)
structure Dk (w : World) (base : Nat) (d : Dw) (s : Dsk) : Prop where
  blk : Blk w d.g 64 [.slice (some ⟨d.L, 0, none⟩) s.n d.lc, .map (some d.M), .bool s.cut, .int .i64 s.left]
  llt : d.L < w.heap.size
  lies : ∀ k, k < s.n → w.rangeAt d.L (k * 256) (bvs (s.lies k))
  there : w.there d.L 0 (s.n * 256)
  map : ∃ D, MapD w d s D
  vers : ∀ k, k < s.n → Own w base 100 256 (d.v k).A (s.vers k).length (d.v k).c (bvs (s.vers k).flatten)
  out : ∀ k, s.n ≤ k → (d.v k).A = none
  apart : ∀ j k, j ≠ k → ablk (d.v j).A = none ∨ ablk (d.v j).A ≠ ablk (d.v k).A
  apL : ∀ k, ablk (d.v k).A ≠ some d.L
  len : ∀ k, k < s.n → (s.lies k).length = 256 ∧ ∀ x ∈ s.vers k, x.length = 256
  small : 1 ≤ s.n ∧ s.n ≤ 4096
  left : -9223372036854775808 ≤ s.left ∧ s.left ≤ 9223372036854775807
  bases : base ≤ d.g ∧ base ≤ d.L ∧ base ≤ d.M
  ne : d.L ≠ d.g ∧ d.M ≠ d.g ∧ d.M ≠ d.L
  lty : RowAt w d.L 100
section
variable {F : Nat → Prop} {w w' : World} {base B : Nat} {d : Dw} {s : Dsk}
theorem Dk.mlt (h : Dk w base d s) : d.M < w.heap.size := by obtain ⟨D, h1, _⟩ := h.map; exact h1.lt
theorem Dk.foot_base (h : Dk w base d s) : ∀ b, d.foot b → base ≤ b ∧ b < w.heap.size := by
  rintro b (rfl | rfl | rfl | ⟨k, hk⟩)
  · exact ⟨h.bases.1, h.blk.lt⟩
  · exact ⟨h.bases.2.1, h.llt⟩
  · exact ⟨h.bases.2.2, h.mlt⟩
  · by_cases hn : k < s.n
    · exact (h.vers k hn).blk hk
    · rw [h.out k (by omega)] at hk
      cases hk
theorem ownsMap_block {P : Program} {k : TypeId} {R : Value → Option (DataW Value × List MemPlace)} {b n : Nat} {D : DataW Value} (h : w.ownsMap P k R b n D) (hb : w'.heap[b]? = w.heap[b]?) : w'.ownsMap P k R b n D := by
  obtain ⟨es, clock, h1, h2⟩ := h
  exact ⟨es, clock, hb.trans h1, h2⟩
theorem Dk.kept (h : Dk w base d s) (K : Kept F w w') (hF : ∀ b, d.foot b → ¬ F b) : Dk w' base d s := by
  have hL := K.block d.L h.llt (hF _ (.inr (.inl rfl)))
  have hM := K.block d.M h.mlt (hF _ (.inr (.inr (.inl rfl))))
  refine ⟨K.blk h.blk (hF _ (.inl rfl)), Nat.lt_of_lt_of_le h.llt K.size, fun k hk => range_kept (h.lies k hk) hL, there_kept h.there hL, ?_, fun k hk => own_kept (h.vers k hk) K (fun b hb => hF b (.inr (.inr (.inr ⟨k, hb⟩)))), h.out, h.apart, h.apL, h.len, h.small, h.left, h.bases, h.ne, rowAt_block h.lty hL⟩
  obtain ⟨D, h1, h2⟩ := h.map
  exact ⟨D, ownsMap_block h1 hM, h2⟩
theorem Dk.below (h : Dk w base d s) (hb : Below B w w') (hB : w.heap.size ≤ B) : Dk w' base d s := h.kept (F := fun _ => False) (Kept.of_below hb hB) (fun _ _ x => x)
theorem Dk.drewN (h : Dk w base d s) (n : Nat) : Dk (w.drewN n) base d s := h.below (below_drewN (Below.refl _ _) n) (Nat.le_refl _)
theorem Dk.alloc (h : Dk w base d s) (o : Obj) : Dk (w.alloc o) base d s := h.below ((Below.refl _ _).alloc (Nat.le_refl _) o) (Nat.le_refl _)
/-- what the map has at a sector, in every world that has the map -/
theorem Dk.look (h : Dk w base d s) {k : Nat} (hk : k < s.n) (hw : w'.heap[d.M]? = w.heap[d.M]?) :
    (Instr.lookup 62 (.map (some d.M)) (.int .i64 (k : Int)) false).run Try.prog w' = .ok (.slice (d.v k).A (s.vers k).length (d.v k).c) w' := by
  obtain ⟨D, h1, h2, _⟩ := h.map
  have hs := h.small
  obtain ⟨v, ps, hr, hv⟩ := (ownsMap_block h1 hw).lookup law3 Try.underlying62 (zero84 w') (zd := .held nilv) (zp := []) rfl (key_kl k (by omega))
  rw [h2 k hk] at hv
  simp only [RV, Option.some.injEq, Prod.mk.injEq, DataW.held.injEq] at hv
  rw [hr, hv.1]
end
end Go.Proofs.Ytjndopmjlbhajaa
