/- A disk in memory: its sectors, and the versions that its map holds. No condition. -/
import Derived.Test.YtdakohbfibcjeaaLib
import Derived.Maps.Range
import Derived.Maps.Views
import Derived.Maps.RangeWalk
import Derived.Deep.MidRow
import Derived.Deep.DeepCutAuto
import Derived.StillTail
import Derived.OrdersHeld
import Derived.Maps.OwnSet
import Derived.Great.FillDense
namespace Go.Proofs.Ytdakohbfibcjeaa
open Go.RowKit Go.Maps

/-- nothing but the blocks F, and what is new, has turned -/
structure Kept (F : Nat → Prop) (w w' : World) : Prop where
  os : w'.os = w.os
  tape : w'.tape = w.tape
  output : w'.output = w.output
  size : w.heap.size ≤ w'.heap.size
  block : ∀ k, k < w.heap.size → ¬ F k → w'.heap[k]? = w.heap[k]?
section
variable {F F' : Nat → Prop} {w w' w2 : World} {B : Nat}
theorem Kept.refl (F : Nat → Prop) (w : World) : Kept F w w := ⟨rfl, rfl, rfl, Nat.le_refl _, fun _ _ _ => rfl⟩
theorem Kept.trans (h : Kept F w w') (k : Kept F' w' w2) (hf : ∀ b, b < w.heap.size → F' b → F b) : Kept F w w2 :=
  ⟨k.os.trans h.os, k.tape.trans h.tape, k.output.trans h.output, Nat.le_trans h.size k.size, fun b hb hn => (k.block b (Nat.lt_of_lt_of_le hb h.size) (fun x => hn (hf b hb x))).trans (h.block b hb hn)⟩
theorem Kept.mono (h : Kept F w w') (hf : ∀ b, b < w.heap.size → F b → F' b) : Kept F' w w' := ⟨h.os, h.tape, h.output, h.size, fun b hb hn => h.block b hb (fun x => hn (hf b hb x))⟩
theorem Kept.of_below (h : Below B w w') (hB : w.heap.size ≤ B) : Kept F w w' := ⟨h.os, h.tape, h.output, h.size, fun b hb _ => h.block b (by omega)⟩
theorem Kept.of_grown {row : Option Nat} (h : w.grownBy w' row) (hf : ∀ b, row = some b → F b) : Kept F w w' := ⟨h.os, h.tape, h.output, h.size, fun b hb hn => h.block b hb (fun e => hn (hf b e.symm))⟩
theorem Kept.below (h : Kept F w w') (hB : B ≤ w.heap.size) (hf : ∀ b, F b → B ≤ b) : Below B w w' := ⟨h.os, h.tape, h.output, h.size, fun b hb => h.block b (by omega) (fun x => by have := hf b x; omega)⟩
theorem Kept.blk (h : Kept F w w') {g : Nat} {t : TypeId} {cs : List Value} (hb : Blk w g t cs) (hf : ¬ F g) : Blk w' g t cs := (h.block g hb.lt hf).trans hb
theorem range_kept {b o : Nat} {cs : List Value} (h : w.rangeAt b o cs) (hb : w'.heap[b]? = w.heap[b]?) : w'.rangeAt b o cs := fun j v hv => (World.cell?_of_block (a := ⟨b, o + j, none⟩) hb).trans (h j v hv)
theorem there_kept {b o n : Nat} (h : w.there b o n) (hb : w'.heap[b]? = w.heap[b]?) : w'.there b o n := fun j hj =>
  ⟨by rw [World.cell?_of_block (a := ⟨b, o + j, none⟩) hb]; exact (h j hj).1, (World.frozen?_of_block (a := ⟨b, o + j, none⟩) hb).trans (h j hj).2⟩
theorem own_kept {base : Nat} {e : TypeId} {s n c : Nat} {A : Option Addr} {xs : List Value} (h : Own w base e s A n c xs) (k : Kept F w w') (hf : ∀ b, ablk A = some b → ¬ F b) : Own w' base e s A n c xs := by
  have hh : w.grownBy w' none ∨ True := .inr trivial
  refine ⟨h.1, ?_⟩
  rcases h.2 with h2 | ⟨g, cap, cur, hv, hg, r1, r2⟩
  · exact .inl h2
  · have hA : A = some ⟨g, 0, none⟩ := by injection hv
    exact .inr ⟨g, cap, cur, hv, hg, (k.block g (Array.getElem?_eq_some_iff.1 r1).1 (hf g (by rw [hA]; rfl))).trans r1, r2⟩
end

def RV (v : Value) : Option (DataW Value × List MemPlace) := some (.held v, [])
theorem law3 : Keyed Try.prog 3 := int_keyed Try.underlying3
theorem zero84 (w : World) : (zeroValue 75).run Try.prog w = .ok (.slice none 0 0) w := by kernel_rfl
theorem info93 : (Try.prog.info? 158).map (·.size) = some 256 := by kernel_rfl
def kl (k : Nat) : Lit := .int .i64 k
theorem kl_wf (k : Nat) (h : k ≤ 9223372036854775807) : (Lit.int .i64 (k : Int)).wf = true := WalkArith.wf_i64 (by omega)
theorem key_kl (k : Nat) (h : k ≤ 9223372036854775807) : keyOf Try.prog 3 (.int .i64 (k : Int)) = some (kl k) := keyOf_int_mk Try.underlying3 (kl_wf k h)
theorem kl_ne {j k : Nat} (h : j ≠ k) : kl j ≠ kl k := fun e => by injection e with _ e; omega

structure Dsk where
  n : Nat
  lies : Nat → List UInt8
  vers : Nat → List (List UInt8)
  cut : Bool
  left : Int
/-- what a sector has -/
def hasD (s : Dsk) (k : Nat) : List UInt8 := (s.vers k).getLast?.getD (s.lies k)

structure Sv where
  A : Option Addr
  c : Nat
/-- where a disk lies -/
structure Dw where
  g : Nat
  L : Nat
  M : Nat
  v : Nat → Sv
  lc : Nat
def Dw.foot (d : Dw) : Nat → Prop := fun b => b = d.g ∨ b = d.L ∨ b = d.M ∨ ∃ k, ablk (d.v k).A = some b

def nilv : Value := .slice none 0 0
def MapD (w : World) (d : Dw) (s : Dsk) (D : DataW Value) : Prop :=
  w.ownsMap Try.prog 3 RV d.M s.n D ∧ (∀ k, k < s.n → D.atKey (kl k) (.held nilv) = .held (.slice (d.v k).A (s.vers k).length (d.v k).c)) ∧ (∀ x, has D x = true → ∃ k, k < s.n ∧ x = kl k ∧ s.vers k ≠ [])

/-- a block of cells of type t -/
def RowAt (w : World) (b : Nat) (t : TypeId) : Prop := ∃ cs, w.heap[b]? = some (.cells cs t (0, 0))
theorem rowAt_block {w w' : World} {b : Nat} {t : TypeId} (h : RowAt w b t) (e : w'.heap[b]? = w.heap[b]?) : RowAt w' b t := by
  obtain ⟨cs, h⟩ := h
  exact ⟨cs, e.trans h⟩
theorem rowAt_set {w : World} {b : Nat} {t : TypeId} (h : RowAt w b t) (j : Nat) (u : Value) : RowAt (w.setCell ⟨b, j, none⟩ u) b t := by
  obtain ⟨cs, h⟩ := h
  exact ⟨_, heap_setCell_same w b j cs t u h⟩
theorem rowAt_sets {b : Nat} {t : TypeId} : ∀ (vs : List Value) (o : Nat) {w : World}, RowAt w b t → RowAt (w.setCells b o vs) b t
  | [], _, _, h => h
  | v :: vs, o, _, h => by rw [World.setCells]; exact rowAt_sets vs _ (rowAt_set h o v)
structure Dk (w : World) (base : Nat) (d : Dw) (s : Dsk) : Prop where
  blk : Blk w d.g 78 [.slice (some ⟨d.L, 0, none⟩) s.n d.lc, .map (some d.M), .bool s.cut, .int .i64 s.left]
  llt : d.L < w.heap.size
  lies : ∀ k, k < s.n → w.rangeAt d.L (k * 256) (bvs (s.lies k))
  there : w.there d.L 0 (s.n * 256)
  map : ∃ D, MapD w d s D
  vers : ∀ k, k < s.n → Own w base 158 256 (d.v k).A (s.vers k).length (d.v k).c (bvs (s.vers k).flatten)
  out : ∀ k, s.n ≤ k → (d.v k).A = none
  apart : ∀ j k, j ≠ k → ablk (d.v j).A = none ∨ ablk (d.v j).A ≠ ablk (d.v k).A
  apL : ∀ k, ablk (d.v k).A ≠ some d.L
  len : ∀ k, k < s.n → (s.lies k).length = 256 ∧ ∀ x ∈ s.vers k, x.length = 256
  small : 1 ≤ s.n ∧ s.n ≤ 4096
  left : -9223372036854775808 ≤ s.left ∧ s.left ≤ 9223372036854775807
  bases : base ≤ d.g ∧ base ≤ d.L ∧ base ≤ d.M
  ne : d.L ≠ d.g ∧ d.M ≠ d.g ∧ d.M ≠ d.L
  lty : RowAt w d.L 158
section
variable {F : Nat → Prop} {w w' : World} {base B : Nat} {d : Dw} {s : Dsk}
theorem Dk.mlt (h : Dk w base d s) : d.M < w.heap.size := by obtain ⟨D, h1, _⟩ := h.map; exact h1.lt
theorem Dk.foot_base (h : Dk w base d s) : ∀ b, d.foot b → base ≤ b ∧ b < w.heap.size := by
  rintro b (rfl | rfl | rfl | ⟨k, hk⟩)
  · exact ⟨h.bases.1, h.blk.lt⟩
  · exact ⟨h.bases.2.1, h.llt⟩
  · exact ⟨h.bases.2.2, h.mlt⟩
  · by_cases hn : k < s.n
    · exact (h.vers k hn).blk hk
    · rw [h.out k (by omega)] at hk
      cases hk
theorem ownsMap_block {P : Program} {k : TypeId} {R : Value → Option (DataW Value × List MemPlace)} {b n : Nat} {D : DataW Value} (h : w.ownsMap P k R b n D) (hb : w'.heap[b]? = w.heap[b]?) : w'.ownsMap P k R b n D := by
  obtain ⟨es, clock, h1, h2⟩ := h
  exact ⟨es, clock, hb.trans h1, h2⟩
theorem Dk.kept (h : Dk w base d s) (K : Kept F w w') (hF : ∀ b, d.foot b → ¬ F b) : Dk w' base d s := by
  have hL := K.block d.L h.llt (hF _ (.inr (.inl rfl)))
  have hM := K.block d.M h.mlt (hF _ (.inr (.inr (.inl rfl))))
  refine ⟨K.blk h.blk (hF _ (.inl rfl)), Nat.lt_of_lt_of_le h.llt K.size, fun k hk => range_kept (h.lies k hk) hL, there_kept h.there hL, ?_, fun k hk => own_kept (h.vers k hk) K (fun b hb => hF b (.inr (.inr (.inr ⟨k, hb⟩)))), h.out, h.apart, h.apL, h.len, h.small, h.left, h.bases, h.ne, rowAt_block h.lty hL⟩
  obtain ⟨D, h1, h2⟩ := h.map
  exact ⟨D, ownsMap_block h1 hM, h2⟩
theorem Dk.below (h : Dk w base d s) (hb : Below B w w') (hB : w.heap.size ≤ B) : Dk w' base d s := h.kept (F := fun _ => False) (Kept.of_below hb hB) (fun _ _ x => x)
theorem Dk.drewN (h : Dk w base d s) (n : Nat) : Dk (w.drewN n) base d s := h.below (below_drewN (Below.refl _ _) n) (Nat.le_refl _)
theorem Dk.alloc (h : Dk w base d s) (o : Obj) : Dk (w.alloc o) base d s := h.below ((Below.refl _ _).alloc (Nat.le_refl _) o) (Nat.le_refl _)
/-- what the map has at a sector, in every world that has the map -/
theorem Dk.look (h : Dk w base d s) {k : Nat} (hk : k < s.n) (hw : w'.heap[d.M]? = w.heap[d.M]?) :
    (Instr.lookup 76 (.map (some d.M)) (.int .i64 (k : Int)) false).run Try.prog w' = .ok (.slice (d.v k).A (s.vers k).length (d.v k).c) w' := by
  obtain ⟨D, h1, h2, _⟩ := h.map
  have hs := h.small
  obtain ⟨v, ps, hr, hv⟩ := (ownsMap_block h1 hw).lookup law3 Try.underlying76 (zero84 w') (zd := .held nilv) (zp := []) rfl (key_kl k (by omega))
  rw [h2 k hk] at hv
  simp only [RV, Option.some.injEq, Prod.mk.injEq, DataW.held.injEq] at hv
  rw [hr, hv.1]
end
end Go.Proofs.Ytdakohbfibcjeaa
namespace Go.Proofs.Ytdakohbfibcjeaa
open Go.RowKit Go.Maps

theorem rd_range {w : World} {lo b o : Nat} {xs : List Value} (h : Rd w lo (some ⟨b, o, none⟩) xs) : w.rangeAt b o xs := fun j v hv => by
  have hj : j < xs.length := (List.getElem?_eq_some_iff.1 hv).1
  obtain ⟨b', o', e, _, _, hc⟩ := h (by omega)
  injection e with e
  injection e with e1 e2
  subst e1 e2
  rw [hc j hj, ← hv, List.getElem?_eq_getElem hj]
theorem range_part {w : World} {b o : Nat} {xs ys zs : List Value} (h : w.rangeAt b o (xs ++ ys ++ zs)) : w.rangeAt b (o + xs.length) ys := fun j v hv => by
  have hj : j < ys.length := (List.getElem?_eq_some_iff.1 hv).1
  have := h (xs.length + j) v (by rw [List.append_assoc, List.getElem?_append_right (by omega), List.getElem?_append_left (by omega), show xs.length + j - xs.length = j by omega]; exact hv)
  rwa [← Nat.add_assoc] at this
theorem flatten_len {l : List (List UInt8)} (h : ∀ x ∈ l, x.length = 256) : l.flatten.length = l.length * 256 := by
  induction l with
  | nil => rfl
  | cons a l ih => rw [List.flatten_cons, List.length_append, ih (fun x hx => h x (by simp [hx])), h a (by simp), List.length_cons]; omega
/-- the last version of a sector -/
theorem Dk.last {w : World} {base : Nat} {d : Dw} {s : Dsk} (h : Dk w base d s) {k : Nat} (hk : k < s.n) (hv : 0 < (s.vers k).length) : ∃ b, (d.v k).A = some ⟨b, 0, none⟩ ∧ w.rangeAt b (((s.vers k).length - 1) * 256) (bvs (hasD s k)) := by
  obtain ⟨b, hA, _, _⟩ := (h.vers k hk).head hv
  refine ⟨b, hA, ?_⟩
  have ho := (h.vers k hk).rd
  rw [hA] at ho
  have hr := rd_range ho
  obtain ⟨ini, x, hx⟩ : ∃ ini x, s.vers k = ini ++ [x] := by
    have := List.eq_nil_or_concat (s.vers k)
    rcases this with h1 | ⟨l, b, h1⟩
    · rw [h1] at hv; simp at hv
    · exact ⟨l, b, by simpa using h1⟩
  have hl := (h.len k hk).2
  have hh : hasD s k = x := by unfold hasD; rw [hx]; simp
  rw [hh]
  rw [hx] at hr hl
  have e : bvs (ini ++ [x]).flatten = bvs ini.flatten ++ bvs x ++ [] := by simp [bvs]
  rw [e] at hr
  have := range_part hr
  rw [Nat.zero_add, length_bvs, flatten_len (fun y hy => hl y (by simp [hy]))] at this
  rw [hx, List.length_append]
  simpa using this
theorem hasD_len {w : World} {base : Nat} {d : Dw} {s : Dsk} (h : Dk w base d s) {k : Nat} (hk : k < s.n) : (hasD s k).length = 256 := by
  obtain ⟨h1, h2⟩ := h.len k hk
  unfold hasD
  cases hx : (s.vers k).getLast? with
  | none => exact h1
  | some x => exact h2 x (List.mem_of_getLast? hx)
theorem hasD_none {s : Dsk} {k : Nat} (h : (s.vers k).length = 0) : hasD s k = s.lies k := by
  unfold hasD
  rw [List.eq_nil_of_length_eq_zero h]
  rfl

theorem row_put {P : Program} {ops : Array Oper} {rest : List Oper} {o : Oper} {a : Act} {w : World} {Q : Exit → Act → World → Prop} (hgd : o.guard = none) (hds : o.dst = none) (ty : TypeId) (x y : Operand) (ho : o.op = .store ty x y)
    (g : Nat) (hx : a.eval x = .pointer (some ⟨g, 0, none⟩)) (cs : List Value) (hy : a.eval y = .agg cs.toArray) (t : TypeId) (old : List Value) (hg : Blk w g t old) (hi : (P.info? ty).map (·.size) = some cs.length)
    (hl : old.length = cs.length) (h1 : ∀ u ∈ cs, u.oneCell' = true)
    (h : ∀ w', Hid (Blk w' g t cs) → w.grownBy w' (some g) → wpList P ops Q rest a w') : wpList P ops Q (o :: rest) a w := by
  have hall : cs.toArray.all (·.oneCell') = true := by
    rw [Array.all_eq_true_iff_forall_mem]; intro v hv; exact h1 v (by simpa using hv)
  have hp : a.put o.dst undef = a := by rw [hds]; rfl
  refine wpList_store_row hgd ty x y ho g cs.toArray hx hy t old.toArray hg (by simpa using hi) (by simpa using hl) hall ?_
  rw [hp]
  exact h _ (show Blk _ _ _ _ from setRow_heap w g _ _ t _ hg) ⟨rfl, rfl, rfl, by simp, fun k _ hk => setRow_other w g k _ (fun e => hk (by rw [e]))⟩
theorem dsize_any {w : World} {base : Nat} {d : Dw} {s : Dsk} (h : Dk w base d s) :
    Calls Try.prog 56 #[.pointer (some ⟨d.g, 0, none⟩)] w fun e w' => e = .returned (.int .i64 s.n) ∧ w' = w := by
  have bc := h.blk.cells
  clear h
  go_enter Try.func56, Try.ntmps56
  go_wp2
  go_ret
  exact ⟨rfl, rfl⟩

theorem zero93 (w : World) : (zeroValue 158).run Try.prog w = .ok (.agg (bvs (List.replicate 256 0)).toArray) w := by kernel_rfl

set_option maxRecDepth 100000 in
set_option maxHeartbeats 2000000 in
theorem has_any {w : World} {base : Nat} {d : Dw} {s : Dsk} (h : Dk w base d s) {k : Nat} (hk : k < s.n) :
    Calls Try.prog 78 #[.pointer (some ⟨d.g, 0, none⟩), .int .i64 k] w fun e w' => e = .returned (.agg (bvs (hasD s k)).toArray) ∧ Below w.heap.size w w' := by
  have hz := zero93
  have HD := Lib.hid h
  have hs := h.small
  go_enter Try.func78, Try.ntmps78
  go_upto_region 1 with fail
  refine wp_world (fun U => Blk U w.heap.size 158 (bvs (List.replicate 256 0)) ∧ Below w.heap.size w U) ⟨Blk.new w _ _, (Below.refl _ _).alloc (Nat.le_refl _) _⟩ ?_
  rintro U ⟨hB, hU⟩
  have hD := h.below hU (Nat.le_refl _)
  have bc := hD.blk.cells
  have hlk := hD.look hk (w' := U) rfl
  have hB0 := Lib.hid hB
  have hL := Lib.hid (hasD_len h hk)
  clear hB h hz
  rcases Nat.eq_zero_or_pos (s.vers k).length with h0 | h0
  · have hr := hD.lies k hk
    have he := hasD_none h0
    rw [← he] at hr
    have HRg := Lib.hid hr
    rw [h0] at hlk
    have hkn : (k : Int) < (s.n : Int) := by omega
    clear hr he h0
    have HD2 := Lib.hid hD
    clear hD
    go_wp2_with (first
      | (((with_reducible refine wpList_load_mid (op := ⟨some 27, _, _, _, _, _⟩) ?_ 158 (.tmp 26) ?_ d.L (k * 256) ?_ (bvs (hasD s k)) _ ?_ Try.underlying158 ?_ ?_ ?_); rfl; rfl; (first | rfl | (go_simp; rfl)); exact HRg.out; rfl; (rw [info93]; simp [length_bvs, hL.out])))
      | (((with_reducible refine row_put (o := ⟨none, _, _, _, _, _⟩) ?_ ?_ 158 (.tmp 4) (.tmp 27) ?_ w.heap.size ?_ (bvs (hasD s k)) ?_ 158 (bvs (List.replicate 256 0)) ?_ ?_ ?_ ?_ ?_); rfl; rfl; rfl; rfl; rfl; exact hB0.out; (rw [info93]; simp [length_bvs, hL.out]); (simp [length_bvs, hL.out]); exact bvs_oneCell _; (intro w9 X9 g9))))
    refine bodyPost_ret (results_cell_row rfl _ w9 w.heap.size 158 _ (0, 0) _ rfl X9.out Try.underlying158 rfl (by rw [info93]; simp [length_bvs, hL.out])) rfl ?_
    exact ⟨rfl, hU.grown g9 hU.size (by intro k hk; cases hk; exact Nat.le_refl _)⟩
  · obtain ⟨b, hA, hr⟩ := hD.last hk h0
    have HRg := Lib.hid hr
    rw [hA] at hlk
    have hcap := (hD.vers k hk).cap
    have HD2 := Lib.hid hD
    clear hr hA hD
    obtain ⟨m, hm⟩ : ∃ m, (s.vers k).length = m + 1 := ⟨(s.vers k).length - 1, by omega⟩
    rw [hm] at hlk HRg hcap
    rw [show m + 1 - 1 = m by omega] at HRg
    clear h0 hm
    go_wp2_with (first
      | (((with_reducible refine wpList_load_mid (op := ⟨some 20, _, _, _, _, _⟩) ?_ 158 (.tmp 19) ?_ b (m * 256) ?_ (bvs (hasD s k)) _ ?_ Try.underlying158 ?_ ?_ ?_); rfl; rfl; (first | rfl | (go_simp; rfl)); exact HRg.out; rfl; (rw [info93]; simp [length_bvs, hL.out])))
      | (((with_reducible refine row_put (o := ⟨none, _, _, _, _, _⟩) ?_ ?_ 158 (.tmp 4) (.tmp 20) ?_ w.heap.size ?_ (bvs (hasD s k)) ?_ 158 (bvs (List.replicate 256 0)) ?_ ?_ ?_ ?_ ?_); rfl; rfl; rfl; rfl; rfl; exact hB0.out; (rw [info93]; simp [length_bvs, hL.out]); (simp [length_bvs, hL.out]); exact bvs_oneCell _; (intro w9 X9 g9))))
    refine bodyPost_ret (results_cell_row rfl _ w9 w.heap.size 158 _ (0, 0) _ rfl X9.out Try.underlying158 rfl (by rw [info93]; simp [length_bvs, hL.out])) rfl ?_
    exact ⟨rfl, hU.grown g9 hU.size (by intro k hk; cases hk; exact Nat.le_refl _)⟩

set_option maxRecDepth 100000 in
set_option maxHeartbeats 2000000 in
theorem dread_ok {w : World} {base : Nat} {d : Dw} {s : Dsk} (h : Dk w base d s) {k : Nat} (hk : k < s.n) :
    Calls Try.prog 61 #[.pointer (some ⟨d.g, 0, none⟩), .int .i64 k] w fun e w' => ∃ g, e = .returned (.tuple #[.slice (some ⟨g, 0, none⟩) 256 256, .int .i64 0]) ∧ Blk w' g 158 (bvs (hasD s k)) ∧ w.heap.size ≤ g ∧ Below w.heap.size w w' := by
  have hz := zero93
  have hs := h.small
  have hL := Lib.hid (hasD_len h hk)
  have bc := h.blk.cells
  have H1 := Lib.hid (has_any h hk)
  have hkn : (k : Int) < (s.n : Int) := by omega
  have hk0 : ¬ ((k : Int) < 0) := by omega
  have d1 : decide ((s.n : Int) ≤ (k : Int)) = false := decide_eq_false (by omega)
  clear h
  go_enter Try.func61, Try.ntmps61
  go_upto_region 4 with (first
    | ((with_reducible refine Calls.mono H1.out ?_); rintro e w1 ⟨rfl, hb1⟩)
    | (((with_reducible refine row_put (o := ⟨none, _, _, _, _, _⟩) ?_ ?_ 158 (.tmp 6) (.tmp 20) ?_ w1.heap.size ?_ (bvs (hasD s k)) ?_ 158 (bvs (List.replicate 256 0)) ?_ ?_ ?_ ?_ ?_); rfl; rfl; rfl; rfl; rfl; exact Blk.new w1 _ _; (rw [info93]; simp [length_bvs, hL.out]); (simp [length_bvs, hL.out]); exact bvs_oneCell _; (intro w9 X9 g9))))
  refine wp_world (fun U => Blk U w1.heap.size 158 (bvs (hasD s k)) ∧ Below w.heap.size w U) ⟨X9.out, (hb1.alloc hb1.size _).grown g9 (hb1.alloc hb1.size _).size (by intro k hk; cases hk; exact hb1.size)⟩ ?_
  rintro U ⟨hB, hU⟩
  have z1 := Lib.hid hb1.size
  clear X9 g9 hb1 H1 hz bc
  go_wp2
  go_ret2
  exact ⟨_, rfl, hB, z1.out, hU⟩
theorem dread_far {w : World} {base : Nat} {d : Dw} {s : Dsk} (h : Dk w base d s) {k : Int} (hk : k < 0 ∨ (s.n : Int) ≤ k) :
    Calls Try.prog 61 #[.pointer (some ⟨d.g, 0, none⟩), .int .i64 k] w fun e w' => e = .returned (.tuple #[.slice none 0 0, .int .i64 2]) ∧ w' = w := by
  have bc := h.blk.cells
  clear h
  by_cases h0 : k < 0
  · go_enter Try.func61, Try.ntmps61
    go_wp2
    go_ret2
    exact ⟨rfl, rfl⟩
  · have d1 : decide ((s.n : Int) ≤ k) = true := decide_eq_true (by omega)
    clear hk
    go_enter Try.func61, Try.ntmps61
    go_wp2
    go_ret2
    exact ⟨rfl, rfl⟩
end Go.Proofs.Ytdakohbfibcjeaa
namespace Go.Proofs.Ytdakohbfibcjeaa

section
variable {P : Program} {md : Region.Mode} {ops ops' : Array Oper} {Q : Exit → Act → World → Prop}

/-- Q behind one operation more. -/
def lastQ (P : Program) (o : Oper) (Q : Exit → Act → World → Prop) : Exit → Act → World → Prop
  | .normal, a, w => o.wp P a w (Q .normal) Q
  | .exit i, a, w => Q (.exit i) a w
  | .goto l, a, w => Q (.goto l) a w
  | .ret, a, w => Q .ret a w
  | .panic _, _, _ => False
  | .outgrown, a, w => Q .outgrown a w

theorem oper_both {o x : Oper} {a : Act} {w : World} {K K' : Act → World → Prop} (h : ∀ a w, K a w → K' a w) (hh : o.wp P a w K (lastQ P x Q)) : o.wp P a w K' Q := by
  unfold Oper.wp at *
  generalize (execOp a.eval o).run P w = r at *
  cases r with
  | ok n w' =>
    cases n <;> simp only [Oper.upon] at hh ⊢
    case value u => exact h _ _ hh
    case skip => exact h _ _ hh
    case defer d => exact h _ _ hh
    case enter f args =>
      refine Calls.mono hh fun e w'' he => ?_
      cases e with
      | returned u => exact h _ _ he
      | panicked c => exact False.elim he
      | outgrown => exact he
    case row row args => exact Rows.mono hh fun u w'' he => h _ _ he
  | halt x w' =>
    cases x <;> simp only [Oper.upon] at hh ⊢
    case panic u => exact False.elim hh

/-- no operation has a guard; each waits for earlier ones alone -/
def ascB (md : Region.Mode) (ops : Array Oper) : Bool :=
  (List.range ops.size).all fun j => match ops[j]? with
    | some o => o.guard.isNone && o.after.all fun e => !Region.binds md e || decide (e.on < j)
    | none => true
theorem ascB_spec (h : ascB md ops = true) {j : Nat} {o : Oper} (hj : ops[j]? = some o) : o.guard = none ∧ ∀ e ∈ o.after, Region.binds md e = true → e.on < j := by
  have hlt : j < ops.size := (Array.getElem?_eq_some_iff.1 hj).1
  have h1 := List.all_eq_true.1 h j (List.mem_range.2 hlt)
  simp only [hj, Bool.and_eq_true, Option.isNone_iff_eq_none] at h1
  refine ⟨h1.1, fun e he hb => ?_⟩
  have h2 := Array.all_eq_true_iff_forall_mem.1 h1.2 e he
  simpa [hb] using h2
theorem wanted_none {o : Oper} (h : o.guard = none) (y : Nat → Option Bool) : Region.wanted o y = true := by
  simp [Region.wanted, h]

theorem wpOp_both {i : Nat} {o x : Oper} (hi : ops[i]? = some o) (hi' : ops'[i]? = some o) (hg : o.guard = none) {K K' : Act → World → Prop} {a : Act} {w : World}
    (h : ∀ a w, K a w → K' a w) (hh : wpOp P ops' (lastQ P x Q) i K a w) : wpOp P ops Q i K' a w := by
  unfold wpOp at *
  simp only [hi, hi', wanted_none hg, if_true] at *
  rcases hh with hh | ⟨ha, a', w', hl⟩
  · exact .inl (oper_both h hh)
  · exact .inr ⟨ha, a', w', hl⟩

theorem getD_same {l : Array Bool} {i : Nat} (h : i < l.size) (d d' : Bool) : l.getD i d = l.getD i d' := by simp [h]

theorem wpAny_last {n : Nat} {x : Oper} (hx : ops[n]? = some x) (hsz : ops.size = n + 1) (ha : ascB md ops = true) (hs : Region.sinkB md ops n = true) (hc : Region.chainB md ops n = true)
    (hsz' : ops'.size = n) (heq : ∀ i < n, ops'[i]? = ops[i]?) :
    ∀ (fuel : Nat) (listed listed' : Array Bool) (a : Act) (w : World), HeadInv md ops n listed → listed'.size = n → (∀ i < n, listed'.getD i true = listed.getD i true) →
      wpAny P md ops' (lastQ P x Q) fuel listed' a w → wpAny P md ops Q (fuel + 1) listed a w := by
  have hready : ∀ (listed listed' : Array Bool), HeadInv md ops n listed → listed'.size = n → (∀ i < n, listed'.getD i true = listed.getD i true) →
      ∀ i < n, (i ∈ Region.ready md ops' listed' ↔ i ∈ Region.ready md ops listed) := by
    intro listed listed' inv hl he i hi
    rw [mem_ready, mem_ready, he i hi, heq i hi]
    refine and_congr Iff.rfl (exists_congr fun o => and_congr_right fun ho => ?_)
    refine forall_congr' fun e => forall_congr' fun hm => forall_congr' fun hb => ?_
    have hlt := (ascB_spec ha ho).2 e hm hb
    have hsz2 := inv.size
    rw [getD_same (l := listed') (by omega) false true, getD_same (l := listed) (by omega) false true, he _ (by omega)]
  have hall : ∀ (listed listed' : Array Bool), HeadInv md ops n listed → listed'.size = n → (∀ i < n, listed'.getD i true = listed.getD i true) → Region.ready md ops' listed' = [] →
      ∀ i, i < n → listed.getD i true = true := by
    intro listed listed' inv hl he hr i
    induction i using Nat.strongRecOn with
    | _ i ih =>
      intro hi
      cases hu : listed.getD i true with
      | true => rfl
      | false =>
        have : i ∈ Region.ready md ops' listed' := by
          rw [hready listed listed' inv hl he i hi, mem_ready]
          have hlt : i < ops.size := by omega
          refine ⟨hu, ops[i], Array.getElem?_eq_getElem hlt, fun e hm hb => ?_⟩
          have h1 := (ascB_spec ha (Array.getElem?_eq_getElem hlt)).2 e hm hb
          have hsz2 := inv.size
          rw [getD_same (by omega) false true]
          exact ih _ h1 (by omega)
        rw [hr] at this
        cases this
  have hend : ∀ (fuel : Nat) (listed listed' : Array Bool) (a : Act) (w : World), HeadInv md ops n listed → listed'.size = n → (∀ i < n, listed'.getD i true = listed.getD i true) →
      Region.ready md ops' listed' = [] → lastQ P x Q .normal a w → wpAny P md ops Q (fuel + 1) listed a w := by
    intro fuel listed listed' a w inv hl he hr hq
    have hA := hall listed listed' inv hl he hr
    have hsz2 := inv.size
    have hn : n ∈ Region.ready md ops listed := by
      rw [mem_ready]
      refine ⟨inv.tail n (Nat.le_refl _) (by omega), x, hx, fun e hm hb => ?_⟩
      have h1 := (ascB_spec ha hx).2 e hm hb
      rw [getD_same (by omega) false true]
      exact hA _ h1
    refine ⟨fun h => (by rw [h] at hn; cases hn), fun i hi => ?_⟩
    obtain ⟨hu, o, ho, _⟩ := mem_ready.1 hi
    have hlt : i < ops.size := (Array.getElem?_eq_some_iff.1 ho).1
    have hin : i = n := by
      rcases Nat.lt_or_ge i n with h | h
      · rw [hA i h] at hu; cases hu
      · omega
    subst hin
    have hnil : Region.ready md ops (listed.setIfInBounds i true) = [] := by
      rw [List.eq_nil_iff_forall_not_mem]
      intro j hj
      obtain ⟨hu2, o2, ho2, _⟩ := mem_ready.1 hj
      have hlt2 : j < ops.size := (Array.getElem?_eq_some_iff.1 ho2).1
      by_cases hji : i = j
      · subst hji
        simp [hsz2, hlt] at hu2
      · rw [getD_set_ne true hji, hA j (by omega)] at hu2
        cases hu2
    unfold wpOp
    simp only [hx, wanted_none (ascB_spec ha hx).1, if_true]
    refine .inl (Oper.wp_mono (fun a' w' h => ?_) hq)
    cases fuel with
    | zero => exact ⟨hnil, h⟩
    | succ f => exact ⟨fun _ => h, by rw [hnil]; intro k hk; cases hk⟩
  intro fuel
  induction fuel with
  | zero =>
    intro listed listed' a w inv hl he h
    exact hend 0 listed listed' a w inv hl he h.1 h.2
  | succ fuel ih =>
    intro listed listed' a w inv hl he h
    by_cases hr : Region.ready md ops' listed' = []
    · exact hend (fuel + 1) listed listed' a w inv hl he hr (h.1 hr)
    · obtain ⟨k, hk⟩ := List.exists_mem_of_ne_nil _ hr
      obtain ⟨hku, ok, hok, _⟩ := mem_ready.1 hk
      have hkn : k < n := by have := (Array.getElem?_eq_some_iff.1 hok).1; omega
      have hnn : n ∉ Region.ready md ops listed := tail_waits hs hc (by omega) inv (n - k) k rfl hkn (by rw [← he k hkn]; exact hku) n (Nat.le_refl _)
      have hk' := (hready listed listed' inv hl he k hkn).1 hk
      refine ⟨fun h0 => (by rw [h0] at hk'; cases hk'), fun i hi => ?_⟩
      obtain ⟨hu, o, ho, _⟩ := mem_ready.1 hi
      have hlt : i < ops.size := (Array.getElem?_eq_some_iff.1 ho).1
      have hin : i < n := by
        rcases Nat.lt_or_ge i n with h' | h'
        · exact h'
        · obtain rfl : i = n := by omega
          exact absurd hi hnn
      have h2 := h.2 i ((hready listed listed' inv hl he i hin).2 hi)
      refine wpOp_both ho ((heq i hin).trans ho) (ascB_spec ha ho).1 (fun a' w' h3 => ?_) h2
      refine ih _ _ a' w' (inv.set hi hin) (by simpa using hl) (fun j hj => ?_) h3
      by_cases hji : i = j
      · subst hji
        have hsz2 := inv.size
        simp [hl, hj, hsz2, hlt]
      · rw [getD_set_ne true hji, getD_set_ne true hji, he j hj]

def lastB (md : Region.Mode) (ops : Array Oper) (n : Nat) : Bool := decide (ops.size = n + 1) && (ascB md ops && (Region.sinkB md ops n && Region.chainB md ops n))

/-- THE MOVE: the region without its last operation, the loads held by S; then that operation. -/
theorem wp_region_last {S : World → Prop} {id : Nat} {a : Act} {w : World} {l : List Oper} {x : Oper} (n : Nat) (hm : P.follows .mixedOrders = true) (hx : l[n]? = some x) (hB : lastB .any l.toArray n = true)
    (hS : S w.drew) (h : S w.drew → wpAnyH P .any (l.take n).toArray (lastQ P x Q) S n (Array.replicate n false) a w.drew) : (Code.region id l.toArray true).wp P Q a w := by
  simp only [lastB, Bool.and_eq_true, decide_eq_true_eq] at hB
  obtain ⟨hsz, ha, hs, hc⟩ := hB
  have hl : l.length = n + 1 := by simpa using hsz
  refine wp_region_any hm ?_
  rw [hsz]
  have H := wpAny_of_held _ _ _ _ (h hS)
  refine wpAny_last (n := n) (x := x) (by simpa using hx) hsz ha hs hc (ops' := (l.take n).toArray) (by simp; omega) (fun i hi => by simp [hi]) n _ (Array.replicate n false) a _ ?_ (by simp) (fun i hi => by simp [hi, Nat.lt_succ_of_lt hi]) H
  exact ⟨by simp [hl], fun j oj _ hl2 => (by rw [getD_replicate_false] at hl2; cases hl2), fun t _ ht => getD_in (by simpa [hl] using ht) (getD_replicate_false _ _)⟩
end
end Go.Proofs.Ytdakohbfibcjeaa
namespace Go.Proofs.Ytdakohbfibcjeaa
open Go.RowKit Go.Maps

def doneOk (s : Dsk) : Bool := !s.cut || decide (0 ≤ wrap64 (s.left - 1))
def doneS (s : Dsk) : Dsk := if s.cut then { s with left := wrap64 (s.left - 1) } else s
theorem wrap_bd (x : Int) : -9223372036854775808 ≤ wrap64 x ∧ wrap64 x ≤ 9223372036854775807 := by unfold wrap64; omega

theorem Dk.reblk {w w' : World} {base : Nat} {d : Dw} {s : Dsk} (h : Dk w base d s) (K : Kept (fun b => b = d.g) w w') {ct : Bool} {lf : Int} (hl : -9223372036854775808 ≤ lf ∧ lf ≤ 9223372036854775807)
    (hb : Blk w' d.g 78 [.slice (some ⟨d.L, 0, none⟩) s.n d.lc, .map (some d.M), .bool ct, .int .i64 lf]) : Dk w' base d { s with cut := ct, left := lf } := by
  have hL := K.block d.L h.llt h.ne.1
  have hM := K.block d.M h.mlt h.ne.2.1
  refine ⟨hb, Nat.lt_of_lt_of_le h.llt K.size, fun k hk => range_kept (h.lies k hk) hL, there_kept h.there hL, ?_, fun k hk => own_kept (h.vers k hk) K (fun b hb e => ?_), h.out, h.apart, h.apL, h.len, h.small, hl, h.bases, h.ne, rowAt_block h.lty hL⟩
  · obtain ⟨D, h1, h2⟩ := h.map
    exact ⟨D, ownsMap_block h1 hM, h2⟩
  · subst e
    rcases (h.vers k hk).cases with ⟨h0, _⟩ | ⟨g', cur, hA, _, hh, _⟩
    · rw [h0] at hb; cases hb
    · rw [hA] at hb
      have hg : g' = d.g := by injection hb
      subst hg
      have h2 : w.heap[d.g]? = _ := h.blk
      rw [h2] at hh
      simp only [Option.some.injEq, Obj.cells.injEq] at hh
      exact absurd hh.2.1 (by decide)

end Go.Proofs.Ytdakohbfibcjeaa
namespace Go.Proofs.Ytdakohbfibcjeaa
open Go.RowKit Go.Maps

theorem keys_le {H : Type} : ∀ (n : Nat) (es : List (Lit × DataW H)), n ≤ 9223372036854775807 → es.Pairwise (fun p q => p.1 ≠ q.1) → (∀ p ∈ es, ∃ j, j < n ∧ p.1 = kl j) → es.length ≤ n
  | 0, es, _, _, h => by
    cases es with
    | nil => exact Nat.le_refl _
    | cons p l => obtain ⟨j, hj, _⟩ := h p (by simp); omega
  | n + 1, es, hn, hp, h => by
    have h1 := length_strike (k := kl n) es hp
    have h2 := keys_le n (es.filter fun p => !p.1.sameKey (kl n)) (by omega) (hp.filter _) (fun p hm => by
      obtain ⟨hm1, hm2⟩ := List.mem_filter.1 hm
      obtain ⟨j, hj, e⟩ := h p hm1
      refine ⟨j, ?_, e⟩
      by_cases hjn : j = n
      · subst hjn
        rw [e, WideAt.sameKey_self (law3.key (key_kl j (by omega)))] at hm2
        simp at hm2
      · omega)
    split at h1 <;> omega
theorem owns_tight {w : World} {b m n : Nat} {D : DataW Value} (h : w.ownsMap Try.prog 3 RV b m D) (hn : n ≤ 9223372036854775807) (hk : ∀ x, has D x = true → ∃ j, j < n ∧ x = kl j) : w.ownsMap Try.prog 3 RV b n D := by
  obtain ⟨es0, he, hp, hkey⟩ := h.entries law3
  have hle : es0.length ≤ n := keys_le n es0 hn hp (fun p hm => by
    obtain ⟨j, hj, e⟩ := hk p.1 (by
      rw [he]
      exact List.any_eq_true.2 ⟨p, hm, WideAt.sameKey_self (hkey p hm)⟩)
    exact ⟨j, hj, e⟩)
  obtain ⟨es, clock, h1, h2, _, h4⟩ := h
  refine ⟨es, clock, h1, h2, ?_, h4⟩
  rw [h4] at he
  injection he with he
  have : es.size = es0.length := by rw [← he, length_sorted]; simp
  omega

def writeS (s : Dsk) (k : Nat) (x : List UInt8) : Dsk := { s with vers := fun j => if j = k then s.vers k ++ [x] else s.vers j }
def Dw.put (d : Dw) (k : Nat) (a : Sv) : Dw := { d with v := fun j => if j = k then a else d.v j }

section
variable {w w1 w2 : World} {base : Nat} {d : Dw} {s : Dsk}
theorem Dk.apG (h : Dk w base d s) (k : Nat) : ablk (d.v k).A ≠ some d.g := fun e => by
  by_cases hk : k < s.n
  · rcases (h.vers k hk).cases with ⟨h0, _⟩ | ⟨g', cur, hA, _, hh, _⟩
    · rw [h0] at e; cases e
    · rw [hA] at e
      have hg : g' = d.g := by injection e
      subst hg
      have h2 : w.heap[d.g]? = _ := h.blk
      rw [h2] at hh
      simp only [Option.some.injEq, Obj.cells.injEq] at hh
      exact absurd hh.2.1 (by decide)
  · rw [h.out k (by omega)] at e; cases e
theorem Dk.apM (h : Dk w base d s) (k : Nat) : ablk (d.v k).A ≠ some d.M := fun e => by
  by_cases hk : k < s.n
  · rcases (h.vers k hk).cases with ⟨h0, _⟩ | ⟨g', cur, hA, _, hh, _⟩
    · rw [h0] at e; cases e
    · rw [hA] at e
      have hg : g' = d.M := by injection e
      subst hg
      obtain ⟨D, ⟨es, clock, h1, _⟩, _⟩ := h.map
      rw [h1] at hh
      cases hh
  · rw [h.out k (by omega)] at e; cases e
theorem Dk.vlt (h : Dk w base d s) {k b : Nat} (e : ablk (d.v k).A = some b) : b < w.heap.size := (h.foot_base b (.inr (.inr (.inr ⟨k, e⟩)))).2

theorem Dk.write (h : Dk w base d s) {k : Nat} (hk : k < s.n) {x : List UInt8} (hx : x.length = 256) {A' : Option Addr} {c' m : Nat} {D : DataW Value}
    (ho : Own w1 base 158 256 A' ((s.vers k).length + 1) c' (bvs (s.vers k).flatten ++ bvs x)) (hg : w.grownBy w1 (ablk (d.v k).A)) (hf : ablk A' = ablk (d.v k).A ∨ ∃ b, ablk A' = some b ∧ w.heap.size ≤ b)
    (hD : MapD w d s D) (hm : w2.ownsMap Try.prog 3 RV d.M m (D.put (kl k) (.held (.slice A' ((s.vers k).length + 1) c')))) (hg2 : w1.grownBy w2 (some d.M)) :
    Dk w2 base (d.put k ⟨A', c'⟩) (writeS s k x) ∧ Kept d.foot w w2 ∧ ∀ b, (d.put k ⟨A', c'⟩).foot b → d.foot b ∨ w.heap.size ≤ b := by
  have hsm := h.small
  have K1 : Kept (fun b => ablk (d.v k).A = some b) w w1 := Kept.of_grown hg (fun b e => e)
  have K2 : Kept (fun b => b = d.M) w1 w2 := Kept.of_grown hg2 (fun b e => (Option.some.inj e).symm)
  have K : Kept (fun b => ablk (d.v k).A = some b ∨ b = d.M) w w2 := (K1.mono (fun b _ e => .inl e)).trans K2 (fun b _ e => .inr e)
  have hkk : ∀ j, j ≠ k → (d.put k ⟨A', c'⟩).v j = d.v j := fun j hj => by show (if j = k then _ else _) = _; rw [if_neg hj]
  have hks : (d.put k ⟨A', c'⟩).v k = ⟨A', c'⟩ := by show (if k = k then _ else _) = _; rw [if_pos rfl]
  have hvk : ∀ j, j ≠ k → (writeS s k x).vers j = s.vers j := fun j hj => by show (if j = k then _ else _) = _; rw [if_neg hj]
  have hvs : (writeS s k x).vers k = s.vers k ++ [x] := by show (if k = k then _ else _) = _; rw [if_pos rfl]
  have hAM : ablk A' ≠ some d.M := fun e => by
    rcases hf with h1 | ⟨b, h1, h2⟩
    · exact h.apM k (h1 ▸ e)
    · rw [h1] at e; have := Option.some.inj e; have := h.mlt; omega
  have hAo : ∀ j b, j ≠ k → ablk (d.v j).A = some b → ablk A' ≠ some b := fun j b hj hb e => by
    rcases hf with h1 | ⟨b', h1, h2⟩
    · rcases h.apart j k hj with h3 | h3
      · rw [h3] at hb; cases hb
      · exact h3 (by rw [hb, ← h1, e])
    · rw [h1] at e; have := Option.some.inj e; have := h.vlt hb; omega
  refine ⟨⟨K.blk h.blk ?_, Nat.lt_of_lt_of_le h.llt K.size, fun j hj => range_kept (h.lies j hj) (K.block d.L h.llt ?_), there_kept h.there (K.block d.L h.llt ?_), ?_, fun j hj => ?_, fun j hj => ?_, fun i j hij => ?_, fun j => ?_, fun j hj => ?_, h.small, h.left, h.bases, h.ne, rowAt_block h.lty (K.block d.L h.llt (fun e => e.elim (h.apL k) (fun e => h.ne.2.2 e.symm)))⟩, K.mono (fun b _ e => ?_), fun b hb => ?_⟩
  · rintro (e | e)
    · exact h.apG k e
    · exact h.ne.2.1 e.symm
  · rintro (e | e)
    · exact h.apL k e
    · exact h.ne.2.2 e.symm
  · rintro (e | e)
    · exact h.apL k e
    · exact h.ne.2.2 e.symm
  · have hkeys : ∀ y, has (D.put (kl k) (.held (.slice A' ((s.vers k).length + 1) c'))) y = true → ∃ j, j < s.n ∧ y = kl j ∧ (writeS s k x).vers j ≠ [] := fun y hy => by
      by_cases e : y = kl k
      · exact ⟨k, hk, e, by rw [hvs]; simp⟩
      · rw [has_put_other e] at hy
        obtain ⟨j, hj, e2, h2⟩ := hD.2.2 y hy
        have hjk : j ≠ k := fun e3 => e (by rw [e2, e3])
        exact ⟨j, hj, e2, by rw [hvk j hjk]; exact h2⟩
    refine ⟨_, owns_tight hm (show s.n ≤ 9223372036854775807 by omega) (fun y hy => by obtain ⟨j, h1, h2, _⟩ := hkeys y hy; exact ⟨j, h1, h2⟩), fun j hj => ?_, hkeys⟩
    by_cases e : j = k
    · subst e
      rw [atKey_put_same (hD.1.tidy law3).isMap (law3.key (key_kl j (by omega)))]
      rw [hks, hvs, List.length_append]
      rfl
    · rw [atKey_put_other (kl_ne e), hD.2.1 j hj, hkk j e, hvk j e]
  · by_cases e : j = k
    · subst e
      rw [hks, hvs, List.length_append, List.flatten_append]
      have := ho.keep hg2 (.inr hAM)
      simpa [bvs] using this
    · rw [hkk j e, hvk j e]
      refine own_kept (h.vers j hj) K (fun b hb => ?_)
      rintro (e2 | e2)
      · rcases h.apart j k e with h3 | h3
        · rw [h3] at hb; cases hb
        · exact h3 (by rw [hb, e2])
      · subst e2; exact h.apM j hb
  · have e : j ≠ k := fun e => by have : s.n ≤ j := hj; omega
    rw [hkk j e]
    exact h.out j hj
  · by_cases e1 : i = k
    · subst e1
      rw [hks, hkk j (Ne.symm hij)]
      cases hb : ablk (d.v j).A with
      | none => cases hA : ablk A' with
        | none => exact .inl rfl
        | some a => exact .inr (by simp)
      | some b => exact .inr (hAo j b (Ne.symm hij) hb)
    · by_cases e2 : j = k
      · subst e2
        rw [hks, hkk i e1]
        cases hb : ablk (d.v i).A with
        | none => exact .inl rfl
        | some b => exact .inr (fun e => hAo i b e1 hb e.symm)
      · rw [hkk i e1, hkk j e2]
        exact h.apart i j hij
  · by_cases e : j = k
    · subst e
      rw [hks]
      show ablk A' ≠ some d.L
      intro e2
      rcases hf with h1 | ⟨b, h1, h2⟩
      · exact h.apL j (h1 ▸ e2)
      · rw [h1] at e2; have := Option.some.inj e2; have := h.llt; omega
    · rw [hkk j e]; exact h.apL j
  · refine ⟨(h.len j hj).1, fun y hy => ?_⟩
    by_cases e : j = k
    · subst e
      rw [hvs] at hy
      rcases List.mem_append.1 hy with h1 | h1
      · exact (h.len j hj).2 y h1
      · simp at h1; rw [h1]; exact hx
    · rw [hvk j e] at hy; exact (h.len j hj).2 y hy
  · rcases e with e | e
    · exact .inr (.inr (.inr ⟨k, e⟩))
    · exact .inr (.inr (.inl e))
  · rcases hb with hb | hb | hb | ⟨j, hb⟩
    · exact .inl (.inl hb)
    · exact .inl (.inr (.inl hb))
    · exact .inl (.inr (.inr (.inl hb)))
    · by_cases e : j = k
      · subst e
        rw [hks] at hb
        rcases hf with h1 | ⟨b', h1, h2⟩
        · exact .inl (.inr (.inr (.inr ⟨j, h1 ▸ hb⟩)))
        · rw [show ablk A' = some b' from h1] at hb
          exact .inr (by have := Option.some.inj hb; omega)
      · rw [hkk j e] at hb
        exact .inl (.inr (.inr (.inr ⟨j, hb⟩)))
end
end Go.Proofs.Ytdakohbfibcjeaa
namespace Go.Proofs.Ytdakohbfibcjeaa
open Go.RowKit Go.Maps
set_option linter.unusedSimpArgs false
set_option linter.unusedVariables false

theorem info93f : (Try.prog.info? 158).map (fun i => (i.zero, i.size, i.bytes)) = some (some (.agg (bvs (List.replicate 256 0)).toArray), 256, 256) := by kernel_rfl
def writeD (s : Dsk) (k : Nat) (x : List UInt8) : Dsk := if doneOk s then writeS (doneS s) k x else doneS s
theorem writeD_n (s : Dsk) (k : Nat) (x : List UInt8) : (writeD s k x).n = s.n := by unfold writeD doneS writeS; split <;> split <;> rfl
theorem run_arrayAt93 (b o c : Nat) (w : World) : (Instr.arrayAt 158 (.slice (some ⟨b, o, none⟩) 256 c)).run Try.prog w = .ok (.pointer (some ⟨b, o, none⟩)) w := by
  simp [Instr.arrayAt, run_underlying Try.underlying158]
theorem fill93 (x : List UInt8) (hx : x.length = 256) (cells : Array Value) (hc : cells.size = 256) : Instr.fill (fun i => some (i * 256, 256)) cells [(0, .agg (bvs x).toArray)] = some (bvs x).toArray := by
  have h := Great.fill_whole (s := 256) (by omega) [.agg (bvs x).toArray] cells (by intro v hv; simp at hv; subst hv; simp [Value.cells, length_bvs, hx]) (by simp [hc])
  simpa [Value.cells] using h
theorem run_built93 (x : List UInt8) (hx : x.length = 256) (w : World) : (Instr.buildSlice 75 1 #[(0, .agg (bvs x).toArray)]).run Try.prog w = .ok (.slice (some ⟨w.heap.size, 0, none⟩) 1 1) (w.alloc (.cells (bvs x).toArray 158)) := by
  obtain ⟨i, hi, hz, hsz, _⟩ := info_parts info93f
  obtain ⟨zv, hzv⟩ : ∃ zv, zv = Value.agg (bvs (List.replicate 256 0)).toArray := ⟨_, rfl⟩
  rw [← hzv] at hz
  have hs : zv.cells.size = 256 := by rw [hzv]; show (bvs _).toArray.size = 256; rw [List.size_toArray, length_bvs, List.length_replicate]
  have h := fun cells hc => fill93 x hx cells hc
  clear hzv
  generalize (bvs x).toArray = X at *
  simp [Instr.buildSlice, run_underlying Try.underlying75, sizeOf, typeInfo, zeroValue, hi, hz, hsz, newRow]
  rw [h _ (by simp)]
  simp
section
variable {P : Program} {ops : Array Oper} {o : Oper} {a : Act} {w : World} {K : Act → World → Prop} {Q : Exit → Act → World → Prop} {E : Prop}
theorem step_built1 (hgd : o.guard = none) (t : TypeId) (x : Operand) (ho : o.op = .buildSlice t 1 #[(0, x)]) {u v : Value} {w' : World} (hx : a.eval x = u) (hr : (Instr.buildSlice t 1 #[(0, u)]).run P w = .ok v w') (h : K (a.put o.dst v) w') :
    if Region.wanted o (yielded ops a.tmps) = true then Oper.wp P o a w K Q else E := by
  have hw : Region.wanted o (yielded ops a.tmps) = true := by simp [Region.wanted, hgd]
  rw [if_pos hw]
  unfold Oper.wp execOp
  simp [ho, hx, hr]
  exact h
end
theorem doneS_n (s : Dsk) : (doneS s).n = s.n ∧ (doneS s).lies = s.lies ∧ (doneS s).vers = s.vers ∧ (doneS s).cut = s.cut := by unfold doneS; split <;> simp
theorem foot_g (d : Dw) : d.foot d.g := .inl rfl

end Go.Proofs.Ytdakohbfibcjeaa
namespace Go.Proofs.Ytdakohbfibcjeaa
open Go.RowKit Go.Maps

def newD (n : Nat) : Dsk := ⟨n, fun _ => List.replicate 256 0, fun _ => [], false, 0⟩
def zeros93 (n : Nat) : List Value := List.replicate (n * 256) (.int .u8 0)
theorem made93 (n : Nat) : madeCells (bvs (List.replicate 256 0)).toArray (n * 256) = (zeros93 n).toArray := by
  have hb : bvs (List.replicate 256 (0 : UInt8)) = List.replicate 256 (Value.int .u8 0) := by
    simp only [bvs, List.map_replicate]
    rfl
  rw [hb]
  apply Array.ext
  · rw [size_madeCells, List.size_toArray, zeros93, List.length_replicate]
  · intro i h1 h2
    rw [size_madeCells] at h1
    have hm : i % 256 < 256 := Nat.mod_lt _ (by omega)
    have e : (List.replicate 256 (Value.int .u8 0)).toArray.size = 256 := by rw [List.size_toArray, List.length_replicate]
    simp only [madeCells, Array.getElem_map, Array.getElem_range, zeros93, List.getElem_toArray, List.getElem_replicate]
    rw [e]
    rw [getElem!_pos _ _ (by rw [e]; exact hm)]
    simp only [List.getElem_toArray, List.getElem_replicate]
theorem make93 (n : Nat) (hn : n ≤ 4096) (w : World) : (Instr.makeSlice 75 (.int .i64 (n : Int)) (.int .i64 (n : Int))).run Try.prog w = .ok (.slice (some ⟨w.heap.size, 0, none⟩) n n) (w.alloc (.cells (zeros93 n).toArray 158)) := by
  obtain ⟨i, hi, hz, hsz, hby⟩ := info_parts info93f
  have h := run_make (P := Try.prog) w 75 158 i _ Try.underlying75 hi hz .i64 .i64 n n (by omega) (Int.le_refl _) (by rw [hby]; omega) (by omega)
  rw [hsz, Int.toNat_natCast] at h
  rw [h]
  have := made93 n
  rw [← this]
  rfl

theorem Dk.init {w : World} {n : Nat} (hn : 1 ≤ n ∧ n ≤ 4096) :
    Dk (((w.alloc (.cells (zeros93 n).toArray 158)).alloc (.map #[] 0)).alloc (.cells #[.slice (some ⟨w.heap.size, 0, none⟩) n n, .map (some (w.heap.size + 1)), .bool false, .int .i64 0] 78)) w.heap.size ⟨w.heap.size + 2, w.heap.size, w.heap.size + 1, fun _ => ⟨none, 0⟩, n⟩ (newD n) := by
  have hL : Blk (((w.alloc (.cells (zeros93 n).toArray 158)).alloc (.map #[] 0)).alloc (.cells #[.slice (some ⟨w.heap.size, 0, none⟩) n n, .map (some (w.heap.size + 1)), .bool false, .int .i64 0] 78)) w.heap.size 158 (zeros93 n) := ((Blk.new w _ (zeros93 n)).alloc _).alloc _
  have hM := ((World.ownsMap_made (H := Value) (w.alloc (.cells (zeros93 n).toArray 158)) Try.prog 3 RV).alloc (.cells #[.slice (some ⟨w.heap.size, 0, none⟩) n n, .map (some (w.heap.size + 1)), .bool false, .int .i64 0] 78)).mono (Nat.zero_le n)
  have e1 : (w.alloc (.cells (zeros93 n).toArray 158)).heap.size = w.heap.size + 1 := by simp
  rw [e1] at hM
  refine ⟨Blk.new_at (cs := [.slice (some ⟨w.heap.size, 0, none⟩) n n, .map (some (w.heap.size + 1)), .bool false, .int .i64 0]) (by simp), by simp; omega, fun k hk => ?_, fun j hj => ?_, ⟨.map [], hM, fun k _ => rfl, fun x hx => by simp [has] at hx⟩, fun k hk => Own.nil_ _ _ _ _, fun k _ => rfl, fun j k _ => .inl rfl, fun k e => (by cases e), fun k hk => ⟨List.length_replicate, fun x hx => (by cases hx)⟩, hn, ⟨by show (_ : Int) ≤ 0; omega, by show (0 : Int) ≤ _; omega⟩, ⟨by simp, Nat.le_refl _, by simp⟩, ⟨by simp, by simp, by simp⟩, ⟨_, hL⟩⟩
  · have hk' : k < n := hk
    intro j v hv
    have hj : j < 256 := by
      have h1 := (List.getElem?_eq_some_iff.1 hv).1
      rw [length_bvs] at h1
      have h2 : ((newD n).lies k).length = 256 := List.length_replicate
      omega
    rw [hL.cell]
    rw [zeros93, List.getElem?_replicate, if_pos (by omega)]
    rw [← hv]
    simp only [newD, bvs, List.map_replicate, List.getElem?_replicate]
    rw [if_pos hj]
    rfl
  · have hj' : j < n * 256 := hj
    rw [Nat.zero_add]
    refine ⟨?_, hL.frozen j⟩
    rw [hL.cell, zeros93, List.getElem?_replicate, if_pos hj']
    rfl

set_option maxRecDepth 100000 in
set_option maxHeartbeats 1000000 in
theorem dnew_ok (n : Nat) (hn : 1 ≤ n ∧ n ≤ 4096) (w : World) :
    Calls Try.prog 11 #[.int .i64 n] w fun e w' => ∃ d, e = .returned (.tuple #[.pointer (some ⟨d.g, 0, none⟩), .int .i64 0]) ∧ Dk w' w.heap.size d (newD n) ∧ Below w.heap.size w w' := by
  have hmk := make93 n hn.2 w
  have hmm := @run_makeMap Try.prog
  have d1 : decide ((n : Int) < 1) = false := decide_eq_false (by omega)
  have d2 : decide ((4096 : Int) < (n : Int)) = false := decide_eq_false (by omega)
  have HI := Lib.hid (Dk.init (w := w) hn)
  clear hn
  go_enter Try.func11, Try.ntmps11
  go_wp2
  go_ret2
  exact ⟨_, rfl, HI.out, (((Below.refl _ _).alloc (Nat.le_refl _) _).alloc (by simp) _).alloc (by simp; omega) _⟩

end Go.Proofs.Ytdakohbfibcjeaa
namespace Go.Proofs.Ytdakohbfibcjeaa
open Go.RowKit

theorem Rd.kept {F : Nat → Prop} {w w' : World} {lo : Nat} {A : Option Addr} {xs : List Value} (h : Rd w lo A xs) (K : Kept F w w') (hf : 0 < xs.length → ∀ b, ablk A = some b → ¬ F b) : Rd w' lo A xs := fun hn => by
  obtain ⟨b, o, e, h1, h2, hc⟩ := h hn
  exact ⟨b, o, e, h1, Nat.lt_of_lt_of_le h2 K.size, fun k hk => (World.cell?_of_block (a := ⟨b, o + k, none⟩) (K.block b h2 (hf hn b (by rw [e]; rfl)))).trans (hc k hk)⟩
theorem Bs.kept {F : Nat → Prop} {w w' : World} {lo m c : Nat} {A : Option Addr} {l : List UInt8} (h : Bs w lo A m c l) (K : Kept F w w') (hf : 0 < m → ∀ b, ablk A = some b → ¬ F b) : Bs w' lo A m c l := ⟨h.1, h.2.1, h.2.2.1, h.2.2.2.kept K (fun hn => hf (by rw [length_bvs, h.1] at hn; exact hn))⟩
/-- from w to w' the disk d became d', of what s' says; nothing else turned -/
structure Ch (w w' : World) (base : Nat) (d d' : Dw) (s' : Dsk) : Prop where
  dk : Dk w' base d' s'
  g : d'.g = d.g
  K : Kept d.foot w w'
  foot : ∀ b, d'.foot b → d.foot b ∨ w.heap.size ≤ b
section
variable {w w' w2 : World} {base : Nat} {d d' d2 : Dw} {s s' s2 : Dsk}
theorem Ch.init (h : Dk w base d s) : Ch w w base d d s := ⟨h, rfl, Kept.refl _ _, fun _ h => .inl h⟩
theorem Ch.of (h : ∃ d', Dk w' base d' s' ∧ d'.g = d.g ∧ Kept d.foot w w' ∧ ∀ b, d'.foot b → d.foot b ∨ w.heap.size ≤ b) : ∃ d', Ch w w' base d d' s' := by
  obtain ⟨d', h1, h2, h3, h4⟩ := h
  exact ⟨d', h1, h2, h3, h4⟩
theorem Ch.trans (h : Ch w w' base d d' s') (k : Ch w' w2 base d' d2 s2) : Ch w w2 base d d2 s2 :=
  ⟨k.dk, k.g.trans h.g, h.K.trans k.K (fun b hb x => by rcases h.foot b x with y | y; exact y; omega), fun b hb => by
    rcases k.foot b hb with y | y
    · exact h.foot b y
    · exact .inr (by have := h.K.size; omega)⟩
theorem Ch.below (h : Ch w w' base d d' s') {B : Nat} (hb : Below B w' w2) (hB : w'.heap.size ≤ B) : Ch w w2 base d d' s' :=
  ⟨h.dk.below hb hB, h.g, h.K.trans (F' := fun _ => False) (Kept.of_below hb hB) (fun _ _ x => x.elim), h.foot⟩
theorem Ch.pre (h : Ch w' w2 base d d2 s2) {B : Nat} (hb : Below B w w') (hB : w.heap.size ≤ B) : Ch w w2 base d d2 s2 :=
  ⟨h.dk, h.g, ((Kept.of_below (F := fun _ => False) hb hB).mono (F' := d.foot) (fun _ _ x => x.elim)).trans h.K (fun _ _ x => x), fun b hb2 => by
    rcases h.foot b hb2 with y | y
    · exact .inl y
    · exact .inr (by have := hb.size; omega)⟩
theorem Ch.bel (h : Ch w w' base d d' s') (h0 : Dk w base d s) : Below base w w' :=
  h.K.below (by have := h0.foot_base d.g (.inl rfl); omega) (fun b hb => (h0.foot_base b hb).1)
/-- a block that was away from the disk, and was there, stays away -/
theorem Ch.away (h : Ch w w' base d d' s') {b : Nat} (h1 : ¬ d.foot b) (h2 : b < w.heap.size) : ¬ d'.foot b := fun x => by
  rcases h.foot b x with y | y
  · exact h1 y
  · omega
end
end Go.Proofs.Ytdakohbfibcjeaa
