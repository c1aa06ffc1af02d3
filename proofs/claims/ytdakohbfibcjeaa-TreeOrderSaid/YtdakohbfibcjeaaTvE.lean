/- What slices.Sorted and maps.Keys are at this program, for the laid contracts. No condition. -/
import Derived.Shelf.SlIterI.Nil
import Derived.Shelf.SortM.Plain
import Derived.Shelf.SortM.SortNone
import Derived.Test.YtdakohbfibcjeaaProg
import Derived.Test.YtdakohbfibcjeaaTvD
import Derived.Deep.Upon
import Derived.Test.YtdakohbfibcjeaaLibL
namespace Go.Proofs.Ytdakohbfibcjeaa
open Go.Proofs
end Go.Proofs.Ytdakohbfibcjeaa
namespace Go.Proofs.Ytdakohbfibcjeaa
open Go.RowKit Go.Maps Go.MapKept Go.ChangeMaps

theorem kept_setCells {w : World} {g o : Nat} {vs : List Value} : Kept (fun b => b = g) w (w.setCells g o vs) := by
  have h : ∀ (vs : List Value) (o : Nat) (w : World), Kept (fun b => b = g) w (w.setCells g o vs) := by
    intro vs
    induction vs with
    | nil => intro o w; exact Kept.refl _ _
    | cons v vs ih =>
      intro o w
      have K : Kept (fun b => b = g) w (w.setCell ⟨g, o, none⟩ v) := ⟨rfl, rfl, rfl, by simp, fun b _ hn => Below.heap_setCell w _ _ b hn⟩
      exact K.trans (ih (o + 1) _) (fun _ _ e => e)
  exact h vs o w
theorem grown_setCells {w : World} {g o : Nat} {vs : List Value} : w.grownBy (w.setCells g o vs) (some g) := by
  have K := kept_setCells (w := w) (g := g) (o := o) (vs := vs)
  exact ⟨K.os, K.tape, K.output, K.size, fun b hb hn => K.block b hb (fun e => hn (by rw [e]))⟩
theorem size_setCells_ (g : Nat) : ∀ (vs : List Value) (o : Nat) (w : World), (w.setCells g o vs).heap.size = w.heap.size
  | [], _, _ => rfl
  | v :: vs, o, w => by rw [World.setCells, size_setCells_ g vs]; simp

def layD (s : Dsk) (k : Nat) (x : List UInt8) : Dsk := { s with lies := fun j => if j = k then x else s.lies j }
section
variable {w w' : World} {base : Nat} {d : Dw} {s : Dsk}
/-- a change of the block in which the sectors lie -/
theorem Dk.onL (h : Dk w base d s) (K : Kept (fun b => b = d.L) w w') {ls : Nat → List UInt8} (hl : ∀ k, k < s.n → w'.rangeAt d.L (k * 256) (bvs (ls k))) (hn : ∀ k, k < s.n → (ls k).length = 256) (ht : w'.there d.L 0 (s.n * 256)) (hy : RowAt w' d.L 158) : Dk w' base d { s with lies := ls } := by
  have hM := K.block d.M h.mlt h.ne.2.2
  refine ⟨K.blk h.blk (fun e => h.ne.1 e.symm), Nat.lt_of_lt_of_le h.llt K.size, hl, ht, ?_, fun k hk => own_kept (h.vers k hk) K (fun b hb e => h.apL k (by rw [hb, e])), h.out, h.apart, h.apL, fun k hk => ⟨hn k hk, (h.len k hk).2⟩, h.small, h.left, h.bases, h.ne, hy⟩
  obtain ⟨D, h1, h2⟩ := h.map
  exact ⟨D, ownsMap_block h1 hM, h2⟩
theorem Dk.lay (h : Dk w base d s) {k : Nat} (hk : k < s.n) {x : List UInt8} (hx : x.length = 256) : Dk (w.setCells d.L (k * 256) (bvs x)) base d (layD s k x) := by
  refine h.onL kept_setCells (fun j hj => ?_) (fun j hj => ?_) (World.there_setCells h.there _ _ _) (rowAt_sets _ _ h.lty)
  · by_cases e : j = k
    · subst e
      rw [if_pos rfl]
      refine World.rangeAt_setCells_same _ _ _ _ (fun i hi => ?_)
      rw [length_bvs, hx] at hi
      have := h.there (j * 256 + i) (by have := hk; omega)
      rwa [Nat.zero_add] at this
    · rw [if_neg e]
      have h1 := (h.len j hj).1
      refine World.rangeAt_setCells_apart (h.lies j hj) _ _ _ (.inr ?_)
      rw [length_bvs, length_bvs, h1, hx]
      omega
  · by_cases e : j = k
    · rw [if_pos e]; exact hx
    · rw [if_neg e]; exact (h.len j hj).1
theorem Dk.there_k (h : Dk w base d s) {k : Nat} (hk : k < s.n) : w.there d.L (k * 256) 256 := fun i hi => by
  have := h.there (k * 256 + i) (by omega)
  rwa [Nat.zero_add] at this

/-- the map is empty -/
def clearD (s : Dsk) : Dsk := { s with vers := fun _ => [] }
def Dw.clear (d : Dw) : Dw := { d with v := fun _ => ⟨none, 0⟩ }
theorem run_clear85 {es : Array MapEntry} {clock : Nat} {M : Nat} (hb : w.heap[M]? = some (.map es clock)) (ty : TypeId) :
    (Builtin.clear_ #[76] ty #[.map (some M)]).run Try.prog w = .ok (.tuple #[]) (setBlock w M (.map #[] clock)) := by
  simp [Builtin.clear_, run_underlying Try.underlying76, MapKept.run_getObj_map hb, MapKept.run_setObj_map _ hb, Result.andThen]
  rfl
theorem Dk.cleared (h : Dk w base d s) {es : Array MapEntry} {clock : Nat} (hb : w.heap[d.M]? = some (.map es clock)) :
    Dk (setBlock w d.M (.map #[] clock)) base d.clear (clearD s) ∧ Kept (fun b => b = d.M) w (setBlock w d.M (.map #[] clock)) := by
  have K : Kept (fun b => b = d.M) w (setBlock w d.M (.map #[] clock)) := ⟨rfl, rfl, rfl, by simp [setBlock], fun b _ hn => heap_setBlock_other hb _ hn⟩
  have hL := K.block d.L h.llt (fun e => h.ne.2.2 e.symm)
  refine ⟨⟨K.blk h.blk (fun e => h.ne.2.1 e.symm), Nat.lt_of_lt_of_le h.llt K.size, fun k hk => range_kept (h.lies k hk) hL, there_kept h.there hL, ⟨.map [], ?_, fun k _ => rfl, fun x hx => by simp [has] at hx⟩, fun k hk => Own.nil_ _ _ _ _, fun k _ => rfl, fun j k _ => .inl rfl, fun k e => (by cases e), fun k hk => ⟨(h.len k hk).1, fun x hx => (by cases hx)⟩, h.small, h.left, h.bases, h.ne, rowAt_block h.lty hL⟩, K⟩
  exact ⟨#[], clock, heap_setBlock_same hb _, ⟨by simp, stamped_empty clock, by simp⟩, Nat.zero_le _, rfl⟩
theorem clear_foot {d : Dw} (b : Nat) (h : d.clear.foot b) : d.foot b := by
  rcases h with h | h | h | ⟨k, h⟩
  · exact .inl h
  · exact .inr (.inl h)
  · exact .inr (.inr (.inl h))
  · cases h
end

def flushD (s : Dsk) : Dsk := if doneOk s then clearD { doneS s with lies := fun k => if k < s.n then hasD (doneS s) k else (doneS s).lies k } else doneS s
end Go.Proofs.Ytdakohbfibcjeaa
namespace Go.Proofs.Ytdakohbfibcjeaa
open Go.RowKit Go.Maps
set_option linter.unusedSimpArgs false
set_option linter.unusedVariables false

theorem inv_key (key : Value) (kl' : Lit) (h : keyOf Try.prog 3 key = some kl') : ∃ x : Int, key = .int .i64 x := by
  obtain ⟨x, h1, _⟩ := keyOf_int_inv Try.underlying3 h
  exact ⟨x, h1⟩
theorem not_has {w : World} {d : Dw} {s : Dsk} {D : DataW Value} (h : MapD w d s D) {k : Nat} (hk : k < s.n) (hn : has D (kl k) = false) : s.vers k = [] := by
  have h1 := h.2.1 k hk
  rw [atKey_of_not_has hn] at h1
  have h2 : nilv = .slice (d.v k).A (s.vers k).length (d.v k).c := by injection h1
  have h3 : 0 = (s.vers k).length := by injection h2
  exact List.eq_nil_of_length_eq_zero h3.symm
/-- the sectors while they are laid -/
def laid (D : DataW Value) (left : Lit → Bool) (s : Dsk) (k : Nat) : List UInt8 := if has D (kl k) && !left (kl k) then hasD s k else s.lies k
theorem laid_end {w : World} {d : Dw} {s : Dsk} {D : DataW Value} (h : MapD w d s D) {left : Lit → Bool} (hl : ∀ x, left x = false) {k : Nat} (hk : k < s.n) : laid D left s k = hasD s k := by
  unfold laid
  rw [hl]
  cases hh : has D (kl k) with
  | true => rfl
  | false =>
    have := not_has h hk hh
    simp only [Bool.false_and, Bool.false_eq_true, if_false]
    unfold hasD
    rw [this]
    rfl
theorem hasD_lies {s : Dsk} {ls : Nat → List UInt8} {k : Nat} (h : s.vers k ≠ []) : hasD { s with lies := ls } k = hasD s k := by
  unfold hasD
  show (s.vers k).getLast?.getD (ls k) = _
  cases hx : (s.vers k).getLast? with
  | none => exact absurd (List.getLast?_eq_none_iff.1 hx) h
  | some x => rfl
theorem kl_same (j k : Nat) : (kl j).sameKey (kl k) = decide (j = k) := by
  by_cases e : j = k
  · subst e
    rw [decide_eq_true rfl]
    exact WideAt.sameKey_self (by exact trivial)
  · rw [decide_eq_false e]
    exact sameKey_ne (kl_ne e)
theorem laid_step {D : DataW Value} {left : Lit → Bool} {s : Dsk} {k : Nat} (hh : has D (kl k) = true) (j : Nat) : laid D (fun z => left z && !z.sameKey (kl k)) s j = if j = k then hasD s k else laid D left s j := by
  unfold laid
  by_cases e : j = k
  · subst e
    show (if (has D (kl j) && !(left (kl j) && !(kl j).sameKey (kl j))) = true then _ else _) = _
    rw [if_pos rfl, kl_same, hh]
    simp
  · show (if (has D (kl j) && !(left (kl j) && !(kl j).sameKey (kl k))) = true then _ else _) = _
    rw [if_neg e, kl_same, decide_eq_false e]
    simp
theorem eqv_dk {w : World} {base : Nat} {d : Dw} {s : Dsk} {l1 l2 : Nat → List UInt8} (h : Dk w base d { s with lies := l1 }) (he : ∀ k, k < s.n → l1 k = l2 k) : Dk w base d { s with lies := l2 } :=
  ⟨h.blk, h.llt, fun k hk => by show w.rangeAt d.L (k * 256) (bvs (l2 k)); rw [← he k hk]; exact h.lies k hk, h.there, h.map, h.vers, h.out, h.apart, h.apL, fun k hk => by show (l2 k).length = 256 ∧ _; rw [← he k hk]; exact h.len k hk, h.small, h.left, h.bases, h.ne, h.lty⟩

end Go.Proofs.Ytdakohbfibcjeaa
namespace Go.Proofs.Ytdakohbfibcjeaa
open Go.RowKit Go.Maps Go.Sort Go.Shelf Go.Proofs

/-- the sectors with versions -/
def dirtyL (s : Dsk) : List Nat := (List.range s.n).filter fun k => !(s.vers k).isEmpty
theorem mem_dirty {s : Dsk} {k : Nat} : k ∈ dirtyL s ↔ k < s.n ∧ s.vers k ≠ [] := by
  unfold dirtyL
  rw [List.mem_filter, List.mem_range]
  simp
theorem dirty_asc (s : Dsk) : (dirtyL s).Pairwise (· < ·) := (List.pairwise_lt_range).filter _
theorem dirty_ints (s : Dsk) : ((dirtyL s).map fun k : Nat => (k : Int)).mergeSort leI = (dirtyL s).map fun k : Nat => (k : Int) := by
  refine List.mergeSort_of_pairwise ?_
  rw [List.pairwise_map]
  refine (dirty_asc s).imp fun {a b} h => ?_
  simp only [leI, decide_eq_true_eq]
  omega
theorem encZ_iv (l : List Nat) : (l.map fun k : Nat => (k : Int)).map encZ = iv l := by simp [iv]
theorem MapD.keys {w : World} {d : Dw} {s : Dsk} {D : DataW Value} (h : MapD w d s D) (hs : s.n ≤ 4096) : ((dirtyL s).map fun k : Nat => (k : Int)).Perm (intKeys D) ∧ size D ≤ s.n := by
  obtain ⟨es0, he, hp, hkey⟩ := h.1.entries law3
  have hk : ∀ p ∈ es0, ∃ j, j < s.n ∧ p.1 = kl j := fun p hm => by
    obtain ⟨j, hj, e, _⟩ := h.2.2 p.1 (by rw [he]; exact List.any_eq_true.2 ⟨p, hm, WideAt.sameKey_self (hkey p hm)⟩)
    exact ⟨j, hj, e⟩
  refine ⟨?_, by rw [he, size_eq]; exact keys_le s.n es0 (by omega) hp hk⟩
  have hp2 := perm_intKeys (es := es0) hp (fun p hm => by obtain ⟨j, _, e⟩ := hk p hm; exact ⟨(j : Int), e⟩) (ss := (dirtyL s).map fun k : Nat => (k : Int)) ?_ ?_
  · rw [he]; exact hp2
  · refine List.pairwise_map.2 ((dirty_asc s).imp fun {a b} h => ?_)
    omega
  · intro x
    rw [List.mem_map, ← he]
    constructor
    · rintro ⟨k, hk, rfl⟩
      obtain ⟨h1, h2⟩ := mem_dirty.1 hk
      cases hh : has D (.int .i64 (k : Int)) with
      | true => rfl
      | false => exact absurd (not_has h h1 hh) h2
    · intro hx
      obtain ⟨j, hj, e, hv⟩ := h.2.2 _ hx
      injection e with _ e
      exact ⟨j, mem_dirty.2 ⟨hj, hv⟩, e.symm⟩

end Go.Proofs.Ytdakohbfibcjeaa
namespace Go.Proofs.Ytdakohbfibcjeaa
open Go.RowKit Go.Maps

def delV (s : Dsk) (k : Nat) : Dsk := { s with vers := fun j => if j = k then [] else s.vers j }
section
variable {w w2 : World} {base : Nat} {d : Dw} {s : Dsk}
theorem Dk.del (h : Dk w base d s) {k : Nat} (hk : k < s.n) {D : DataW Value} (hD : MapD w d s D) (hm : w2.ownsMap Try.prog 3 RV d.M s.n (D.del (kl k))) (hg : w.grownBy w2 (some d.M)) :
    Ch w w2 base d (d.put k ⟨none, 0⟩) (delV s k) := by
  have K : Kept (fun b => b = d.M) w w2 := Kept.of_grown hg (fun b e => (Option.some.inj e).symm)
  have hkk : ∀ j, j ≠ k → (d.put k ⟨none, 0⟩).v j = d.v j := fun j hj => by show (if j = k then _ else _) = _; rw [if_neg hj]
  have hks : (d.put k ⟨none, 0⟩).v k = ⟨none, 0⟩ := by show (if k = k then _ else _) = _; rw [if_pos rfl]
  have hvk : ∀ j, j ≠ k → (delV s k).vers j = s.vers j := fun j hj => by show (if j = k then _ else _) = _; rw [if_neg hj]
  have hvs : (delV s k).vers k = [] := by show (if k = k then _ else _) = _; rw [if_pos rfl]
  have hfoot : ∀ b, (d.put k ⟨none, 0⟩).foot b → d.foot b := fun b hb => by
    rcases hb with hb | hb | hb | ⟨j, hb⟩
    · exact .inl hb
    · exact .inr (.inl hb)
    · exact .inr (.inr (.inl hb))
    · by_cases e : j = k
      · subst e; rw [hks] at hb; cases hb
      · rw [hkk j e] at hb; exact .inr (.inr (.inr ⟨j, hb⟩))
  refine ⟨⟨K.blk h.blk (fun e => h.ne.2.1 e.symm), Nat.lt_of_lt_of_le h.llt K.size, fun j hj => range_kept (h.lies j hj) (K.block d.L h.llt (fun e => h.ne.2.2 e.symm)), there_kept h.there (K.block d.L h.llt (fun e => h.ne.2.2 e.symm)), ⟨_, hm, fun j hj => ?_, fun y hy => ?_⟩, fun j hj => ?_, fun j hj => ?_, fun i j hij => ?_, fun j => ?_, fun j hj => ⟨(h.len j hj).1, ?_⟩, h.small, h.left, h.bases, h.ne, rowAt_block h.lty (K.block d.L h.llt (fun e => h.ne.2.2 e.symm))⟩, rfl, K.mono (fun b _ e => .inr (.inr (.inl e))), fun b hb => .inl (hfoot b hb)⟩
  · by_cases e : j = k
    · subst e
      rw [atKey_del_same, hks, hvs]; rfl
    · rw [atKey_del_other (kl_ne e), hD.2.1 j hj, hkk j e, hvk j e]
  · by_cases e : y = kl k
    · subst e; rw [has_del_same] at hy; cases hy
    · rw [has_del_other e] at hy
      obtain ⟨j, hj, e2, h2⟩ := hD.2.2 y hy
      have hjk : j ≠ k := fun e3 => e (by rw [e2, e3])
      exact ⟨j, hj, e2, by rw [hvk j hjk]; exact h2⟩
  · by_cases e : j = k
    · subst e
      rw [hks, hvs]
      exact Own.nil_ _ _ _ _
    · rw [hkk j e, hvk j e]
      exact own_kept (h.vers j hj) K (fun b hb e2 => by subst e2; exact h.apM j hb)
  · have e : j ≠ k := fun e => by have : s.n ≤ j := hj; omega
    rw [hkk j e]; exact h.out j hj
  · by_cases e1 : i = k
    · subst e1; rw [hks]; exact .inl rfl
    · by_cases e2 : j = k
      · subst e2
        rw [hks, hkk i e1]
        cases hb : ablk (d.v i).A with
        | none => exact .inl rfl
        | some b => exact .inr (by simp)
      · rw [hkk i e1, hkk j e2]; exact h.apart i j hij
  · by_cases e : j = k
    · subst e; rw [hks]; simp
    · rw [hkk j e]; exact h.apL j
  · intro x hx
    by_cases e : j = k
    · subst e; rw [hvs] at hx; cases hx
    · rw [hvk j e] at hx; exact (h.len j hj).2 x hx
/-- a version of a sector -/
theorem Dk.ver (h : Dk w base d s) {k q : Nat} (hk : k < s.n) (hq : q < (s.vers k).length) : ∃ b, (d.v k).A = some ⟨b, 0, none⟩ ∧ w.rangeAt b (q * 256) (bvs ((s.vers k).getD q [])) ∧ ((s.vers k).getD q []).length = 256 := by
  obtain ⟨b, hA, _, _⟩ := (h.vers k hk).head (by omega)
  have ho := (h.vers k hk).rd
  rw [hA] at ho
  have hr := rd_range ho
  have hl := (h.len k hk).2
  have hx : (s.vers k).getD q [] = (s.vers k)[q] := by rw [List.getD_eq_getElem?_getD, List.getElem?_eq_getElem hq]; rfl
  have hsp : s.vers k = (s.vers k).take q ++ (s.vers k)[q] :: (s.vers k).drop (q + 1) := by
    rw [← List.drop_eq_getElem_cons hq, List.take_append_drop]
  refine ⟨b, hA, ?_, by rw [hx]; exact hl _ (List.getElem_mem _)⟩
  rw [hx]
  have e : bvs (s.vers k).flatten = bvs ((s.vers k).take q).flatten ++ bvs (s.vers k)[q] ++ bvs ((s.vers k).drop (q + 1)).flatten := by
    have e0 : (s.vers k).flatten = (((s.vers k).take q).flatten ++ (s.vers k)[q]) ++ ((s.vers k).drop (q + 1)).flatten := by
      have := congrArg List.flatten hsp
      rw [List.flatten_append, List.flatten_cons, ← List.append_assoc] at this
      exact this
    rw [e0, bvs_append, bvs_append]
  rw [e] at hr
  have := range_part hr
  rw [Nat.zero_add, length_bvs, flatten_len (fun y hy => hl y (List.mem_of_mem_take hy)), List.length_take, Nat.min_eq_left (by omega)] at this
  exact this
end
end Go.Proofs.Ytdakohbfibcjeaa
