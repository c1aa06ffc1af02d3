/- A sector is laid; the versions are gone: the disk behind it. No condition. -/
import Derived.Test.YtnclebnodkkgnaaDkNew
import Derived.Deep.Upon
namespace Go.Proofs.Ytnclebnodkkgnaa
open Go.RowKit Go.Maps Go.MapKept Go.ChangeMaps

theorem kept_setCells {w : World} {g o : Nat} {vs : List Value} : Kept (fun b => b = g) w (w.setCells g o vs) := by
  have h : ∀ (vs : List Value) (o : Nat) (w : World), Kept (fun b => b = g) w (w.setCells g o vs) := by
    intro vs
    induction vs with
    | nil => intro o w; exact Kept.refl _ _
    | cons v vs ih =>
      intro o w
      have K : Kept (fun b => b = g) w (w.setCell ⟨g, o, none⟩ v) := ⟨rfl, rfl, rfl, by simp, fun b _ hn => Below.heap_setCell w _ _ b hn⟩
      exact K.trans (ih (o + 1) _) (fun _ _ e => e)
  exact h vs o w
theorem grown_setCells {w : World} {g o : Nat} {vs : List Value} : w.grownBy (w.setCells g o vs) (some g) := by
  have K := kept_setCells (w := w) (g := g) (o := o) (vs := vs)
  exact ⟨K.os, K.tape, K.output, K.size, fun b hb hn => K.block b hb (fun e => hn (by rw [e]))⟩
theorem size_setCells_ (g : Nat) : ∀ (vs : List Value) (o : Nat) (w : World), (w.setCells g o vs).heap.size = w.heap.size
  | [], _, _ => rfl
  | v :: vs, o, w => by rw [World.setCells, size_setCells_ g vs]; simp

def layD (s : Dsk) (k : Nat) (x : List UInt8) : Dsk := { s with lies := fun j => if j = k then x else s.lies j }
section
variable {w w' : World} {base : Nat} {d : Dw} {s : Dsk}
/-- a change of the block in which the sectors lie -/
theorem Dk.onL (h : Dk w base d s) (K : Kept (fun b => b = d.L) w w') {ls : Nat → List UInt8} (hl : ∀ k, k < s.n → w'.rangeAt d.L (k * 256) (bvs (ls k))) (hn : ∀ k, k < s.n → (ls k).length = 256) (ht : w'.there d.L 0 (s.n * 256)) (hy : RowAt w' d.L 93) : Dk w' base d { s with lies := ls } := by
  have hM := K.block d.M h.mlt h.ne.2.2
  refine ⟨K.blk h.blk (fun e => h.ne.1 e.symm), Nat.lt_of_lt_of_le h.llt K.size, hl, ht, ?_, fun k hk => own_kept (h.vers k hk) K (fun b hb e => h.apL k (by rw [hb, e])), h.out, h.apart, h.apL, fun k hk => ⟨hn k hk, (h.len k hk).2⟩, h.small, h.left, h.bases, h.ne, hy⟩
  obtain ⟨D, h1, h2⟩ := h.map
  exact ⟨D, ownsMap_block h1 hM, h2⟩
theorem Dk.lay (h : Dk w base d s) {k : Nat} (hk : k < s.n) {x : List UInt8} (hx : x.length = 256) : Dk (w.setCells d.L (k * 256) (bvs x)) base d (layD s k x) := by
  refine h.onL kept_setCells (fun j hj => ?_) (fun j hj => ?_) (World.there_setCells h.there _ _ _) (rowAt_sets _ _ h.lty)
  · by_cases e : j = k
    · subst e
      rw [if_pos rfl]
      refine World.rangeAt_setCells_same _ _ _ _ (fun i hi => ?_)
      rw [length_bvs, hx] at hi
      have := h.there (j * 256 + i) (by have := hk; omega)
      rwa [Nat.zero_add] at this
    · rw [if_neg e]
      have h1 := (h.len j hj).1
      refine World.rangeAt_setCells_apart (h.lies j hj) _ _ _ (.inr ?_)
      rw [length_bvs, length_bvs, h1, hx]
      omega
  · by_cases e : j = k
    · rw [if_pos e]; exact hx
    · rw [if_neg e]; exact (h.len j hj).1
theorem Dk.there_k (h : Dk w base d s) {k : Nat} (hk : k < s.n) : w.there d.L (k * 256) 256 := fun i hi => by
  have := h.there (k * 256 + i) (by omega)
  rwa [Nat.zero_add] at this

/-- the map is empty -/
def clearD (s : Dsk) : Dsk := { s with vers := fun _ => [] }
def Dw.clear (d : Dw) : Dw := { d with v := fun _ => ⟨none, 0⟩ }
theorem run_clear85 {es : Array MapEntry} {clock : Nat} {M : Nat} (hb : w.heap[M]? = some (.map es clock)) (ty : TypeId) :
    (Builtin.clear_ #[85] ty #[.map (some M)]).run Try.prog w = .ok (.tuple #[]) (setBlock w M (.map #[] clock)) := by
  simp [Builtin.clear_, run_underlying Try.underlying85, MapKept.run_getObj_map hb, MapKept.run_setObj_map _ hb, Result.andThen]
  rfl
theorem Dk.cleared (h : Dk w base d s) {es : Array MapEntry} {clock : Nat} (hb : w.heap[d.M]? = some (.map es clock)) :
    Dk (setBlock w d.M (.map #[] clock)) base d.clear (clearD s) ∧ Kept (fun b => b = d.M) w (setBlock w d.M (.map #[] clock)) := by
  have K : Kept (fun b => b = d.M) w (setBlock w d.M (.map #[] clock)) := ⟨rfl, rfl, rfl, by simp [setBlock], fun b _ hn => heap_setBlock_other hb _ hn⟩
  have hL := K.block d.L h.llt (fun e => h.ne.2.2 e.symm)
  refine ⟨⟨K.blk h.blk (fun e => h.ne.2.1 e.symm), Nat.lt_of_lt_of_le h.llt K.size, fun k hk => range_kept (h.lies k hk) hL, there_kept h.there hL, ⟨.map [], ?_, fun k _ => rfl, fun x hx => by simp [has] at hx⟩, fun k hk => Own.nil_ _ _ _ _, fun k _ => rfl, fun j k _ => .inl rfl, fun k e => (by cases e), fun k hk => ⟨(h.len k hk).1, fun x hx => (by cases hx)⟩, h.small, h.left, h.bases, h.ne, rowAt_block h.lty hL⟩, K⟩
  exact ⟨#[], clock, heap_setBlock_same hb _, ⟨by simp, stamped_empty clock, by simp⟩, Nat.zero_le _, rfl⟩
theorem clear_foot {d : Dw} (b : Nat) (h : d.clear.foot b) : d.foot b := by
  rcases h with h | h | h | ⟨k, h⟩
  · exact .inl h
  · exact .inr (.inl h)
  · exact .inr (.inr (.inl h))
  · cases h
end

def flushD (s : Dsk) : Dsk := if doneOk s then clearD { doneS s with lies := fun k => if k < s.n then hasD (doneS s) k else (doneS s).lies k } else doneS s
end Go.Proofs.Ytnclebnodkkgnaa
