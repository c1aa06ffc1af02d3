/- A disk that was changed, behind the same pointer. No condition. -/
import Derived.Test.YtjndopmjlbhajaaDkNew
namespace Go.Proofs.Ytjndopmjlbhajaa
open Go.RowKit

theorem Rd.kept {F : Nat → Prop} {w w' : World} {lo : Nat} {A : Option Addr} {xs : List Value} (h : Rd w lo A xs) (K : Kept F w w') (hf : 0 < xs.length → ∀ b, ablk A = some b → ¬ F b) : Rd w' lo A xs := fun hn => by
  obtain ⟨b, o, e, h1, h2, hc⟩ := h hn
  exact ⟨b, o, e, h1, Nat.lt_of_lt_of_le h2 K.size, fun k hk => (World.cell?_of_block (a := ⟨b, o + k, none⟩) (K.block b h2 (hf hn b (by rw [e]; rfl)))).trans (hc k hk)⟩
theorem Bs.kept {F : Nat → Prop} {w w' : World} {lo m c : Nat} {A : Option Addr} {l : List UInt8} (h : Bs w lo A m c l) (K : Kept F w w') (hf : 0 < m → ∀ b, ablk A = some b → ¬ F b) : Bs w' lo A m c l := ⟨h.1, h.2.1, h.2.2.1, h.2.2.2.kept K (fun hn => hf (by rw [length_bvs, h.1] at hn; exact hn))⟩
/-- from w to w' the disk d became d', of what s' says; nothing else turned -/
structure Ch (w w' : World) (base : Nat) (d d' : Dw) (s' : Dsk) : Prop where
  dk : Dk w' base d' s'
  g : d'.g = d.g
  K : Kept d.foot w w'
  foot : ∀ b, d'.foot b → d.foot b ∨ w.heap.size ≤ b
section
variable {w w' w2 : World} {base : Nat} {d d' d2 : Dw} {s s' s2 : Dsk}
theorem Ch.init (h : Dk w base d s) : Ch w w base d d s := ⟨h, rfl, Kept.refl _ _, fun _ h => .inl h⟩
theorem Ch.of (h : ∃ d', Dk w' base d' s' ∧ d'.g = d.g ∧ Kept d.foot w w' ∧ ∀ b, d'.foot b → d.foot b ∨ w.heap.size ≤ b) : ∃ d', Ch w w' base d d' s' := by
  obtain ⟨d', h1, h2, h3, h4⟩ := h
  exact ⟨d', h1, h2, h3, h4⟩
theorem Ch.trans (h : Ch w w' base d d' s') (k : Ch w' w2 base d' d2 s2) : Ch w w2 base d d2 s2 :=
  ⟨k.dk, k.g.trans h.g, h.K.trans k.K (fun b hb x => by rcases h.foot b x with y | y; exact y; omega), fun b hb => by
    rcases k.foot b hb with y | y
    · exact h.foot b y
    · exact .inr (by have := h.K.size; omega)⟩
theorem Ch.below (h : Ch w w' base d d' s') {B : Nat} (hb : Below B w' w2) (hB : w'.heap.size ≤ B) : Ch w w2 base d d' s' :=
  ⟨h.dk.below hb hB, h.g, h.K.trans (F' := fun _ => False) (Kept.of_below hb hB) (fun _ _ x => x.elim), h.foot⟩
theorem Ch.pre (h : Ch w' w2 base d d2 s2) {B : Nat} (hb : Below B w w') (hB : w.heap.size ≤ B) : Ch w w2 base d d2 s2 :=
  ⟨h.dk, h.g, ((Kept.of_below (F := fun _ => False) hb hB).mono (F' := d.foot) (fun _ _ x => x.elim)).trans h.K (fun _ _ x => x), fun b hb2 => by
    rcases h.foot b hb2 with y | y
    · exact .inl y
    · exact .inr (by have := hb.size; omega)⟩
theorem Ch.bel (h : Ch w w' base d d' s') (h0 : Dk w base d s) : Below base w w' :=
  h.K.below (by have := h0.foot_base d.g (.inl rfl); omega) (fun b hb => (h0.foot_base b hb).1)
/-- a block that was away from the disk, and was there, stays away -/
theorem Ch.away (h : Ch w w' base d d' s') {b : Nat} (h1 : ¬ d.foot b) (h2 : b < w.heap.size) : ¬ d'.foot b := fun x => by
  rcases h.foot b x with y | y
  · exact h1 y
  · omega
end
end Go.Proofs.Ytjndopmjlbhajaa
