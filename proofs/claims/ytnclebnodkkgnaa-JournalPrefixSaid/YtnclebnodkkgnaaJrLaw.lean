/- What a law over a journal holds: the journal, a list of records, slices that stay. No condition. -/
import Derived.Test.YtnclebnodkkgnaaJrWipe
import Derived.Test.YtnclebnodkkgnaaJrPc
namespace Go.Proofs.Ytnclebnodkkgnaa
open Go.RowKit
set_option linter.unusedSimpArgs false
set_option linter.unusedVariables false

/-- a slice's block is not of F, and there -/
def Off (w : World) (F : Nat → Prop) (A : Option Addr) : Prop := ∀ b, ablk A = some b → ¬ F b ∧ b < w.heap.size
def SlF (w : World) (F : Nat → Prop) (vs : List Value) (ls : List (List UInt8)) : Prop := All2 (fun v l => ∃ A n c, v = .slice A n c ∧ Bs w 0 A n c l ∧ (0 < n → Off w F A)) vs ls
section
variable {w w' : World} {F F' : Nat → Prop} {A : Option Addr} {vs : List Value} {ls : List (List UInt8)} {m c lo : Nat} {l : List UInt8}
theorem Off.step (h : Off w F A) (hs : w.heap.size ≤ w'.heap.size) (hF : ∀ b, F' b → F b ∨ w.heap.size ≤ b) : Off w' F' A := fun b hb => by
  obtain ⟨h1, h2⟩ := h b hb
  exact ⟨fun x => by rcases hF b x with y | y; exact h1 y; omega, by omega⟩
theorem SlF.step (h : SlF w F vs ls) (K : Kept F w w') (hF : ∀ b, F' b → F b ∨ w.heap.size ≤ b) : SlF w' F' vs ls :=
  all2_imp (fun v l ⟨A, n, c, e, hb, ho⟩ => ⟨A, n, c, e, hb.kept K (fun hn b hb => (ho hn b hb).1), fun hn => (ho hn).step K.size hF⟩) h
theorem SlF.sl (h : SlF w F vs ls) : Sl w 0 vs ls := all2_imp (fun v l ⟨A, n, c, e, hb, _⟩ => ⟨A, n, c, e, hb⟩) h
theorem SlF.snoc (h : SlF w F vs ls) (hb : Bs w 0 A m c l) (ho : 0 < m → Off w F A) : SlF w F (vs ++ [.slice A m c]) (ls ++ [l]) :=
  all2_append (All2.cons ⟨A, m, c, rfl, hb, ho⟩ All2.nil) h
end

structure LawI (w wr : World) (gd j G used many : Nat) (d : Dw) (s : Dsk) (Aa : Option Addr) (na ca : Nat) (va : List Value) : Prop where
  jn : Jn wr w.heap.size j d s G used many
  g : d.g = gd
  all : Own wr w.heap.size 33 1 Aa na ca va
  aa : ∀ b, ablk Aa = some b → ¬ d.foot b ∧ b ≠ j
  b : Below w.heap.size w wr
/-- what such a law writes to -/
def lawF (d : Dw) (j : Nat) (Aa : Option Addr) : Nat → Prop := fun b => d.foot b ∨ b = j ∨ ablk Aa = some b
section
variable {w wr w' : World} {gd j G used many na ca used' many' : Nat} {d d' : Dw} {s s' : Dsk} {Aa A' : Option Addr} {va : List Value}
theorem LawI.sub (h : LawI w wr gd j G used many d s Aa na ca va) (hb : Below wr.heap.size wr w') : LawI w w' gd j G used many d s Aa na ca va :=
  ⟨h.jn.below hb (Nat.le_refl _), h.g, h.all.below hb (Nat.le_refl _), h.aa, h.b.trans (hb.mono h.b.size)⟩
theorem LawI.disk (h : LawI w wr gd j G used many d s Aa na ca va) (k : Ap wr w' w.heap.size j d d' s' G used' many') : LawI w w' gd j G used' many' d' s' Aa na ca va ∧ Kept (lawF d j Aa) wr w' ∧ ∀ b, lawF d' j Aa b → lawF d j Aa b ∨ wr.heap.size ≤ b :=
  ⟨⟨k.jn, k.g.trans h.g, own_kept h.all k.K (fun b e x => by obtain ⟨p, q⟩ := h.aa b e; rcases x with x | x; exact p x; exact q x),
    away_step h.aa (fun b e => (h.all.blk e).2) k.foot, h.b.trans (k.bel h.jn)⟩,
   k.K.mono (fun b _ x => by rcases x with x | x; exact .inl x; exact .inr (.inl x)),
   fun b x => by
    rcases x with x | x
    · rcases k.foot b x with y | y
      · exact .inl (.inl y)
      · exact .inr y
    · exact .inl (.inr x)⟩
theorem LawI.ch (h : LawI w wr gd j G used many d s Aa na ca va) (k : Ch wr w' w.heap.size d d' s') : LawI w w' gd j G used many d' s' Aa na ca va ∧ Kept (lawF d j Aa) wr w' ∧ ∀ b, lawF d' j Aa b → lawF d j Aa b ∨ wr.heap.size ≤ b :=
  ⟨⟨h.jn.disk k.dk k.g k.K k.foot, k.g.trans h.g, own_kept h.all k.K (fun b e x => (h.aa b e).1 x),
    away_step h.aa (fun b e => (h.all.blk e).2) k.foot, h.b.trans (k.bel h.jn.dk)⟩,
   k.K.mono (fun b _ x => .inl x),
   fun b x => by
    rcases x with x | x
    · rcases k.foot b x with y | y
      · exact .inl (.inl y)
      · exact .inr y
    · exact .inl (.inr x)⟩
theorem LawI.put (h : LawI w wr gd j G used many d s Aa na ca va) {n' c' : Nat} {va' : List Value} (ho : Own w' w.heap.size 33 1 A' n' c' va') (hg : wr.grownBy w' (ablk Aa)) (hf : ablk A' = ablk Aa ∨ ablk A' = some wr.heap.size) :
    LawI w w' gd j G used many d s A' n' c' va' ∧ Kept (lawF d j Aa) wr w' ∧ ∀ b, lawF d j A' b → lawF d j Aa b ∨ wr.heap.size ≤ b :=
  ⟨⟨h.jn.grown (c := 0) hg h.aa, h.g, ho, away_new h.aa h.jn hf, below_own h.b h.all hg (Nat.le_refl _) h.b.size⟩,
   Kept.of_grown hg (fun b e => .inr (.inr e)),
   fun b x => by
    rcases x with x | x | x
    · exact .inl (.inl x)
    · exact .inl (.inr (.inl x))
    · rcases hf with e | e
      · rw [e] at x; exact .inl (.inr (.inr x))
      · rw [e] at x; injection x with x; exact .inr (by omega)⟩
theorem LawI.f_lt (h : LawI w wr gd j G used many d s Aa na ca va) : ∀ b, lawF d j Aa b → w.heap.size ≤ b ∧ b < wr.heap.size := fun b x => by
  rcases x with x | x | x
  · exact h.jn.base_le b (.inl x)
  · exact h.jn.base_le b (.inr x)
  · exact h.all.blk x
/-- bytes that were there before the law ran -/
theorem LawI.off_in (h : LawI w wr gd j G used many d s Aa na ca va) {A : Option Addr} (hb : ∀ b, ablk A = some b → b < w.heap.size) : Off wr (lawF d j Aa) A := fun b e => by
  have h1 := hb b e
  refine ⟨fun x => ?_, by have := h.b.size; omega⟩
  have := (h.f_lt b x).1
  omega
/-- bytes that were made just now -/
theorem off_new {F : Nat → Prop} {A : Option Addr} {n c lo : Nat} {xs : List Value} {e sz : Nat} (hF : ∀ b, F b → b < lo) (ho : Own wr lo e sz A n c xs) : Off wr F A := fun b hb => by
  obtain ⟨h1, h2⟩ := ho.blk hb
  exact ⟨fun x => by have := hF b x; omega, h2⟩
end
theorem bs_lt {w : World} {lo m c : Nat} {A : Option Addr} {l : List UInt8} (h : Bs w lo A m c l) (hm : 0 < m) : ∀ b, ablk A = some b → b < w.heap.size := fun b hb => by
  obtain ⟨b', o', rfl, _, h2⟩ := h.at_ hm
  injection hb with hb
  subst hb
  exact h2

theorem recs_piece {sec : Nat → List UInt8} {G k : Nat} : ∀ {rs : List (List UInt8)} {p N : Nat}, RecsAt sec G p N rs → p ≤ k → k < p + usedOf rs → ∃ N' i m l, sec k = pieceB G N' i m l
  | [], p, N, _, h1, h2 => by simp [usedOf] at h2; omega
  | r :: rs, p, N, ⟨h, h'⟩, h1, h2 => by
    by_cases e : k < p + pcsN r.length
    · obtain ⟨i, rfl⟩ : ∃ i, k = p + i := ⟨k - p, by omega⟩
      exact ⟨N, i, _, _, h i (by omega)⟩
    · exact recs_piece h' (by omega) (by simp only [usedOf] at h2; omega)
/-- no sector of a journal is a piece of another generation -/
theorem other_gen {s : Dsk} {n G G' : Nat} {had : Nat → List UInt8} {rs : List (List UInt8)} (k : Jrn s n G had rs) (hh : ∀ i, had i = z256) (h1 : G < 4294967296) (h2 : G' < 4294967296) (hne : G ≠ G') (i N p m : Nat) (l : List UInt8) :
    hasD s (2 + i) ≠ pieceB G' N p m l := fun e => by
  by_cases hi : i < usedOf rs
  · obtain ⟨N', i', m', l', h⟩ := recs_piece k.recs (Nat.zero_le i) (by omega)
    have h' : hasD s (2 + i) = _ := h
    rw [h'] at e
    exact hne (piece_G h1 h2 e)
  · rw [k.rest i (by omega), hh, pieceB_eq] at e
    have : (z256).head? = some 74 := by rw [e]; rfl
    rw [z256, show (256 : Nat) = 255 + 1 from rfl, List.replicate_succ] at this
    simp only [List.head?_cons, Option.some.injEq] at this
    exact absurd this (by decide)
theorem other_open {s : Dsk} {n G G' : Nat} {had : Nat → List UInt8} {rs : List (List UInt8)} (k : Jrn s n G had rs) (hh : ∀ i, had i = z256) (h1 : G < 4294967296) (h2 : G' < 4294967296) (hne : G ≠ G') : openS (secs s) G' = [] :=
  openS_all (rs := []) trivial (by simp [usedOf]) (.inr (recAt_first fun j' dt hd e => other_gen k hh h1 h2 hne 0 _ _ _ _ e))
theorem z256_2 : z256.getD 2 0 = 0 := by decide
theorem own_open {s : Dsk} {n G : Nat} {had : Nat → List UInt8} {rs : List (List UInt8)} (k : Jrn s n G had rs) (hh : ∀ i, had i = z256) : openS (secs s) G = rs := jrn_open k (fun _ => by rw [hh]; exact z256_2)
/-- behind a flush -/
theorem Jrn.flush {s : Dsk} {n G : Nat} {had : Nat → List UInt8} {rs : List (List UInt8)} (k : Jrn s n G had rs) (hn : 50 ≤ n) : (flushD s).n = n ∧ (flushD s).cut = false ∧ (∀ i, (flushD s).vers i = []) ∧ ∀ i, hasD (flushD s) i = hasD s i := by
  have hf := flush_secs k.cut_ (vers_nil k hn)
  exact ⟨by rw [(flush_cut k.cut_).2, k.n_], (flush_cut k.cut_).1, fun i => (hf i).2.2, fun i => (hf i).1⟩
/-- a journal of another generation begins -/
theorem jrn_begin {s : Dsk} {n : Nat} (G : Nat) (h1 : s.n = n) (h2 : s.cut = false) (h3 : ∀ i, s.vers i = []) : Jrn s n G (secs s) [] :=
  ⟨h1, h2, Nat.zero_le _, trivial, fun _ _ => rfl, fun k => by rw [h3, if_neg (by show ¬ (2 ≤ k ∧ k < 2 + 0); omega)]; rfl⟩
end Go.Proofs.Ytnclebnodkkgnaa
