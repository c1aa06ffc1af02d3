/- A journal of the program and one of the document: what they have in common behind any deeds. No condition. -/
import Derived.Test.YtnclebnodkkgnaaRj
import Derived.Test.YtnclebnodkkgnaaJrL
import Derived.Test.YtnclebnodkkgnaaDkDoes
namespace Go.Proofs.Ytnclebnodkkgnaa
open Go.RowKit Go.Maps
set_option linter.unusedVariables false

section
variable {s t : Dsk} {c : Nat}
theorem Rel.up {c' : Nat} (h : Rel s t c) (hc : c ≤ c') : Rel s t c' := by
  obtain ⟨k, rfl⟩ := Nat.le.dest hc
  clear hc
  induction k with
  | zero => exact h
  | succ k ih => exact ih.idle
theorem Rel.laid (h : Rel s t c) {G N m p : Nat} {l : List UInt8} : ∀ i, c + i ≤ 1099511627776 → Rel (laidTo s G N m p l i) (rlaidTo t G N m p l i) (c + i)
  | 0, _ => h
  | i + 1, hi => (Rel.laid h i (by omega)).write (by omega) _ _
def wrIf (s : Dsk) (N : Int) (x : List UInt8) : Dsk := if 0 ≤ N ∧ N < (s.n : Int) then writeD s N.toNat x else s
def rwrIf (s : Dsk) (N : Int) (x : List UInt8) : Dsk := if 0 ≤ N ∧ N < (s.n : Int) then rwriteD s N.toNat x else s
theorem Rel.wrIf_ (h : Rel s t c) (hc : c ≤ 1099511627776) (N : Int) (x : List UInt8) : Rel (wrIf s N x) (rwrIf t N x) (c + 1) := by
  unfold wrIf rwrIf
  rw [h.n_]
  split
  · exact h.write hc _ _
  · exact h.idle
theorem wrIf_n (s : Dsk) (N : Int) (x : List UInt8) : (wrIf s N x).n = s.n := by
  unfold wrIf
  split
  · exact writeD_n s _ x
  · rfl
end
section
variable {w : World} {base : Nat} {d : Dw} {r : Rw} {s : Dsk} {lo g cp : Nat} {x : List UInt8}
theorem dwr_any (h : Dk w base d s) (hv : ∀ k, k < s.n → (s.vers k).length < 549755813887) (N : Int) (hx : Bs w lo (some ⟨g, 0, none⟩) 256 cp x) (hf : ¬ d.foot g) :
    Calls Try.prog 27 #[.pointer (some ⟨d.g, 0, none⟩), .int .i64 N, .slice (some ⟨g, 0, none⟩) 256 cp] w fun e w' => ∃ z d', e = .returned (.int .i64 z) ∧ Ch w w' base d d' (wrIf s N x) := by
  unfold wrIf
  by_cases hin : 0 ≤ N ∧ N < (s.n : Int)
  · obtain ⟨k, rfl⟩ : ∃ k : Nat, N = (k : Int) := ⟨N.toNat, by omega⟩
    rw [if_pos hin]
    refine (dwrite_ok h (k := k) (by omega) (hv k (by omega)) hx hf).mono fun e w' ⟨h1, h2⟩ => ?_
    obtain ⟨d', hc⟩ := Ch.of h2
    exact ⟨_, d', h1, hc⟩
  · rw [if_neg hin]
    exact (dwrite_far h (by omega) _).mono fun e w' ⟨a, b⟩ => ⟨_, d, a, by rw [b]; exact Ch.init h⟩
theorem rwr_any (h : Rk w base r s) (hv : ∀ k, k < s.n → (s.vers k).length < 549755813887) (N : Int) {A : Option Addr} (hx : Bs w lo A 256 cp x) (hf : ∀ b, ablk A = some b → ¬ r.foot s.n b) :
    Calls Try.prog 47 #[.pointer (some ⟨r.g, 0, none⟩), .int .i64 N, .slice A 256 cp] w fun e w' => ∃ z r', e = .returned (.int .i64 z) ∧ Rch w w' base r r' s.n (rwrIf s N x) := by
  unfold rwrIf
  by_cases hin : 0 ≤ N ∧ N < (s.n : Int)
  · obtain ⟨k, rfl⟩ : ∃ k : Nat, N = (k : Int) := ⟨N.toNat, by omega⟩
    rw [if_pos hin]
    exact (rwrite_ok h (k := k) (by omega) (by have := hv k (by omega); omega) hx hf).mono fun e w' ⟨h1, r', h2⟩ => ⟨_, r', h1, h2⟩
  · rw [if_neg hin]
    exact (rwrite_far h (by omega) _).mono fun e w' ⟨a, b⟩ => ⟨_, r, a, by rw [b]; exact Rch.init h⟩
end
section
variable {sec sec' : Nat → List UInt8} {G p N M : Nat}
theorem recGo_congr : ∀ (f i : Nat) (acc : List UInt8), (∀ j, i ≤ j → j < i + f → sec (p + j) = sec' (p + j)) → recGo sec G p N M f i acc = recGo sec' G p N M f i acc
  | 0, _, _, _ => rfl
  | f + 1, i, acc, h => by
    have e : pcOk sec G p N M i = pcOk sec' G p N M i := by unfold pcOk; rw [h i (Nat.le_refl _) (by omega)]
    rw [recGo, recGo, e]
    cases pcOk sec' G p N M i with
    | none => rfl
    | some b => exact recGo_congr f (i + 1) _ (fun j h1 h2 => h j (by omega) (by omega))
theorem recAt_congr (hp : p < 48) (h : ∀ k, k < 48 → sec k = sec' k) : recAt sec G p N = recAt sec' G p N := by
  have e : recM sec p = recM sec' p := by unfold recM; rw [h p hp]
  unfold recAt recAll
  rw [e]
  by_cases a : recM sec' p < 1 ∨ 48 < p + recM sec' p
  · rw [if_pos a, if_pos a]
  · rw [if_neg a, if_neg a, recGo_congr _ _ _ (fun j h1 h2 => h (p + j) (by omega))]
theorem openGo_congr (h : ∀ k, k < 48 → sec k = sec' k) : ∀ (f p : Nat) (out : List (List UInt8)), openGo sec G f p out = openGo sec' G f p out
  | 0, _, _ => rfl
  | f + 1, p, out => by
    rw [openGo, openGo]
    by_cases hp : p < 48
    · rw [if_pos hp, if_pos hp, recAt_congr hp h]
      cases recAt sec' G p (out.length + 1) with
      | none => rfl
      | some b => exact openGo_congr h f _ _
    · rw [if_neg hp, if_neg hp]
end
theorem Rel.opens {s t : Dsk} {c : Nat} (h : Rel s t c) (hn : 50 ≤ s.n) (G : Nat) : openS (secs t) G = openS (secs s) G := openGo_congr (fun k hk => h.has (by omega)) _ _ _

theorem blk_apart {w : World} {g j : Nat} {t t' : TypeId} {cs cs' : List Value} (h : Blk w g t cs) (h' : Blk w j t' cs') (hne : t ≠ t') : g ≠ j := fun e => by
  subst e
  unfold Blk at h h'
  rw [h] at h'
  simp only [Option.some.injEq, Obj.cells.injEq] at h'
  exact hne h'.2.1
/-- both journals in memory -/
structure JI (w wr : World) (br : Nat) (d : Dw) (r : Rw) (s t : Dsk) (j q G used many : Nat) : Prop where
  jn : Jn wr w.heap.size j d s G used many
  rk : Rk wr br r t
  le : w.heap.size ≤ br
  qb : Blk wr q 82 (rjc r.g G used many)
  b : Below w.heap.size w wr
  ql : w.heap.size ≤ q
section
variable {w wr w' : World} {br : Nat} {d d' : Dw} {r r' : Rw} {s s' t t' : Dsk} {j q G used many used' many' : Nat}
theorem JI.below (h : JI w wr br d r s t j q G used many) (hb : Below wr.heap.size wr w') : JI w w' br d r s t j q G used many :=
  ⟨h.jn.below hb (Nat.le_refl _), h.rk.below hb (Nat.le_refl _), h.le, h.qb.below hb h.qb.lt, h.b.trans (hb.mono h.b.size), h.ql⟩
theorem JI.offD (h : JI w wr br d r s t j q G used many) {g : Nat} {ty : TypeId} {cs : List Value} (hg : Blk wr g ty cs) (h1 : ty ≠ 87) (h2 : ty ≠ 93) (h3 : ty ≠ 90) : ¬ (d.foot g ∨ g = j) := by
  rintro (e | e)
  · exact h.jn.dk.offB hg h1 h2 e
  · subst e
    have := h.jn.blk
    unfold Blk at this hg
    rw [this] at hg
    simp only [Option.some.injEq, Obj.cells.injEq] at hg
    exact h3 hg.2.1.symm
theorem JI.offR (h : JI w wr br d r s t j q G used many) {g : Nat} {ty : TypeId} {cs : List Value} (hg : Blk wr g ty cs) (h1 : ty ≠ 70) (h2 : ty ≠ 102) (h3 : ty ≠ 33) (h4 : ty ≠ 82) : ¬ (r.foot t.n g ∨ g = q) := by
  rintro (e | e)
  · exact h.rk.offB hg h1 h2 h3 e
  · subst e
    have := h.qb
    unfold Blk at this hg
    rw [this] at hg
    simp only [Option.some.injEq, Obj.cells.injEq] at hg
    exact h4 hg.2.1.symm
theorem JI.rk_app (h : JI w wr br d r s t j q G used many) (k : Ap wr w' w.heap.size j d d' s' G used' many') : Rk w' br r t ∧ Blk w' q 82 (rjc r.g G used many) := by
  refine ⟨h.rk.kept k.K (fun b hb x => ?_) (fun A n c l b ho hb x => ?_), k.K.blk h.qb (h.offD h.qb (by decide) (by decide) (by decide))⟩
  · rcases x with x | x
    · exact (two_apart (w' := wr) h.jn.dk h.rk).1 b hb x
    · subst x; exact h.rk.offB h.jn.blk (by decide) (by decide) (by decide) hb
  · rcases x with x | x
    · exact (two_apart (w' := wr) h.jn.dk h.rk).2 A n c l b ho hb x
    · subst x; exact blk_own_ne h.jn.blk ho (by decide) hb
theorem JI.onD (h : JI w wr br d r s t j q G used many) (k : Ch wr w' w.heap.size d d' s') : JI w w' br d' r s' t j q G used many :=
  ⟨h.jn.disk k.dk k.g k.K k.foot, h.rk.kept k.K (two_apart (w' := wr) h.jn.dk h.rk).1 (two_apart (w' := wr) h.jn.dk h.rk).2, h.le, k.K.blk h.qb (h.jn.dk.offB h.qb (by decide) (by decide)), h.b.trans (k.bel h.jn.dk), h.ql⟩
theorem JI.onR (h : JI w wr br d r s t j q G used many) (k : Rch wr w' br r r' t.n t') : JI w w' br d r' s t' j q G used many :=
  ⟨⟨h.jn.dk.kept k.K (fun b hb x => (two_apart (w' := wr) h.jn.dk h.rk).1 b x hb), k.K.blk h.jn.blk (h.rk.offB h.jn.blk (by decide) (by decide) (by decide)), h.jn.away, h.jn.jb⟩, k.rk, h.le,
    by rw [k.g]; exact k.K.blk h.qb (h.rk.offB h.qb (by decide) (by decide) (by decide)), h.b.trans ((k.bel h.rk).mono h.le), h.ql⟩
/-- both wrote a record -/
theorem JI.both (h : JI w wr br d r s t j q G used many) {w2 : World} (k : Ap wr w' w.heap.size j d d' s' G used' many') (k2 : Rap w' w2 br q r r' t.n t' G used' many') : JI w w2 br d' r' s' t' j q G used' many' := by
  obtain ⟨hr, hq⟩ := h.rk_app k
  have hb1 := h.b.trans (k.bel h.jn)
  have hjq : ¬ (r.foot t.n j ∨ j = q) := by
    rintro (x | x)
    · exact hr.offB k.jn.blk (by decide) (by decide) (by decide) x
    · exact blk_apart k.jn.blk hq (by decide) x
  have hbq : Below w.heap.size w' w2 := k2.K.below hb1.size (fun b x => by
    rcases x with x | x
    · have := (hr.foot_base b x).1; have := h.le; omega
    · subst x; exact h.ql)
  refine ⟨⟨k.jn.dk.kept k2.K (fun b hb x => ?_), k2.K.blk k.jn.blk hjq, k.jn.away, k.jn.jb⟩, k2.rk, h.le, by rw [k2.g]; exact k2.qb, hb1.trans hbq, h.ql⟩
  rcases x with x | x
  · exact (two_apart (w' := wr) k.jn.dk hr).1 b x hb
  · subst x; exact k.jn.dk.offB hq (by decide) (by decide) hb
end
end Go.Proofs.Ytnclebnodkkgnaa
