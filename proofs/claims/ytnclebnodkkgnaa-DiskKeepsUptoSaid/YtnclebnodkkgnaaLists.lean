/- Lists of slices of bytes in memory. No condition. -/
import Derived.Test.YtnclebnodkkgnaaLib
namespace Go.Proofs.Ytnclebnodkkgnaa
open Go.RowKit

inductive All2 {α β : Type} (R : α → β → Prop) : List α → List β → Prop
  | nil : All2 R [] []
  | cons {a : α} {b : β} {xs : List α} {ys : List β} : R a b → All2 R xs ys → All2 R (a :: xs) (b :: ys)
/-- a list of slices' heads: each is a slice of bytes of its own -/
def SlO (w : World) (base : Nat) (vs : List Value) (ls : List (List UInt8)) : Prop := All2 (fun v l => ∃ A n c, v = .slice A n c ∧ Own w base 5 1 A n c (bvs l)) vs ls
/-- a list of slices' heads: each reads as bytes -/
def Sl (w : World) (lo : Nat) (vs : List Value) (ls : List (List UInt8)) : Prop := All2 (fun v l => ∃ A n c, v = .slice A n c ∧ Bs w lo A n c l) vs ls
section
variable {w w' : World} {base lo B : Nat} {vs us : List Value} {ls ms : List (List UInt8)}
theorem all2_imp {α β : Type} {R S : α → β → Prop} (h : ∀ a b, R a b → S a b) : ∀ {xs : List α} {ys : List β}, All2 R xs ys → All2 S xs ys
  | _, _, .nil => .nil
  | _, _, .cons a b => .cons (h _ _ a) (all2_imp h b)
theorem all2_append {α β : Type} {R : α → β → Prop} {xs' : List α} {ys' : List β} (h' : All2 R xs' ys') : ∀ {xs : List α} {ys : List β}, All2 R xs ys → All2 R (xs ++ xs') (ys ++ ys')
  | _, _, .nil => h'
  | _, _, .cons a b => .cons a (all2_append h' b)
theorem all2_len {α β : Type} {R : α → β → Prop} : ∀ {xs : List α} {ys : List β}, All2 R xs ys → xs.length = ys.length
  | _, _, .nil => rfl
  | _, _, .cons _ b => by simp [all2_len b]
theorem all2_take {α β : Type} {R : α → β → Prop} : ∀ {xs : List α} {ys : List β} (n : Nat), All2 R xs ys → All2 R (xs.take n) (ys.take n)
  | _, _, 0, _ => by simp; exact .nil
  | _, _, _ + 1, .nil => .nil
  | _, _, n + 1, .cons a b => .cons a (all2_take n b)
theorem all2_get {α β : Type} {R : α → β → Prop} : ∀ {xs : List α} {ys : List β} {k : Nat} (_ : All2 R xs ys) (h1 : k < xs.length) (h2 : k < ys.length), R xs[k] ys[k]
  | _, _, _, .nil, h1, _ => absurd h1 (by simp)
  | _, _, 0, .cons a _, _, _ => a
  | _, _, k + 1, .cons _ b, h1, h2 => all2_get (k := k) b (by simpa using h1) (by simpa using h2)
theorem SlO.below (h : SlO w base vs ls) (hb : Below B w w') (hB : w.heap.size ≤ B) : SlO w' base vs ls := all2_imp (fun _ _ ⟨A, n, c, e, ho⟩ => ⟨A, n, c, e, ho.below hb hB⟩) h
theorem SlO.sl (h : SlO w base vs ls) : Sl w base vs ls := all2_imp (fun _ _ ⟨A, n, c, e, ho⟩ => ⟨A, n, c, e, own_bs ho⟩) h
theorem Sl.below (h : Sl w lo vs ls) (hb : Below B w w') (hB : w.heap.size ≤ B) : Sl w' lo vs ls := all2_imp (fun _ _ ⟨A, n, c, e, ho⟩ => ⟨A, n, c, e, ho.below hb hB⟩) h
theorem SlO.one {A : Option Addr} {n c : Nat} {l : List UInt8} (h : Own w base 5 1 A n c (bvs l)) : SlO w base [.slice A n c] [l] := All2.cons ⟨A, n, c, rfl, h⟩ All2.nil
theorem SlO.weak (h : SlO w base vs ls) {b : Nat} (hb : b ≤ base) : SlO w b vs ls := all2_imp (fun _ _ ⟨A, n, c, e, ho⟩ => ⟨A, n, c, e, ho.weak hb⟩) h
theorem SlO.one_ (h : SlO w base vs ls) : ∀ u ∈ vs, u.oneCell' = true := by
  induction h with
  | nil => intro u hu; cases hu
  | cons a _ ih => intro u hu; rcases List.mem_cons.1 hu with e | e; (obtain ⟨_, _, _, rfl, _⟩ := a; rw [e]; rfl); exact ih u e
/-- slices of two types lie in two blocks -/
theorem own_types {b1 b2 s1 s2 n1 n2 c1 c2 : Nat} {e1 e2 : TypeId} {A1 A2 : Option Addr} {x1 x2 : List Value} (h1 : Own w b1 e1 s1 A1 n1 c1 x1) (h2 : Own w b2 e2 s2 A2 n2 c2 x2) (hne : e1 ≠ e2) : ablk A1 = none ∨ ablk A1 ≠ ablk A2 := by
  rcases h1.cases with ⟨rfl, _⟩ | ⟨g, cur, rfl, _, hh, _⟩
  · exact .inl rfl
  · right
    rcases h2.cases with ⟨rfl, _⟩ | ⟨g', cur', rfl, _, hh', _⟩
    · simp
    · intro e
      have : g = g' := by simpa using e
      subst this
      rw [hh] at hh'
      simp only [Option.some.injEq, Obj.cells.injEq] at hh'
      exact hne hh'.2.1
/-- a block of another type is turned -/
theorem SlO.keep (h : SlO w base vs ls) {b s n c : Nat} {e : TypeId} {A : Option Addr} {xs : List Value} (ho : Own w b e s A n c xs) (hne : 5 ≠ e) (hg : w.grownBy w' (ablk A)) : SlO w' base vs ls :=
  all2_imp (fun _ _ ⟨A, n, c, e, h1⟩ => ⟨A, n, c, e, h1.keep hg (own_types h1 ho hne)⟩) h
end
end Go.Proofs.Ytnclebnodkkgnaa
