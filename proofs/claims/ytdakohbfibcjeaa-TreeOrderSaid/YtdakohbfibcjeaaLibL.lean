/- Lists of slices of bytes in memory. No condition. -/
import Derived.Test.YtdakohbfibcjeaaLib
import Derived.Laws.OwnMore
import Derived.Deep.OwnRows
namespace Go.Proofs.Ytdakohbfibcjeaa
open Go.RowKit

inductive All2 {α β : Type} (R : α → β → Prop) : List α → List β → Prop
  | nil : All2 R [] []
  | cons {a : α} {b : β} {xs : List α} {ys : List β} : R a b → All2 R xs ys → All2 R (a :: xs) (b :: ys)
/-- a list of slices' heads: each is a slice of bytes of its own -/
def SlO (w : World) (base : Nat) (vs : List Value) (ls : List (List UInt8)) : Prop := All2 (fun v l => ∃ A n c, v = .slice A n c ∧ Own w base 5 1 A n c (bvs l)) vs ls
/-- a list of slices' heads: each reads as bytes -/
def Sl (w : World) (lo : Nat) (vs : List Value) (ls : List (List UInt8)) : Prop := All2 (fun v l => ∃ A n c, v = .slice A n c ∧ Bs w lo A n c l) vs ls
section
variable {w w' : World} {base lo B : Nat} {vs us : List Value} {ls ms : List (List UInt8)}
theorem all2_imp {α β : Type} {R S : α → β → Prop} (h : ∀ a b, R a b → S a b) : ∀ {xs : List α} {ys : List β}, All2 R xs ys → All2 S xs ys
  | _, _, .nil => .nil
  | _, _, .cons a b => .cons (h _ _ a) (all2_imp h b)
theorem all2_append {α β : Type} {R : α → β → Prop} {xs' : List α} {ys' : List β} (h' : All2 R xs' ys') : ∀ {xs : List α} {ys : List β}, All2 R xs ys → All2 R (xs ++ xs') (ys ++ ys')
  | _, _, .nil => h'
  | _, _, .cons a b => .cons a (all2_append h' b)
theorem all2_len {α β : Type} {R : α → β → Prop} : ∀ {xs : List α} {ys : List β}, All2 R xs ys → xs.length = ys.length
  | _, _, .nil => rfl
  | _, _, .cons _ b => by simp [all2_len b]
theorem all2_take {α β : Type} {R : α → β → Prop} : ∀ {xs : List α} {ys : List β} (n : Nat), All2 R xs ys → All2 R (xs.take n) (ys.take n)
  | _, _, 0, _ => by simp; exact .nil
  | _, _, _ + 1, .nil => .nil
  | _, _, n + 1, .cons a b => .cons a (all2_take n b)
theorem all2_get {α β : Type} {R : α → β → Prop} : ∀ {xs : List α} {ys : List β} {k : Nat} (_ : All2 R xs ys) (h1 : k < xs.length) (h2 : k < ys.length), R xs[k] ys[k]
  | _, _, _, .nil, h1, _ => absurd h1 (by simp)
  | _, _, 0, .cons a _, _, _ => a
  | _, _, k + 1, .cons _ b, h1, h2 => all2_get (k := k) b (by simpa using h1) (by simpa using h2)
theorem SlO.below (h : SlO w base vs ls) (hb : Below B w w') (hB : w.heap.size ≤ B) : SlO w' base vs ls := all2_imp (fun _ _ ⟨A, n, c, e, ho⟩ => ⟨A, n, c, e, ho.below hb hB⟩) h
theorem SlO.sl (h : SlO w base vs ls) : Sl w base vs ls := all2_imp (fun _ _ ⟨A, n, c, e, ho⟩ => ⟨A, n, c, e, own_bs ho⟩) h
theorem Sl.below (h : Sl w lo vs ls) (hb : Below B w w') (hB : w.heap.size ≤ B) : Sl w' lo vs ls := all2_imp (fun _ _ ⟨A, n, c, e, ho⟩ => ⟨A, n, c, e, ho.below hb hB⟩) h
theorem SlO.one {A : Option Addr} {n c : Nat} {l : List UInt8} (h : Own w base 5 1 A n c (bvs l)) : SlO w base [.slice A n c] [l] := All2.cons ⟨A, n, c, rfl, h⟩ All2.nil
theorem SlO.weak (h : SlO w base vs ls) {b : Nat} (hb : b ≤ base) : SlO w b vs ls := all2_imp (fun _ _ ⟨A, n, c, e, ho⟩ => ⟨A, n, c, e, ho.weak hb⟩) h
theorem SlO.one_ (h : SlO w base vs ls) : ∀ u ∈ vs, u.oneCell' = true := by
  induction h with
  | nil => intro u hu; cases hu
  | cons a _ ih => intro u hu; rcases List.mem_cons.1 hu with e | e; (obtain ⟨_, _, _, rfl, _⟩ := a; rw [e]; rfl); exact ih u e
/-- slices of two types lie in two blocks -/
theorem own_types {b1 b2 s1 s2 n1 n2 c1 c2 : Nat} {e1 e2 : TypeId} {A1 A2 : Option Addr} {x1 x2 : List Value} (h1 : Own w b1 e1 s1 A1 n1 c1 x1) (h2 : Own w b2 e2 s2 A2 n2 c2 x2) (hne : e1 ≠ e2) : ablk A1 = none ∨ ablk A1 ≠ ablk A2 := by
  rcases h1.cases with ⟨rfl, _⟩ | ⟨g, cur, rfl, _, hh, _⟩
  · exact .inl rfl
  · right
    rcases h2.cases with ⟨rfl, _⟩ | ⟨g', cur', rfl, _, hh', _⟩
    · simp
    · intro e
      have : g = g' := by simpa using e
      subst this
      rw [hh] at hh'
      simp only [Option.some.injEq, Obj.cells.injEq] at hh'
      exact hne hh'.2.1
/-- a block of another type is turned -/
theorem SlO.keep (h : SlO w base vs ls) {b s n c : Nat} {e : TypeId} {A : Option Addr} {xs : List Value} (ho : Own w b e s A n c xs) (hne : 5 ≠ e) (hg : w.grownBy w' (ablk A)) : SlO w' base vs ls :=
  all2_imp (fun _ _ ⟨A, n, c, e, h1⟩ => ⟨A, n, c, e, h1.keep hg (own_types h1 ho hne)⟩) h
end
end Go.Proofs.Ytdakohbfibcjeaa
namespace Go.Proofs.Ytdakohbfibcjeaa
theorem flat_len {α : Type} {k : Nat} {f : Nat → List α} : ∀ {n : Nat}, (∀ i, i < n → (f i).length = k) → ((List.range n).flatMap f).length = n * k
  | 0, _ => by simp
  | n + 1, h => by
    rw [List.range_succ, List.flatMap_append, List.length_append, flat_len (fun i hi => h i (by omega))]
    simp only [List.flatMap_cons, List.flatMap_nil, List.append_nil, h n (by omega)]
    rw [Nat.succ_mul]
theorem flat_get {α : Type} {k : Nat} {f : Nat → List α} : ∀ {n : Nat}, (∀ i, i < n → (f i).length = k) → ∀ {i j : Nat}, i < n → j < k → ((List.range n).flatMap f)[i * k + j]? = (f i)[j]?
  | 0, _, i, j, hi, _ => absurd hi (by omega)
  | n + 1, h, i, j, hi, hj => by
    have hl := flat_len (n := n) (k := k) (f := f) (fun i hi => h i (by omega))
    rw [List.range_succ, List.flatMap_append]
    by_cases e : i = n
    · subst e
      rw [List.getElem?_append_right (by omega), hl, Nat.add_sub_cancel_left]
      simp
    · have : i * k + j < n * k := by
        have h1 : (i + 1) * k ≤ n * k := Nat.mul_le_mul_right k (by omega)
        rw [Nat.succ_mul] at h1
        omega
      rw [List.getElem?_append_left (by omega)]
      exact flat_get (fun i hi => h i (by omega)) (by omega) hj
open Go.RowKit in
/-- an element of a slice whose elements are of k cells -/
theorem rd_elem {w : World} {lo k n : Nat} {A : Option Addr} {xs : Nat → List Value} (h : Rd w lo A ((List.range n).flatMap xs)) (hl : ∀ i, i < n → (xs i).length = k) (hk : 0 < k) {i : Nat} (hi : i < n) :
    ∃ b o, A = some ⟨b, o, none⟩ ∧ lo ≤ b ∧ b < w.heap.size ∧ w.rangeAt b (o + i * k) (xs i) := by
  have hfl := flat_len hl
  have hpos : 0 < n * k := Nat.mul_pos (by omega) hk
  obtain ⟨b, o, e, h1, h2, hc⟩ := h (by omega)
  refine ⟨b, o, e, h1, h2, fun j v hv => ?_⟩
  have hj : j < k := by rw [← hl i hi]; exact (List.getElem?_eq_some_iff.1 hv).1
  have hg := flat_get hl hi hj
  have hlt : i * k + j < ((List.range n).flatMap xs).length := by
    have : (i + 1) * k ≤ n * k := Nat.mul_le_mul_right k (by omega)
    rw [Nat.succ_mul] at this
    omega
  have h3 := hc (i * k + j) hlt
  rw [← Nat.add_assoc] at h3
  rw [h3, ← hv, ← hg, List.getElem?_eq_getElem hlt]
theorem range_at {w : World} {b o : Nat} {xs : List Value} (h : w.rangeAt b o xs) (j : Nat) {v : Value} (hv : xs[j]? = some v) : w.cell? ⟨b, o + j, none⟩ = some v := h j v hv
end Go.Proofs.Ytdakohbfibcjeaa
namespace Go.Proofs.Ytdakohbfibcjeaa
open Go.RowKit

theorem made_bvs (n : Nat) : madeCells #[Value.int .u8 0] n = (bvs (List.replicate n 0)).toArray := by
  apply Array.toList_inj.1
  rw [toList_madeCells_one]
  simp only [bvs, List.map_replicate]
  rfl
theorem make_by (n : Nat) (hn : n ≤ 281474976710656) (w : World) : (Instr.makeSlice 82 (.int .i64 (n : Int)) (.int .i64 (n : Int))).run Try.prog w = .ok (.slice (some ⟨w.heap.size, 0, none⟩) n n) (w.alloc (.cells (bvs (List.replicate n 0)).toArray 5)) := by
  rw [← made_bvs]
  exact run_make_row' 82 5 (.int .u8 0) 1 Try.underlying82 info5 rfl .i64 .i64 n (by omega) (by omega) w

def pickN (c : Int) (n : Nat) : Nat := if c < 0 then (-(c + 1)).toNat % n else c.toNat % n
theorem pickN_lt (c : Int) {n : Nat} (h : 0 < n) : pickN c n < n := by unfold pickN; split <;> exact Nat.mod_lt _ h
def z256 : List UInt8 := List.replicate 256 0
theorem z256_len : z256.length = 256 := List.length_replicate
theorem make_256 (w : World) : (Instr.makeSlice 82 (.int .i64 256) (.int .i64 256)).run Try.prog w = .ok (.slice (some ⟨w.heap.size, 0, none⟩) 256 256) (w.alloc (.cells (bvs z256).toArray 5)) := make_by 256 (by omega) w
end Go.Proofs.Ytdakohbfibcjeaa
namespace Go.Proofs.Ytdakohbfibcjeaa
open Go.RowKit

def iv (l : List Nat) : List Value := l.map fun n : Nat => .int .i64 (n : Int)
theorem length_iv (l : List Nat) : (iv l).length = l.length := by simp [iv]
theorem iv_oneCell (l : List Nat) : ∀ u ∈ iv l, u.oneCell' = true := by
  intro u hu
  obtain ⟨_, _, rfl⟩ := List.mem_map.1 hu
  rfl
theorem iv_snoc (l : List Nat) (x : Nat) : iv l ++ [Value.int .i64 (x : Int)] = iv (l ++ [x]) := by simp [iv]
theorem iv_get (l : List Nat) (i : Nat) (h : i < (iv l).length) : (iv l)[i] = .int .i64 (l.getD i 0 : Nat) := by
  simp only [iv, List.getElem_map]
  rw [length_iv] at h
  rw [List.getD_eq_getElem?_getD, List.getElem?_eq_getElem h]
  rfl
theorem info3v : (Try.prog.info? 3).map (fun i => (i.zero, i.size, i.bytes)) = some (some (.int .i64 0), 1, 8) := by kernel_rfl
theorem own_iv {w : World} {base n c : Nat} {A : Option Addr} {l : List Nat} (h : Own w base 3 1 A n c (iv l)) {k : Nat} (hk : k < l.length) : ∃ g, A = some ⟨g, 0, none⟩ ∧ g < w.heap.size ∧ w.cell? ⟨g, k, none⟩ = some (.int .i64 (l.getD k 0 : Nat)) := by
  obtain ⟨g, e, _, h1, h2, _⟩ := h.cell (k := k) (by rw [length_iv]; exact hk)
  exact ⟨g, e, h1, by rw [h2, iv_get]⟩
end Go.Proofs.Ytdakohbfibcjeaa
