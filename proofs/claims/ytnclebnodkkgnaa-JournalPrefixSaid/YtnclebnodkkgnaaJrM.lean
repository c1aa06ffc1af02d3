/- A journal in memory, records in memory; may, New, Room, Many, pieces. No condition. -/
import Derived.Test.YtnclebnodkkgnaaDkFlush
import Derived.Test.YtnclebnodkkgnaaJPiece
namespace Go.Proofs.Ytnclebnodkkgnaa
open Go.RowKit

inductive All2 {α β : Type} (R : α → β → Prop) : List α → List β → Prop
  | nil : All2 R [] []
  | cons {a : α} {b : β} {xs : List α} {ys : List β} : R a b → All2 R xs ys → All2 R (a :: xs) (b :: ys)
/-- a list of slices' heads: each is a slice of bytes of its own -/
def SlO (w : World) (base : Nat) (vs : List Value) (ls : List (List UInt8)) : Prop := All2 (fun v l => ∃ A n c, v = .slice A n c ∧ Own w base 5 1 A n c (bvs l)) vs ls
/-- a list of slices' heads: each reads as bytes -/
def Sl (w : World) (lo : Nat) (vs : List Value) (ls : List (List UInt8)) : Prop := All2 (fun v l => ∃ A n c, v = .slice A n c ∧ Bs w lo A n c l) vs ls
section
variable {w w' : World} {base lo B : Nat} {vs us : List Value} {ls ms : List (List UInt8)}
theorem all2_imp {α β : Type} {R S : α → β → Prop} (h : ∀ a b, R a b → S a b) : ∀ {xs : List α} {ys : List β}, All2 R xs ys → All2 S xs ys
  | _, _, .nil => .nil
  | _, _, .cons a b => .cons (h _ _ a) (all2_imp h b)
theorem all2_append {α β : Type} {R : α → β → Prop} {xs' : List α} {ys' : List β} (h' : All2 R xs' ys') : ∀ {xs : List α} {ys : List β}, All2 R xs ys → All2 R (xs ++ xs') (ys ++ ys')
  | _, _, .nil => h'
  | _, _, .cons a b => .cons a (all2_append h' b)
theorem all2_len {α β : Type} {R : α → β → Prop} : ∀ {xs : List α} {ys : List β}, All2 R xs ys → xs.length = ys.length
  | _, _, .nil => rfl
  | _, _, .cons _ b => by simp [all2_len b]
theorem all2_take {α β : Type} {R : α → β → Prop} : ∀ {xs : List α} {ys : List β} (n : Nat), All2 R xs ys → All2 R (xs.take n) (ys.take n)
  | _, _, 0, _ => by simp; exact .nil
  | _, _, _ + 1, .nil => .nil
  | _, _, n + 1, .cons a b => .cons a (all2_take n b)
theorem all2_get {α β : Type} {R : α → β → Prop} : ∀ {xs : List α} {ys : List β} {k : Nat} (_ : All2 R xs ys) (h1 : k < xs.length) (h2 : k < ys.length), R xs[k] ys[k]
  | _, _, _, .nil, h1, _ => absurd h1 (by simp)
  | _, _, 0, .cons a _, _, _ => a
  | _, _, k + 1, .cons _ b, h1, h2 => all2_get (k := k) b (by simpa using h1) (by simpa using h2)
theorem SlO.below (h : SlO w base vs ls) (hb : Below B w w') (hB : w.heap.size ≤ B) : SlO w' base vs ls := all2_imp (fun _ _ ⟨A, n, c, e, ho⟩ => ⟨A, n, c, e, ho.below hb hB⟩) h
theorem SlO.sl (h : SlO w base vs ls) : Sl w base vs ls := all2_imp (fun _ _ ⟨A, n, c, e, ho⟩ => ⟨A, n, c, e, own_bs ho⟩) h
theorem Sl.below (h : Sl w lo vs ls) (hb : Below B w w') (hB : w.heap.size ≤ B) : Sl w' lo vs ls := all2_imp (fun _ _ ⟨A, n, c, e, ho⟩ => ⟨A, n, c, e, ho.below hb hB⟩) h
theorem SlO.one {A : Option Addr} {n c : Nat} {l : List UInt8} (h : Own w base 5 1 A n c (bvs l)) : SlO w base [.slice A n c] [l] := All2.cons ⟨A, n, c, rfl, h⟩ All2.nil
theorem SlO.weak (h : SlO w base vs ls) {b : Nat} (hb : b ≤ base) : SlO w b vs ls := all2_imp (fun _ _ ⟨A, n, c, e, ho⟩ => ⟨A, n, c, e, ho.weak hb⟩) h
theorem SlO.one_ (h : SlO w base vs ls) : ∀ u ∈ vs, u.oneCell' = true := by
  induction h with
  | nil => intro u hu; cases hu
  | cons a _ ih => intro u hu; rcases List.mem_cons.1 hu with e | e; (obtain ⟨_, _, _, rfl, _⟩ := a; rw [e]; rfl); exact ih u e
/-- slices of two types lie in two blocks -/
theorem own_types {b1 b2 s1 s2 n1 n2 c1 c2 : Nat} {e1 e2 : TypeId} {A1 A2 : Option Addr} {x1 x2 : List Value} (h1 : Own w b1 e1 s1 A1 n1 c1 x1) (h2 : Own w b2 e2 s2 A2 n2 c2 x2) (hne : e1 ≠ e2) : ablk A1 = none ∨ ablk A1 ≠ ablk A2 := by
  rcases h1.cases with ⟨rfl, _⟩ | ⟨g, cur, rfl, _, hh, _⟩
  · exact .inl rfl
  · right
    rcases h2.cases with ⟨rfl, _⟩ | ⟨g', cur', rfl, _, hh', _⟩
    · simp
    · intro e
      have : g = g' := by simpa using e
      subst this
      rw [hh] at hh'
      simp only [Option.some.injEq, Obj.cells.injEq] at hh'
      exact hne hh'.2.1
/-- a block of another type is turned -/
theorem SlO.keep (h : SlO w base vs ls) {b s n c : Nat} {e : TypeId} {A : Option Addr} {xs : List Value} (ho : Own w b e s A n c xs) (hne : 5 ≠ e) (hg : w.grownBy w' (ablk A)) : SlO w' base vs ls :=
  all2_imp (fun _ _ ⟨A, n, c, e, h1⟩ => ⟨A, n, c, e, h1.keep hg (own_types h1 ho hne)⟩) h
end

/-- a journal: its block, its disk -/
structure Jn (w : World) (base : Nat) (j : Nat) (d : Dw) (s : Dsk) (G used many : Nat) : Prop where
  dk : Dk w base d s
  blk : Blk w j 90 [.pointer (some ⟨d.g, 0, none⟩), .int .i64 G, .int .i64 used, .int .i64 many]
  away : ¬ d.foot j
  jb : base ≤ j
section
variable {F : Nat → Prop} {w w' : World} {base B j : Nat} {d : Dw} {s : Dsk} {G used many : Nat}
theorem Jn.below (h : Jn w base j d s G used many) (hb : Below B w w') (hB : w.heap.size ≤ B) : Jn w' base j d s G used many := ⟨h.dk.below hb hB, h.blk.below hb (Nat.lt_of_lt_of_le h.blk.lt hB), h.away, h.jb⟩
/-- a disk that was changed, behind the same pointer -/
theorem Jn.disk {d' : Dw} {s' : Dsk} (h : Jn w base j d s G used many) (h' : Dk w' base d' s') (hg : d'.g = d.g) (K : Kept d.foot w w') (hf : ∀ b, d'.foot b → d.foot b ∨ w.heap.size ≤ b) : Jn w' base j d' s' G used many := by
  refine ⟨h', ?_, fun hj => ?_, h.jb⟩
  · rw [hg]; exact K.blk h.blk h.away
  · rcases hf j hj with h1 | h1
    · exact h.away h1
    · have := h.blk.lt; omega

set_option maxHeartbeats 1000000 in
theorem may_ok (h : Dk w base d s) (hn : 50 ≤ s.n) (hG : 1 ≤ G ∧ G ≤ 4294967295) :
    Calls Try.prog 50 #[.pointer (some ⟨d.g, 0, none⟩), .int .i64 G] w fun e w' => e = .returned (.bool true) ∧ w' = w := by
  have C := Lib.hid (dsize_any h)
  have d1 : decide ((50 : Int) ≤ (s.n : Int)) = true := decide_eq_true (by omega)
  have d2 : decide ((1 : Int) ≤ (G : Int)) = true := decide_eq_true (by omega)
  have d3 : decide ((G : Int) ≤ 4294967295) = true := decide_eq_true (by omega)
  clear h hn hG
  go_enter Try.func50, Try.ntmps50
  go_wp2_with ((with_reducible refine Calls.mono C.out ?_); rintro e w1 ⟨rfl, rfl⟩)
  go_ret
  exact ⟨rfl, rfl⟩
set_option maxHeartbeats 1000000 in
theorem jnew_ok (h : Dk w base d s) (hn : 50 ≤ s.n) (hG : 1 ≤ G ∧ G ≤ 4294967295) :
    Calls Try.prog 15 #[.pointer (some ⟨d.g, 0, none⟩), .int .i64 G] w fun e w' => e = .returned (.tuple #[.pointer (some ⟨w.heap.size, 0, none⟩), .int .i64 0]) ∧ Jn w' base w.heap.size d s G 0 0 ∧ Below w.heap.size w w' := by
  have C := Lib.hid (may_ok h hn hG)
  have hbs := h.foot_base
  have HD := Lib.hid h
  have HB := Lib.hid hbs
  clear h hn hG hbs
  go_enter Try.func15, Try.ntmps15
  go_wp2_with ((with_reducible refine Calls.mono C.out ?_); rintro e w1 ⟨rfl, rfl⟩)
  go_ret2
  have hg := (HB.out d.g (.inl rfl)).1
  have hg2 := (HB.out d.g (.inl rfl)).2
  exact ⟨rfl, ⟨HD.out.alloc _, Blk.new _ _ _, fun hf => by have := (HB.out _ hf).2; omega, by omega⟩, (Below.refl _ _).alloc (Nat.le_refl _) _⟩
theorem room_any (h : Jn w base j d s G used many) (hu : used ≤ 48) : Calls Try.prog 16 #[.pointer (some ⟨j, 0, none⟩)] w fun e w' => e = .returned (.int .i64 ((48 - used : Nat) : Int)) ∧ w' = w := by
  have bc := h.blk.cells
  have e1 : IntKind.i64.wrap (48 - (used : Int)) = ((48 - used : Nat) : Int) := by rw [IntWalk.i64_in _ (by omega)]; omega
  clear h
  go_enter Try.func16, Try.ntmps16
  go_wp2
  go_ret
  exact ⟨by first | rfl | (rw [e1]) | (congr 2; omega), rfl⟩
theorem many_any (h : Jn w base j d s G used many) : Calls Try.prog 42 #[.pointer (some ⟨j, 0, none⟩)] w fun e w' => e = .returned (.int .i64 many) ∧ w' = w := by
  have bc := h.blk.cells
  clear h
  go_enter Try.func42, Try.ntmps42
  go_wp2
  go_ret
  exact ⟨rfl, rfl⟩
end
/-- how many sectors so many bytes take -/
def pcsN (n : Nat) : Nat := max 1 ((n + 231) / 232)
set_option maxRecDepth 4000 in
theorem pieces_any {n : Nat} (hn : n ≤ 4611686018427387904) (w : World) : Calls Try.prog 51 #[.int .i64 n] w fun e w' => e = .returned (.int .i64 (pcsN n)) ∧ w' = w := by
  have e1 : IntKind.i64.wrap ((n : Int) + 232) = (n : Int) + 232 := IntWalk.i64_in _ (by omega)
  have e2 : IntKind.i64.wrap ((n : Int) + 232 - 1) = (n : Int) + 231 := by rw [IntWalk.i64_in _ (by omega)]; omega
  have e3 : Int.tdiv ((n : Int) + 231) 232 = (((n + 231) / 232 : Nat) : Int) := by
    rw [Int.tdiv_eq_ediv_of_nonneg (by omega)]; omega
  go_enter Try.func51, Try.ntmps51
  go_wp2
  · go_ret
    refine ⟨?_, rfl⟩
    have e4 : (((n + 231) / 232 : Nat) : Int) = ((n : Int) + 231) / 232 := by omega
    first | rw [show pcsN n = 1 by unfold pcsN; omega] | rw [show pcsN n = (n + 231) / 232 by unfold pcsN; omega]
    try rfl
    try rw [e4]
  · go_ret
    refine ⟨?_, rfl⟩
    have e4 : (((n + 231) / 232 : Nat) : Int) = ((n : Int) + 231) / 232 := by omega
    first | rw [show pcsN n = 1 by unfold pcsN; omega] | rw [show pcsN n = (n + 231) / 232 by unfold pcsN; omega]
    try rfl
    try rw [e4]
end Go.Proofs.Ytnclebnodkkgnaa
