/- A journal in memory, records in memory; may, New, Room, Many, pieces. No condition. -/
import Derived.Test.YtnclebnodkkgnaaDkFlush
import Derived.Test.YtnclebnodkkgnaaJPiece
import Derived.Test.YtnclebnodkkgnaaLibL
namespace Go.Proofs.Ytnclebnodkkgnaa
open Go.RowKit

/-- a journal: its block, its disk -/
structure Jn (w : World) (base : Nat) (j : Nat) (d : Dw) (s : Dsk) (G used many : Nat) : Prop where
  dk : Dk w base d s
  blk : Blk w j 90 [.pointer (some ⟨d.g, 0, none⟩), .int .i64 G, .int .i64 used, .int .i64 many]
  away : ¬ d.foot j
  jb : base ≤ j
section
variable {F : Nat → Prop} {w w' : World} {base B j : Nat} {d : Dw} {s : Dsk} {G used many : Nat}
theorem Jn.below (h : Jn w base j d s G used many) (hb : Below B w w') (hB : w.heap.size ≤ B) : Jn w' base j d s G used many := ⟨h.dk.below hb hB, h.blk.below hb (Nat.lt_of_lt_of_le h.blk.lt hB), h.away, h.jb⟩
/-- a disk that was changed, behind the same pointer -/
theorem Jn.disk {d' : Dw} {s' : Dsk} (h : Jn w base j d s G used many) (h' : Dk w' base d' s') (hg : d'.g = d.g) (K : Kept d.foot w w') (hf : ∀ b, d'.foot b → d.foot b ∨ w.heap.size ≤ b) : Jn w' base j d' s' G used many := by
  refine ⟨h', ?_, fun hj => ?_, h.jb⟩
  · rw [hg]; exact K.blk h.blk h.away
  · rcases hf j hj with h1 | h1
    · exact h.away h1
    · have := h.blk.lt; omega

set_option maxHeartbeats 1000000 in
theorem may_ok (h : Dk w base d s) (hn : 50 ≤ s.n) (hG : 1 ≤ G ∧ G ≤ 4294967295) :
    Calls Try.prog 50 #[.pointer (some ⟨d.g, 0, none⟩), .int .i64 G] w fun e w' => e = .returned (.bool true) ∧ w' = w := by
  have C := Lib.hid (dsize_any h)
  have d1 : decide ((50 : Int) ≤ (s.n : Int)) = true := decide_eq_true (by omega)
  have d2 : decide ((1 : Int) ≤ (G : Int)) = true := decide_eq_true (by omega)
  have d3 : decide ((G : Int) ≤ 4294967295) = true := decide_eq_true (by omega)
  clear h hn hG
  go_enter Try.func50, Try.ntmps50
  go_wp2_with ((with_reducible refine Calls.mono C.out ?_); rintro e w1 ⟨rfl, rfl⟩)
  go_ret
  exact ⟨rfl, rfl⟩
set_option maxHeartbeats 1000000 in
theorem jnew_ok (h : Dk w base d s) (hn : 50 ≤ s.n) (hG : 1 ≤ G ∧ G ≤ 4294967295) :
    Calls Try.prog 15 #[.pointer (some ⟨d.g, 0, none⟩), .int .i64 G] w fun e w' => e = .returned (.tuple #[.pointer (some ⟨w.heap.size, 0, none⟩), .int .i64 0]) ∧ Jn w' base w.heap.size d s G 0 0 ∧ Below w.heap.size w w' := by
  have C := Lib.hid (may_ok h hn hG)
  have hbs := h.foot_base
  have HD := Lib.hid h
  have HB := Lib.hid hbs
  clear h hn hG hbs
  go_enter Try.func15, Try.ntmps15
  go_wp2_with ((with_reducible refine Calls.mono C.out ?_); rintro e w1 ⟨rfl, rfl⟩)
  go_ret2
  have hg := (HB.out d.g (.inl rfl)).1
  have hg2 := (HB.out d.g (.inl rfl)).2
  exact ⟨rfl, ⟨HD.out.alloc _, Blk.new _ _ _, fun hf => by have := (HB.out _ hf).2; omega, by omega⟩, (Below.refl _ _).alloc (Nat.le_refl _) _⟩
theorem room_any (h : Jn w base j d s G used many) (hu : used ≤ 48) : Calls Try.prog 16 #[.pointer (some ⟨j, 0, none⟩)] w fun e w' => e = .returned (.int .i64 ((48 - used : Nat) : Int)) ∧ w' = w := by
  have bc := h.blk.cells
  have e1 : IntKind.i64.wrap (48 - (used : Int)) = ((48 - used : Nat) : Int) := by rw [IntWalk.i64_in _ (by omega)]; omega
  clear h
  go_enter Try.func16, Try.ntmps16
  go_wp2
  go_ret
  exact ⟨by first | rfl | (rw [e1]) | (congr 2; omega), rfl⟩
theorem many_any (h : Jn w base j d s G used many) : Calls Try.prog 42 #[.pointer (some ⟨j, 0, none⟩)] w fun e w' => e = .returned (.int .i64 many) ∧ w' = w := by
  have bc := h.blk.cells
  clear h
  go_enter Try.func42, Try.ntmps42
  go_wp2
  go_ret
  exact ⟨rfl, rfl⟩
end
/-- how many sectors so many bytes take -/
def pcsN (n : Nat) : Nat := max 1 ((n + 231) / 232)
set_option maxRecDepth 4000 in
theorem pieces_any {n : Nat} (hn : n ≤ 4611686018427387904) (w : World) : Calls Try.prog 51 #[.int .i64 n] w fun e w' => e = .returned (.int .i64 (pcsN n)) ∧ w' = w := by
  have e1 : IntKind.i64.wrap ((n : Int) + 232) = (n : Int) + 232 := IntWalk.i64_in _ (by omega)
  have e2 : IntKind.i64.wrap ((n : Int) + 232 - 1) = (n : Int) + 231 := by rw [IntWalk.i64_in _ (by omega)]; omega
  have e3 : Int.tdiv ((n : Int) + 231) 232 = (((n + 231) / 232 : Nat) : Int) := by
    rw [Int.tdiv_eq_ediv_of_nonneg (by omega)]; omega
  go_enter Try.func51, Try.ntmps51
  go_wp2
  · go_ret
    refine ⟨?_, rfl⟩
    have e4 : (((n + 231) / 232 : Nat) : Int) = ((n : Int) + 231) / 232 := by omega
    first | rw [show pcsN n = 1 by unfold pcsN; omega] | rw [show pcsN n = (n + 231) / 232 by unfold pcsN; omega]
    try rfl
    try rw [e4]
  · go_ret
    refine ⟨?_, rfl⟩
    have e4 : (((n + 231) / 232 : Nat) : Int) = ((n : Int) + 231) / 232 := by omega
    first | rw [show pcsN n = 1 by unfold pcsN; omega] | rw [show pcsN n = (n + 231) / 232 by unfold pcsN; omega]
    try rfl
    try rw [e4]
end Go.Proofs.Ytnclebnodkkgnaa
