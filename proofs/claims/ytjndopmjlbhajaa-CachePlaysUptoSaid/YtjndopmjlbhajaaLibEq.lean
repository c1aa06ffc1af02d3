/- bytes.Equal over bytes that lie in memory. -/
import Derived.Test.YtjndopmjlbhajaaLib
namespace Go.Proofs.Ytjndopmjlbhajaa
open Go.RowKit

set_option maxHeartbeats 400000 in
theorem equal_any {A1 A2 : Option Addr} {m1 m2 c1 c2 : Nat} {l1 l2 : List UInt8} {lo1 lo2 : Nat} {w : World} (h1 : Bs w lo1 A1 m1 c1 l1) (h2 : Bs w lo2 A2 m2 c2 l2) :
    Calls Try.prog 58 #[.slice A1 m1 c1, .slice A2 m2 c2] w fun e w' => e = .returned (.bool (decide (l1 = l2))) ∧ w = w' := by
  have e1 := conv_bs 31 5 9 Try.underlying31 Try.underlying5 Try.underlying9 h1
  have e2 := conv_bs 31 5 9 Try.underlying31 Try.underlying5 Try.underlying9 h2
  clear h1 h2
  go_enter Try.func58, Try.ntmps58
  go_wp2
  go_ret
  refine ⟨?_, rfl⟩
  rw [← list_beq]
  rfl

set_option maxHeartbeats 400000 in
theorem equal_b {A1 A2 : Option Addr} {m1 m2 c1 c2 : Nat} {l1 l2 : List UInt8} {lo1 lo2 : Nat} {w : World} {t : Bool} (h1 : Bs w lo1 A1 m1 c1 l1) (h2 : Bs w lo2 A2 m2 c2 l2) (ht : decide (l1 = l2) = t) :
    Calls Try.prog 58 #[.slice A1 m1 c1, .slice A2 m2 c2] w fun e w' => e = .returned (.bool t) ∧ w = w' :=
  (equal_any h1 h2).mono fun e w' ⟨he, hw⟩ => ⟨by rw [he, ht], hw⟩

end Go.Proofs.Ytjndopmjlbhajaa
