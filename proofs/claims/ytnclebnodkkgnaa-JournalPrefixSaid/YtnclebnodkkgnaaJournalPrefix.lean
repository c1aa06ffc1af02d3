/- Behind any loss of power there is a first part of what was appended, with all that was flushed: the law returns true at any deeds. No condition. -/
import Derived.Test.YtnclebnodkkgnaaFacts
import Derived.Test.YtnclebnodkkgnaaFactsJ
import Derived.Test.YtnclebnodkkgnaaJrPrefx
namespace Go.Proofs.Ytnclebnodkkgnaa
open Go.ChangeShapes Go.WideShapes Go.ChangeAt Go.RowKit

set_option maxRecDepth 100000 in
theorem journalPrefix_lifted (os : Os) (started : os.Started) (H : Type) (enc : TypeId × Value → H) :
    ReturnsInHanded {} Try.checked os 13 .any (Rows.journalPrefixSpec.pre6 enc Try.prog Try.f13 Rows.journalPrefixRow.domain false) (Rows.journalPrefixSpec.post enc Try.prog Try.f13 false true false false) := by
  refine law_lift (C := Try.checked) (tb := 4) own started (by kernel_rfl) Try.func13 laidOut rfl
    (ChangeSpec.witness6 (enc := enc) (C := Try.checked) false ⟨#[], #[.slice none 0 0], []⟩ 8 (by kernel_rfl) (by kernel_rfl) (by kernel_rfl) (by kernel_rfl))
    rfl Try.underlying4 (by kernel_rfl) (fun ds hd => ?_) ?_
  · rw [Try.params13] at hd
    match ds, hd with
    | [d0], _ => exact ⟨rfl, rfl, rfl⟩
  · intro W base args ds p hval0 hA0 hsz0
    have hval : ∀ (j : Nat) t v, Try.f13.params[j]? = some t → args[j]? = some v → Value.okWide Try.prog W .any base t v := hval0
    have hA : DataW.TrodAll enc Try.prog W 0 (fun _ => true) true Try.f13.params.toList args.toList ds p := hA0
    have hsz : (DataW.weightsEach Try.prog Try.f13.params.toList ds).all (· ≤ reachBytes) = true := hsz0
    rw [Try.params13] at hA hval hsz
    obtain ⟨v0, vs0, d0, ds0, p0, q0, hargs, rfl, rfl, h0, r0⟩ := trodAll_cons hA
    obtain ⟨rfl, rfl, rfl⟩ := trodAll_nil r0
    obtain rfl : args = #[v0] := by cases args; simp_all
    simp only [DataW.weightsEach, List.all_append, Bool.and_eq_true] at hsz
    obtain ⟨lA, ln, lc, lf, rfl, ld, lnc, lcc⟩ := in_djs (hval 0 74 v0 rfl rfl) h0 hsz.1
    exact jprefix_any ld (by omega)

theorem journalPrefix_holds : Rows.JournalPrefixSaid :=
  OpenClaim.holds_of_wide 13 Try.f13 rfl rfl rfl rfl rfl rfl rfl ⟨rfl, rfl, rfl, rfl, rfl⟩ rfl rfl rfl rfl rfl (by kernel_rfl) Try.func13 (by kernel_rfl)
    (of_decide_eq_true (by kernel_rfl)) (by unfold Func.isWrapper; first | (rw [if_pos (by decide +kernel)]; kernel_rfl) | (rw [if_neg (by decide +kernel)]; exact ⟨rfl, rfl⟩))
    (fun os started H enc _ => journalPrefix_lifted os started H enc)
end Go.Proofs.Ytnclebnodkkgnaa
