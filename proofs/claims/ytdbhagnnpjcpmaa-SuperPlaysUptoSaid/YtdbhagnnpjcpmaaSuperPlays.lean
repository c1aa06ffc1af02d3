/- Superblocks are saved and loaded as the document says, on a disk of 128 sectors that is written elsewise, too, whose power goes, and whose bits rot: the law returns true at any deeds of bulk at most 1048576. Condition: that bound. -/
import Derived.Test.YtdbhagnnpjcpmaaFacts
import Derived.Test.YtdbhagnnpjcpmaaFactsU
import Derived.Test.YtdbhagnnpjcpmaaSupPlays
namespace Go.Proofs.Ytdbhagnnpjcpmaa
open Go.ChangeShapes Go.WideShapes Go.ChangeAt Go.RowKit

set_option maxRecDepth 100000 in
theorem superPlays_lifted (os : Os) (started : os.Started) (H : Type) (enc : TypeId × Value → H) (F : Stop.Interp) :
    ReturnsInHanded {} Try.checked os 3 .any ((Rows.OpenSpec.upto Rows.superPlaysSpec).pre6 enc Try.prog Try.f3 Rows.superPlaysUptoRow.domain false) (((Rows.OpenSpec.upto Rows.superPlaysSpec).at F).post enc Try.prog Try.f3 false true false false) := by
  refine law_lift_upto (C := Try.checked) (tb := 4) own started (by kernel_rfl) Try.func3 laidOut rfl
    (OpenSpec.witness (enc := enc) (C := Try.checked) (s := Rows.OpenSpec.upto Rows.superPlaysSpec) (k := Rows.uptoSmall) rfl false ⟨#[], #[.slice none 0 0], []⟩ 8 (by kernel_rfl) (by kernel_rfl) (by kernel_rfl)
      (x := ([.nil], [], [])) (by kernel_rfl) rfl (by kernel_rfl))
    rfl Try.underlying4 (by kernel_rfl) (fun ds hd => ?_) ?_
  · rw [Try.params3] at hd
    match ds, hd with
    | [d0], _ => exact ⟨rfl, rfl, rfl⟩
  · intro W base args ds p hval0 hA0 hsz0 hbk
    have hval : ∀ (j : Nat) t v, Try.f3.params[j]? = some t → args[j]? = some v → Value.okWide Try.prog W .any base t v := hval0
    have hA : DataW.TrodAll enc Try.prog W 0 (fun _ => true) true Try.f3.params.toList args.toList ds p := hA0
    have hsz : (DataW.weightsEach Try.prog Try.f3.params.toList ds).all (· ≤ reachBytes) = true := hsz0
    rw [Try.params3] at hA hval hsz
    obtain ⟨v0, vs0, d0, ds0, p0, q0, hargs, rfl, rfl, h0, r0⟩ := trodAll_cons hA
    obtain ⟨rfl, rfl, rfl⟩ := trodAll_nil r0
    obtain rfl : args = #[v0] := by cases args; simp_all
    simp only [DataW.weightsEach, List.all_append, Bool.and_eq_true] at hsz
    simp only [Rows.uptoBulkAll] at hbk
    obtain ⟨lA, ln, lc, lf, rfl, ld, lnc, lcc⟩ := in_dss (hval 0 22 v0 rfl rfl) h0 hsz.1
    have hb0 := bulk_slice Try.underlying22 h0
    exact splays_any ld (by omega)

theorem superPlays_holds : Rows.SuperPlaysUptoSaid :=
  OpenClaim.holds_of_cond 3 Try.f3 rfl rfl rfl rfl rfl rfl rfl ⟨rfl, rfl, rfl, rfl, rfl⟩ rfl rfl rfl rfl rfl (by kernel_rfl) Try.func3 (by kernel_rfl)
    (of_decide_eq_true (by kernel_rfl)) (by unfold Func.isWrapper; first | (rw [if_pos (by decide +kernel)]; kernel_rfl) | (rw [if_neg (by decide +kernel)]; exact ⟨rfl, rfl⟩))
    (fun os started H enc _ F => superPlays_lifted os started H enc F)
end Go.Proofs.Ytdbhagnnpjcpmaa
