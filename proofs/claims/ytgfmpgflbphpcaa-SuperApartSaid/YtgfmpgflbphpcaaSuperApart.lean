/- Two superblocks that may be have the same bytes just if they are the same: the law returns true at any two. No condition. -/
import Derived.Test.YtgfmpgflbphpcaaFacts
import Derived.Test.YtgfmpgflbphpcaaFactsS
import Derived.Test.YtgfmpgflbphpcaaSup2
namespace Go.Proofs.Ytgfmpgflbphpcaa
open Go.ChangeShapes Go.WideShapes Go.ChangeAt Go.RowKit

set_option maxRecDepth 100000 in
theorem superApart_lifted (os : Os) (started : os.Started) (H : Type) (enc : TypeId × Value → H) :
    ReturnsInHanded {} Try.checked os 9 .any (Rows.superApartSpec.pre6 enc Try.prog Try.f9 Rows.superApartRow.domain false) (Rows.superApartSpec.post enc Try.prog Try.f9 false true false false) := by
  refine law_lift (C := Try.checked) (tb := 4) own started (by kernel_rfl) Try.func9 laidOut rfl
    (ChangeSpec.witness6 (enc := enc) (C := Try.checked) false ⟨#[], #[.agg #[.int .i64 0, .int .i64 0, .int .i64 0, .slice none 0 0], .agg #[.int .i64 0, .int .i64 0, .int .i64 0, .slice none 0 0]], []⟩ 8 (by kernel_rfl) (by kernel_rfl) (by kernel_rfl) (by kernel_rfl))
    rfl Try.underlying4 (by kernel_rfl) (fun ds hd => ?_) ?_
  · rw [Try.params9] at hd
    match ds, hd with
    | [d0, d1], _ => exact ⟨rfl, rfl, rfl⟩
  · intro W base args ds p hval0 hA0 hsz0
    have hval : ∀ (j : Nat) t v, Try.f9.params[j]? = some t → args[j]? = some v → Value.okWide Try.prog W .any base t v := hval0
    have hA : DataW.TrodAll enc Try.prog W 0 (fun _ => true) true Try.f9.params.toList args.toList ds p := hA0
    have hsz : (DataW.weightsEach Try.prog Try.f9.params.toList ds).all (· ≤ reachBytes) = true := hsz0
    rw [Try.params9] at hA hval hsz
    obtain ⟨v0, vs0, d0, ds0, p0, q0, hargs, rfl, rfl, h0, r0⟩ := trodAll_cons hA
    obtain ⟨v1, vs1, d1, ds1, p1, q1, rfl, rfl, rfl, h1, r1⟩ := trodAll_cons r0
    obtain ⟨rfl, rfl, rfl⟩ := trodAll_nil r1
    obtain rfl : args = #[v0, v1] := by cases args; simp_all
    simp only [DataW.weightsEach, List.all_append, Bool.and_eq_true] at hsz
    obtain ⟨ds, dA, dn, dc, rfl, db⟩ := in_super (hval 0 32 v0 rfl rfl) h0
    obtain ⟨es, eA, en, ec, rfl, eb⟩ := in_super (hval 1 32 v1 rfl rfl) h1
    exact superApart_any ds es db eb

theorem superApart_holds : Rows.SuperApartSaid :=
  OpenClaim.holds_of_wide 9 Try.f9 rfl rfl rfl rfl rfl rfl rfl ⟨rfl, rfl, rfl, rfl, rfl⟩ rfl rfl rfl rfl rfl (by kernel_rfl) Try.func9 (by kernel_rfl)
    (of_decide_eq_true (by kernel_rfl)) (by unfold Func.isWrapper; first | (rw [if_pos (by decide +kernel)]; kernel_rfl) | (rw [if_neg (by decide +kernel)]; exact ⟨rfl, rfl⟩))
    (fun os started H enc _ => superApart_lifted os started H enc)
end Go.Proofs.Ytgfmpgflbphpcaa
