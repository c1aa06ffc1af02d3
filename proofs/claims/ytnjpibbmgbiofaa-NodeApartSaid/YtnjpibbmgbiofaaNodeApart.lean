/- Two nodes have the same block just if they are the same: the law returns true at any two nodes. No condition. -/
import Derived.Test.YtnjpibbmgbiofaaFacts
import Derived.Test.YtnjpibbmgbiofaaFactsN
import Derived.Test.YtnjpibbmgbiofaaNod2
namespace Go.Proofs.Ytnjpibbmgbiofaa
open Go.ChangeShapes Go.WideShapes Go.ChangeAt Go.RowKit

set_option maxRecDepth 100000 in
theorem nodeApart_lifted (os : Os) (started : os.Started) (H : Type) (enc : TypeId × Value → H) :
    ReturnsInHanded {} Try.checked os 5 .any (Rows.nodeApartSpec.pre6 enc Try.prog Try.f5 Rows.nodeApartRow.domain false) (Rows.nodeApartSpec.post enc Try.prog Try.f5 false true false false) := by
  refine law_lift (C := Try.checked) (tb := 4) own started (by kernel_rfl) Try.func5 laidOut rfl
    (ChangeSpec.witness6 (enc := enc) (C := Try.checked) false ⟨#[], #[.agg #[.bool false, .slice none 0 0, .slice none 0 0, .slice none 0 0], .agg #[.bool false, .slice none 0 0, .slice none 0 0, .slice none 0 0]], []⟩ 8 (by kernel_rfl) (by kernel_rfl) (by kernel_rfl) (by kernel_rfl))
    rfl Try.underlying4 (by kernel_rfl) (fun ds hd => ?_) ?_
  · rw [Try.params5] at hd
    match ds, hd with
    | [d0, d1], _ => exact ⟨rfl, rfl, rfl⟩
  · intro W base args ds p hval0 hA0 hsz0
    have hval : ∀ (j : Nat) t v, Try.f5.params[j]? = some t → args[j]? = some v → Value.okWide Try.prog W .any base t v := hval0
    have hA : DataW.TrodAll enc Try.prog W 0 (fun _ => true) true Try.f5.params.toList args.toList ds p := hA0
    have hsz : (DataW.weightsEach Try.prog Try.f5.params.toList ds).all (· ≤ reachBytes) = true := hsz0
    rw [Try.params5] at hA hval hsz
    obtain ⟨v0, vs0, d0, ds0, p0, q0, hargs, rfl, rfl, h0, r0⟩ := trodAll_cons hA
    obtain ⟨v1, vs1, d1, ds1, p1, q1, rfl, rfl, rfl, h1, r1⟩ := trodAll_cons r0
    obtain ⟨rfl, rfl, rfl⟩ := trodAll_nil r1
    obtain rfl : args = #[v0, v1] := by cases args; simp_all
    simp only [DataW.weightsEach, List.all_append, Bool.and_eq_true] at hsz
    obtain ⟨xs, xK, xnk, xck, xV, xnv, xcv, xD, xnd, xcd, rfl, xb⟩ := in_node (hval 0 25 v0 rfl rfl) h0 hsz.1
    obtain ⟨ys, yK, ynk, yck, yV, ynv, ycv, yD, ynd, ycd, rfl, yb⟩ := in_node (hval 1 25 v1 rfl rfl) h1 hsz.2.1
    exact nodeApart_any xs ys xb yb

theorem nodeApart_holds : Rows.NodeApartSaid :=
  OpenClaim.holds_of_wide 5 Try.f5 rfl rfl rfl rfl rfl rfl rfl ⟨rfl, rfl, rfl, rfl, rfl⟩ rfl rfl rfl rfl rfl (by kernel_rfl) Try.func5 (by kernel_rfl)
    (of_decide_eq_true (by kernel_rfl)) (by unfold Func.isWrapper; first | (rw [if_pos (by decide +kernel)]; kernel_rfl) | (rw [if_neg (by decide +kernel)]; exact ⟨rfl, rfl⟩))
    (fun os started H enc _ => nodeApart_lifted os started H enc)
end Go.Proofs.Ytnjpibbmgbiofaa
