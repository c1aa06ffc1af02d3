/- cut.Gear answers just the number of kistref07 for each byte, and the law returns true at any byte. No condition. -/
import Derived.Test.YtgfmpgflbphpcaaFacts
import Derived.Test.YtgfmpgflbphpcaaFacts8
import Derived.Test.YtgfmpgflbphpcaaCutL
namespace Go.Proofs.Ytgfmpgflbphpcaa
open Go.ChangeShapes Go.WideShapes Go.ChangeAt Go.RowKit

set_option maxRecDepth 100000 in
theorem cutGears_lifted (os : Os) (started : os.Started) (H : Type) (enc : TypeId × Value → H) :
    ReturnsInHanded {} Try.checked os 11 .any (Rows.cutGearsSpec.pre6 enc Try.prog Try.f11 Rows.cutGearsRow.domain false) (Rows.cutGearsSpec.post enc Try.prog Try.f11 false true false false) := by
  refine law_lift (C := Try.checked) (tb := 4) own started (by kernel_rfl) Try.func11 laidOut rfl
    (ChangeSpec.witness6 (enc := enc) (C := Try.checked) false ⟨#[], #[.int .u8 0], []⟩ 8 (by kernel_rfl) (by kernel_rfl) (by kernel_rfl) (by kernel_rfl))
    rfl Try.underlying4 (by kernel_rfl) (fun ds hd => ?_) ?_
  · rw [Try.params11] at hd
    match ds, hd with
    | [d0], _ => exact ⟨rfl, rfl, rfl⟩
  · intro W base args ds p hval0 hA0 hsz0
    have hval : ∀ (j : Nat) t v, Try.f11.params[j]? = some t → args[j]? = some v → Value.okWide Try.prog W .any base t v := hval0
    have hA : DataW.TrodAll enc Try.prog W 0 (fun _ => true) true Try.f11.params.toList args.toList ds p := hA0
    have hsz : (DataW.weightsEach Try.prog Try.f11.params.toList ds).all (· ≤ reachBytes) = true := hsz0
    rw [Try.params11] at hA hval hsz
    obtain ⟨v0, vs0, d0, ds0, p0, q0, hargs, rfl, rfl, h0, r0⟩ := trodAll_cons hA
    obtain ⟨rfl, rfl, rfl⟩ := trodAll_nil r0
    obtain rfl : args = #[v0] := by cases args; simp_all
    simp only [DataW.weightsEach, List.all_append, Bool.and_eq_true] at hsz
    obtain ⟨b, rfl, blo, bhi⟩ := in_u8 (hval 0 5 v0 rfl rfl) h0
    obtain ⟨n, rfl⟩ := Int.eq_ofNat_of_zero_le blo
    rw [show (n : Int) = ((UInt8.ofNat n).toNat : Int) by rw [UInt8.toNat_ofNat']; omega]
    exact cutGears_any (UInt8.ofNat n) W

theorem cutGears_holds : Rows.CutGearsSaid :=
  OpenClaim.holds_of_wide 11 Try.f11 rfl rfl rfl rfl rfl rfl rfl ⟨rfl, rfl, rfl, rfl, rfl⟩ rfl rfl rfl rfl rfl (by kernel_rfl) Try.func11 (by kernel_rfl)
    (of_decide_eq_true (by kernel_rfl)) (by unfold Func.isWrapper; first | (rw [if_pos (by decide +kernel)]; kernel_rfl) | (rw [if_neg (by decide +kernel)]; exact ⟨rfl, rfl⟩))
    (fun os started H enc _ => cutGears_lifted os started H enc)
end Go.Proofs.Ytgfmpgflbphpcaa
