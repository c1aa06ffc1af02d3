/- BlockTells: whatever the number, the block, the place and the mask: the call of the law returns true, and the arguments read as before. No condition. -/
import Derived.Test.YtcicchijibhigaaFacts
import Derived.Test.YtcicchijibhigaaTells
namespace Go.Proofs.Ytcicchijibhigaa
open Go.ChangeShapes Go.WideShapes Go.ChangeAt Go.RowKit

set_option maxRecDepth 100000 in
theorem blockTells_lifted (os : Os) (started : os.Started) (H : Type) (enc : TypeId × Value → H) :
    ReturnsInHanded {} Try.checked os 6 .any (Rows.blockTellsSpec.pre6 enc Try.prog Try.f6 Rows.blockTellsRow.domain false) (Rows.blockTellsSpec.post enc Try.prog Try.f6 false true false false) := by
  refine law_lift (C := Try.checked) (tb := 4) own started (by kernel_rfl) Try.func6 laidOut rfl
    (ChangeSpec.witness6 (enc := enc) (C := Try.checked) false ⟨#[], #[.int .i64 0, .agg #[.int .i64 0, .slice none 0 0], .int .i64 0, .int .u32 0], []⟩ 8 (by kernel_rfl) (by kernel_rfl) (by kernel_rfl) (by kernel_rfl))
    rfl Try.underlying4 (by kernel_rfl) (fun ds hd => ?_) ?_
  · rw [Try.params6] at hd
    match ds, hd with
    | [d0, d1, d2, d3], _ => exact ⟨rfl, rfl, rfl⟩
  · intro W base args ds p hval0 hA0 hsz0
    have hval : ∀ (j : Nat) t v, Try.f6.params[j]? = some t → args[j]? = some v → Value.okWide Try.prog W .any base t v := hval0
    have hA : DataW.TrodAll enc Try.prog W 0 (fun _ => true) true Try.f6.params.toList args.toList ds p := hA0
    have hsz : (DataW.weightsEach Try.prog Try.f6.params.toList ds).all (· ≤ reachBytes) = true := hsz0
    rw [Try.params6] at hA hval hsz
    obtain ⟨v0, vs0, d0, ds0, p0, q0, hargs, rfl, rfl, h0, r0⟩ := trodAll_cons hA
    obtain ⟨v1, vs1, d1, ds1, p1, q1, rfl, rfl, rfl, h1, r1⟩ := trodAll_cons r0
    obtain ⟨v2, vs2, d2, ds2, p2, q2, rfl, rfl, rfl, h2, r2⟩ := trodAll_cons r1
    obtain ⟨v3, vs3, d3, ds3, p3, q3, rfl, rfl, rfl, h3, r3⟩ := trodAll_cons r2
    obtain ⟨rfl, rfl, rfl⟩ := trodAll_nil r3
    obtain rfl : args = #[v0, v1, v2, v3] := by cases args; simp_all
    simp only [DataW.weightsEach, List.all_append, Bool.and_eq_true] at hsz
    obtain ⟨n, rfl, nlo, nhi⟩ := in_int (hval 0 3 v0 rfl rfl) h0
    obtain ⟨xk, xA, xm, xc, xl, rfl, xb, xz⟩ := in_block (hval 1 24 v1 rfl rfl) h1 hsz.2.1
    obtain ⟨i, rfl, ilo, ihi⟩ := in_int (hval 2 3 v2 rfl rfl) h2
    obtain ⟨mask, rfl, masklo, maskhi⟩ := in_u32 (hval 3 36 v3 rfl rfl) h3
    obtain ⟨mk, rfl⟩ := Int.eq_ofNat_of_zero_le masklo
    by_cases hm : blkMay n xk xm
    · obtain ⟨a, rfl⟩ := Int.eq_ofNat_of_zero_le hm.1
      obtain ⟨d, rfl⟩ := Int.eq_ofNat_of_zero_le (show 0 ≤ xk by have := hm.2.2.1; omega)
      exact tells_yes a d i mk xb hm ilo ihi (by omega)
    · exact tells_no n xk i mk hm

theorem blockTells_holds : Rows.BlockTellsSaid :=
  OpenClaim.holds_of_wide 6 Try.f6 rfl rfl rfl rfl rfl rfl rfl ⟨rfl, rfl, rfl, rfl, rfl⟩ rfl rfl rfl rfl rfl (by kernel_rfl) Try.func6 (by kernel_rfl)
    (of_decide_eq_true (by kernel_rfl)) (by unfold Func.isWrapper; first | (rw [if_pos (by decide +kernel)]; kernel_rfl) | (rw [if_neg (by decide +kernel)]; exact ⟨rfl, rfl⟩))
    (fun os started H enc _ => blockTells_lifted os started H enc)
end Go.Proofs.Ytcicchijibhigaa
