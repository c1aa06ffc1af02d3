/- BlockPuts: whatever the number, the block and the other number: the law's call returns true, and the arguments read as before. No condition. -/
import Derived.Test.YtcicchijibhigaaFacts
import Derived.Test.YtcicchijibhigaaPuts
namespace Go.Proofs.Ytcicchijibhigaa
open Go.ChangeShapes Go.WideShapes Go.ChangeAt Go.RowKit

set_option maxRecDepth 100000 in
theorem blockPuts_lifted (os : Os) (started : os.Started) (H : Type) (enc : TypeId × Value → H) :
    ReturnsInHanded {} Try.checked os 3 .any (Rows.blockPutsSpec.pre6 enc Try.prog Try.f3 Rows.blockPutsRow.domain false) (Rows.blockPutsSpec.post enc Try.prog Try.f3 false true false false) := by
  refine law_lift (C := Try.checked) (tb := 4) own started (by kernel_rfl) Try.func3 laidOut rfl
    (ChangeSpec.witness6 (enc := enc) (C := Try.checked) false ⟨#[], #[.int .i64 0, .agg #[.int .i64 0, .slice none 0 0], .int .i64 0], []⟩ 8 (by kernel_rfl) (by kernel_rfl) (by kernel_rfl) (by kernel_rfl))
    rfl Try.underlying4 (by kernel_rfl) (fun ds hd => ?_) ?_
  · rw [Try.params3] at hd
    match ds, hd with
    | [d0, d1, d2], _ => exact ⟨rfl, rfl, rfl⟩
  · intro W base args ds p hval0 hA0 hsz0
    have hval : ∀ (j : Nat) t v, Try.f3.params[j]? = some t → args[j]? = some v → Value.okWide Try.prog W .any base t v := hval0
    have hA : DataW.TrodAll enc Try.prog W 0 (fun _ => true) true Try.f3.params.toList args.toList ds p := hA0
    have hsz : (DataW.weightsEach Try.prog Try.f3.params.toList ds).all (· ≤ reachBytes) = true := hsz0
    rw [Try.params3] at hA hval hsz
    obtain ⟨v0, vs0, d0, ds0, p0, q0, hargs, rfl, rfl, h0, r0⟩ := trodAll_cons hA
    obtain ⟨v1, vs1, d1, ds1, p1, q1, rfl, rfl, rfl, h1, r1⟩ := trodAll_cons r0
    obtain ⟨v2, vs2, d2, ds2, p2, q2, rfl, rfl, rfl, h2, r2⟩ := trodAll_cons r1
    obtain ⟨rfl, rfl, rfl⟩ := trodAll_nil r2
    obtain rfl : args = #[v0, v1, v2] := by cases args; simp_all
    simp only [DataW.weightsEach, List.all_append, Bool.and_eq_true] at hsz
    obtain ⟨n, rfl, _⟩ := in_int (hval 0 3 v0 rfl rfl) h0
    obtain ⟨kd, A, m, c, l, rfl, hb, _⟩ := in_block (hval 1 24 v1 rfl rfl) h1 hsz.2.1
    obtain ⟨ot, rfl, _⟩ := in_int (hval 2 3 v2 rfl rfl) h2
    by_cases hm : blkMay n kd m
    · obtain ⟨n', rfl⟩ := Int.eq_ofNat_of_zero_le hm.1
      obtain ⟨kd', rfl⟩ := Int.eq_ofNat_of_zero_le (show 0 ≤ kd by have := hm.2.2.1; omega)
      exact puts_yes n' kd' ot hb hm
    · exact puts_no n kd ot hm

theorem blockPuts_holds : Rows.BlockPutsSaid :=
  OpenClaim.holds_of_wide 3 Try.f3 rfl rfl rfl rfl rfl rfl rfl ⟨rfl, rfl, rfl, rfl, rfl⟩ rfl rfl rfl rfl rfl (by kernel_rfl) Try.func3 (by kernel_rfl)
    (of_decide_eq_true (by kernel_rfl)) (by unfold Func.isWrapper; first | (rw [if_pos (by decide +kernel)]; kernel_rfl) | (rw [if_neg (by decide +kernel)]; exact ⟨rfl, rfl⟩))
    (fun os started H enc _ => blockPuts_lifted os started H enc)
#print axioms blockPuts_holds
end Go.Proofs.Ytcicchijibhigaa
