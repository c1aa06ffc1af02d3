/- Sectors know nothing of one another: behind any deeds, a write, or a bit that is turned, changes its own sector alone: the law returns true at any input of bulk at most 1048576. Condition: that bound. -/
import Derived.Test.YtnclebnodkkgnaaFacts
import Derived.Test.YtnclebnodkkgnaaFactsU
import Derived.Test.YtnclebnodkkgnaaFactsD1
import Derived.Test.YtnclebnodkkgnaaDkElse
namespace Go.Proofs.Ytnclebnodkkgnaa
open Go.ChangeShapes Go.WideShapes Go.ChangeAt Go.RowKit

set_option maxRecDepth 100000 in
theorem diskElse_lifted (os : Os) (started : os.Started) (H : Type) (enc : TypeId × Value → H) (F : Stop.Interp) :
    ReturnsInHanded {} Try.checked os 8 .any ((Rows.OpenSpec.upto Rows.diskElseSpec).pre6 enc Try.prog Try.f8 Rows.diskElseUptoRow.domain false) (((Rows.OpenSpec.upto Rows.diskElseSpec).at F).post enc Try.prog Try.f8 false true false false) := by
  refine law_lift_upto (C := Try.checked) (tb := 4) own started (by kernel_rfl) Try.func8 laidOut rfl
    (OpenSpec.witness (enc := enc) (C := Try.checked) (s := Rows.OpenSpec.upto Rows.diskElseSpec) (k := Rows.uptoSmall) rfl false ⟨#[], #[.slice none 0 0, .agg #[.int .i64 0, .int .i64 0, .int .u8 0, .int .u8 0, .bool false, .slice none 0 0]], []⟩ 8 (by kernel_rfl) (by kernel_rfl) (by kernel_rfl)
      (x := ([.nil, .agg [.lit (.int .i64 0), .lit (.int .i64 0), .lit (.int .u8 0), .lit (.int .u8 0), .lit (.bool false), .nil]], [], [])) (by kernel_rfl) rfl (by kernel_rfl))
    rfl Try.underlying4 (by kernel_rfl) (fun ds hd => ?_) ?_
  · rw [Try.params8] at hd
    match ds, hd with
    | [d0, d1], _ => exact ⟨rfl, rfl, rfl⟩
  · intro W base args ds p hval0 hA0 hsz0 hbk
    have hval : ∀ (j : Nat) t v, Try.f8.params[j]? = some t → args[j]? = some v → Value.okWide Try.prog W .any base t v := hval0
    have hA : DataW.TrodAll enc Try.prog W 0 (fun _ => true) true Try.f8.params.toList args.toList ds p := hA0
    have hsz : (DataW.weightsEach Try.prog Try.f8.params.toList ds).all (· ≤ reachBytes) = true := hsz0
    rw [Try.params8] at hA hval hsz
    obtain ⟨v0, vs0, d0, ds0, p0, q0, hargs, rfl, rfl, h0, r0⟩ := trodAll_cons hA
    obtain ⟨v1, vs1, d1, ds1, p1, q1, rfl, rfl, rfl, h1, r1⟩ := trodAll_cons r0
    obtain ⟨rfl, rfl, rfl⟩ := trodAll_nil r1
    obtain rfl : args = #[v0, v1] := by cases args; simp_all
    simp only [DataW.weightsEach, List.all_append, Bool.and_eq_true] at hsz
    simp only [Rows.uptoBulkAll] at hbk
    obtain ⟨lA, ln, lc, lf, rfl, ld, lnc, lcc⟩ := in_d8s (hval 0 45 v0 rfl rfl) h0 hsz.1
    have hb0 := bulk_slice Try.underlying45 h0
    obtain ⟨xy, rfl, xd⟩ := in_d8 (hval 1 48 v1 rfl rfl) h1 hsz.2.1
    exact delse_any ld (by omega) xd

theorem diskElse_holds : Rows.DiskElseUptoSaid :=
  OpenClaim.holds_of_cond 8 Try.f8 rfl rfl rfl rfl rfl rfl rfl ⟨rfl, rfl, rfl, rfl, rfl⟩ rfl rfl rfl rfl rfl (by kernel_rfl) Try.func8 (by kernel_rfl)
    (of_decide_eq_true (by kernel_rfl)) (by unfold Func.isWrapper; first | (rw [if_pos (by decide +kernel)]; kernel_rfl) | (rw [if_neg (by decide +kernel)]; exact ⟨rfl, rfl⟩))
    (fun os started H enc _ F => diskElse_lifted os started H enc F)
end Go.Proofs.Ytnclebnodkkgnaa
