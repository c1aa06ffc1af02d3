/- What was flushed is there behind any loss of power, and each sector is one of its versions, or as it lay there: the law returns true at any input of bulk at most 1048576. Condition: that bound. -/
import Derived.Test.YtnclebnodkkgnaaFacts
import Derived.Test.YtnclebnodkkgnaaFactsU
import Derived.Test.YtnclebnodkkgnaaDkKeeps
namespace Go.Proofs.Ytnclebnodkkgnaa
open Go.ChangeShapes Go.WideShapes Go.ChangeAt Go.RowKit

set_option maxRecDepth 100000 in
theorem diskKeeps_lifted (os : Os) (started : os.Started) (H : Type) (enc : TypeId × Value → H) (F : Stop.Interp) :
    ReturnsInHanded {} Try.checked os 5 .any ((Rows.OpenSpec.upto Rows.diskKeepsSpec).pre6 enc Try.prog Try.f5 Rows.diskKeepsUptoRow.domain false) (((Rows.OpenSpec.upto Rows.diskKeepsSpec).at F).post enc Try.prog Try.f5 false true false false) := by
  refine law_lift_upto (C := Try.checked) (tb := 4) own started (by kernel_rfl) Try.func5 laidOut rfl
    (OpenSpec.witness (enc := enc) (C := Try.checked) (s := Rows.OpenSpec.upto Rows.diskKeepsSpec) (k := Rows.uptoSmall) rfl false ⟨#[], #[.slice none 0 0, .slice none 0 0, .slice none 0 0], []⟩ 8 (by kernel_rfl) (by kernel_rfl) (by kernel_rfl)
      (x := ([.nil, .nil, .nil], [], [])) (by kernel_rfl) rfl (by kernel_rfl))
    rfl Try.underlying4 (by kernel_rfl) (fun ds hd => ?_) ?_
  · rw [Try.params5] at hd
    match ds, hd with
    | [d0, d1, d2], _ => exact ⟨rfl, rfl, rfl⟩
  · intro W base args ds p hval0 hA0 hsz0 hbk
    have hval : ∀ (j : Nat) t v, Try.f5.params[j]? = some t → args[j]? = some v → Value.okWide Try.prog W .any base t v := hval0
    have hA : DataW.TrodAll enc Try.prog W 0 (fun _ => true) true Try.f5.params.toList args.toList ds p := hA0
    have hsz : (DataW.weightsEach Try.prog Try.f5.params.toList ds).all (· ≤ reachBytes) = true := hsz0
    rw [Try.params5] at hA hval hsz
    obtain ⟨v0, vs0, d0, ds0, p0, q0, hargs, rfl, rfl, h0, r0⟩ := trodAll_cons hA
    obtain ⟨v1, vs1, d1, ds1, p1, q1, rfl, rfl, rfl, h1, r1⟩ := trodAll_cons r0
    obtain ⟨v2, vs2, d2, ds2, p2, q2, rfl, rfl, rfl, h2, r2⟩ := trodAll_cons r1
    obtain ⟨rfl, rfl, rfl⟩ := trodAll_nil r2
    obtain rfl : args = #[v0, v1, v2] := by cases args; simp_all
    simp only [DataW.weightsEach, List.all_append, Bool.and_eq_true] at hsz
    simp only [Rows.uptoBulkAll] at hbk
    obtain ⟨lA, ln, lc, lf, rfl, ld, lnc, lcc⟩ := in_d8s (hval 0 45 v0 rfl rfl) h0 hsz.1
    have hb0 := bulk_slice Try.underlying45 h0
    obtain ⟨mA, mn, mc, mf, rfl, md, mnc, mcc⟩ := in_d8s (hval 1 45 v1 rfl rfl) h1 hsz.2.1
    have hb1 := bulk_slice Try.underlying45 h1
    obtain ⟨pA, pn, pc, pp, rfl, pr, pl, pnc, pcc⟩ := in_iz (hval 2 30 v2 rfl rfl) h2 hsz.2.2.1
    have hb2 := bulk_slice Try.underlying30 h2
    exact dkeeps_any ld (by omega) md (by omega) pr pl (by omega)

theorem diskKeeps_holds : Rows.DiskKeepsUptoSaid :=
  OpenClaim.holds_of_cond 5 Try.f5 rfl rfl rfl rfl rfl rfl rfl ⟨rfl, rfl, rfl, rfl, rfl⟩ rfl rfl rfl rfl rfl (by kernel_rfl) Try.func5 (by kernel_rfl)
    (of_decide_eq_true (by kernel_rfl)) (by unfold Func.isWrapper; first | (rw [if_pos (by decide +kernel)]; kernel_rfl) | (rw [if_neg (by decide +kernel)]; exact ⟨rfl, rfl⟩))
    (fun os started H enc _ F => diskKeeps_lifted os started H enc F)
end Go.Proofs.Ytnclebnodkkgnaa
