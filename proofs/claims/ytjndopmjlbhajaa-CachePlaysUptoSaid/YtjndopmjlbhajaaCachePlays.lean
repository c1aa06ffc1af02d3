/- Blocks are asked, put, forgotten and flushed as the document says, call by call. Condition (UptoSaid): at most 1048576 deeds, for a sector may hold so many versions only. -/
import Derived.Test.YtjndopmjlbhajaaFacts
import Derived.Test.YtjndopmjlbhajaaFactsU
import Derived.Test.YtjndopmjlbhajaaFactsC
import Derived.Test.YtjndopmjlbhajaaQx
namespace Go.Proofs.Ytjndopmjlbhajaa
open Go.ChangeShapes Go.WideShapes Go.ChangeAt Go.RowKit

set_option maxRecDepth 100000 in
theorem cachePlays_lifted (os : Os) (started : os.Started) (H : Type) (enc : TypeId × Value → H) (F : Stop.Interp) :
    ReturnsInHanded {} Try.checked os 7 .any ((Rows.OpenSpec.upto Rows.cachePlaysSpec).pre6 enc Try.prog Try.f7 Rows.cachePlaysUptoRow.domain false) (((Rows.OpenSpec.upto Rows.cachePlaysSpec).at F).post enc Try.prog Try.f7 false true false false) := by
  refine law_lift_upto (C := Try.checked) (tb := 4) own started (by kernel_rfl) Try.func7 laidOut rfl
    (OpenSpec.witness (enc := enc) (C := Try.checked) (s := Rows.OpenSpec.upto Rows.cachePlaysSpec) (k := Rows.uptoSmall) rfl false ⟨#[], #[.int .i64 0, .slice none 0 0], []⟩ 8 (by kernel_rfl) (by kernel_rfl) (by kernel_rfl)
      (x := ([.lit (.int .i64 0), .nil], [], [])) (by kernel_rfl) rfl (by kernel_rfl))
    rfl Try.underlying4 (by kernel_rfl) (fun ds hd => ?_) ?_
  · rw [Try.params7] at hd
    match ds, hd with
    | [d0, d1], _ => exact ⟨rfl, rfl, rfl⟩
  · intro W base args ds p hval0 hA0 hsz0 hbk
    have hval : ∀ (j : Nat) t v, Try.f7.params[j]? = some t → args[j]? = some v → Value.okWide Try.prog W .any base t v := hval0
    have hA : DataW.TrodAll enc Try.prog W 0 (fun _ => true) true Try.f7.params.toList args.toList ds p := hA0
    have hsz : (DataW.weightsEach Try.prog Try.f7.params.toList ds).all (· ≤ reachBytes) = true := hsz0
    rw [Try.params7] at hA hval hsz
    obtain ⟨v0, vs0, d0, ds0, p0, q0, hargs, rfl, rfl, h0, r0⟩ := trodAll_cons hA
    obtain ⟨v1, vs1, d1, ds1, p1, q1, rfl, rfl, rfl, h1, r1⟩ := trodAll_cons r0
    obtain ⟨rfl, rfl, rfl⟩ := trodAll_nil r1
    obtain rfl : args = #[v0, v1] := by cases args; simp_all
    simp only [DataW.weightsEach, List.all_append, Bool.and_eq_true] at hsz
    simp only [Rows.uptoBulkAll] at hbk
    obtain ⟨r, rfl, rlo, rhi⟩ := in_int (hval 0 3 v0 rfl rfl) h0
    obtain ⟨lA, ln, lc, lf, rfl, ld, lnc, lcc⟩ := in_dcs (hval 1 22 v1 rfl rfl) h1 hsz.2.1
    have hb1 := bulk_slice Try.underlying22 h1
    exact cplays_any ld (by omega)

theorem cachePlays_holds : Rows.CachePlaysUptoSaid :=
  OpenClaim.holds_of_cond 7 Try.f7 rfl rfl rfl rfl rfl rfl rfl ⟨rfl, rfl, rfl, rfl, rfl⟩ rfl rfl rfl rfl rfl (by kernel_rfl) Try.func7 (by kernel_rfl)
    (of_decide_eq_true (by kernel_rfl)) (by unfold Func.isWrapper; first | (rw [if_pos (by decide +kernel)]; kernel_rfl) | (rw [if_neg (by decide +kernel)]; exact ⟨rfl, rfl⟩))
    (fun os started H enc _ F => cachePlays_lifted os started H enc F)
end Go.Proofs.Ytjndopmjlbhajaa
