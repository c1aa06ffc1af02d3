/- What is done to a disk: done, Write. Condition on Write's data: they lie outside the disk. -/
import Derived.Test.YtnclebnodkkgnaaDkRead
import Derived.Test.YtnclebnodkkgnaaLastOp
namespace Go.Proofs.Ytnclebnodkkgnaa
open Go.RowKit Go.Maps

def doneOk (s : Dsk) : Bool := !s.cut || decide (0 ≤ wrap64 (s.left - 1))
def doneS (s : Dsk) : Dsk := if s.cut then { s with left := wrap64 (s.left - 1) } else s
theorem wrap_bd (x : Int) : -9223372036854775808 ≤ wrap64 x ∧ wrap64 x ≤ 9223372036854775807 := by unfold wrap64; omega

theorem Dk.reblk {w w' : World} {base : Nat} {d : Dw} {s : Dsk} (h : Dk w base d s) (K : Kept (fun b => b = d.g) w w') {ct : Bool} {lf : Int} (hl : -9223372036854775808 ≤ lf ∧ lf ≤ 9223372036854775807)
    (hb : Blk w' d.g 87 [.slice (some ⟨d.L, 0, none⟩) s.n d.lc, .map (some d.M), .bool ct, .int .i64 lf]) : Dk w' base d { s with cut := ct, left := lf } := by
  have hL := K.block d.L h.llt h.ne.1
  have hM := K.block d.M h.mlt h.ne.2.1
  refine ⟨hb, Nat.lt_of_lt_of_le h.llt K.size, fun k hk => range_kept (h.lies k hk) hL, there_kept h.there hL, ?_, fun k hk => own_kept (h.vers k hk) K (fun b hb e => ?_), h.out, h.apart, h.apL, h.len, h.small, hl, h.bases, h.ne, rowAt_block h.lty hL⟩
  · obtain ⟨D, h1, h2⟩ := h.map
    exact ⟨D, ownsMap_block h1 hM, h2⟩
  · subst e
    rcases (h.vers k hk).cases with ⟨h0, _⟩ | ⟨g', cur, hA, _, hh, _⟩
    · rw [h0] at hb; cases hb
    · rw [hA] at hb
      have hg : g' = d.g := by injection hb
      subst hg
      have h2 : w.heap[d.g]? = _ := h.blk
      rw [h2] at hh
      simp only [Option.some.injEq, Obj.cells.injEq] at hh
      exact absurd hh.2.1 (by decide)

set_option maxHeartbeats 1000000 in
theorem done_any {w : World} {base : Nat} {d : Dw} {s : Dsk} (h : Dk w base d s) :
    Calls Try.prog 53 #[.pointer (some ⟨d.g, 0, none⟩)] w fun e w' => e = .returned (.bool (doneOk s)) ∧ Dk w' base d (doneS s) ∧ Kept (fun b => b = d.g) w w' := by
  have bc := h.blk.cells
  have bf := h.blk.frees
  have HD := Lib.hid h
  have hl := h.left
  clear h
  cases hc : s.cut with
  | false =>
    have HO : Hid (doneOk s = true ∧ doneS s = s) := by show _ ∧ _; unfold doneOk doneS; rw [hc]; simp
    rw [hc] at bc
    go_enter Try.func53, Try.ntmps53
    go_wp2
    go_ret
    exact ⟨by rw [HO.out.1]; rfl, by rw [HO.out.2]; exact HD.out, Kept.refl _ _⟩
  | true =>
    have HO : Hid (doneOk s = decide (0 ≤ wrap64 (s.left - 1)) ∧ doneS s = { s with left := wrap64 (s.left - 1) }) := by show _ ∧ _; unfold doneOk doneS; rw [hc]; simp
    have HC := Lib.hid hc
    rw [hc] at bc
    go_enter Try.func53, Try.ntmps53
    go_wp2
    go_ret
    have hB := HD.out.blk.set_ 3 (.int .i64 (wrap64 (s.left - 1)))
    have K : Kept (fun b => b = d.g) w (w.setCell ⟨d.g, 3, none⟩ (.int .i64 (wrap64 (s.left - 1)))) := ⟨rfl, rfl, rfl, by simp, fun b _ hn => Below.heap_setCell w _ _ b hn⟩
    refine ⟨?_, ?_, K⟩
    · rw [HO.out.1]; rfl
    · rw [HO.out.2]
      exact HD.out.reblk K (wrap_bd _) hB
end Go.Proofs.Ytnclebnodkkgnaa
