/- kistlaw15.begin: its walk. No condition. -/
import Derived.Test.YtdakohbfibcjeaaTrO
import Derived.Test.YtdakohbfibcjeaaCaF
import Derived.Test.YtdakohbfibcjeaaTvD
import Derived.OwnWalk
namespace Go.Proofs.Ytdakohbfibcjeaa
open Go.RowKit Go.Maps
set_option linter.unusedSimpArgs false
set_option linter.unusedVariables false

theorem Al.weak {w : World} {base base' N : Nat} {k : AlW} {f : Nat → Bool} (h : Al w base k N f) (hb : base' ≤ base) : Al w base' k N f := by
  obtain ⟨q, h⟩ := h
  exact ⟨q, h.blk, h.sts, h.own.weak hb, ⟨by have := h.bases.1; omega, by have := h.bases.2; omega⟩, h.ne, h.nd, h.mem, h.small⟩
theorem zero37 (w : World) : (zeroValue 37).run Try.prog w = .ok (.agg #[.pointer none, .pointer none, .pointer none, .pointer none, .int .i64 0, .slice none 0 0]) w := by kernel_rfl
theorem zeroTree (w : World) : (zeroValue 87).run Try.prog w = .ok (.agg #[.pointer none, .pointer none, .map none]) w := by kernel_rfl
def BegTo (w : World) (N : Nat) (e : Ending) (w' : World) : Prop :=
  ∃ (p : TrS) (g : Nat), e = .returned (.pointer (some ⟨g, 0, none⟩)) ∧ TrM w' w.heap.size p N (fun _ => none) ∧ Blk w' g 37 [.pointer (some ⟨p.d.g, 0, none⟩), .pointer (some ⟨p.k.g, 0, none⟩), .pointer (some ⟨p.a.m, 0, none⟩), .pointer (some ⟨p.g, 0, none⟩), .int .i64 0, .slice none 0 0] ∧ w.heap.size ≤ g ∧ ¬ p.foot g ∧ Below w.heap.size w w'
set_option maxRecDepth 100000 in
set_option maxHeartbeats 2000000 in
theorem tnew_any {w : World} {c m : Nat} :
    Calls Try.prog 14 #[.pointer (some ⟨c, 0, none⟩), .pointer (some ⟨m, 0, none⟩)] w fun e w' => ∃ F g, e = .returned (.tuple #[.pointer (some ⟨g, 0, none⟩), .int .i64 0]) ∧ (∀ K, Mp w' F K (fun _ => none)) ∧ Blk w' g 87 [.pointer (some ⟨c, 0, none⟩), .pointer (some ⟨m, 0, none⟩), .map (some F)] ∧ w.heap.size ≤ F ∧ w.heap.size ≤ g ∧ F ≠ g ∧ Below w.heap.size w w' := by
  have hmm := @run_makeMap Try.prog
  have hz := zeroTree
  go_enter Try.func14, Try.ntmps14
  go_wp2
  go_ret2
  exact ⟨w.heap.size, w.heap.size + 1, rfl, fun K => (Mp.made w K).block (Below.heap_alloc _ _ _ (by simp)), Blk.new_at (cs := [.pointer (some ⟨c, 0, none⟩), .pointer (some ⟨m, 0, none⟩), .map (some w.heap.size)]) (by simp), Nat.le_refl _, by omega, by omega, ((Below.refl _ _).alloc (Nat.le_refl _) _).alloc (by simp) _⟩
set_option maxRecDepth 100000 in
set_option maxHeartbeats 2000000 in
theorem begin_any (w : World) {N : Nat} (hN : 1 ≤ N ∧ N ≤ 4000) :
    Calls Try.prog 4 #[.int .i64 (N : Int)] w (BegTo w N) := by
  have D0 := dnew_ok (50 + N) (by omega) w
  have e0 : ((50 + N : Nat) : Int) = 50 + (N : Int) := by omega
  rw [e0] at D0
  have D := Lib.hid D0
  have HN := Lib.hid hN
  have hw : IntKind.i64.wrap (50 + (N : Int)) = 50 + (N : Int) := by rw [IntKind.wrap_i64]; omega
  have hz := zero37
  clear hN D0 e0
  go_enter Try.func4, Try.ntmps4
  go_upto_region 2 with ((with_reducible refine Calls.mono D.out ?_); rintro e w1 ⟨d, rfl, hd, hb1⟩)
  have C0 := cnew_ok hd hb1.size (room := 5) (by omega) (by omega)
  have C := Lib.hid C0
  have HB1 := Lib.hid hb1
  clear D C0 hd hb1
  go_upto_region 5 with ((with_reducible refine Calls.mono C.out ?_); rintro e w2 ⟨k, rfl, hcd, hb2⟩)
  have A0 := alnew_any w2 (N := N) (by have := HN.out; omega)
  have e0 : ((50 + N : Nat) : Int) = 50 + (N : Int) := by omega
  rw [e0] at A0
  have A := Lib.hid A0
  have HB2 := Lib.hid (HB1.out.trans (hb2.mono HB1.out.size))
  have HCd := Lib.hid hcd
  clear C A0 e0 hb2 hcd HB1
  go_upto_region 6 with ((with_reducible refine Calls.mono A.out ?_); rintro e w3 ⟨a, rfl, hal, hb3⟩)
  have HB3 := Lib.hid (HB2.out.trans (hb3.mono HB2.out.size))
  have HS3 : Hid (w2.heap.size ≤ w3.heap.size) := Lib.hid hb3.size
  have HCd3 := Lib.hid (HCd.out.below hb3 (Nat.le_refl _))
  have HAl := Lib.hid hal
  have T0 := tnew_any (w := w3) (c := k.g) (m := a.m)
  have T := Lib.hid T0
  clear A hb3 hal T0
  go_upto_region 9 with ((with_reducible refine Calls.mono T.out ?_); rintro e w4 ⟨F, g, rfl, hmp, hbk, hF, hg, hFg, hb4⟩)
  have hT : TrM w4 w.heap.size ⟨d, k, newD (50 + N), newC 5, a, F, g⟩ N (fun _ => none) := by
    refine ⟨HCd3.out.below hb4 (Nat.le_refl _), new_ok (by omega), cons_new, rfl, ((HAl.out.weak (by have := HB2.out.size; omega)).congr (fun _ _ _ => rfl)).kept (F := fun _ => False) (Kept.of_below hb4 (Nat.le_refl _)) (fun _ _ x => x), hmp _, hbk, fun n nd h => (by cases h), ?_, ?_, hFg, ?_, HN.out.2⟩
    · intro b e
      have h1 := (HCd.out.foot_base b e).2
      have h2 := HS3.out
      refine ⟨fun x => ?_, ?_, ?_⟩
      · have := (HAl.out.foot_base b x).1; omega
      · show b ≠ F; omega
      · show b ≠ g; omega
    · intro b e
      have h1 := (HAl.out.foot_base b e).2
      refine ⟨?_, ?_⟩
      · show b ≠ F; omega
      · show b ≠ g; omega
    · have := HB3.out.size
      refine ⟨?_, ?_⟩
      · show w.heap.size ≤ F; omega
      · show w.heap.size ≤ g; omega
  have HT := Lib.hid hT
  have HB4 := Lib.hid (HB3.out.trans (hb4.mono HB3.out.size))
  clear hT hb4 hmp hbk hF hg hFg T HB3 HCd3 HAl HCd HB2
  go_wp2
  go_ret
  have hal : Below w4.heap.size w4 (w4.alloc (.cells #[.pointer (some ⟨d.g, 0, none⟩), .pointer (some ⟨k.g, 0, none⟩), .pointer (some ⟨a.m, 0, none⟩), .pointer (some ⟨g, 0, none⟩), .int .i64 0, .slice none 0 0] 37)) := (Below.refl _ _).alloc (Nat.le_refl _) _
  refine ⟨⟨d, k, newD (50 + N), newC 5, a, F, g⟩, w4.heap.size, rfl, HT.out.below hal (Nat.le_refl _), Blk.new w4 _ [.pointer (some ⟨d.g, 0, none⟩), .pointer (some ⟨k.g, 0, none⟩), .pointer (some ⟨a.m, 0, none⟩), .pointer (some ⟨g, 0, none⟩), .int .i64 0, .slice none 0 0], HB4.out.size, fun x => ?_, HB4.out.trans (hal.mono HB4.out.size)⟩
  have := (HT.out.foot_base _ x).2
  omega
end Go.Proofs.Ytdakohbfibcjeaa
