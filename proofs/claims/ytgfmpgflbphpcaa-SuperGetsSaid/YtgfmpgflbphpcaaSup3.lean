/- The statement SuperGets: its walk. -/
import Derived.Test.YtgfmpgflbphpcaaSup
import Derived.Test.YtgfmpgflbphpcaaSupGetR
namespace Go.Proofs.Ytgfmpgflbphpcaa
open Go.RowKit

set_option maxRecDepth 100000 in
set_option maxHeartbeats 2000000 in
theorem superGets_any {A : Option Addr} {m c lo : Nat} {l : List UInt8} {w : World} (hb : Bs w lo A m c l) :
    Calls Try.prog 8 #[.slice A m c] w fun e w' => e = .returned (.bool true) ∧ Below w.heap.size w w' := by
  generalize hr : getS l = r
  have g1 := Lib.hid (hr ▸ sget_any hb)
  have g2 := Lib.hid (fun W (hW : Below w.heap.size w W) => hr ▸ rsget_any (hb.below hW (Nat.le_refl _)))
  clear hb hr
  generalize hi : r.isSome = ok at *
  have HI := Lib.hid hi
  clear hi
  generalize hs : r.getD Sup.nil = s at *
  have HSn := Lib.hid hs
  clear hs
  go_enter Try.func8, Try.ntmps8
  go_upto_region 2 with ((with_reducible refine Calls.mono g1.out ?_); rintro e w1 ⟨A1, c1, rfl, hv1, hb1⟩)
  rw [HI.out, HSn.out]
  rw [HSn.out] at hv1
  refine wp_world (fun V => Below w.heap.size w V ∧ Blk V w1.heap.size 32 [.int .i64 s.gen, .int .i64 s.sec, .int .i64 s.next, .slice A1 s.vs.length c1] ∧ Vr V w.heap.size A1 s.vs.length c1 s.vs)
    ⟨hb1.alloc hb1.size _, Blk.new_at (cs := [.int .i64 s.gen, .int .i64 s.sec, .int .i64 s.next, .slice A1 s.vs.length c1]) rfl, hv1.below (B := w1.heap.size) ((Below.refl _ _).alloc (Nat.le_refl _) _) (Nat.le_refl _)⟩ ?_
  clear hv1 hb1 g1
  generalize w1.heap.size = h1 at *
  rintro V ⟨bV, B1, V1⟩
  have g3 := Lib.hid (g2.out V bV)
  go_upto_region 3 with ((with_reducible refine Calls.mono g3.out ?_); rintro e w3 ⟨A3, c3, rfl, hv3, hb3⟩)
  rw [HI.out, HSn.out]
  rw [HSn.out] at hv3
  have bV3 := bV.trans (hb3.mono bV.size)
  refine wp_world (fun U => Below w.heap.size w U ∧ Blk U h1 32 [.int .i64 s.gen, .int .i64 s.sec, .int .i64 s.next, .slice A1 s.vs.length c1] ∧ Vr U w.heap.size A1 s.vs.length c1 s.vs ∧ Blk U w3.heap.size 32 [.int .i64 s.gen, .int .i64 s.sec, .int .i64 s.next, .slice A3 s.vs.length c3] ∧ Vr U V.heap.size A3 s.vs.length c3 s.vs)
    ⟨bV3.alloc bV3.size _, (B1.below hb3 B1.lt).alloc _, (V1.below hb3 (Nat.le_refl _)).below (B := w3.heap.size) ((Below.refl _ _).alloc (Nat.le_refl _) _) (Nat.le_refl _), Blk.new_at (cs := [.int .i64 s.gen, .int .i64 s.sec, .int .i64 s.next, .slice A3 s.vs.length c3]) rfl, hv3.below (B := w3.heap.size) ((Below.refl _ _).alloc (Nat.le_refl _) _) (Nat.le_refl _)⟩ ?_
  clear hv3 hb3 g3 g2 B1 V1 bV bV3
  generalize w3.heap.size = h3 at *
  rintro U ⟨bU, B1, V1, B3, V3⟩
  have B1c := B1.cells
  have B3c := B3.cells
  have N4 := Lib.hid (ssame_any s s V1 V3)
  rw [decide_eq_true (rfl : s = s)] at N4
  clear B1 B3 V1 V3
  go_upto_region 4 with ((with_reducible refine Calls.mono N4.out ?_); rintro e w4 ⟨rfl, hb4⟩)
  have b4 := bU.trans (hb4.mono bU.size)
  clear B1c B3c N4 bU hb4
  go_wp2_with (go_at_call 25; refine (suplives_any _).mono ?_; rintro e w8 ⟨rfl, hb8⟩)
  go_ret
  exact ⟨rfl, b4.trans (hb8.mono b4.size)⟩
end Go.Proofs.Ytgfmpgflbphpcaa
