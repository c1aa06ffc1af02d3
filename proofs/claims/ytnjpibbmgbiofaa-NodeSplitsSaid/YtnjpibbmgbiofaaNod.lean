/- The statements of layer 14: NodePuts, NodeGets, NodeApart: their walks. -/
import Derived.Test.YtnjpibbmgbiofaaNodL
import Derived.Test.YtnjpibbmgbiofaaNodGetR
namespace Go.Proofs.Ytnjpibbmgbiofaa
open Go.RowKit

theorem nmay_t {s : Nd} {t : Bool} (ht : decide (mayN s) = t) {w : World} {lo : Nat} {K V D : Option Addr} {nk ck nv cv nd cd : Nat} (h : NdR w lo s K nk ck V nv cv D nd cd) :
    Calls Try.prog 11 #[.agg #[.bool s.leaf, .slice K nk ck, .slice V nv cv, .slice D nd cd]] w fun e w' => e = .returned (.bool t) ∧ Below w.heap.size w w' := ht ▸ nmay_any s h
theorem rnmay_t {s : Nd} {t : Bool} (ht : decide (mayN s) = t) {w : World} {lo : Nat} {K V D : Option Addr} {nk ck nv cv nd cd : Nat} (h : NdR w lo s K nk ck V nv cv D nd cd) :
    Calls Try.prog 9 #[.agg #[.bool s.leaf, .slice K nk ck, .slice V nv cv, .slice D nd cd]] w fun e w' => e = .returned (.bool t) ∧ Below w.heap.size w w' := ht ▸ rnmay_any s h
theorem nget_put {s : Nd} (hm : mayN s) {w : World} {lo : Nat} {A : Option Addr} {m c : Nat} (hk : s.keys.length ≤ 8796093022208) (h : Bs w lo A m c (pb s true)) :
    Calls Try.prog 18 #[.agg #[.int .i64 (pk s true), .slice A m c]] w fun e w' =>
      ∃ K nk ck V nv cv D nd cd, e = .returned (.tuple #[.agg #[.bool s.leaf, .slice K nk ck, .slice V nv cv, .slice D nd cd], .int .i64 0]) ∧ NdR w' w.heap.size s K nk ck V nv cv D nd cd ∧ Below w.heap.size w w' := by
  have h1 := nget_any (kindN s) (body := bodyN s) h
  rw [getN_putN s hm hk] at h1
  exact h1
theorem bsame_blk {w : World} {g lo1 lo2 m1 m2 c1 c2 : Nat} {t : TypeId} {k : Int} {v : Value} {A1 A2 : Option Addr} {l : List UInt8} (_ : Blk w g t [.int .i64 k, v]) (h1 : Bs w lo1 A1 m1 c1 l) (h2 : Bs w lo2 A2 m2 c2 l) :
    Calls Try.prog 15 #[.agg #[.int .i64 k, .slice A1 m1 c1], .agg #[.int .i64 k, .slice A2 m2 c2]] w fun e w' => e = .returned (.bool true) ∧ Below w.heap.size w w' := by
  have h := bsame_any k k h1 h2
  rw [decide_eq_true ⟨rfl, rfl⟩] at h
  exact h

set_option maxRecDepth 100000 in
set_option maxHeartbeats 4000000 in
theorem nodePuts_any (s : Nd) {w : World} {lo : Nat} {K V D : Option Addr} {nk ck nv cv nd cd : Nat} (h : NdR w lo s K nk ck V nv cv D nd cd) :
    Calls Try.prog 3 #[.agg #[.bool s.leaf, .slice K nk ck, .slice V nv cv, .slice D nd cd]] w fun e w' => e = .returned (.bool true) ∧ Below w.heap.size w w' := by
  have HK : Hid (s.keys.length ≤ 8796093022208) := by show _ ≤ _; rw [h.nk_eq]; exact h.kroom
  have HR := Lib.hid h
  obtain ⟨t, ht⟩ : ∃ t, decide (mayN s) = t := ⟨_, rfl⟩
  have HT := Lib.hid ht
  clear h ht
  go_enter Try.func3, Try.ntmps3
  go_upto_region 1 with fail
  refine wp_world (fun U => Blk U w.heap.size 25 [.bool s.leaf, .slice K nk ck, .slice V nv cv, .slice D nd cd] ∧ Below w.heap.size w U) ⟨Blk.new w 25 [.bool s.leaf, .slice K nk ck, .slice V nv cv, .slice D nd cd], (Below.refl _ _).alloc (Nat.le_refl _) _⟩ ?_
  rintro U ⟨B0, b0⟩
  have B0c := B0.cells
  have O1 := Lib.hid (of_any s (HR.out.below b0 (Nat.le_refl _)))
  go_upto_region 2 with ((with_reducible refine Calls.mono O1.out ?_); rintro e w1 ⟨K1, ck1, V1, cv1, D1, cd1, rfl, n1, hb1⟩)
  refine wp_world (fun U => Blk U w.heap.size 25 [.bool s.leaf, .slice K nk ck, .slice V nv cv, .slice D nd cd] ∧ Blk U w1.heap.size 26 [.bool s.leaf, .slice K1 nk ck1, .slice V1 nv cv1, .slice D1 nd cd1] ∧ NdR U 0 s K1 nk ck1 V1 nv cv1 D1 nd cd1 ∧ Below w.heap.size w U)
    ⟨(B0.below hb1 B0.lt).alloc _, Blk.new_at (cs := [.bool s.leaf, .slice K1 nk ck1, .slice V1 nv cv1, .slice D1 nd cd1]) rfl, (n1.below (B := w1.heap.size) ((Below.refl _ _).alloc (Nat.le_refl _) _) (Nat.le_refl _)).weak (Nat.zero_le _), (b0.trans (hb1.mono b0.size)).alloc (b0.trans (hb1.mono b0.size)).size _⟩ ?_
  clear B0 b0 B0c O1 n1 hb1
  generalize w1.heap.size = g1 at *
  rintro U1 ⟨B0, B1, n1, b1⟩
  have B0c := B0.cells
  have M1 := Lib.hid (rnmay_t HT.out (HR.out.below b1 (Nat.le_refl _)))
  go_upto_region 3 with ((with_reducible refine Calls.mono M1.out ?_); rintro e w2 ⟨rfl, hb2⟩)
  refine wp_world (fun U => Blk U w.heap.size 25 [.bool s.leaf, .slice K nk ck, .slice V nv cv, .slice D nd cd] ∧ Blk U g1 26 [.bool s.leaf, .slice K1 nk ck1, .slice V1 nv cv1, .slice D1 nd cd1] ∧ NdR U 0 s K1 nk ck1 V1 nv cv1 D1 nd cd1 ∧ Below w.heap.size w U)
    ⟨B0.below hb2 B0.lt, B1.below hb2 B1.lt, n1.below hb2 (Nat.le_refl _), b1.trans (hb2.mono b1.size)⟩ ?_
  clear M1 B0 B1 n1 b1 B0c hb2
  rintro U2 ⟨B0, B1, n1, b1⟩
  have B0c := B0.cells
  have bd := szV_bd (sizeN s)
  have M1 := Lib.hid (rsize_any s (HR.out.below b1 (Nat.le_refl _)))
  have HSz : Hid (∀ {w : World} {lo : Nat} {K V D : Option Addr} {nk ck nv cv nd cd : Nat}, NdR w lo s K nk ck V nv cv D nd cd → Calls Try.prog 12 #[.agg #[.bool s.leaf, .slice K nk ck, .slice V nv cv, .slice D nd cd]] w fun e w' => e = .returned (.int .i64 (szV (sizeN s))) ∧ Below w.heap.size w w') := fun h => nsize_any s h
  generalize szV (sizeN s) = z at *
  go_upto_region 4 with ((with_reducible refine Calls.mono M1.out ?_); rintro e w2 ⟨rfl, hb2⟩)
  refine wp_world (fun U => Blk U w.heap.size 25 [.bool s.leaf, .slice K nk ck, .slice V nv cv, .slice D nd cd] ∧ Blk U g1 26 [.bool s.leaf, .slice K1 nk ck1, .slice V1 nv cv1, .slice D1 nd cd1] ∧ NdR U 0 s K1 nk ck1 V1 nv cv1 D1 nd cd1 ∧ Below w.heap.size w U)
    ⟨B0.below hb2 B0.lt, B1.below hb2 B1.lt, n1.below hb2 (Nat.le_refl _), b1.trans (hb2.mono b1.size)⟩ ?_
  clear M1 B0 B1 n1 b1 B0c hb2
  rintro U3 ⟨B0, B1, n1, b1⟩
  have B1c := B1.cells
  have M1 := Lib.hid (nmay_t HT.out n1)
  cases t
  all_goals
    go_upto_region 6 with (first
      | ((with_reducible refine Calls.mono M1.out ?_); rintro e w2 ⟨rfl, hb2⟩; have B1d := (B1.below hb2 B1.lt).cells; have M2 := Lib.hid (HSz.out (n1.below hb2 (Nat.le_refl _))))
      | ((with_reducible refine Calls.mono M2.out ?_); rintro e w3 ⟨rfl, hb3⟩))
    have b12 := hb2.trans (hb3.mono hb2.size)
    refine wp_world (fun U => Blk U w.heap.size 25 [.bool s.leaf, .slice K nk ck, .slice V nv cv, .slice D nd cd] ∧ Blk U g1 26 [.bool s.leaf, .slice K1 nk ck1, .slice V1 nv cv1, .slice D1 nd cd1] ∧ NdR U 0 s K1 nk ck1 V1 nv cv1 D1 nd cd1 ∧ Below w.heap.size w U)
      ⟨B0.below b12 B0.lt, B1.below b12 B1.lt, n1.below b12 (Nat.le_refl _), b1.trans (b12.mono b1.size)⟩ ?_
    clear M1 M2 B0 B1 n1 b1 B1c B1d hb2 hb3 b12 HSz bd
    rintro U4 ⟨B0, B1, n1, b1⟩
    have B1c := B1.cells
    have P1 := Lib.hid (nput_t HT.out n1)
    go_upto_region 7 with ((with_reducible refine Calls.mono P1.out ?_); rintro e w4 ⟨A4, m4, c4, rfl, s4, hb4⟩)
    refine wp_world (fun U => Blk U w.heap.size 25 [.bool s.leaf, .slice K nk ck, .slice V nv cv, .slice D nd cd] ∧ Blk U g1 26 [.bool s.leaf, .slice K1 nk ck1, .slice V1 nv cv1, .slice D1 nd cd1] ∧ NdR U 0 s K1 nk ck1 V1 nv cv1 D1 nd cd1 ∧ Below w.heap.size w U ∧ Blk U w4.heap.size 34 [.int .i64 (pk s _), .slice A4 m4 c4] ∧ Bs U 0 A4 m4 c4 (pb s _))
      ⟨(B0.below hb4 B0.lt).alloc _, (B1.below hb4 B1.lt).alloc _, n1.below (hb4.alloc hb4.size _) (Nat.le_refl _), (b1.trans (hb4.mono b1.size)).alloc (b1.trans (hb4.mono b1.size)).size _, Blk.new_at (cs := [.int .i64 (pk s _), .slice A4 m4 c4]) rfl, (s4.below (B := w4.heap.size) ((Below.refl _ _).alloc (Nat.le_refl _) _) (Nat.le_refl _)).weak (Nat.zero_le _)⟩ ?_
    clear P1 B0 B1 n1 b1 B1c s4 hb4
    generalize w4.heap.size = g4 at *
    rintro U5 ⟨B0, B1, n1, b1, B4, s4⟩
    have B0c := B0.cells
    have P1 := Lib.hid (rnput_t HT.out (HR.out.below b1 (Nat.le_refl _)))
    go_upto_region 8 with ((with_reducible refine Calls.mono P1.out ?_); rintro e w5 ⟨A5, m5, c5, rfl, s5, hb5⟩)
    refine wp_world (fun U => Blk U w.heap.size 25 [.bool s.leaf, .slice K nk ck, .slice V nv cv, .slice D nd cd] ∧ Blk U g1 26 [.bool s.leaf, .slice K1 nk ck1, .slice V1 nv cv1, .slice D1 nd cd1] ∧ NdR U 0 s K1 nk ck1 V1 nv cv1 D1 nd cd1 ∧ Below w.heap.size w U ∧ Blk U g4 34 [.int .i64 (pk s _), .slice A4 m4 c4] ∧ Bs U 0 A4 m4 c4 (pb s _) ∧ Blk U w5.heap.size 34 [.int .i64 (pk s _), .slice A5 m5 c5] ∧ Bs U 0 A5 m5 c5 (pb s _))
      ⟨(B0.below hb5 B0.lt).alloc _, (B1.below hb5 B1.lt).alloc _, n1.below (hb5.alloc hb5.size _) (Nat.le_refl _), (b1.trans (hb5.mono b1.size)).alloc (b1.trans (hb5.mono b1.size)).size _, (B4.below hb5 B4.lt).alloc _, s4.below (hb5.alloc hb5.size _) (Nat.le_refl _), Blk.new_at (cs := [.int .i64 (pk s _), .slice A5 m5 c5]) rfl, (s5.below (B := w5.heap.size) ((Below.refl _ _).alloc (Nat.le_refl _) _) (Nat.le_refl _)).weak (Nat.zero_le _)⟩ ?_
    clear P1 B0 B1 n1 b1 B0c s4 hb5 B4 s5
    generalize w5.heap.size = g5 at *
    rintro U6 ⟨B0, B1, n1, b1, B4, s4, B5, s5⟩
    have B4c := B4.cells
    have B5c := B5.cells
    have P1 := Lib.hid (bsame_blk B4 s4 s5)
    go_upto_region 9 with ((with_reducible refine Calls.mono P1.out ?_); rintro e w6 ⟨rfl, hb6⟩)
    refine wp_world (fun U => Blk U w.heap.size 25 [.bool s.leaf, .slice K nk ck, .slice V nv cv, .slice D nd cd] ∧ Blk U g1 26 [.bool s.leaf, .slice K1 nk ck1, .slice V1 nv cv1, .slice D1 nd cd1] ∧ NdR U 0 s K1 nk ck1 V1 nv cv1 D1 nd cd1 ∧ Below w.heap.size w U ∧ Blk U g4 34 [.int .i64 (pk s _), .slice A4 m4 c4] ∧ Bs U 0 A4 m4 c4 (pb s _))
      ⟨B0.below hb6 B0.lt, B1.below hb6 B1.lt, n1.below hb6 (Nat.le_refl _), b1.trans (hb6.mono b1.size), B4.below hb6 B4.lt, s4.below hb6 (Nat.le_refl _)⟩ ?_
    clear P1 B0 B1 n1 b1 B4c B5c s4 hb6 B4 s5 B5
    rintro U7 ⟨B0, B1, n1, b1, B4, s4⟩
    have B0c := B0.cells
    have B1c := B1.cells
    have P1 := Lib.hid (nsame_any s s n1 (HR.out.below b1 (Nat.le_refl _)))
    rw [decide_eq_true rfl] at P1
    go_upto_region 10 with ((with_reducible refine Calls.mono P1.out ?_); rintro e w7 ⟨rfl, hb7⟩)
    refine wp_world (fun U => Blk U w.heap.size 25 [.bool s.leaf, .slice K nk ck, .slice V nv cv, .slice D nd cd] ∧ Below w.heap.size w U ∧ Blk U g4 34 [.int .i64 (pk s _), .slice A4 m4 c4] ∧ Bs U 0 A4 m4 c4 (pb s _))
      ⟨B0.below hb7 B0.lt, b1.trans (hb7.mono b1.size), B4.below hb7 B4.lt, s4.below hb7 (Nat.le_refl _)⟩ ?_
    clear P1 B0 B1 n1 b1 B0c B1c s4 hb7 B4
    rintro U8 ⟨B0, b1, B4, s4⟩
  · clear B0 B4 s4 HT HK
    go_wp2_with (go_at_call 17; refine (nodlives_any _).mono ?_; rintro e w8 ⟨rfl, hb8⟩)
    go_ret
    exact ⟨rfl, b1.trans (hb8.mono b1.size)⟩
  · have B4c := B4.cells
    have G1 := Lib.hid (nget_put (of_decide_eq_true HT.out) HK.out s4)
    go_upto_region 15 with ((with_reducible refine Calls.mono G1.out ?_); rintro e w9 ⟨K9, nk9, ck9, V9, nv9, cv9, D9, nd9, cd9, rfl, n9, hb9⟩)
    refine wp_world (fun U => Blk U w.heap.size 25 [.bool s.leaf, .slice K nk ck, .slice V nv cv, .slice D nd cd] ∧ Below w.heap.size w U ∧ Blk U w9.heap.size 26 [.bool s.leaf, .slice K9 nk9 ck9, .slice V9 nv9 cv9, .slice D9 nd9 cd9] ∧ NdR U 0 s K9 nk9 ck9 V9 nv9 cv9 D9 nd9 cd9)
      ⟨(B0.below hb9 B0.lt).alloc _, (b1.trans (hb9.mono b1.size)).alloc (b1.trans (hb9.mono b1.size)).size _, Blk.new_at (cs := [.bool s.leaf, .slice K9 nk9 ck9, .slice V9 nv9 cv9, .slice D9 nd9 cd9]) rfl, (n9.below (B := w9.heap.size) ((Below.refl _ _).alloc (Nat.le_refl _) _) (Nat.le_refl _)).weak (Nat.zero_le _)⟩ ?_
    clear B0 B4 s4 b1 B4c G1 n9 hb9 HT HK
    generalize w9.heap.size = g9 at *
    rintro U9 ⟨B0, b1, B9, n9⟩
    have B0c := B0.cells
    have B9c := B9.cells
    have P1 := Lib.hid (nsame_any s s n9 (HR.out.below b1 (Nat.le_refl _)))
    rw [decide_eq_true rfl] at P1
    go_upto_region 16 with ((with_reducible refine Calls.mono P1.out ?_); rintro e w7 ⟨rfl, hb7⟩)
    have b2 := b1.trans (hb7.mono b1.size)
    clear P1 B0 B9 n9 B0c B9c
    go_wp2_with (go_at_call 17; refine (nodlives_any _).mono ?_; rintro e w8 ⟨rfl, hb8⟩)
    go_ret
    exact ⟨rfl, b2.trans (hb8.mono b2.size)⟩
end Go.Proofs.Ytnjpibbmgbiofaa
