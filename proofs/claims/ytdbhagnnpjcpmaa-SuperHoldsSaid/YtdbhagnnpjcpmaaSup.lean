/- The statements of layer 10: their own example; their walks. -/
import Derived.Test.YtdbhagnnpjcpmaaSupGets
import Derived.Test.YtdbhagnnpjcpmaaSupPut2
import Derived.Test.YtdbhagnnpjcpmaaSupSame
namespace Go.Proofs.Ytdbhagnnpjcpmaa
open Go.RowKit

theorem rd_at {w : World} {lo g o : Nat} {xs : List Value} (h : Rd w 0 (some ⟨g, o, none⟩) xs) (hg : lo ≤ g) : Rd w lo (some ⟨g, o, none⟩) xs := fun hn => by
  obtain ⟨b, o', e, _, h2, hc⟩ := h hn
  injection e with e
  injection e with e1 e2
  subst e1 e2
  exact ⟨g, o, rfl, hg, h2, hc⟩

def oneS : Sup := ⟨1, 128, 2, [⟨1, 0, 1, false⟩]⟩
theorem oneS_ok : supOk oneS := by decide

set_option maxHeartbeats 1000000 in
theorem one_any (w : World) : Calls Try.prog 27 #[] w fun e w' => ∃ g, e = .returned (.agg #[.int .i64 1, .int .i64 128, .int .i64 2, .slice (some ⟨g, 0, none⟩) 1 1]) ∧ Vr w' w.heap.size (some ⟨g, 0, none⟩) 1 1 oneS.vs ∧ Below w.heap.size w w' := by
  have hz := zero32
  go_enter Try.func27, Try.ntmps27
  go_wp2
  have hB : Blk ((w.alloc (.cells #[.int .i64 1, .int .i64 128, .int .i64 2, .slice (some ⟨w.heap.size + 1, 0, none⟩) 1 1] 32)).alloc (.cells #[.int .i64 1, .int .i64 0, .int .i64 1, .bool false] 97)) w.heap.size 32 [.int .i64 1, .int .i64 128, .int .i64 2, .slice (some ⟨w.heap.size + 1, 0, none⟩) 1 1] :=
    (Blk.new _ _ [.int .i64 1, .int .i64 128, .int .i64 2, .slice (some ⟨w.heap.size + 1, 0, none⟩) 1 1]).alloc _
  refine bodyPost_ret (results_cell_row rfl _ _ w.heap.size 32 #[.int .i64 1, .int .i64 128, .int .i64 2, .slice (some ⟨w.heap.size + 1, 0, none⟩) 1 1] (0, 0) _ rfl hB Try.underlying32 rfl (by rw [size32]; rfl)) rfl ?_
  refine ⟨w.heap.size + 1, rfl, ⟨rfl, by omega, by omega, rd_at (rd_vc (⟨1, 0, 1, false⟩ : Ver) (by simp)) (by omega)⟩, ((Below.refl _ _).alloc (Nat.le_refl _) _).alloc (by simp) _⟩

theorem cell_putS (i : Nat) {A : Option Addr} {c lo : Nat} {w : World} (hb : Bs w lo A 256 c (putS oneS)) (hi : i < 256) : ∃ b o, A = some ⟨b, o, none⟩ ∧ w.cell? ⟨b, o + i, none⟩ = some (.int .u8 (((putS oneS).getD i 0).toNat : Int)) := by
  obtain ⟨b, o, rfl, _, _⟩ := hb.at_ (by omega)
  exact ⟨b, o, rfl, hb.cell i hi⟩

theorem sput_one {A : Option Addr} {c lo : Nat} {w : World} (hr : Vr w lo A 1 c oneS.vs) :
    Calls Try.prog 49 #[.agg #[.int .i64 1, .int .i64 128, .int .i64 2, .slice A 1 c]] w fun e w' =>
      ∃ A' c', e = .returned (.tuple #[.slice A' 256 c', .int .i64 0]) ∧ Own w' w.heap.size 5 1 A' 256 c' (bvs (putS oneS)) ∧ Below w.heap.size w w' := sput_ok 1 128 2 oneS.vs hr oneS_ok
theorem sget_one {A : Option Addr} {c lo : Nat} {w : World} (hb : Bs w lo A 256 c (putS oneS)) :
    Calls Try.prog 57 #[.slice A 256 c] w fun e w' => ∃ A' c', e = .returned (.tuple #[.agg #[.int .i64 1, .int .i64 128, .int .i64 2, .slice A' 1 c'], .bool true]) ∧ Vr w' w.heap.size A' 1 c' oneS.vs ∧ Below w.heap.size w w' := by
  have h := sget_any hb
  rw [getS_putS oneS oneS_ok] at h
  exact h
theorem same_one {A1 A2 : Option Addr} {c1 c2 lo1 lo2 : Nat} {w : World} (h1 : Vr w lo1 A1 1 c1 oneS.vs) (h2 : Vr w lo2 A2 1 c2 oneS.vs) :
    Calls Try.prog 26 #[.agg #[.int .i64 1, .int .i64 128, .int .i64 2, .slice A1 1 c1], .agg #[.int .i64 1, .int .i64 128, .int .i64 2, .slice A2 1 c2]] w fun e w' => e = .returned (.bool true) ∧ Below w.heap.size w w' := by
  have h := ssame_any oneS oneS h1 h2
  rw [decide_eq_true (rfl : oneS = oneS)] at h
  exact h

set_option maxRecDepth 100000 in
set_option maxHeartbeats 2000000 in
theorem suplives_any (w : World) : Calls Try.prog 28 #[] w fun e w' => e = .returned (.bool true) ∧ Below w.heap.size w w' := by
  have H1 : Hid (∀ w, Calls Try.prog 27 #[] w fun e w' => ∃ g, e = .returned (.agg #[.int .i64 1, .int .i64 128, .int .i64 2, .slice (some ⟨g, 0, none⟩) 1 1]) ∧ Vr w' w.heap.size (some ⟨g, 0, none⟩) 1 1 oneS.vs ∧ Below w.heap.size w w') := one_any
  go_enter Try.func28, Try.ntmps28
  go_upto_region 2 with (first
    | ((with_reducible refine (H1.out _).mono ?_); rintro e w1 ⟨g1, rfl, hv1, hb1⟩; have P1 := Lib.hid (sput_one hv1))
    | ((with_reducible refine Calls.mono P1.out ?_); rintro e w2 ⟨A2, c2, rfl, ho2, hb2⟩))
  have b2 : Below w.heap.size w w2 := hb1.trans (hb2.mono hb1.size)
  have s2 := own_bs ho2
  have S2 := Lib.hid s2
  have G2 := Lib.hid (sget_one s2)
  clear ho2 hb2 hv1 hb1 P1 s2
  go_upto_region 3 with ((with_reducible refine Calls.mono G2.out ?_); rintro e w3 ⟨A3, c3, rfl, hv3, hb3⟩)
  refine wp_world (fun V => Blk V w3.heap.size 32 [.int .i64 1, .int .i64 128, .int .i64 2, .slice A3 1 c3] ∧ Vr V w2.heap.size A3 1 c3 oneS.vs ∧ Bs V w1.heap.size A2 256 c2 (putS oneS) ∧ Below w.heap.size w V)
    ⟨Blk.new_at (cs := [.int .i64 1, .int .i64 128, .int .i64 2, .slice A3 1 c3]) rfl, hv3.below (B := w3.heap.size) ((Below.refl _ _).alloc (Nat.le_refl _) _) (Nat.le_refl _), (S2.out.below hb3 (Nat.le_refl _)).below (B := w3.heap.size) ((Below.refl _ _).alloc (Nat.le_refl _) _) (Nat.le_refl _), (b2.trans (hb3.mono b2.size)).alloc (b2.trans (hb3.mono b2.size)).size _⟩ ?_
  clear hv3 hb3 b2 S2 G2
  generalize w3.heap.size = g3 at *
  rintro V ⟨hB, hv, hs, hV⟩
  have HB := Lib.hid hB
  have HV := Lib.hid hv
  have HS := Lib.hid hs
  have k0 := hB.cell 0
  have k1 := hB.cell 1
  have k2 := hB.cell 2
  have k3 := hB.cell 3
  simp only [List.getElem?_cons_zero, List.getElem?_cons_succ] at k0 k1 k2 k3
  have hzB := hB.lt
  clear hB hv hs
  have H1d := Lib.hid (H1.out V.drew)
  go_cut [5] (fun s5 wx => s5 = .bool true ∧ Bs wx w1.heap.size A2 256 c2 (putS oneS) ∧ Below w.heap.size w wx)
  case first =>
    go_region_held3 (fun w' => w'.cell? ⟨g3, 0, none⟩ = some (.int .i64 1) ∧ w'.cell? ⟨g3, 1, none⟩ = some (.int .i64 128) ∧ w'.cell? ⟨g3, 2, none⟩ = some (.int .i64 2) ∧ w'.cell? ⟨g3, 3, none⟩ = some (.slice A3 1 c3))
      (first | (exact K6.out) | (exact K5.out) | go_keep)
      (first
        | ((with_reducible refine Calls.mono H1d.out ?_); rintro e w5 ⟨g5, rfl, hv5, hb5⟩; have B5 := HB.out.drew.below hb5 hzB; have K5 : Hid (w5.cell? ⟨g3, 0, none⟩ = some (.int .i64 1) ∧ w5.cell? ⟨g3, 1, none⟩ = some (.int .i64 128) ∧ w5.cell? ⟨g3, 2, none⟩ = some (.int .i64 2) ∧ w5.cell? ⟨g3, 3, none⟩ = some (.slice A3 1 c3)) := ⟨B5.cell 0, B5.cell 1, B5.cell 2, B5.cell 3⟩; have N6 := Lib.hid (same_one ((HV.out.drewN 1).below hb5 (Nat.le_refl _)) hv5); have bV5 : Below w.heap.size w w5 := hV.drew.trans (hb5.mono hV.size))
        | ((with_reducible refine Calls.mono N6.out ?_); rintro e w6 ⟨rfl, hb6⟩; have B6 := B5.below hb6 B5.lt; have K6 : Hid (w6.cell? ⟨g3, 0, none⟩ = some (.int .i64 1) ∧ w6.cell? ⟨g3, 1, none⟩ = some (.int .i64 128) ∧ w6.cell? ⟨g3, 2, none⟩ = some (.int .i64 2) ∧ w6.cell? ⟨g3, 3, none⟩ = some (.slice A3 1 c3)) := ⟨B6.cell 0, B6.cell 1, B6.cell 2, B6.cell 3⟩))
    all_goals go_wp2_with fail
    all_goals go_meet
    all_goals exact ⟨rfl, (((HS.out.drewN 1).below hb5 (Nat.le_refl _)).below hb6 (Nat.le_refl _)), bV5.trans (hb6.mono bV5.size)⟩
  case rest =>
    obtain ⟨rfl, hs, hW⟩ := hcut
    obtain ⟨b, o, rfl, _, _⟩ := hs.at_ (by omega)
    have c0 : wc.cell? ⟨b, o, none⟩ = some (.int .u8 (((putS oneS).getD 0 0).toNat : Int)) := hs.cell 0 (by omega)
    have c4 := hs.cell 4 (by omega)
    have c8 := hs.cell 8 (by omega)
    have c14 := hs.cell 14 (by omega)
    rw [show ((((putS oneS).getD 0 0).toNat : Nat) : Int) = 75 by decide +kernel] at c0
    rw [show ((((putS oneS).getD 4 0).toNat : Nat) : Int) = 1 by decide +kernel] at c4
    rw [show ((((putS oneS).getD 8 0).toNat : Nat) : Int) = 128 by decide +kernel] at c8
    rw [show ((((putS oneS).getD 14 0).toNat : Nat) : Int) = 1 by decide +kernel] at c14
    clear hs HB HV HS k0 k1 k2 k3 hzB H1d H1 hV
    go_wp2
    go_ret
    exact ⟨rfl, hW⟩

end Go.Proofs.Ytdbhagnnpjcpmaa
