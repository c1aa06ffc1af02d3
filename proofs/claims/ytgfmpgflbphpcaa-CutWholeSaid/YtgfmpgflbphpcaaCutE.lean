/- The statements of layer 7 about ends: their walks. -/
import Derived.Test.YtgfmpgflbphpcaaEnds
namespace Go.Proofs.Ytgfmpgflbphpcaa
open Go.RowKit

def endsI (l : List UInt8) (p : Int) : Bool := if p < 7 ∨ (l.length : Int) < p then false else endsB l p.toNat
theorem ends_u (p : Int) {A : Option Addr} {m c lo : Nat} {l : List UInt8} {w : World} (hb : Bs w lo A m c l) :
    Calls Try.prog 34 #[.slice A m c, .int .i64 p] w fun e w' => e = .returned (.bool (endsI l p)) ∧ Below w.heap.size w w' := by
  unfold endsI
  rw [hb.1]
  split
  · rename_i h
    exact (ends_no p h).mono fun e w' h => ⟨h.1, h.2 ▸ Below.refl _ _⟩
  · rename_i h
    obtain ⟨n, rfl⟩ : ∃ n : Nat, p = n := ⟨p.toNat, by omega⟩
    exact ends_yes n hb (by omega) (by omega)
theorem rends_u (p : Int) {A : Option Addr} {m c lo : Nat} {l : List UInt8} {w : World} (hb : Bs w lo A m c l) :
    Calls Try.prog 35 #[.slice A m c, .int .i64 p] w fun e w' => e = .returned (.bool (endsI l p)) ∧ Below w.heap.size w w' := by
  unfold endsI
  rw [hb.1]
  split
  · rename_i h
    exact (rends_no p h).mono fun e w' h => ⟨h.1, h.2 ▸ Below.refl _ _⟩
  · rename_i h
    obtain ⟨n, rfl⟩ : ∃ n : Nat, p = n := ⟨p.toNat, by omega⟩
    exact rends_yes n hb (by omega) (by omega)

set_option maxRecDepth 100000 in
set_option maxHeartbeats 1000000 in
theorem cutEnds_any (p : Int) {A : Option Addr} {m c lo : Nat} {l : List UInt8} {w : World} (hb : Bs w lo A m c l) :
    Calls Try.prog 13 #[.slice A m c, .int .i64 p] w fun e w' => e = .returned (.bool true) ∧ Below w.heap.size w w' := by
  have hc1 := hb.2.1
  have hc2 := hb.2.2.1
  have HB0 := Lib.hid hb
  clear hb
  by_cases hm : m ≤ 65536
  all_goals
    go_enter Try.func13, Try.ntmps13
    go_upto_region 3 with fail
    go_cut [0, 4] (fun s0 s4 wx => (∃ (M : Nat) (l' : List UInt8), s0 = .slice A M c ∧ Bs wx lo A M c l') ∧ s4 = .bool true ∧ Below w.heap.size w wx)
  · go_wp2_with fail
    refine (ends_u p HB0.out).mono ?_
    rintro e w2 ⟨rfl, hb2⟩
    go_wp2_with fail
    refine (rends_u p (HB0.out.below hb2 (Nat.le_refl _))).mono ?_
    rintro e w3 ⟨rfl, hb3⟩
    go_wp2_with fail
    refine (clives_any _).mono ?_
    rintro e w4 ⟨rfl, hb4⟩
    go_wp2
    go_meet
    have h23 := hb2.trans (hb3.mono hb2.size)
    have h24 := h23.trans (hb4.mono h23.size)
    exact ⟨⟨m, l, rfl, HB0.out.below h24 (Nat.le_refl _)⟩, rfl, h24⟩
  rotate_left
  · have hb5 := HB0.out.take 65536 (by omega)
    generalize l.take 65536 = l5 at *
    go_wp2_with fail
    refine (ends_u p hb5).mono ?_
    rintro e w2 ⟨rfl, hb2⟩
    go_wp2_with fail
    refine (rends_u p (hb5.below hb2 (Nat.le_refl _))).mono ?_
    rintro e w3 ⟨rfl, hb3⟩
    go_wp2_with fail
    refine (clives_any _).mono ?_
    rintro e w4 ⟨rfl, hb4⟩
    go_wp2
    go_meet
    have h23 := hb2.trans (hb3.mono hb2.size)
    have h24 := h23.trans (hb4.mono h23.size)
    exact ⟨⟨65536, l5, rfl, hb5.below h24 (Nat.le_refl _)⟩, rfl, h24⟩
  all_goals
    obtain ⟨_, rfl, h⟩ := hcut
    go_wp2
    go_ret
    exact ⟨rfl, h⟩
end Go.Proofs.Ytgfmpgflbphpcaa
