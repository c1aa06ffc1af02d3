/- Where a chunk might end: cut.Ends, kistref07.Ends. -/
import Derived.Test.YtgfmpgflbphpcaaCutL
import Derived.Test.YtgfmpgflbphpcaaPlainCw
namespace Go.Proofs.Ytgfmpgflbphpcaa
open Go.RowKit

theorem ends_no (at_ : Int) {A : Option Addr} {m c : Nat} {w : World} (h : at_ < 7 ∨ (m : Int) < at_) :
    Calls Try.prog 34 #[.slice A m c, .int .i64 at_] w fun e w' => e = .returned (.bool false) ∧ w = w' := by
  by_cases h1 : at_ < 7
  · go_enter Try.func34, Try.ntmps34
    go_wp2
    go_ret
    exact ⟨rfl, rfl⟩
  · have h2 : (m : Int) < at_ := by omega
    clear h
    go_enter Try.func34, Try.ntmps34
    go_wp2
    go_ret
    exact ⟨rfl, rfl⟩
theorem rends_no (at_ : Int) {A : Option Addr} {m c : Nat} {w : World} (h : at_ < 7 ∨ (m : Int) < at_) :
    Calls Try.prog 35 #[.slice A m c, .int .i64 at_] w fun e w' => e = .returned (.bool false) ∧ w = w' := by
  by_cases h1 : at_ < 7
  · go_enter Try.func35, Try.ntmps35
    go_wp2
    go_ret
    exact ⟨rfl, rfl⟩
  · have h2 : (m : Int) < at_ := by omega
    clear h
    go_enter Try.func35, Try.ntmps35
    go_wp2
    go_ret
    exact ⟨rfl, rfl⟩

set_option maxRecDepth 100000 in
set_option maxHeartbeats 1000000 in
theorem ends_yes (at_ : Nat) {A : Option Addr} {m c lo : Nat} {l : List UInt8} {w : World} (hb : Bs w lo A m c l) (h7 : 7 ≤ at_) (hm : at_ ≤ m) :
    Calls Try.prog 34 #[.slice A m c, .int .i64 at_] w fun e w' => e = .returned (.bool (endsB l at_)) ∧ Below w.heap.size w w' := by
  obtain ⟨b, o, rfl, _, hlb⟩ := hb.at_ (by omega)
  have hc1 := hb.2.1
  have hc2 := hb.2.2.1
  have hq := hb.cut (at_ - 7) at_ (by omega) hm
  rw [show at_ - (at_ - 7) = 7 by omega] at hq
  have HQ := Lib.hid hq
  have hql := Lib.hid hq.1
  have HE : Hid (endsB l at_ = (mkF ((l.drop (at_ - 7)).take 7) % 128 == 0)) := rfl
  clear hb hq
  generalize (l.drop (at_ - 7)).take 7 = q at *
  have v1 : ((at_ : Int) - 7) = ((at_ - 7 : Nat) : Int) := by omega
  have v2 : at_ - 7 < c := by omega
  have v3 : at_ - (at_ - 7) = 7 := by omega
  have V := Lib.hid (And.intro v1 (And.intro v2 v3))
  have e1 : decide ((at_ : Int) < 7) = false := decide_eq_false (by omega)
  have e2 : decide (m < at_) = false := decide_eq_false (by omega)
  clear v1 v2 v3
  go_enter Try.func34, Try.ntmps34
  go_wp2
  have hcp : (at_ - (at_ - 7)) = 7 := V.out.2.2
  rw [hcp, show ((7 : Nat) : Int) = 7 from rfl]
  clear hcp
  go_loopw [5, 22] (fun s5 s22 wr => ∃ j : Nat, j ≤ 7 ∧ s22 = .int .i64 j ∧ s5 = .int .u32 (mkF (q.take j) : Nat) ∧ Below w.heap.size w wr)
    (fun _ s22 _ => 7 - (intOf s22).toNat)
  case atStart => exact ⟨0, by omega, rfl, rfl, Below.refl _ _⟩
  case round =>
    obtain ⟨j, hj, rfl, rfl, hV⟩ := hrel
    have hmk := mkF_lt q j
    by_cases hlt : j < 7
    · have cd := (HQ.out.below hV (Nat.le_refl _)).cell j hlt
      have HS := Lib.hid (mkF_snoc q j (by have := hql.out; omega))
      generalize q.getD j 0 = y at *
      have HG : Hid (mkB (mkF (q.take j)) y = (2 * mkF (q.take j) + gearN y) % 4294967296) := rfl
      have hg := gearN_lt y
      have hga := Lib.hid (gear_any y)
      generalize gearN y = g at *
      generalize mkF (q.take j) = mk at *
      have j7 : (j : Int) < 7 := by omega
      go_wp2_with ((with_reducible refine (hga.out _).mono ?_); rintro e w1 ⟨rfl, hb1⟩)
      refine ⟨⟨j + 1, by omega, by go_num, ?_, hV.trans (hb1.mono hV.size)⟩, by simp [intOf]; omega⟩
      rw [HS.out, HG.out, ← mark_u32]
    · have h7j : (j : Int) = 7 := by omega
      obtain rfl : j = 7 := by omega
      rw [List.take_of_length_le (by have := hql.out; omega)] at hmk ⊢
      clear h7j hlt hj
      go_wp2
      go_ret
      rw [HE.out]
      refine ⟨?_, hV⟩
      show Ending.returned (.bool ((mkF q : Int) % 128 == 0)) = _
      rw [beq128]

theorem mod_i64 (mk g : Nat) : (2 * (mk : Int) + g) % 4294967296 = (((2 * mk + g) % 4294967296 : Nat) : Int) := by omega
set_option maxRecDepth 100000 in
set_option maxHeartbeats 1000000 in
theorem rends_yes (at_ : Nat) {A : Option Addr} {m c lo : Nat} {l : List UInt8} {w : World} (hb : Bs w lo A m c l) (h7 : 7 ≤ at_) (hm : at_ ≤ m) :
    Calls Try.prog 35 #[.slice A m c, .int .i64 at_] w fun e w' => e = .returned (.bool (endsB l at_)) ∧ Below w.heap.size w w' := by
  obtain ⟨k0, rfl⟩ : ∃ k0, at_ = k0 + 7 := ⟨at_ - 7, by omega⟩
  obtain ⟨b, o, rfl, _, hlb⟩ := hb.at_ (by omega)
  have hc1 := hb.2.1
  have hc2 := hb.2.2.1
  have hq := hb.cut k0 (k0 + 7) (by omega) hm
  rw [show k0 + 7 - k0 = 7 by omega] at hq
  have HQ := Lib.hid hq
  have hql := Lib.hid hq.1
  have HE : Hid (endsB l (k0 + 7) = (mkF ((l.drop k0).take 7) % 128 == 0)) := rfl
  clear hb hq h7
  generalize (l.drop k0).take 7 = q at *
  have e1 : decide ((k0 : Int) + 7 < 7) = false := decide_eq_false (by omega)
  have e2 : decide ((m : Int) < (k0 : Int) + 7) = false := decide_eq_false (by omega)
  rw [show ((k0 + 7 : Nat) : Int) = (k0 : Int) + 7 by omega]
  go_enter Try.func35, Try.ntmps35
  go_wp2
  go_loopw [5, 6] (fun s5 s6 wr => ∃ j : Nat, j ≤ 7 ∧ s6 = .int .i64 ((k0 + j : Nat) : Int) ∧ s5 = .int .i64 (mkF (q.take j) : Nat) ∧ Below w.heap.size w wr)
    (fun _ s6 _ => k0 + 7 - (intOf s6).toNat)
  case atStart => exact ⟨0, by omega, rfl, rfl, Below.refl _ _⟩
  case round =>
    obtain ⟨j, hj, rfl, rfl, hV⟩ := hrel
    have hmk := mkF_lt q j
    by_cases hlt : j < 7
    · have cd := (HQ.out.below hV (Nat.le_refl _)).cell j hlt
      rw [Nat.add_assoc] at cd
      have HS := Lib.hid (mkF_snoc q j (by have := hql.out; omega))
      generalize q.getD j 0 = y at *
      have HG : Hid (mkB (mkF (q.take j)) y = (2 * mkF (q.take j) + gearN y) % 4294967296) := rfl
      have hg := gearN_lt y
      have hga := Lib.hid (rgear_any y)
      generalize gearN y = g at *
      generalize mkF (q.take j) = mk at *
      have HK := Lib.hid (show k0 + (j + 1) = k0 + j + 1 by omega)
      have hkm : k0 + j < m := by omega
      have hk7 : k0 + j < k0 + 7 := by omega
      generalize hK : k0 + j = K at *
      have HKK := Lib.hid hK
      clear hK
      go_wp2_with ((with_reducible refine (hga.out _).mono ?_); rintro e w1 ⟨rfl, hb1⟩)
      refine ⟨⟨j + 1, by omega, by rw [HK.out]; go_num, ?_, hV.trans (hb1.mono hV.size)⟩, by simp [intOf]; omega⟩
      rw [HS.out, HG.out, ← mod_i64]
    · obtain rfl : j = 7 := by omega
      rw [List.take_of_length_le (by have := hql.out; omega)] at hmk ⊢
      clear hlt hj
      go_wp2
      go_ret
      rw [HE.out]
      refine ⟨?_, hV⟩
      show Ending.returned (.bool ((mkF q : Int) % 128 == 0)) = _
      rw [beq128]
end Go.Proofs.Ytgfmpgflbphpcaa
