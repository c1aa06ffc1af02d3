/- Where a node is split: kistref14.Split. Condition: no longer than memory. -/
import Derived.Test.YtnjpibbmgbiofaaNodFirst
import Derived.Test.YtnjpibbmgbiofaaNodH
namespace Go.Proofs.Ytnjpibbmgbiofaa
open Go.RowKit

/-- how many keys the first node has -/
def manyN (s : Nd) (r : Nat) : Prop := (s.keys.length < 2 ∧ r = s.keys.length) ∨ (2 ≤ s.keys.length ∧ isSplit s r)
theorem sizeN_first (s : Nd) (m : Nat) (h : m ≤ s.keys.length) : sizeN (partN s 0 m) = sizeTo s m := by
  have h1 := sizeTo_part s 0 m m (by omega)
  unfold sizeN
  rw [show (partN s 0 m).keys.length = m by simp only [partN, List.length_drop, List.length_take]; omega]
  rw [Nat.zero_add] at h1
  have : sizeTo s 0 = 1 := rfl
  omega
def RTo (w : World) (s : Nd) (e : Ending) (w' : World) : Prop := ∃ r : Nat, e = .returned (.int .i64 r) ∧ manyN s r ∧ Below w.heap.size w w'

set_option maxRecDepth 100000 in
set_option maxHeartbeats 4000000 in
theorem rsplit_any (s : Nd) {w : World} {lo : Nat} {K V D : Option Addr} {nk ck nv cv nd cd : Nat} (h : NdR w lo s K nk ck V nv cv D nd cd) :
    Calls Try.prog 21 #[.agg #[.bool s.leaf, .slice K nk ck, .slice V nv cv, .slice D nd cd]] w (RTo w s) := by
  have HR := Lib.hid h
  have HK : Hid (s.keys.length = nk) := h.nk_eq
  have hkr := h.kroom
  have HH : Hid (halfN s = (szV (sizeN s)).tdiv 2) := rfl
  have bz := szV_bd (sizeN s)
  have HSz : Hid (∀ {w' : World}, Below w.heap.size w w' → Calls Try.prog 10 #[.agg #[.bool s.leaf, .slice K nk ck, .slice V nv cv, .slice D nd cd]] w' fun e w'' => e = .returned (.int .i64 (szV (sizeN s))) ∧ Below w'.heap.size w' w'') := fun hb => rsize_any s (HR.out.below hb (Nat.le_refl _))
  generalize szV (sizeN s) = Z at *
  clear h
  by_cases hf : nk < 2
  · have HM : Hid (manyN s nk) := .inl ⟨by rw [HK.out]; exact hf, HK.out.symm⟩
    go_enter Try.func21, Try.ntmps21
    go_wp2
    go_ret
    exact ⟨nk, rfl, HM.out, (Below.refl _ _).alloc (Nat.le_refl _) _⟩
  go_enter Try.func21, Try.ntmps21
  go_upto_region 3 with fail
  refine wp_world (fun U => Blk U w.heap.size 25 [.bool s.leaf, .slice K nk ck, .slice V nv cv, .slice D nd cd] ∧ Below w.heap.size w U) ⟨Blk.new w _ [.bool s.leaf, .slice K nk ck, .slice V nv cv, .slice D nd cd], (Below.refl _ _).alloc (Nat.le_refl _) _⟩ ?_
  rintro U ⟨B0, b0⟩
  go_wp2
  go_loopw [3, 4] (fun s3 _ wr => ∃ i : Nat, 1 ≤ i ∧ i + 1 ≤ nk ∧ s3 = .int .i64 i ∧ (∀ j, 1 ≤ j → j < i → szV (sizeTo s j) < halfN s) ∧ Blk wr w.heap.size 25 [.bool s.leaf, .slice K nk ck, .slice V nv cv, .slice D nd cd] ∧ Below w.heap.size w wr)
    (fun s3 _ _ => nk - (intOf s3).toNat)
  case atStart => exact ⟨1, by omega, by omega, rfl, fun j h1 h2 => absurd h2 (by omega), B0, b0⟩
  case round =>
    clear B0 b0
    obtain ⟨i, h1, hi, rfl, hA, B0, b0⟩ := hrel
    have HA := Lib.hid hA
    clear hA
    have B0c := B0.cells
    by_cases hlt : i + 1 < nk
    · have d1 : decide ((i : Int) < (nk : Int) - 1) = true := decide_eq_true (by omega)
      have F1 := Lib.hid (first_any s (HR.out.below b0 (Nat.le_refl _)) i (by omega))
      have HX : Hid (szV (sizeN (partN s 0 i)) = szV (sizeTo s i)) := by show _ = _; rw [sizeN_first s i (by rw [HK.out]; omega)]
      have bx := szV_bd (sizeTo s i)
      have HY : Hid (∀ j, j = i → szV (sizeTo s j) = szV (sizeTo s i)) := fun j h => by rw [h]
      generalize szV (sizeTo s i) = X at *
      go_upto_region 7 with (first
        | ((with_reducible refine Calls.mono F1.out ?_); rintro e w1 ⟨K1, nk1, ck1, V1, nv1, cv1, D1, nd1, cd1, rfl, n1, hb1⟩; have S1 := Lib.hid (rsize_any (partN s 0 i) n1); rw [HX.out] at S1)
        | ((with_reducible refine Calls.mono S1.out ?_); rintro e w2 ⟨rfl, hb2⟩))
      have b12 := hb1.trans (hb2.mono hb1.size)
      refine wp_world (fun U => Blk U w.heap.size 25 [.bool s.leaf, .slice K nk ck, .slice V nv cv, .slice D nd cd] ∧ Below w.heap.size w U) ⟨B0.below b12 B0.lt, b0.trans (b12.mono b0.size)⟩ ?_
      clear B0 b0 B0c F1 S1 n1 hb1 hb2 b12 HX
      rintro U2 ⟨B0, b0⟩
      have B0c := B0.cells
      have T1 := Lib.hid (HSz.out b0)
      have hdd := tdiv2_bd bz
      by_cases hq : Z.tdiv 2 ≤ X
      · have HI : Hid (isSplit s i) := ⟨h1, by rw [HK.out]; omega, HA.out, fun _ => by rw [HH.out, HY.out i rfl]; exact hq⟩
        have d2 : decide (Z.tdiv 2 ≤ X) = true := decide_eq_true hq
        have HB0 := Lib.hid B0
        clear B0
        go_wp2_with ((with_reducible refine Calls.mono T1.out ?_); rintro e w1 ⟨rfl, hb1⟩)
        go_ret
        exact ⟨i, rfl, .inr ⟨by rw [HK.out]; omega, HI.out⟩, b0.trans (hb1.mono b0.size)⟩
      · have HQ : Hid (X < Z.tdiv 2) := by show _ < _; omega
        have d2 : decide (Z.tdiv 2 ≤ X) = false := decide_eq_false hq
        have HB0 := Lib.hid B0
        clear B0
        go_wp2_with ((with_reducible refine Calls.mono T1.out ?_); rintro e w1 ⟨rfl, hb1⟩)
        go_roundw
        case rel => exact ⟨i + 1, by omega, by omega, by go_num, fun j h1 h2 => by
          by_cases hji : j = i
          · rw [HY.out j hji, HH.out]; exact HQ.out
          · exact HA.out j h1 (by omega), HB0.out.below hb1 HB0.out.lt, b0.trans (hb1.mono b0.size)⟩
        case measure => simp [intOf]; omega
    · have HI : Hid (isSplit s i) := ⟨h1, by rw [HK.out]; omega, HA.out, fun h => by rw [HK.out] at h; omega⟩
      have d1 : decide ((i : Int) < (nk : Int) - 1) = false := decide_eq_false (by omega)
      have hnn : nk = i + 1 := by omega
      have HN := Lib.hid hnn
      clear hnn
      go_wp2
      go_ret
      exact ⟨i, by have := HN.out; subst this; rw [show ((i + 1 : Nat) : Int) - 1 = (i : Int) by omega]; rfl, .inr ⟨by rw [HK.out]; omega, HI.out⟩, b0⟩
end Go.Proofs.Ytnjpibbmgbiofaa
