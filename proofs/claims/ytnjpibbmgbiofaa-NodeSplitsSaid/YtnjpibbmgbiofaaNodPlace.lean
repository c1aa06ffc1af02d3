/- node.Place of a node that is no leaf; kistref09.Same. No condition. -/
import Derived.Test.YtnjpibbmgbiofaaNodGet
namespace Go.Proofs.Ytnjpibbmgbiofaa
open Go.RowKit

def placeTo (s : Nd) (key : ByteArray) : Nat → Nat
  | 0 => 0
  | k + 1 => if (Op.bytesLess (kAt s k).toList key.toList || (kAt s k).toList == key.toList) then k else placeTo s key k

set_option maxHeartbeats 2000000 in
theorem nplace_inner {s : Nd} (hlf : s.leaf = false) (key : ByteArray) {w : World} {lo : Nat} {K V D : Option Addr} {nk ck nv cv nd cd : Nat} (h : NdR w lo s K nk ck V nv cv D nd cd) :
    Calls Try.prog 31 #[.agg #[.bool s.leaf, .slice K nk ck, .slice V nv cv, .slice D nd cd], .string key] w fun e w' => e = .returned (.int .i64 (placeTo s key nk : Nat)) ∧ Below w.heap.size w w' := by
  rw [hlf]
  have HR := Lib.hid h
  have hc1 := h.keys.2.1
  have hc2 := h.keys.2.2.1
  have hb : Below w.heap.size w (w.alloc (.cells #[.bool false, .slice K nk ck, .slice V nv cv, .slice D nd cd] 26)) := (Below.refl _ _).alloc (Nat.le_refl _) _
  clear h hlf
  go_enter Try.func31, Try.ntmps31
  go_wp2
  refine wp_world (fun U => Blk U w.heap.size 26 [.bool false, .slice K nk ck, .slice V nv cv, .slice D nd cd] ∧ Below w.heap.size w U)
    ⟨(Blk.new w _ [.bool false, .slice K nk ck, .slice V nv cv, .slice D nd cd]), hb⟩ ?_
  clear hb
  rintro U ⟨hB, hU⟩
  have hBc := hB.cells
  have HRU := Lib.hid (HR.out.below hU (Nat.le_refl _))
  clear hB HR
  go_loopw [5, 10] (fun s5 s10 wr => ∃ i : Nat, i ≤ nk ∧ s10 = .int .i64 i ∧ s5 = .int .i64 (placeTo s key i : Nat) ∧ ∃ q, wr = U.drewN q) (fun _ s10 _ => nk - (intOf s10).toNat)
  case atStart => exact ⟨0, Nat.zero_le _, rfl, rfl, 0, rfl⟩
  case round =>
    obtain ⟨i, hi, rfl, rfl, q, rfl⟩ := hrel
    by_cases hlt : i < nk
    · obtain ⟨b, o, rfl, _, _⟩ := HRU.out.keys.at_ (by omega)
      have c0 : U.cell? ⟨b, o + i, none⟩ = some (.string (kAt s i)) := sl_cell HRU.out.keys i hlt
      have HP : Hid (placeTo s key (i + 1) = if (Op.bytesLess (kAt s i).toList key.toList || (kAt s i).toList == key.toList) then i else placeTo s key i) := rfl
      generalize kAt s i = kk at *
      generalize placeTo s key i = pp at *
      have fin : ∀ b1 b2, Op.bytesLess kk.toList key.toList = b1 → (kk.toList == key.toList) = b2 → placeTo s key (i + 1) = if (b1 || b2) then i else pp := fun b1 b2 h1 h2 => by rw [← h1, ← h2]; exact HP.out
      have HFin := Lib.hid fin
      clear fin HP
      rcases h1 : Op.bytesLess kk.toList key.toList <;> rcases h2 : (kk.toList == key.toList)
      all_goals
        have HE := Lib.hid (HFin.out _ _ h1 h2)
        clear HFin
        go_wp2
        go_roundw
        case rel => exact ⟨i + 1, by omega, by go_num, by rw [HE.out]; rfl, _, rfl⟩
        case measure => simp [intOf]; omega
    · obtain rfl : i = nk := by omega
      have hq := below_drewN hU q
      go_wp2
      go_ret
      exact ⟨rfl, hq⟩

set_option maxHeartbeats 400000 in
theorem bsame_any (k1 k2 : Int) {A1 A2 : Option Addr} {m1 m2 c1 c2 : Nat} {l1 l2 : List UInt8} {lo1 lo2 : Nat} {w : World} (h1 : Bs w lo1 A1 m1 c1 l1) (h2 : Bs w lo2 A2 m2 c2 l2) :
    Calls Try.prog 15 #[.agg #[.int .i64 k1, .slice A1 m1 c1], .agg #[.int .i64 k2, .slice A2 m2 c2]] w fun e w' => e = .returned (.bool (decide (k1 = k2 ∧ l1 = l2))) ∧ Below w.heap.size w w' := by
  have hb : Below w.heap.size w ((w.alloc (.cells #[.int .i64 k1, .slice A1 m1 c1] 34)).alloc (.cells #[.int .i64 k2, .slice A2 m2 c2] 34)) := ((Below.refl _ _).alloc (Nat.le_refl _) _).alloc (by simp) _
  have r1 := Lib.hid (h1.below hb (Nat.le_refl _))
  have r2 := Lib.hid (h2.below hb (Nat.le_refl _))
  clear h1 h2
  by_cases hk : k1 = k2
  · subst hk
    go_enter Try.func15, Try.ntmps15
    go_wp2_with (go_at_call 28; refine (same_any r1.out r2.out).mono ?_; rintro e w6 ⟨rfl, q6, rfl⟩)
    go_ret
    exact ⟨by simp, below_drewN hb _⟩
  · have hk' : (k1 == k2) = false := by simp [hk]
    go_enter Try.func15, Try.ntmps15
    go_wp2_with (go_at_call 28; refine (same_any r1.out r2.out).mono ?_; rintro e w6 ⟨rfl, q6, rfl⟩)
    go_ret
    exact ⟨by simp [hk], below_drewN hb _⟩
end Go.Proofs.Ytnjpibbmgbiofaa
