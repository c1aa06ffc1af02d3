/- node.Place of a leaf. No condition. -/
import Derived.Test.YtdakohbfibcjeaaTvN
namespace Go.Proofs.Ytdakohbfibcjeaa
open Go.RowKit

def placeL (s : Nd) (key : ByteArray) : Nat → Nat
  | 0 => 0
  | k + 1 => if Op.bytesLess (kAt s k).toList key.toList then k + 1 else placeL s key k

set_option maxHeartbeats 2000000 in
theorem nplace_leaf {s : Nd} (hlf : s.leaf = true) (key : ByteArray) {w : World} {lo : Nat} {K V D : Option Addr} {nk ck nv cv nd cd : Nat} (h : NdR w lo s K nk ck V nv cv D nd cd) :
    Calls Try.prog 27 #[.agg #[.bool s.leaf, .slice K nk ck, .slice V nv cv, .slice D nd cd], .string key] w fun e w' => e = .returned (.int .i64 (placeL s key nk : Nat)) ∧ Below w.heap.size w w' := by
  rw [hlf]
  have HR := Lib.hid h
  have hc1 := h.keys.2.1
  have hc2 := h.keys.2.2.1
  have hb : Below w.heap.size w (w.alloc (.cells #[.bool true, .slice K nk ck, .slice V nv cv, .slice D nd cd] 59)) := (Below.refl _ _).alloc (Nat.le_refl _) _
  clear h hlf
  go_enter Try.func27, Try.ntmps27
  go_wp2
  refine wp_world (fun U => Blk U w.heap.size 59 [.bool true, .slice K nk ck, .slice V nv cv, .slice D nd cd] ∧ Below w.heap.size w U)
    ⟨(Blk.new w _ [.bool true, .slice K nk ck, .slice V nv cv, .slice D nd cd]), hb⟩ ?_
  clear hb
  rintro U ⟨hB, hU⟩
  have hBc := hB.cells
  have HRU := Lib.hid (HR.out.below hU (Nat.le_refl _))
  clear hB HR
  go_loopw [5, 10] (fun s5 s10 wr => ∃ i : Nat, i ≤ nk ∧ s10 = .int .i64 i ∧ s5 = .int .i64 (placeL s key i : Nat) ∧ ∃ q, wr = U.drewN q) (fun _ s10 _ => nk - (intOf s10).toNat)
  case atStart => exact ⟨0, Nat.zero_le _, rfl, rfl, 0, rfl⟩
  case round =>
    obtain ⟨i, hi, rfl, rfl, q, rfl⟩ := hrel
    by_cases hlt : i < nk
    · obtain ⟨b, o, rfl, _, _⟩ := HRU.out.keys.at_ (by omega)
      have c0 : U.cell? ⟨b, o + i, none⟩ = some (.string (kAt s i)) := sl_cell HRU.out.keys i hlt
      have HP : Hid (placeL s key (i + 1) = if Op.bytesLess (kAt s i).toList key.toList then i + 1 else placeL s key i) := rfl
      generalize kAt s i = kk at *
      generalize placeL s key i = pp at *
      have fin : ∀ b1, Op.bytesLess kk.toList key.toList = b1 → placeL s key (i + 1) = if b1 then i + 1 else pp := fun b1 h1 => by rw [← h1]; exact HP.out
      have HFin := Lib.hid fin
      clear fin HP
      rcases h1 : Op.bytesLess kk.toList key.toList
      all_goals
        have HE := Lib.hid (HFin.out _ h1)
        clear HFin
        go_wp2
        go_roundw
        case rel => exact ⟨i + 1, by omega, by go_num, by rw [HE.out]; rfl, _, rfl⟩
        case measure => simp [intOf]; omega
    · obtain rfl : i = nk := by omega
      have hq := below_drewN hU q
      go_wp2
      go_ret
      exact ⟨rfl, hq⟩
end Go.Proofs.Ytdakohbfibcjeaa
