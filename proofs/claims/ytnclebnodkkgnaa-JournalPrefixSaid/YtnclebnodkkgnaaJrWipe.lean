/- journal.Wipe. Condition: fewer than 2^39 - 1 versions of a sector. -/
import Derived.Test.YtnclebnodkkgnaaJrL
import Derived.Test.YtnclebnodkkgnaaJrRots
import Derived.Test.YtnclebnodkkgnaaDkC
namespace Go.Proofs.Ytnclebnodkkgnaa
open Go.RowKit
set_option linter.unusedSimpArgs false
set_option linter.unusedVariables false

def z256 : List UInt8 := List.replicate 256 0
theorem z256_len : z256.length = 256 := List.length_replicate
theorem make_256 (w : World) : (Instr.makeSlice 33 (.int .i64 256) (.int .i64 256)).run Try.prog w = .ok (.slice (some ⟨w.heap.size, 0, none⟩) 256 256) (w.alloc (.cells (bvs z256).toArray 5)) := make_by 256 (by omega) w
def wipeTo (s : Dsk) : Nat → Dsk
  | 0 => s
  | i + 1 => writeD (wipeTo s i) (2 + i) z256
section
variable {s : Dsk} {i k n G : Nat}
theorem wipeTo_n : (wipeTo s i).n = s.n := by
  induction i with
  | zero => rfl
  | succ i ih => rw [wipeTo, writeD_n, ih]
theorem wipeTo_far (h : k < 2 ∨ 2 + i ≤ k) : (wipeTo s i).vers k = s.vers k := by
  induction i with
  | zero => rfl
  | succ i ih => rw [wipeTo, writeD_far _ (by omega), ih (by omega)]
theorem wipeTo_has (hc : s.cut = false) : (wipeTo s i).cut = false ∧ ∀ k, hasD (wipeTo s i) k = (if 2 ≤ k ∧ k < 2 + i then z256 else hasD s k) := by
  induction i with
  | zero => exact ⟨hc, fun k => by rw [if_neg (by omega)]; rfl⟩
  | succ i ih =>
    obtain ⟨h1, h2⟩ := ih
    rw [wipeTo, writeD_cut h1]
    refine ⟨h1, fun k => ?_⟩
    rw [hasD_write, h2 k]
    by_cases e : k = 2 + i
    · rw [if_pos e, if_pos (by omega)]
    · rw [if_neg e]
      by_cases e2 : 2 ≤ k ∧ k < 2 + i
      · rw [if_pos e2, if_pos (by omega)]
      · rw [if_neg e2, if_neg (by omega)]
def wipeD (s : Dsk) : Dsk := flushD (wipeTo s 48)
theorem wipe_all (hc : s.cut = false) (hv : ∀ k, s.n ≤ k → s.vers k = []) (hn : 50 ≤ s.n) : (wipeD s).n = s.n ∧ (wipeD s).cut = false ∧ (∀ k, (wipeD s).vers k = []) ∧ ∀ k, hasD (wipeD s) k = if 2 ≤ k ∧ k < 50 then z256 else hasD s k := by
  obtain ⟨h1, h2⟩ := wipeTo_has (i := 48) hc
  have hf := flush_secs (s := wipeTo s 48) h1 (fun k hk => by rw [wipeTo_n] at hk; rw [wipeTo_far (by omega)]; exact hv k hk)
  obtain ⟨h3, h4⟩ := flush_cut (s := wipeTo s 48) h1
  exact ⟨by rw [wipeD, h4, wipeTo_n], by rw [wipeD]; exact h3, fun k => by rw [wipeD]; exact (hf k).2.2, fun k => by rw [wipeD, (hf k).1, h2 k]⟩
theorem hasD_newD (n k : Nat) : hasD (newD n) k = z256 := by simp only [hasD, newD, List.getLast?_nil, Option.getD_none, z256]
theorem jrn_wiped (hn : 50 ≤ n) : Jrn (wipeD (newD n)) n G (fun _ => z256) [] := by
  obtain ⟨h1, h2, h3, h4⟩ := wipe_all (s := newD n) rfl (fun _ _ => rfl) hn
  refine ⟨h1, h2, Nat.zero_le _, trivial, fun k _ => ?_, fun k => ?_⟩
  · rw [h4, hasD_newD, ite_self]
  · rw [h3, if_neg (by show ¬ (2 ≤ k ∧ k < 2 + 0); omega)]; rfl
end

set_option maxRecDepth 100000 in
set_option maxHeartbeats 4000000 in
theorem wipe_any {w : World} {base : Nat} {d : Dw} {s : Dsk} (h : Dk w base d s) (hs : 50 ≤ s.n) (hv : ∀ k, k < s.n → (s.vers k).length < 549755813887) :
    Calls Try.prog 24 #[.pointer (some ⟨d.g, 0, none⟩)] w fun e w' => e = .returned (.int .i64 0) ∧ ∃ d', Ch w w' base d d' (wipeD s) := by
  have C0 := may_ok h hs (G := 1) (by omega)
  push_cast at C0
  have C := Lib.hid C0
  have HV := Lib.hid hv
  have HI := Lib.hid (Ch.init h)
  obtain ⟨gd, hgd⟩ : ∃ gd, gd = d.g := ⟨_, rfl⟩
  have HG := Lib.hid hgd
  rw [← hgd] at C ⊢
  have hmk := make_256
  clear C0 h hv hgd
  go_enter Try.func24, Try.ntmps24
  go_upto_region 3 with ((with_reducible refine Calls.mono C.out ?_); rintro e wa ⟨rfl, rfl⟩)
  go_wp2
  go_loopw [8] (fun s8 wr => ∃ (i : Nat) (d1 : Dw), i ≤ 48 ∧ s8 = .int .i64 i ∧ Ch wa wr base d d1 (wipeTo s i)) (fun s8 _ => 48 - (intOf s8).toNat)
  case atStart => exact ⟨0, d, by omega, rfl, HI.out⟩
  case round =>
    clear HI
    obtain ⟨i, d1, hi, rfl, hc⟩ := hrel
    by_cases hlt : i < 48
    · have hb := (Below.refl wr.heap.size wr).alloc (Nat.le_refl _) (.cells (bvs z256).toArray 5)
      have hB := (Blk.new wr 5 (bvs z256)).bs0 0 256 256 (Nat.zero_le _) (Nat.le_refl _) (by omega) z256_len
      have W0 := dwrite_ok (k := 2 + i) (hc.dk.below hb (Nat.le_refl _)) (by rw [wipeTo_n]; omega) (by rw [wipeTo_far (.inr (Nat.le_refl _))]; exact HV.out _ (by omega)) hB (fun x => by have := (hc.dk.foot_base _ x).2; exact absurd this (Nat.lt_irrefl _))
      rw [hc.g, ← HG.out] at W0
      push_cast at W0
      have W := Lib.hid W0
      have HC := Lib.hid hc
      have HB := Lib.hid hb
      clear W0 hc hb hB
      go_wp2_with ((with_reducible refine Calls.mono W.out ?_); rintro e w6 ⟨rfl, d2, h2, hg2, hk2, hf2⟩)
      go_roundw
      case rel => exact ⟨i + 1, d2, by omega, by norm_cast, HC.out.trans (Ch.pre (d2 := d2) ⟨h2, hg2.trans (HG.out.trans HC.out.g.symm), hk2, hf2⟩ HB.out (Nat.le_refl _))⟩
      case measure => simp only [intOf]; omega
    · obtain rfl : i = 48 := by omega
      have F0 := dflush_any hc.dk
      rw [hc.g, ← HG.out] at F0
      have F := Lib.hid F0
      have HC := Lib.hid hc
      clear F0 hc
      go_wp2_with ((with_reducible refine Calls.mono F.out ?_); rintro e w6 ⟨rfl, d2, h2, hg2, hk2, hf2⟩)
      go_ret
      exact ⟨rfl, d2, HC.out.trans ⟨h2, hg2.trans (HG.out.trans HC.out.g.symm), hk2, hf2⟩⟩
end Go.Proofs.Ytnclebnodkkgnaa
