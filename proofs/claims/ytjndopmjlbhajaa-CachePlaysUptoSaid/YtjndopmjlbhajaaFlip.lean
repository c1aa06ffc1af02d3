/- Bits of bytes turned one after the other: what the laws on bursts need. No condition. -/
import Derived.Test.YtjndopmjlbhajaaBytes
import Derived.Test.YtjndopmjlbhajaaPlainBD
namespace Go.Proofs.Ytjndopmjlbhajaa
open Go.RowKit

def chg (mask a n k : Nat) : Bool := decide (mbits mask a n k ≠ 0)
theorem chg_yes {mask a n k : Nat} (h : mask / 2 ^ k % 2 = 1 ∧ a + k < n) : chg mask a n (k + 1) = true := by
  have : 0 < 2 ^ k := Nat.pow_pos (by omega)
  unfold chg mbits
  rw [if_pos h]
  exact decide_eq_true (by omega)
theorem chg_no {mask a n k : Nat} (h : ¬ (mask / 2 ^ k % 2 = 1 ∧ a + k < n)) : chg mask a n (k + 1) = chg mask a n k := by
  unfold chg
  rw [mbits, if_neg h]
theorem flips_yes {mask a n k : Nat} (s : List UInt8) (h : mask / 2 ^ k % 2 = 1 ∧ a + k < n) : flips mask a n s (k + 1) = flip (flips mask a n s k) (a + k) := by
  rw [flips, if_pos h]
theorem flips_no {mask a n k : Nat} (s : List UInt8) (h : ¬ (mask / 2 ^ k % 2 = 1 ∧ a + k < n)) : flips mask a n s (k + 1) = flips mask a n s k := by
  rw [flips, if_neg h]
theorem flip_val (y : UInt8) (r : Nat) (h : r < 8) : Value.int .u8 (bits .xor .u8 (y.toNat : Int) (2 ^ r % 256)) = bv (UInt8.ofNat (y.toNat ^^^ 2 ^ r)) := by
  have hp : 2 ^ r < 256 := Nat.pow_lt_pow_right (by omega) (show r < 8 from h)
  have hlt : y.toNat ^^^ 2 ^ r < 256 := Nat.xor_lt_two_pow (n := 8) y.toNat_lt hp
  have := u8_xor y.toNat (2 ^ r) y.toNat_lt hp
  refine bv_of _ _ ?_
  rw [Nat.mod_eq_of_lt hlt, ← this]
  congr 1
  have e : ((2 : Int) ^ r) = ((2 ^ r : Nat) : Int) := by rw [Int.natCast_pow]; rfl
  rw [e]
  generalize 2 ^ r = q at *
  omega
theorem bvs_set (l : List UInt8) (j : Nat) (b : UInt8) : (bvs l).set j (bv b) = bvs (l.set j b) := by simp [bvs, List.map_set]
theorem mask_bit (mask k : Nat) (h : mask < 4294967296) : bits .and .u32 ((mask : Int) / 2 ^ k) 1 = ((mask / 2 ^ k % 2 : Nat) : Int) := by
  have h1 : mask / 2 ^ k < 4294967296 := Nat.lt_of_le_of_lt (Nat.div_le_self _ _) h
  have := u32_and (mask / 2 ^ k) 1 h1 (by omega)
  rw [Nat.and_one_is_mod] at this
  rw [← this]
  simp

theorem own_free {w : World} {base e s g n c : Nat} {xs : List Value} (h : Own w base e s (some ⟨g, 0, none⟩) n c xs) (k : Nat) : w.frozen? ⟨g, k, none⟩ = false := by
  rcases h.cases with ⟨h0, _⟩ | ⟨g', cur, e1, hb, hh, _⟩
  · cases h0
  · injection e1 with e1
    injection e1 with e1
    subst e1
    simp [World.frozen?, hh]
end Go.Proofs.Ytjndopmjlbhajaa
