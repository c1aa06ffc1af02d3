/- A block's sector as plain lists of bytes. No condition. -/
import Derived.Test.YtjndopmjlbhajaaPlainA
namespace Go.Proofs.Ytjndopmjlbhajaa
/-- a number's four bytes, the lowest first -/
def le4 (s : Nat) : List UInt8 := [UInt8.ofNat (s % 256), UInt8.ofNat (s / 256 % 256), UInt8.ofNat (s / 65536 % 256), UInt8.ofNat (s / 16777216 % 256)]
@[simp] theorem length_le4 (s : Nat) : (le4 s).length = 4 := rfl
def blkHead (n kind : Nat) (l : List UInt8) : List UInt8 := [UInt8.ofNat kind, UInt8.ofNat l.length, UInt8.ofNat (n % 256), UInt8.ofNat (n / 256), 0, 0, 0, 0]
def blkData (n kind : Nat) (l : List UInt8) : List UInt8 := blkHead n kind l ++ (l ++ List.replicate (244 - l.length) 0)
def blkSector (n kind : Nat) (l : List UInt8) : List UInt8 := blkData n kind l ++ le4 (crc (blkData n kind l))
theorem length_blkData (n kind : Nat) (l : List UInt8) (h : l.length ≤ 244) : (blkData n kind l).length = 252 := by
  simp [blkData, blkHead]; omega
theorem length_blkSector (n kind : Nat) (l : List UInt8) (h : l.length ≤ 244) : (blkSector n kind l).length = 256 := by
  simp [blkSector, length_blkData n kind l h]
theorem blkData_eq (n kind : Nat) (l : List UInt8) (k : Nat) (h : 8 + l.length + k = 252) : blkHead n kind l ++ l ++ List.replicate k 0 = blkData n kind l := by
  unfold blkData
  rw [List.append_assoc, show 244 - l.length = k by omega]
theorem le4_snoc (s j : Nat) (h : j < 4) : (le4 s).take (j + 1) = (le4 s).take j ++ [UInt8.ofNat (s / 2 ^ (8 * j) % 256)] := by
  match j, h with
  | 0, _ => simp [le4]
  | 1, _ => simp [le4]
  | 2, _ => simp [le4]
  | 3, _ => simp [le4]
def blkKind (s : List UInt8) : Nat := (s.getD 0 0).toNat
def blkLen (s : List UInt8) : Nat := (s.getD 1 0).toNat
def blkBody (s : List UInt8) : List UInt8 := (s.drop 8).take (blkLen s)
def blkMay (n kind : Int) (m : Nat) : Prop := 0 ≤ n ∧ n ≤ 65535 ∧ 1 ≤ kind ∧ kind ≤ 4 ∧ m ≤ 240
instance (n kind : Int) (m : Nat) : Decidable (blkMay n kind m) := by unfold blkMay; infer_instance
/-- what a sector is read as: 0: a block; else the error -/
def blkCode (n : Int) (s : List UInt8) : Nat :=
  if s.length ≠ 256 then 1
  else if s.drop 252 ≠ le4 (crc (s.take 252)) then 6
  else if 240 < blkLen s then 7
  else if blkMay n (blkKind s) (blkLen s) ∧ blkSector n.toNat (blkKind s) (blkBody s) = s then 0
  else 7
theorem length_blkBody (s : List UInt8) (h : s.length = 256) (h2 : blkLen s ≤ 240) : (blkBody s).length = blkLen s := by
  unfold blkBody; simp; omega
theorem take_drop_snoc (l : List UInt8) (i j : Nat) (h : i + j < l.length) : (l.drop i).take (j + 1) = (l.drop i).take j ++ [l.getD (i + j) 0] := by
  rw [List.take_succ_eq_append_getElem (by simp; omega)]
  simp [List.getD_eq_getElem?_getD, List.getElem?_eq_getElem h]
theorem cast_shift (s j : Nat) : (s : Int) / 2 ^ (8 * j) % 256 = ((s / 2 ^ (8 * j) % 256 : Nat) : Int) := by simp
theorem y_ne {y : UInt8} {s j : Nat} (h : ((y.toNat : Int) != (s : Int) / 2 ^ (8 * j) % 256) = true) : y ≠ UInt8.ofNat (s / 2 ^ (8 * j) % 256) := by
  rw [cast_shift, bne_iff_ne] at h
  rintro rfl
  exact h (by simp)
theorem y_eq {y : UInt8} {s j : Nat} (h : ((y.toNat : Int) != (s : Int) / 2 ^ (8 * j) % 256) = false) : y = UInt8.ofNat (s / 2 ^ (8 * j) % 256) := by
  rw [cast_shift, bne_eq_false_iff_eq] at h
  apply UInt8.toNat.inj
  simp only [UInt8.toNat_ofNat']
  omega
end Go.Proofs.Ytjndopmjlbhajaa
namespace Go.Proofs.Ytjndopmjlbhajaa

theorem eq_of_xor {a b : Nat} (h : a ^^^ b = 0) : a = b := by
  have : (a ^^^ b) ^^^ b = b := by rw [h, Nat.zero_xor]
  rwa [Nat.xor_assoc, Nat.xor_self, Nat.xor_zero] at this

theorem crcStep_xor (x y : Nat) : crcStep (x ^^^ y) = crcStep x ^^^ crcStep y := by
  have h1 : (x ^^^ y) / 2 = x / 2 ^^^ y / 2 := by
    have := Nat.shiftRight_xor_distrib (a := x) (b := y) (i := 1)
    simpa [Nat.shiftRight_eq_div_pow] using this
  have h2 : (x ^^^ y) % 2 = (x % 2 + y % 2) % 2 := by
    have := Nat.xor_mod_two_pow (a := x) (b := y) (n := 1)
    simp only [Nat.pow_one] at this
    rw [this]
    have hx : x % 2 = 0 ∨ x % 2 = 1 := by omega
    have hy : y % 2 = 0 ∨ y % 2 = 1 := by omega
    rcases hx with hx | hx <;> rcases hy with hy | hy <;> rw [hx, hy] <;> rfl
  unfold crcStep
  rw [h1, h2]
  have hx : x % 2 = 0 ∨ x % 2 = 1 := by omega
  have hy : y % 2 = 0 ∨ y % 2 = 1 := by omega
  rcases hx with hx | hx <;> rcases hy with hy | hy <;> rw [hx, hy] <;> simp
  · rw [Nat.xor_assoc]
  · rw [Nat.xor_assoc, Nat.xor_comm (y / 2), ← Nat.xor_assoc]
  · rw [Nat.xor_assoc, Nat.xor_comm 2197175160, Nat.xor_assoc, Nat.xor_self, Nat.xor_zero]
theorem crcStep_zero : crcStep 0 = 0 := rfl
theorem crcStep_double (y : Nat) : crcStep (2 * y) = y := by
  unfold crcStep
  rw [if_neg (by omega)]
  omega
theorem crcStep_eq_zero {x : Nat} (h : x < 4294967296) (h0 : crcStep x = 0) : x = 0 := by
  unfold crcStep at h0
  split at h0
  · have := eq_of_xor h0
    omega
  · omega
theorem crcSteps_xor (n x y : Nat) : crcSteps n (x ^^^ y) = crcSteps n x ^^^ crcSteps n y := by
  induction n with
  | zero => rfl
  | succ n ih => simp only [crcSteps, ih, crcStep_xor]
theorem crcSteps_zero (n : Nat) : crcSteps n 0 = 0 := by
  induction n with
  | zero => rfl
  | succ n ih => simp only [crcSteps, ih, crcStep_zero]
theorem crcSteps_eq_zero {x : Nat} (h : x < 4294967296) : ∀ n, crcSteps n x = 0 → x = 0
  | 0, h0 => h0
  | n + 1, h0 => crcSteps_eq_zero h n (crcStep_eq_zero (crcSteps_lt h n) h0)
theorem crcSteps_inj {x y : Nat} (hx : x < 4294967296) (hy : y < 4294967296) (n : Nat) (h : crcSteps n x = crcSteps n y) : x = y := by
  have h1 : crcSteps n (x ^^^ y) = 0 := by rw [crcSteps_xor, h, Nat.xor_self]
  exact eq_of_xor (crcSteps_eq_zero (Nat.xor_lt_two_pow (n := 32) hx hy) n h1)
theorem crcSteps_add (a b x : Nat) : crcSteps (a + b) x = crcSteps a (crcSteps b x) := by
  induction a with
  | zero => simp [crcSteps]
  | succ a ih => rw [show a + 1 + b = (a + b) + 1 by omega]; simp only [crcSteps, ih]
theorem crcSteps_pow_mul (k y : Nat) : crcSteps k (2 ^ k * y) = y := by
  induction k generalizing y with
  | zero => simp [crcSteps]
  | succ k ih =>
    rw [crcSteps_add k 1, show crcSteps 1 (2 ^ (k + 1) * y) = 2 ^ k * y from ?_, ih]
    show crcStep (2 ^ (k + 1) * y) = _
    rw [show 2 ^ (k + 1) * y = 2 * (2 ^ k * y) by rw [Nat.pow_succ]; simp [Nat.mul_left_comm, Nat.mul_comm]]
    exact crcStep_double _
theorem crcSteps_pow (n k : Nat) (h : k ≤ n) : crcSteps n (2 ^ k) = crcSteps (n - k) 1 := by
  have := crcSteps_pow_mul k 1
  rw [Nat.mul_one] at this
  rw [show n = (n - k) + k by omega, crcSteps_add, this, Nat.add_sub_cancel]
theorem crcByte_xor (x d : Nat) (b : UInt8) : crcByte (x ^^^ d) b = crcByte x b ^^^ crcSteps 8 d := by
  unfold crcByte
  rw [Nat.xor_assoc, Nat.xor_comm d, ← Nat.xor_assoc, crcSteps_xor]
theorem crcReg_xor (l : List UInt8) : ∀ x d : Nat, crcReg (x ^^^ d) l = crcReg x l ^^^ crcSteps (8 * l.length) d := by
  induction l with
  | nil => intro x d; simp [crcReg, crcSteps]
  | cons b l ih =>
    intro x d
    show crcReg (crcByte (x ^^^ d) b) l = crcReg (crcByte x b) l ^^^ _
    rw [crcByte_xor, ih, List.length_cons, show 8 * (l.length + 1) = 8 * l.length + 8 by omega, crcSteps_add]

/-- bit i of bytes is turned -/
def flip (s : List UInt8) (i : Nat) : List UInt8 := s.set (i / 8) (UInt8.ofNat ((s.getD (i / 8) 0).toNat ^^^ 2 ^ (i % 8)))
@[simp] theorem length_flip (s : List UInt8) (i : Nat) : (flip s i).length = s.length := by simp [flip]
theorem crcReg_flip (s : List UInt8) : ∀ (x i : Nat), i < 8 * s.length → crcReg x (flip s i) = crcReg x s ^^^ crcSteps (8 * s.length - i) 1 := by
  induction s with
  | nil => intro x i h; simp at h
  | cons b t ih =>
    intro x i h
    by_cases h8 : i < 8
    · have e : i / 8 = 0 := by omega
      have e2 : i % 8 = i := by omega
      have hp : 2 ^ i < 256 := Nat.pow_lt_pow_right (by omega) (show i < 8 from h8)
      have hlt : b.toNat ^^^ 2 ^ i < 256 := Nat.xor_lt_two_pow (n := 8) b.toNat_lt hp
      unfold flip
      rw [e, e2]
      show crcReg (crcByte x (UInt8.ofNat (b.toNat ^^^ 2 ^ i))) t = crcReg (crcByte x b) t ^^^ _
      have hb : crcByte x (UInt8.ofNat (b.toNat ^^^ 2 ^ i)) = crcByte x b ^^^ crcSteps 8 (2 ^ i) := by
        unfold crcByte
        rw [show (UInt8.ofNat (b.toNat ^^^ 2 ^ i)).toNat = b.toNat ^^^ 2 ^ i by simp only [UInt8.toNat_ofNat']; exact Nat.mod_eq_of_lt hlt, ← Nat.xor_assoc, crcSteps_xor]
      rw [hb, crcReg_xor, ← crcSteps_add, List.length_cons, show 8 * t.length + 8 = 8 * (t.length + 1) by omega, crcSteps_pow _ _ (by omega)]
    · have hf : flip (b :: t) i = b :: flip t (i - 8) := by
        have e : i / 8 = (i - 8) / 8 + 1 := by omega
        have e2 : i % 8 = (i - 8) % 8 := by omega
        unfold flip
        rw [e, e2]
        simp
      rw [hf]
      show crcReg (crcByte x b) (flip t (i - 8)) = crcReg (crcByte x b) t ^^^ _
      rw [List.length_cons] at h ⊢
      rw [ih _ _ (by omega), show 8 * (t.length + 1) - i = 8 * t.length - (i - 8) by omega]

theorem add_xor (k a b : Nat) (h : b < 2 ^ k) : 2 ^ k * a + b = (2 ^ k * a) ^^^ b := by
  apply Nat.eq_of_testBit_eq
  intro j
  rw [Nat.testBit_two_pow_mul_add a h, Nat.testBit_xor, Nat.testBit_two_pow_mul]
  by_cases hj : j < k
  · simp [hj, show ¬ k ≤ j by omega]
  · have : b.testBit j = false := Nat.testBit_lt_two_pow (Nat.lt_of_lt_of_le h (Nat.pow_le_pow_right (by omega) (by omega)))
    simp [hj, this, show k ≤ j by omega]
theorem crcReg_le4 (x c : Nat) (hc : c < 4294967296) : crcReg x (le4 c) = crcSteps 32 (x ^^^ c) := by
  have step : ∀ (y n c : Nat), crcSteps (n + 8) (y ^^^ c) = crcSteps n (crcSteps 8 (y ^^^ (c % 256)) ^^^ (c / 256)) := by
    intro y n c
    have h := add_xor 8 (c / 256) (c % 256) (by omega)
    rw [crcSteps_add, show y ^^^ c = (y ^^^ (c % 256)) ^^^ (2 ^ 8 * (c / 256)) from ?_, crcSteps_xor 8, crcSteps_pow_mul]
    rw [Nat.xor_assoc, Nat.xor_comm (c % 256), ← h]
    congr 1
    omega
  have b : ∀ n : Nat, (UInt8.ofNat (n % 256)).toNat = n % 256 := by intro n; simp
  rw [show (32 : Nat) = 24 + 8 from rfl, step x 24 c, show (24 : Nat) = 16 + 8 from rfl, step _ 16 (c / 256), show (16 : Nat) = 8 + 8 from rfl, step _ 8 (c / 256 / 256), show (8 : Nat) = 0 + 8 from rfl, step _ 0 (c / 256 / 256 / 256)]
  show crcByte (crcByte (crcByte (crcByte x _) _) _) _ = _
  unfold crcByte
  rw [b, b, b, b]
  rw [show c / 256 / 256 / 256 / 256 = 0 by omega, Nat.xor_zero]
  rw [show c / 65536 = c / 256 / 256 by omega, show c / 16777216 = c / 256 / 256 / 256 by omega]
  rfl
theorem le4_inj {a b : Nat} (ha : a < 4294967296) (hb : b < 4294967296) (h : le4 a = le4 b) : a = b := by
  have e := congrArg (List.map UInt8.toNat) h
  simp [le4] at e
  omega
theorem le4_of (l : List UInt8) (h : l.length = 4) : ∃ c, c < 4294967296 ∧ l = le4 c := by
  match l, h with
  | [a, b, c, d], _ =>
    have ha := a.toNat_lt
    have hb := b.toNat_lt
    have hc := c.toNat_lt
    have hd := d.toNat_lt
    refine ⟨a.toNat + 256 * b.toNat + 65536 * c.toNat + 16777216 * d.toNat, by omega, ?_⟩
    have e : ∀ (x : UInt8) (n : Nat), n = x.toNat → x = UInt8.ofNat n := by intro x n h; subst h; simp
    unfold le4
    rw [← e a _ (by omega), ← e b _ (by omega), ← e c _ (by omega), ← e d _ (by omega)]
/-- a sector's sum is right just if its register is so -/
theorem valid_iff (s : List UInt8) (h : s.length = 256) : s.drop 252 = le4 (crc (s.take 252)) ↔ crcReg 4294967295 s = crcSteps 32 4294967295 := by
  obtain ⟨c, hc, hd⟩ := le4_of (s.drop 252) (by simp [h])
  have hr : crcReg 4294967295 s = crcReg (crcReg 4294967295 (s.take 252)) (s.drop 252) := by
    have : s = s.take 252 ++ s.drop 252 := (List.take_append_drop 252 s).symm
    conv => lhs; rw [this]
    simp only [crcReg, List.foldl_append]
  have hR : crcReg 4294967295 (s.take 252) < 4294967296 := crcReg_lt _ (by omega)
  rw [hr, hd, crcReg_le4 _ _ hc]
  unfold crc
  generalize crcReg 4294967295 (s.take 252) = R at *
  have hn := not_nat32 R hR
  constructor
  · intro e
    have := le4_inj hc (by omega) e
    rw [this, ← hn, Nat.xor_comm R, Nat.xor_assoc, Nat.xor_self, Nat.xor_zero]
  · intro e
    have h1 := crcSteps_inj (Nat.xor_lt_two_pow (n := 32) hR hc) (by omega) 32 e
    have h2 : c = 4294967295 - R := by
      rw [← hn, ← h1, Nat.xor_comm R, Nat.xor_assoc, Nat.xor_self, Nat.xor_zero]
    rw [h2]

/-- what the first k bits of a mask turn, from bit 'at' on; and what it is in the register -/
def mbits (mask a n : Nat) : Nat → Nat
  | 0 => 0
  | k + 1 => if mask / 2 ^ k % 2 = 1 ∧ a + k < n then mbits mask a n k + 2 ^ k else mbits mask a n k
def flips (mask a n : Nat) (s : List UInt8) : Nat → List UInt8
  | 0 => s
  | k + 1 => if mask / 2 ^ k % 2 = 1 ∧ a + k < n then flip (flips mask a n s k) (a + k) else flips mask a n s k
theorem mbits_lt (mask a n : Nat) : ∀ k, mbits mask a n k < 2 ^ k
  | 0 => by simp [mbits]
  | k + 1 => by
    have := mbits_lt mask a n k
    unfold mbits
    rw [Nat.pow_succ]
    split <;> omega
theorem length_flips (mask a n : Nat) (s : List UInt8) : ∀ k, (flips mask a n s k).length = s.length
  | 0 => rfl
  | k + 1 => by
    unfold flips
    split
    · rw [length_flip, length_flips mask a n s k]
    · exact length_flips mask a n s k
theorem flips_zero (mask a n : Nat) (s : List UInt8) : ∀ k, mbits mask a n k = 0 → flips mask a n s k = s
  | 0, _ => rfl
  | k + 1, h => by
    have hp : 0 < 2 ^ k := Nat.pow_pos (by omega)
    unfold mbits at h
    unfold flips
    split at h
    · omega
    · rename_i hc
      rw [if_neg hc]
      exact flips_zero mask a n s k h
theorem crcReg_flips (mask a : Nat) (s : List UInt8) (x : Nat) : ∀ k, crcReg x (flips mask a (8 * s.length) s k) = crcReg x s ^^^ crcSteps (8 * s.length - a) (mbits mask a (8 * s.length) k)
  | 0 => by simp [flips, mbits, crcSteps_zero]
  | k + 1 => by
    have ih := crcReg_flips mask a s x k
    have hl := length_flips mask a (8 * s.length) s k
    unfold flips mbits
    by_cases h : mask / 2 ^ k % 2 = 1 ∧ a + k < 8 * s.length
    · rw [if_pos h, if_pos h, crcReg_flip _ _ _ (by rw [hl]; exact h.2), ih, hl, Nat.xor_assoc]
      congr 1
      have hb := mbits_lt mask a (8 * s.length) k
      have e := add_xor k 1 (mbits mask a (8 * s.length) k) hb
      rw [Nat.mul_one] at e
      rw [Nat.add_comm (mbits mask a (8 * s.length) k) (2 ^ k), e, crcSteps_xor, crcSteps_pow _ _ (by omega), Nat.xor_comm, show 8 * s.length - a - k = 8 * s.length - (a + k) by omega]
    · rw [if_neg h, if_neg h, ih]
theorem flips_crc (mask a : Nat) (s : List UInt8) : crcReg 4294967295 (flips mask a (8 * s.length) s 32) = crcReg 4294967295 s ↔ mbits mask a (8 * s.length) 32 = 0 := by
  rw [crcReg_flips]
  have hb := mbits_lt mask a (8 * s.length) 32
  constructor
  · intro h
    have h1 : crcSteps (8 * s.length - a) (mbits mask a (8 * s.length) 32) = 0 := by
      have := congrArg (crcReg 4294967295 s ^^^ ·) h
      simpa [← Nat.xor_assoc] using this
    exact crcSteps_eq_zero hb _ h1
  · intro h
    rw [h, crcSteps_zero, Nat.xor_zero]
theorem flips_valid (mask a : Nat) (s : List UInt8) (h : s.length = 256) (hv : s.drop 252 = le4 (crc (s.take 252))) :
    (flips mask a 2048 s 32).drop 252 = le4 (crc ((flips mask a 2048 s 32).take 252)) ↔ mbits mask a 2048 32 = 0 := by
  have e : 8 * s.length = 2048 := by omega
  have h1 := flips_crc mask a s
  rw [e] at h1
  rw [valid_iff _ (by rw [length_flips, h]), ← (valid_iff s h).1 hv, h1]
theorem flips_sum (mask a : Nat) (s : List UInt8) : crc (flips mask a (8 * s.length) s 32) = crc s ↔ mbits mask a (8 * s.length) 32 = 0 := by
  have h1 : crcReg 4294967295 s < 4294967296 := crcReg_lt s (by omega)
  have h2 : crcReg 4294967295 (flips mask a (8 * s.length) s 32) < 4294967296 := crcReg_lt _ (by omega)
  rw [← flips_crc]
  unfold crc
  omega
end Go.Proofs.Ytjndopmjlbhajaa
