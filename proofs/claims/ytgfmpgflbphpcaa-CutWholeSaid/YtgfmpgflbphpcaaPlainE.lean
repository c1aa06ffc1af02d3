/- The digest as a plain function of bytes. No condition. -/
import Derived.Test.YtgfmpgflbphpcaaPlainB
namespace Go.Proofs.Ytgfmpgflbphpcaa

def shaK : List Nat := [1116352408, 1899447441, 3049323471, 3921009573, 961987163, 1508970993, 2453635748, 2870763221, 3624381080, 310598401, 607225278, 1426881987, 1925078388, 2162078206, 2614888103, 3248222580, 3835390401, 4022224774, 264347078, 604807628, 770255983, 1249150122, 1555081692, 1996064986, 2554220882, 2821834349, 2952996808, 3210313671, 3336571891, 3584528711, 113926993, 338241895, 666307205, 773529912, 1294757372, 1396182291, 1695183700, 1986661051, 2177026350, 2456956037, 2730485921, 2820302411, 3259730800, 3345764771, 3516065817, 3600352804, 4094571909, 275423344, 430227734, 506948616, 659060556, 883997877, 958139571, 1322822218, 1537002063, 1747873779, 1955562222, 2024104815, 2227730452, 2361852424, 2428436474, 2756734187, 3204031479, 3329325298]
def shaH : List Nat := [1779033703, 3144134277, 1013904242, 2773480762, 1359893119, 2600822924, 528734635, 1541459225]
def rotr (x n : Nat) : Nat := x / 2 ^ n + x % 2 ^ n * 2 ^ (32 - n)
def sig0 (x : Nat) : Nat := rotr x 7 ^^^ rotr x 18 ^^^ x / 8
def sig1 (x : Nat) : Nat := rotr x 17 ^^^ rotr x 19 ^^^ x / 1024
def word4 (b : List UInt8) (i : Nat) : Nat := (b.getD (4 * i) 0).toNat * 16777216 + (b.getD (4 * i + 1) 0).toNat * 65536 + (b.getD (4 * i + 2) 0).toNat * 256 + (b.getD (4 * i + 3) 0).toNat
/-- the words of 64 bytes, up to the n-th -/
def sched (b : List UInt8) : Nat → List Nat
  | 0 => []
  | n + 1 => let w := sched b n
    w ++ [if n < 16 then word4 b n else (w.getD (n - 16) 0 + sig0 (w.getD (n - 15) 0) + w.getD (n - 7) 0 + sig1 (w.getD (n - 2) 0)) % 4294967296]
def shaT (e f g h k w : Nat) : Nat := (h + (rotr e 6 ^^^ rotr e 11 ^^^ rotr e 25) + ((e &&& f) ^^^ ((4294967295 - e) &&& g)) + k + w) % 4294967296
def shaU (a b c : Nat) : Nat := (rotr a 2 ^^^ rotr a 13 ^^^ rotr a 22) + ((a &&& b) ^^^ (a &&& c) ^^^ (b &&& c))
def shaStep (x : List Nat) (k w : Nat) : List Nat :=
  match x with
  | [a, b, c, d, e, f, g, h] => [(shaT e f g h k w + shaU a b c) % 4294967296, a, b, c, (d + shaT e f g h k w) % 4294967296, e, f, g]
  | l => l
def shaRounds (s w : List Nat) : Nat → List Nat
  | 0 => s
  | n + 1 => shaStep (shaRounds s w n) (shaK.getD n 0) (w.getD n 0)
def addW (s x : List Nat) : List Nat := List.zipWith (fun a b => (a + b) % 4294967296) s x
def shaBlock (s : List Nat) (b : List UInt8) : List Nat := addW s (shaRounds s (sched b 64) 64)
def padZ (n : Nat) : Nat := (120 - (n + 1) % 64) % 64
def be8 (n : Nat) : Nat → List UInt8
  | 0 => []
  | k + 1 => be8 n k ++ [UInt8.ofNat (n / 2 ^ (56 - 8 * k) % 256)]
def shaPad (l : List UInt8) : List UInt8 := l ++ [128] ++ List.replicate (padZ l.length) 0 ++ be8 (8 * l.length) 8
/-- the first n blocks -/
def shaBlocks (s : List Nat) (l : List UInt8) : Nat → List Nat
  | 0 => s
  | n + 1 => shaBlock (shaBlocks s l n) ((l.drop (64 * n)).take 64)
def be4 (x : Nat) : List UInt8 := [UInt8.ofNat (x / 16777216 % 256), UInt8.ofNat (x / 65536 % 256), UInt8.ofNat (x / 256 % 256), UInt8.ofNat (x % 256)]
def shaOut (s : List Nat) : List UInt8 := s.flatMap be4
def sha (l : List UInt8) : List UInt8 := shaOut (shaBlocks shaH (shaPad l) ((shaPad l).length / 64))

theorem shaK_lt : ∀ k ∈ shaK, k < 4294967296 := by decide
theorem rotr_lt {x n : Nat} (h : x < 4294967296) (h0 : 0 < n) (hn : n < 32) : rotr x n < 4294967296 := by
  unfold rotr
  have h1 : 2 ^ n * 2 ^ (32 - n) = 4294967296 := by rw [← Nat.pow_add, show n + (32 - n) = 32 by omega]
  have hp : 0 < 2 ^ n := Nat.pow_pos (by omega)
  have hm := Nat.mod_lt x hp
  have hd : x / 2 ^ n < 2 ^ (32 - n) := by
    rw [Nat.div_lt_iff_lt_mul hp, Nat.mul_comm, h1]; exact h
  calc x / 2 ^ n + x % 2 ^ n * 2 ^ (32 - n) < 2 ^ (32 - n) + x % 2 ^ n * 2 ^ (32 - n) := by omega
    _ = (x % 2 ^ n + 1) * 2 ^ (32 - n) := by rw [Nat.add_mul]; omega
    _ ≤ 2 ^ n * 2 ^ (32 - n) := Nat.mul_le_mul_right _ hm
    _ = 4294967296 := h1
theorem xor_lt {a b : Nat} (ha : a < 4294967296) (hb : b < 4294967296) : a ^^^ b < 4294967296 := Nat.xor_lt_two_pow (n := 32) ha hb
theorem and_lt {a b : Nat} (ha : a < 4294967296) : a &&& b < 4294967296 := Nat.lt_of_le_of_lt Nat.and_le_left ha
theorem sig0_lt {x : Nat} (h : x < 4294967296) : sig0 x < 4294967296 := xor_lt (xor_lt (rotr_lt h (by omega) (by omega)) (rotr_lt h (by omega) (by omega))) (by omega)
theorem sig1_lt {x : Nat} (h : x < 4294967296) : sig1 x < 4294967296 := xor_lt (xor_lt (rotr_lt h (by omega) (by omega)) (rotr_lt h (by omega) (by omega))) (by omega)
theorem word4_lt (b : List UInt8) (i : Nat) : word4 b i < 4294967296 := by
  have h0 := (b.getD (4 * i) 0).toNat_lt
  have h1 := (b.getD (4 * i + 1) 0).toNat_lt
  have h2 := (b.getD (4 * i + 2) 0).toNat_lt
  have h3 := (b.getD (4 * i + 3) 0).toNat_lt
  unfold word4
  omega
theorem length_sched (b : List UInt8) (n : Nat) : (sched b n).length = n := by
  induction n with
  | zero => rfl
  | succ n ih => simp [sched, ih]
theorem sched_lt (b : List UInt8) (n : Nat) : ∀ w ∈ sched b n, w < 4294967296 := by
  induction n with
  | zero => intro w h; cases h
  | succ n ih =>
    intro w h
    simp only [sched, List.mem_append, List.mem_singleton] at h
    rcases h with h | rfl
    · exact ih w h
    · split
      · exact word4_lt b n
      · exact Nat.mod_lt _ (by omega)
theorem sched_getD (b : List UInt8) (n i : Nat) : (sched b n).getD i 0 < 4294967296 := by
  rw [List.getD_eq_getElem?_getD]
  cases h : (sched b n)[i]? with
  | none => simp
  | some w => exact sched_lt b n w (List.mem_of_getElem? h)
end Go.Proofs.Ytgfmpgflbphpcaa
