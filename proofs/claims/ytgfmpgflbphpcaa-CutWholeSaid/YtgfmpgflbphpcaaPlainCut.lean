/- Where bytes are cut: the plain function. No condition. -/
import Derived.Test.YtgfmpgflbphpcaaPlainF
namespace Go.Proofs.Ytgfmpgflbphpcaa

/-- a byte's number -/
def gearN (b : UInt8) : Nat := ((sha [b]).getD 0 0).toNat + 256 * ((sha [b]).getD 1 0).toNat + 65536 * ((sha [b]).getD 2 0).toNat + 16777216 * ((sha [b]).getD 3 0).toNat
theorem gearN_lt (b : UInt8) : gearN b < 4294967296 := by
  have h0 := ((sha [b]).getD 0 0).toNat_lt
  have h1 := ((sha [b]).getD 1 0).toNat_lt
  have h2 := ((sha [b]).getD 2 0).toNat_lt
  have h3 := ((sha [b]).getD 3 0).toNat_lt
  unfold gearN
  omega
/-- the chunks so far, the mark, how long the chunk is -/
structure CutS where
  out : List Nat
  mark : Nat
  n : Nat
def isCut (mark n : Nat) : Bool := n == 512 || (decide (64 ≤ n) && mark % 128 == 0)
def cutB (s : CutS) (b : UInt8) : CutS :=
  if isCut ((2 * s.mark + gearN b) % 4294967296) (s.n + 1) then ⟨s.out ++ [s.n + 1], 0, 0⟩ else ⟨s.out, (2 * s.mark + gearN b) % 4294967296, s.n + 1⟩
def cutR (l : List UInt8) : CutS := l.foldl cutB ⟨[], 0, 0⟩
def cuts (l : List UInt8) : List Nat := if 0 < (cutR l).n then (cutR l).out ++ [(cutR l).n] else (cutR l).out
theorem cutR_snoc (l : List UInt8) (k : Nat) (h : k < l.length) : cutR (l.take (k + 1)) = cutB (cutR (l.take k)) (l.getD k 0) := by
  rw [List.take_succ_eq_append_getElem h, List.getD_eq_getElem?_getD, List.getElem?_eq_getElem h]
  simp only [cutR, List.foldl_append, List.foldl_cons, List.foldl_nil, Option.getD_some]
theorem cutB_n (s : CutS) (b : UInt8) (h : s.n < 512) : (cutB s b).n < 512 := by
  unfold cutB isCut
  split
  · simp
  · rename_i h1
    simp at h1
    simp; omega
theorem cutR_n (l : List UInt8) : (cutR l).n < 512 := by
  unfold cutR
  suffices ∀ s : CutS, s.n < 512 → (l.foldl cutB s).n < 512 from this _ (by simp)
  induction l with
  | nil => intro s h; exact h
  | cons b l ih => intro s h; exact ih _ (cutB_n s b h)
theorem cutB_mark (s : CutS) (b : UInt8) : (cutB s b).mark < 4294967296 := by
  unfold cutB
  split
  · simp
  · exact Nat.mod_lt _ (by omega)
theorem cutR_mark (l : List UInt8) : (cutR l).mark < 4294967296 := by
  unfold cutR
  suffices ∀ s : CutS, s.mark < 4294967296 → (l.foldl cutB s).mark < 4294967296 from this _ (by simp)
  induction l with
  | nil => intro s h; exact h
  | cons b l ih => intro s _; exact ih _ (cutB_mark s b)
theorem length_cutR (l : List UInt8) : (cutR l).out.length ≤ l.length := by
  unfold cutR
  suffices ∀ s : CutS, (l.foldl cutB s).out.length ≤ s.out.length + l.length by simpa using this ⟨[], 0, 0⟩
  induction l with
  | nil => intro s; simp
  | cons b l ih =>
    intro s
    have h1 := ih (cutB s b)
    have h2 : (cutB s b).out.length ≤ s.out.length + 1 := by unfold cutB; split <;> simp
    simp only [List.foldl_cons, List.length_cons]
    omega
/-- the numbers of the bytes that stand in l, by the bytes -/
def tab (l : List UInt8) : List Nat := (List.range 256).map fun k => if UInt8.ofNat k ∈ l then gearN (UInt8.ofNat k) else 0
theorem length_tab (l : List UInt8) : (tab l).length = 256 := by simp [tab]
theorem tab_get (l : List UInt8) (b : UInt8) : (tab l).getD b.toNat 0 = if b ∈ l then gearN b else 0 := by
  have h := b.toNat_lt
  rw [List.getD_eq_getElem?_getD, tab, List.getElem?_map, List.getElem?_range (by omega)]
  simp
theorem tab_nil : tab [] = List.replicate 256 0 := by
  rw [tab, List.eq_replicate_iff]
  simp
theorem tab_snoc (l : List UInt8) (b : UInt8) : (tab l).set b.toNat (gearN b) = tab (l ++ [b]) := by
  apply List.ext_getElem
  · simp [length_tab]
  · intro i h1 h2
    have hi : i < 256 := by simpa [length_tab] using h2
    rw [List.getElem_set]
    simp only [tab, List.getElem_map, List.getElem_range, List.mem_append, List.mem_singleton]
    by_cases e : b.toNat = i
    · subst e
      simp
    · have hne : ¬ UInt8.ofNat i = b := by
        rintro rfl
        exact e (by rw [UInt8.toNat_ofNat']; omega)
      rw [if_neg e]
      simp [hne]
theorem tab_same (l : List UInt8) (b : UInt8) (h : b ∈ l) : tab (l ++ [b]) = tab l := by
  unfold tab
  apply List.map_congr_left
  intro k _
  by_cases e : UInt8.ofNat k ∈ l
  · simp [e]
  · have hne : ¬ UInt8.ofNat k = b := by rintro rfl; exact e h
    simp [e, hne]
end Go.Proofs.Ytgfmpgflbphpcaa
