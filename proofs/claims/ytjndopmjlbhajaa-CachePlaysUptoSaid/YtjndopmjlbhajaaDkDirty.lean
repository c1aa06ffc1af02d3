/- disk.Dirty: the sectors with versions, ascending. No condition. -/
import Derived.Test.YtjndopmjlbhajaaKeysLay
import Derived.Test.YtjndopmjlbhajaaDkFls
import Derived.Test.YtjndopmjlbhajaaLibL
namespace Go.Proofs.Ytjndopmjlbhajaa
open Go.RowKit Go.Maps Go.Sort Go.Shelf Go.Proofs

/-- the sectors with versions -/
def dirtyL (s : Dsk) : List Nat := (List.range s.n).filter fun k => !(s.vers k).isEmpty
theorem mem_dirty {s : Dsk} {k : Nat} : k ∈ dirtyL s ↔ k < s.n ∧ s.vers k ≠ [] := by
  unfold dirtyL
  rw [List.mem_filter, List.mem_range]
  simp
theorem dirty_asc (s : Dsk) : (dirtyL s).Pairwise (· < ·) := (List.pairwise_lt_range).filter _
theorem dirty_ints (s : Dsk) : ((dirtyL s).map fun k : Nat => (k : Int)).mergeSort leI = (dirtyL s).map fun k : Nat => (k : Int) := by
  refine List.mergeSort_of_pairwise ?_
  rw [List.pairwise_map]
  refine (dirty_asc s).imp fun {a b} h => ?_
  simp only [leI, decide_eq_true_eq]
  omega
theorem encZ_iv (l : List Nat) : (l.map fun k : Nat => (k : Int)).map encZ = iv l := by simp [iv]
theorem MapD.keys {w : World} {d : Dw} {s : Dsk} {D : DataW Value} (h : MapD w d s D) (hs : s.n ≤ 4096) : ((dirtyL s).map fun k : Nat => (k : Int)).Perm (intKeys D) ∧ size D ≤ s.n := by
  obtain ⟨es0, he, hp, hkey⟩ := h.1.entries law3
  have hk : ∀ p ∈ es0, ∃ j, j < s.n ∧ p.1 = kl j := fun p hm => by
    obtain ⟨j, hj, e, _⟩ := h.2.2 p.1 (by rw [he]; exact List.any_eq_true.2 ⟨p, hm, WideAt.sameKey_self (hkey p hm)⟩)
    exact ⟨j, hj, e⟩
  refine ⟨?_, by rw [he, size_eq]; exact keys_le s.n es0 (by omega) hp hk⟩
  have hp2 := perm_intKeys (es := es0) hp (fun p hm => by obtain ⟨j, _, e⟩ := hk p hm; exact ⟨(j : Int), e⟩) (ss := (dirtyL s).map fun k : Nat => (k : Int)) ?_ ?_
  · rw [he]; exact hp2
  · refine List.pairwise_map.2 ((dirty_asc s).imp fun {a b} h => ?_)
    omega
  · intro x
    rw [List.mem_map, ← he]
    constructor
    · rintro ⟨k, hk, rfl⟩
      obtain ⟨h1, h2⟩ := mem_dirty.1 hk
      cases hh : has D (.int .i64 (k : Int)) with
      | true => rfl
      | false => exact absurd (not_has h h1 hh) h2
    · intro hx
      obtain ⟨j, hj, e, hv⟩ := h.2.2 _ hx
      injection e with _ e
      exact ⟨j, mem_dirty.2 ⟨hj, hv⟩, e.symm⟩

theorem sortsA (m : Nat) : AnyZI.SortsIn Try.prog sortedA_ren Fence.wide m :=
  ⟨fun blk off cap ss W hH hblk hsz => callsIn_wide.2 (AnyM.slices_Sort_int sortA blk off cap ss W hH hblk hsz),
   fun p cap W => callsIn_wide.2 (AnyM.slices_Sort_int_none sortA p cap W)⟩

set_option maxHeartbeats 1000000 in
theorem dirty_any {w : World} {base : Nat} {d : Dw} {s : Dsk} (h : Dk w base d s) :
    Calls Try.prog 18 #[.pointer (some ⟨d.g, 0, none⟩)] w fun e w' => ∃ A c, e = .returned (.slice A (dirtyL s).length c) ∧ Own w' w.heap.size 3 1 A (dirtyL s).length c (iv (dirtyL s)) ∧ Below w.heap.size w w' := by
  refine (callsIn_wide (n := 6)).1 ?_
  have bc := h.blk.cells
  obtain ⟨D, hD⟩ := h.map
  have hsm := h.small
  obtain ⟨hperm, hsz⟩ := hD.keys hsm.2
  have hown := hD.1
  have hbl := hown.lt
  have hseq : SeqGives Fence.wide 2 Try.prog 64 #[.pointer (some ⟨w.heap.size, 0, none⟩)] encZ (fun ss => ss.Perm (intKeys D)) (Maps.size D) (w.alloc (.cells #[.map (some d.M)] 62)) :=
    AnyZI.keys_gives (ρ := keysA_ren) { keysA with } Fence.wide _ trivial rfl (by omega) w.heap.size d.M s.n D _ (by simp) (by simp) (by
      obtain ⟨es, clock, hb, Ft, hs, hD⟩ := hown
      exact ⟨es, clock, (Below.heap_alloc _ _ d.M hbl).trans hb, Ft, hs, hD⟩)
  have cK : ∀ mb W, CallsIn Fence.wide 5 Try.prog 39 #[.map mb] W fun e w' => e = .returned (.func (.func 64) #[] #[.pointer (some ⟨W.heap.size, 0, none⟩)]) ∧ w' = W.alloc (.cells #[.map mb] 62) := fun mb W => AnyZI.keys_in keysA Fence.wide 5 trivial rfl mb W
  have cS := AnyZI.sorted_in sortedA Fence.wide 5 trivial trivial trivial trivial rfl (by omega) (sortsA _) (enters_of Try.func63 (by kernel_rfl) rfl) 64 #[.pointer (some ⟨w.heap.size, 0, none⟩)] trivial (enters_of Try.func64 (by kernel_rfl) rfl) _ _ (by unfold maxLen; omega) (by omega) _ hseq
  change CallsIn _ _ Try.prog 38 _ _ _ at cS
  have HP := Lib.hid hperm
  clear hD hperm hown hseq h hsz
  have hfK : Fence.wide.fn 39 := trivial
  have hfS : Fence.wide.fn 38 := trivial
  refine callsIn_of_wp Try.func18 rfl trivial ?_ rfl
  simp only [Try.ntmps18, List.size_toArray, List.length_cons, List.length_nil, Nat.reduceAdd, Nat.reduceSub, Array.replicate_succ, Array.replicate_zero, List.push_toArray, List.append_toArray, List.nil_append, List.cons_append]
  gi_wp2_with (first
    | (gi_at_call 39; refine (cK _ _).mono ?_; rintro e w' ⟨rfl, rfl⟩)
    | (gi_at_call 38; refine cS.mono ?_; rintro e w' ⟨v, ss, rfl, hS, hrow, hnil, hb⟩))
  go_ret
  have hs2 : ss.mergeSort leI = (dirtyL s).map fun k : Nat => (k : Int) := by rw [mergeSort_of_perm_i (hS.trans HP.out.symm), dirty_ints]
  have hlen : ss.length = (dirtyL s).length := by rw [← List.length_mergeSort (le := leI), hs2, List.length_map]
  rw [hs2, encZ_iv, hlen] at hrow
  have hv : ∃ A c, v = .slice A (dirtyL s).length c := by
    rcases hrow.2 with ⟨h1, h0⟩ | ⟨g, cap, cur, h1, _⟩
    · exact ⟨none, 0, by rw [h1, h0]⟩
    · exact ⟨_, _, h1⟩
  obtain ⟨A, c, rfl⟩ := hv
  exact ⟨A, c, rfl, ownsRow_base_a hrow (by simp), ((Below.refl _ w).alloc (Nat.le_refl _) _).trans (hb.mono (by simp))⟩
end Go.Proofs.Ytjndopmjlbhajaa
