/- The statement DiskCuts: its plain part, and where the law keeps what it wrote. No condition. -/
import Derived.Test.YtnclebnodkkgnaaDkLv
import Derived.Test.YtnclebnodkkgnaaFactsD
namespace Go.Proofs.Ytnclebnodkkgnaa
open Go.RowKit
set_option linter.unusedSimpArgs false
set_option linter.unusedVariables false

structure CutI (s : Dsk) (N0 nn i : Nat) (ll : Nat → List UInt8) : Prop where
  n_ : s.n = 12
  cut_ : s.cut = true
  left_ : (s.left = (nn : Int) ∨ nn = 0) ∧ -(i : Int) ≤ s.left ∧ s.left ≤ (nn : Int)
  nn_ : nn ≤ 20
  lies_ : ∀ k, s.lies k = List.replicate 256 0
  has_ : ∀ k, hasD s k = if ll k = [] then List.replicate 256 0 else ll k
  cnt : ∀ k, (s.vers k).length + nn ≤ N0
  len : ∀ k, ll k = [] ∨ (ll k).length = 256

theorem cutI_new {N0 : Nat} (h : N0 ≤ 20) : CutI (cutD (newD 12) N0) N0 N0 0 (fun _ => []) :=
  ⟨rfl, rfl, ⟨.inl rfl, by show -((0 : Nat) : Int) ≤ (N0 : Int); omega, by show (N0 : Int) ≤ N0; omega⟩, h, fun _ => rfl, fun _ => rfl, fun _ => by show 0 + N0 ≤ N0; omega, fun _ => .inl rfl⟩
theorem CutI.idle {s : Dsk} {N0 nn i : Nat} {ll : Nat → List UInt8} (h : CutI s N0 nn i ll) : CutI s N0 nn (i + 1) ll :=
  ⟨h.n_, h.cut_, ⟨h.left_.1, by have := h.left_.2.1; omega, h.left_.2.2⟩, h.nn_, h.lies_, h.has_, h.cnt, h.len⟩
theorem CutI.ok {s : Dsk} {N0 nn i : Nat} {ll : Nat → List UInt8} (h : CutI s N0 nn i ll) (hn : 0 < nn) : doneOk s = true ∧ s.left = (nn : Int) ∧ wrap64 (s.left - 1) = (nn : Int) - 1 := by
  have hl : s.left = (nn : Int) := by rcases h.left_.1 with e | e; exact e; omega
  have := h.nn_
  have hw : wrap64 (s.left - 1) = (nn : Int) - 1 := by rw [hl]; unfold wrap64; omega
  refine ⟨?_, hl, hw⟩
  unfold doneOk
  rw [hw, decide_eq_true (by omega), Bool.or_true]
theorem CutI.put {s : Dsk} {N0 nn i k : Nat} {ll : Nat → List UInt8} {x : List UInt8} (h : CutI s N0 nn i ll) (hn : 0 < nn) (hx : x.length = 256) :
    CutI (writeD s k x) N0 (nn - 1) (i + 1) (fun j => if j = k then x else ll j) := by
  obtain ⟨h1, h2, h3⟩ := h.ok hn
  have hd : doneS s = { s with left := wrap64 (s.left - 1) } := by unfold doneS; rw [h.cut_]; rfl
  have hw : writeD s k x = writeS { s with left := wrap64 (s.left - 1) } k x := by unfold writeD; rw [h1, hd]; rfl
  rw [hw, h3]
  refine ⟨h.n_, h.cut_, ⟨.inl ?_, ?_, ?_⟩, ?_, h.lies_, fun j => ?_, fun j => ?_, fun j => ?_⟩
  · show (nn : Int) - 1 = ((nn - 1 : Nat) : Int); omega
  · show -((i + 1 : Nat) : Int) ≤ (nn : Int) - 1; omega
  · show (nn : Int) - 1 ≤ ((nn - 1 : Nat) : Int); omega
  · have := h.nn_; omega
  · by_cases e : j = k
    · subst e
      have hx0 : x ≠ [] := by intro e; rw [e] at hx; cases hx
      show hasD _ j = if (if j = j then x else ll j) = [] then _ else (if j = j then x else ll j)
      rw [if_pos rfl, if_neg hx0]
      unfold hasD writeS
      simp
    · show hasD _ j = if (if j = k then x else ll j) = [] then _ else (if j = k then x else ll j)
      rw [if_neg e, ← h.has_ j]
      unfold hasD writeS
      show ((if j = k then _ else s.vers j : List (List UInt8)).getLast?).getD (s.lies j) = _
      rw [if_neg e]
  · show (if j = k then s.vers k ++ [x] else s.vers j : List (List UInt8)).length + (nn - 1) ≤ N0
    have := h.cnt j
    have := h.cnt k
    by_cases e : j = k
    · rw [if_pos e, List.length_append]; simp; omega
    · rw [if_neg e]; omega
  · show (if j = k then x else ll j) = [] ∨ (if j = k then x else ll j).length = 256
    by_cases e : j = k
    · rw [if_pos e]; exact .inr hx
    · rw [if_neg e]; exact h.len j
theorem CutI.lost {s : Dsk} {N0 i k : Nat} {ll : Nat → List UInt8} {x : List UInt8} (h : CutI s N0 0 i ll) (hi : i ≤ 4611686018427387904) :
    CutI (writeD s k x) N0 0 (i + 1) ll := by
  have hl := h.left_
  have hw : wrap64 (s.left - 1) = s.left - 1 := by unfold wrap64; omega
  have h1 : doneOk s = false := by
    unfold doneOk
    rw [h.cut_, hw, decide_eq_false (by omega)]
    rfl
  have hd : doneS s = { s with left := wrap64 (s.left - 1) } := by unfold doneS; rw [h.cut_]; rfl
  have hwr : writeD s k x = { s with left := wrap64 (s.left - 1) } := by unfold writeD; rw [h1, hd]; rfl
  rw [hwr, hw]
  exact ⟨h.n_, h.cut_, ⟨.inr rfl, by show -((i + 1 : Nat) : Int) ≤ s.left - 1; omega, by show s.left - 1 ≤ ((0 : Nat) : Int); omega⟩, h.nn_, h.lies_, h.has_, h.cnt, h.len⟩
/-- the end: the power goes, a write behind it is there -/
theorem CutI.gone {s : Dsk} {N0 nn i : Nat} {ll : Nat → List UInt8} (h : CutI s N0 nn i ll) : hasD (powerD s []) 3 = z256 := by
  have h2 := ((power_all s []).2.2 3 (by rw [h.n_]; omega)).1
  rw [hasD_flat h2, power_nil, h.lies_]
  rfl
theorem CutI.again {s : Dsk} {N0 nn i : Nat} {ll : Nat → List UInt8} (h : CutI s N0 nn i ll) (x : List UInt8) : hasD (writeD (powerD s []) 3 x) 3 = x := by
  rw [write_new (power_all s []).2.1]
  unfold hasD writeS
  simp

/-- the law's list of what was written -/
structure LastI (w : World) (d : Dw) (g : Nat) (vs : List Value) (ll : Nat → List UInt8) : Prop where
  blk : Blk w g 56 vs
  len : vs.length = 12
  off : ¬ d.foot g
  at_ : ∀ k, k < 12 → ∃ A m c, vs[k]? = some (.slice A m c) ∧ Bs w 0 A m c (ll k) ∧ (0 < m → ∀ b, ablk A = some b → ¬ d.foot b ∧ b ≠ g ∧ b < w.heap.size)
section
variable {w w' : World} {base : Nat} {d d' : Dw} {s' : Dsk} {g : Nat} {vs : List Value} {ll : Nat → List UInt8}
theorem LastI.below (h : LastI w d g vs ll) (hb : Below w.heap.size w w') : LastI w' d g vs ll :=
  ⟨h.blk.below hb h.blk.lt, h.len, h.off, fun k hk => by
    obtain ⟨A, m, c, h1, h2, h3⟩ := h.at_ k hk
    exact ⟨A, m, c, h1, h2.below hb (Nat.le_refl _), fun hm b hb' => ⟨(h3 hm b hb').1, (h3 hm b hb').2.1, Nat.lt_of_lt_of_le (h3 hm b hb').2.2 hb.size⟩⟩⟩
theorem LastI.ch (h : LastI w d g vs ll) (c : Ch w w' base d d' s') : LastI w' d' g vs ll :=
  ⟨c.K.blk h.blk h.off, h.len, c.away h.off h.blk.lt, fun k hk => by
    obtain ⟨A, m, c', h1, h2, h3⟩ := h.at_ k hk
    exact ⟨A, m, c', h1, h2.kept c.K (fun hm b hb => (h3 hm b hb).1), fun hm b hb' => ⟨c.away (h3 hm b hb').1 (h3 hm b hb').2.2, (h3 hm b hb').2.1, Nat.lt_of_lt_of_le (h3 hm b hb').2.2 c.K.size⟩⟩⟩
theorem LastI.set_ (h : LastI w d g vs ll) {k b n c : Nat} (hk : k < 12) {x : List UInt8} (hx : Bs w 0 (some ⟨b, 0, none⟩) n c x) (hb : ¬ d.foot b) (hg : b ≠ g) (hl : b < w.heap.size) :
    LastI (w.setCell ⟨g, k, none⟩ (.slice (some ⟨b, 0, none⟩) n c)) d g (vs.set k (.slice (some ⟨b, 0, none⟩) n c)) (fun j => if j = k then x else ll j) := by
  have K : Kept (fun y => y = g) w (w.setCell ⟨g, k, none⟩ (.slice (some ⟨b, 0, none⟩) n c)) := ⟨rfl, rfl, rfl, by simp, fun y _ hn => Below.heap_setCell w _ _ y hn⟩
  refine ⟨h.blk.set_ k _, by rw [List.length_set]; exact h.len, h.off, fun j hj => ?_⟩
  by_cases e : j = k
  · subst e
    refine ⟨_, n, c, by rw [List.getElem?_set_self (by rw [h.len]; exact hj)], ?_, fun _ b' e => ?_⟩
    · rw [if_pos rfl]
      exact hx.kept K (fun _ b' e => by injection e with e; rw [← e]; exact hg)
    · injection e with e
      subst e
      exact ⟨hb, hg, Nat.lt_of_lt_of_le hl K.size⟩
  · obtain ⟨A, m, c', h1, h2, h3⟩ := h.at_ j hj
    refine ⟨A, m, c', by rw [List.getElem?_set_ne (Ne.symm e)]; exact h1, ?_, fun hm b' e => ⟨(h3 hm b' e).1, (h3 hm b' e).2.1, Nat.lt_of_lt_of_le (h3 hm b' e).2.2 K.size⟩⟩
    rw [if_neg e]
    exact h2.kept K (fun hm b' e => (h3 hm b' e).2.1)
end
end Go.Proofs.Ytnclebnodkkgnaa
