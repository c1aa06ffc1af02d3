/- Keys in order, and nodes of a list of entries or of a list of kids: plain. No condition. -/
import Derived.Test.YtdakohbfibcjeaaCh
import Derived.Test.YtdakohbfibcjeaaTvI
namespace Go.Proofs.Ytdakohbfibcjeaa
set_option linter.unusedSimpArgs false
set_option linter.unusedVariables false

theorem bl_irr : ∀ x, Op.bytesLess x x = false
  | [] => rfl
  | a :: x => by simp [Op.bytesLess, bl_irr x, UInt8.lt_irrefl]
theorem bl_trans : ∀ {x y z}, Op.bytesLess x y = true → Op.bytesLess y z = true → Op.bytesLess x z = true
  | _, [], _, h, _ => by simp [Op.bytesLess] at h
  | _, _ :: _, [], _, h => by simp [Op.bytesLess] at h
  | [], _ :: _, _ :: _, _, _ => rfl
  | a :: x, b :: y, c :: z, h, k => by
    simp only [Op.bytesLess, Bool.or_eq_true, decide_eq_true_eq, Bool.and_eq_true, beq_iff_eq, UInt8.lt_iff_toNat_lt] at h k ⊢
    rcases h with h | ⟨rfl, h⟩
    · rcases k with k | ⟨rfl, k⟩
      · exact .inl (Nat.lt_trans h k)
      · exact .inl h
    · rcases k with k | ⟨rfl, k⟩
      · exact .inl k
      · exact .inr ⟨rfl, bl_trans h k⟩
theorem bl_tri : ∀ {x y}, Op.bytesLess x y = false → Op.bytesLess y x = false → x = y
  | [], [], _, _ => rfl
  | [], _ :: _, h, _ => by simp [Op.bytesLess] at h
  | _ :: _, [], _, h => by simp [Op.bytesLess] at h
  | a :: x, b :: y, h, k => by
    simp only [Op.bytesLess, Bool.or_eq_false_iff, decide_eq_false_iff_not, Bool.and_eq_false_iff, beq_eq_false_iff_ne, UInt8.lt_iff_toNat_lt] at h k
    have e : a = b := UInt8.toNat_inj.1 (by omega)
    subst e
    have h2 : Op.bytesLess x y = false := h.2.resolve_left (fun n => n rfl)
    have k2 : Op.bytesLess y x = false := k.2.resolve_left (fun n => n rfl)
    rw [bl_tri h2 k2]
/-- one key is ahead of another one -/
def ky (a b : ByteArray) : Prop := Op.bytesLess a.toList b.toList = true
instance (a b : ByteArray) : Decidable (ky a b) := by unfold ky; infer_instance
/-- .. or is it -/
def kye (a b : ByteArray) : Prop := ¬ ky b a
theorem ky_irr (a : ByteArray) : ¬ ky a a := by unfold ky; rw [bl_irr]; exact Bool.noConfusion
theorem ky_trans {a b c : ByteArray} (h : ky a b) (k : ky b c) : ky a c := bl_trans h k
theorem ky_tri {a b : ByteArray} (h : ¬ ky a b) (k : ¬ ky b a) : a = b := by
  have := bl_tri (Bool.eq_false_iff.2 h) (Bool.eq_false_iff.2 k)
  have e : (a.toList == b.toList) = true := by rw [this]; exact beq_self_eq_true _
  rw [toList_inj] at e
  exact of_decide_eq_true e
theorem kye_ky {a b c : ByteArray} (h : kye a b) (k : ky b c) : ky a c := by
  by_cases e : ky a b
  · exact ky_trans e k
  · rw [ky_tri e h]; exact k
theorem ky_kye {a b c : ByteArray} (h : ky a b) (k : kye b c) : ky a c := by
  by_cases e : ky b c
  · exact ky_trans h e
  · rw [← ky_tri e k]; exact h
theorem ky_le {a b : ByteArray} (h : ky a b) : kye a b := fun k => ky_irr a (ky_trans h k)
theorem kye_refl (a : ByteArray) : kye a a := ky_irr a
theorem kye_trans {a b c : ByteArray} (h : kye a b) (k : kye b c) : kye a c := fun x => by
  exact h (kye_ky k x)
theorem kye_ne {a b : ByteArray} (h : kye a b) (k : a ≠ b) : ky a b := Decidable.byContradiction fun x => k (ky_tri x h)
theorem toList_nil : (ByteArray.empty).toList = [] := by rw [ByteArray.toList_eq]; rfl
theorem kye_empty (a : ByteArray) : kye .empty a := by unfold kye ky; rw [toList_nil, bytesLess_nil]; exact Bool.noConfusion

abbrev Ent := ByteArray × ByteArray
structure Kd where
  key : ByteArray
  n : Nat
  es : List Ent
  bl : List Nat
def leafOf (es : List Ent) : Nd := ⟨true, es.map (·.1), es.map (·.2), []⟩
def innerOf (cs : List Kd) : Nd := ⟨false, cs.map (·.key), [], cs.map (fun c => (c.n : Int))⟩
def wL (e : Ent) : Nat := 2 + e.1.size + e.2.size
def wI (c : Kd) : Nat := 3 + c.key.size
theorem sizeTo_sum (s : Nd) (W : List Nat) (hW : ∀ i, (h : i < W.length) → W[i] = eachN s i) : ∀ k, k ≤ W.length → sizeTo s k = 1 + (W.take k).sum
  | 0, _ => by simp [sizeTo]
  | k + 1, hk => by
    rw [sizeTo, sizeTo_sum s W hW k (by omega), List.take_succ_eq_append_getElem (by omega), List.sum_append, hW k (by omega)]
    simp; omega
theorem each_leaf (es : List Ent) (i : Nat) (h : i < es.length) : eachN (leafOf es) i = wL es[i] := by
  simp [eachN, leafOf, kAt, vAt, wL, h]
theorem each_inner (cs : List Kd) (i : Nat) (h : i < cs.length) : eachN (innerOf cs) i = wI cs[i] := by
  simp [eachN, innerOf, kAt, wI, h]
theorem size_leaf (es : List Ent) : sizeN (leafOf es) = 1 + (es.map wL).sum := by
  have := sizeTo_sum (leafOf es) (es.map wL) (fun i h => by rw [List.getElem_map, each_leaf es i (by simpa using h)]) es.length (by simp)
  rw [sizeN, show (leafOf es).keys.length = es.length by simp [leafOf], this, List.take_of_length_le (by simp)]
theorem size_inner (cs : List Kd) : sizeN (innerOf cs) = 1 + (cs.map wI).sum := by
  have := sizeTo_sum (innerOf cs) (cs.map wI) (fun i h => by rw [List.getElem_map, each_inner cs i (by simpa using h)]) cs.length (by simp)
  rw [sizeN, show (innerOf cs).keys.length = cs.length by simp [innerOf], this, List.take_of_length_le (by simp)]
theorem sum_le {α : Type} (f : α → Nat) (k : Nat) : ∀ (l : List α), (∀ x ∈ l, f x ≤ k) → (l.map f).sum ≤ k * l.length
  | [], _ => by simp
  | a :: l, h => by
    have h1 := h a List.mem_cons_self
    have h2 := sum_le f k l (fun x hx => h x (List.mem_cons_of_mem _ hx))
    simp only [List.map_cons, List.sum_cons, List.length_cons, Nat.mul_succ]; omega
theorem le_sum {α : Type} (f : α → Nat) (k : Nat) : ∀ (l : List α), (∀ x ∈ l, k ≤ f x) → k * l.length ≤ (l.map f).sum
  | [], _ => by simp
  | a :: l, h => by
    have h1 := h a List.mem_cons_self
    have h2 := le_sum f k l (fun x hx => h x (List.mem_cons_of_mem _ hx))
    simp only [List.map_cons, List.sum_cons, List.length_cons, Nat.mul_succ]; omega
def okE (e : Ent) : Prop := e.1 ≠ .empty ∧ e.1.size ≤ 24 ∧ e.2.size ≤ 24
def okK (c : Kd) : Prop := c.key.size ≤ 24 ∧ c.n ≤ 65535
theorem rises_pw (l : List ByteArray) (h : ∀ i, 0 < i → i < l.length → ky (l.getD (i - 1) .empty) (l.getD i .empty)) : l.Pairwise ky := by
  rw [List.pairwise_iff_getElem]
  intro i j hi hj hij
  induction j with
  | zero => omega
  | succ j ih =>
    have h1 := h (j + 1) (by omega) hj
    rw [Nat.add_sub_cancel, List.getD_eq_getElem?_getD, List.getD_eq_getElem?_getD, List.getElem?_eq_getElem hj, List.getElem?_eq_getElem (by omega : j < l.length)] at h1
    by_cases e : i = j
    · subst e; exact h1
    · exact ky_trans (ih (by omega) (by omega)) h1
theorem pw_rises {l : List ByteArray} (h : l.Pairwise ky) (i : Nat) (h0 : 0 < i) (hi : i < l.length) : ky (l.getD (i - 1) .empty) (l.getD i .empty) := by
  rw [List.pairwise_iff_getElem] at h
  have := h (i - 1) i (by omega) hi (by omega)
  rw [List.getD_eq_getElem?_getD, List.getD_eq_getElem?_getD, List.getElem?_eq_getElem hi, List.getElem?_eq_getElem (by omega : i - 1 < l.length)]
  exact this
theorem getD_mem {α : Type} {l : List α} {i : Nat} {d : α} (h : i < l.length) : l.getD i d ∈ l := by
  rw [List.getD_eq_getElem?_getD, List.getElem?_eq_getElem h]
  exact List.getElem_mem h
theorem mem_getD {α : Type} {l : List α} {x d : α} (h : x ∈ l) : ∃ i, i < l.length ∧ l.getD i d = x := by
  obtain ⟨i, hi, e⟩ := List.mem_iff_getElem.1 h
  exact ⟨i, hi, by rw [List.getD_eq_getElem?_getD, List.getElem?_eq_getElem hi]; exact e⟩
theorem len_sum {α : Type} (f : α → Nat) (l : List α) (h : ∀ x ∈ l, 1 ≤ f x) : l.length ≤ (l.map f).sum := by
  have := le_sum f 1 l h; omega
theorem may_leaf {es : List Ent} (h1 : es ≠ []) (h2 : sizeN (leafOf es) ≤ 240) (h3 : ∀ e ∈ es, okE e) (h4 : es.Pairwise (fun a b => ky a.1 b.1)) : mayN (leafOf es) := by
  have hl : 0 < es.length := List.length_pos_iff.2 h1
  have hk : (leafOf es).keys.length = es.length := by simp [leafOf]
  have hp : (leafOf es).keys.Pairwise ky := List.pairwise_map.2 h4
  have hmk : ∀ k ∈ (leafOf es).keys, k ≠ .empty ∧ k.size ≤ 24 := fun k hk => by
    obtain ⟨e, he, rfl⟩ := List.mem_map.1 hk
    exact ⟨(h3 e he).1, (h3 e he).2.1⟩
  refine ⟨⟨by omega, by rw [szV_small (by omega)]; omega⟩, fun i hi => ⟨(hmk _ (getD_mem hi)).2, fun h0 => pw_rises hp i h0 hi⟩, fun _ => ⟨(hmk _ (getD_mem (by omega))).1, by simp [leafOf], rfl, fun i hi => ?_⟩, fun x => by cases x⟩
  obtain ⟨e, he, e2⟩ := List.mem_map.1 (getD_mem (d := .empty) hi)
  exact (congrArg ByteArray.size e2) ▸ (h3 e he).2.2
theorem may_inner {cs : List Kd} (h1 : cs ≠ []) (h2 : sizeN (innerOf cs) ≤ 240) (h3 : ∀ c ∈ cs, okK c) (h4 : cs.Pairwise (fun a b => ky a.key b.key)) : mayN (innerOf cs) := by
  have hl : 0 < cs.length := List.length_pos_iff.2 h1
  have hk : (innerOf cs).keys.length = cs.length := by simp [innerOf]
  have hp : (innerOf cs).keys.Pairwise ky := List.pairwise_map.2 h4
  refine ⟨⟨by omega, by rw [szV_small (by omega)]; omega⟩, fun i hi => ⟨?_, fun h0 => pw_rises hp i h0 hi⟩, fun x => (by cases x), fun _ => ⟨by simp [innerOf], rfl, fun i hi => ?_⟩⟩
  · obtain ⟨e, he, e2⟩ := List.mem_map.1 (getD_mem (d := .empty) hi)
    unfold kAt
    exact (congrArg ByteArray.size e2) ▸ (h3 e he).1
  · obtain ⟨e, he, e2⟩ := List.mem_map.1 (getD_mem (d := 0) hi)
    have e2 : (e.n : Int) = (innerOf cs).kids.getD i 0 := e2
    have := (h3 e he).2; omega
/-- a node that is too great, by a little, is split into two that are great enough -/
theorem split_sizes {s p q : Nd} (hw : ∀ i, i < s.keys.length → eachN s i ≤ 50) (hl : lensN s) (h1 : 240 < sizeN s) (h2 : sizeN s ≤ 292) (hs : SplitN s p q) :
    ∃ m, 1 ≤ m ∧ m < s.keys.length ∧ p = partN s 0 m ∧ q = partN s m s.keys.length ∧ 61 ≤ sizeN p ∧ sizeN p ≤ 240 ∧ 61 ≤ sizeN q ∧ sizeN q ≤ 240 := by
  have hsz : sizeN s = sizeTo s s.keys.length := rfl
  have hmost : mostN s = s.keys.length := by
    unfold mostN
    cases hlf : s.leaf with
    | true => have := hl.1 hlf; omega
    | false => have := hl.2 hlf; omega
  have hhalf : halfN s = ((sizeN s / 2 : Nat) : Int) := by
    unfold halfN
    rw [szV_small (by omega), Int.tdiv_eq_ediv_of_nonneg (by omega)]
    rfl
  have hstep : ∀ k, k < s.keys.length → sizeTo s (k + 1) ≤ sizeTo s k + 50 := fun k hk' => by have := hw k hk'; simp only [sizeTo]; omega
  have hsm : ∀ k, sizeTo s k ≤ 1 + 50 * k ∨ s.keys.length < k := fun k => by
    induction k with
    | zero => simp [sizeTo]
    | succ k ih => by_cases hk : k < s.keys.length
                   · have := hstep k hk; omega
                   · omega
  rcases hs with ⟨hf, rfl, rfl⟩ | ⟨m, ⟨m1, m2, m3, m4⟩, rfl, rfl⟩
  · have := hsm s.keys.length; omega
  · have e1 : ∀ k, k ≤ s.keys.length → szV (sizeTo s k) = (sizeTo s k : Nat) := fun k hk' => szV_small (by have := sizeTo_le s hk'; omega)
    have hm0 : sizeTo s 0 = 1 := rfl
    have hle := sizeTo_le s (Nat.le_of_lt m2)
    have hone : sizeTo s 1 ≤ 51 := by have h0 := hstep 0 (by omega); rw [Nat.zero_add] at h0; omega
    have htop : sizeTo s m ≤ sizeN s / 2 + 49 := by
      by_cases hm : m = 1
      · rw [hm]; omega
      · have a1 := m3 (m - 1) (by omega) (by omega)
        rw [e1 _ (by omega), hhalf] at a1
        have a2 := hstep (m - 1) (by omega)
        rw [show m - 1 + 1 = m by omega] at a2
        omega
    have hlow : sizeN s / 2 ≤ sizeTo s m := by
      by_cases hm : m + 1 < s.keys.length
      · have a1 := m4 hm
        rw [e1 _ (by omega), hhalf] at a1
        omega
      · have a2 := hstep m m2
        rw [show m + 1 = s.keys.length by omega] at a2
        omega
    have k1 : (partN s 0 m).keys.length = m := by simp only [partN, List.length_drop, List.length_take]; omega
    have k2 : (partN s m s.keys.length).keys.length = s.keys.length - m := by simp only [partN, List.length_drop, List.length_take]; omega
    have z1 : sizeN (partN s 0 m) + 1 = sizeTo s m + 1 := by
      unfold sizeN; rw [k1]; have := sizeTo_part s 0 m m (by omega); rw [Nat.zero_add] at this; exact this
    have z2 : sizeN (partN s m s.keys.length) + sizeTo s m = sizeN s + 1 := by
      unfold sizeN; rw [k2]; have := sizeTo_part s m s.keys.length (s.keys.length - m) (by omega); rw [show m + (s.keys.length - m) = s.keys.length by omega] at this; exact this
    rw [hmost]
    exact ⟨m, m1, m2, rfl, rfl, by omega, by omega, by omega, by omega⟩
theorem part_leaf (es : List Ent) (a b : Nat) : partN (leafOf es) a b = leafOf ((es.take b).drop a) := by
  simp [partN, leafOf, List.map_take, List.map_drop]
theorem part_inner (cs : List Kd) (a b : Nat) : partN (innerOf cs) a b = innerOf ((cs.take b).drop a) := by
  simp [partN, innerOf, List.map_take, List.map_drop]
theorem join_leaf (a b : List Ent) : joinN (leafOf a) (leafOf b) = leafOf (a ++ b) := by simp [joinN, leafOf]
theorem join_inner (a b : List Kd) : joinN (innerOf a) (innerOf b) = innerOf (a ++ b) := by simp [joinN, innerOf]
theorem lens_leaf (es : List Ent) : lensN (leafOf es) := ⟨fun _ => by simp [leafOf], fun x => by cases x⟩
theorem lens_inner (cs : List Kd) : lensN (innerOf cs) := ⟨fun x => (by cases x), fun _ => by simp [innerOf]⟩
end Go.Proofs.Ytdakohbfibcjeaa
