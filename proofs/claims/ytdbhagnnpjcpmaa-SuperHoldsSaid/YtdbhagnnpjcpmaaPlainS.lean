/- Superblocks: the plain functions. No condition. -/
import Derived.Test.YtdbhagnnpjcpmaaPlainBD
namespace Go.Proofs.Ytdbhagnnpjcpmaa

structure Ver where
  id : Int
  root : Int
  next : Int
  fx : Bool
deriving DecidableEq
structure Sup where
  gen : Int
  sec : Int
  next : Int
  vs : List Ver
deriving DecidableEq
def Ver.nil : Ver := ⟨0, 0, 0, false⟩
def Sup.nil : Sup := ⟨0, 0, 0, []⟩

/-- the id of the version ahead of the i-th -/
def idAt (vs : List Ver) : Nat → Int
  | 0 => 0
  | i + 1 => (vs.getD i Ver.nil).id
def verOk (s : Sup) (i : Nat) : Prop :=
  idAt s.vs i < (s.vs.getD i Ver.nil).id ∧ (s.vs.getD i Ver.nil).id < s.next ∧ ((s.vs.getD i Ver.nil).root = 0 ∨ (50 ≤ (s.vs.getD i Ver.nil).root ∧ (s.vs.getD i Ver.nil).root < s.sec)) ∧ 1 ≤ (s.vs.getD i Ver.nil).next ∧ (s.vs.getD i Ver.nil).next ≤ 16777216
instance (s : Sup) (i : Nat) : Decidable (verOk s i) := by unfold verOk; infer_instance
def headOk (s : Sup) : Prop := 1 ≤ s.gen ∧ s.gen ≤ 4294967295 ∧ 1 ≤ s.next ∧ s.next ≤ 4294967295 ∧ 128 ≤ s.sec ∧ s.sec ≤ 4096 ∧ s.vs.length ≤ 8
instance (s : Sup) : Decidable (headOk s) := by unfold headOk; infer_instance
def supOk (s : Sup) : Prop := headOk s ∧ ∀ i, i < s.vs.length → verOk s i
instance (s : Sup) : Decidable (supOk s) := by unfold supOk; infer_instance
/-- the id ahead is one at least behind the first version, if all so far may be -/
theorem idAt_pos (s : Sup) (i : Nat) (h : ∀ j, j < i → verOk s j) : 0 ≤ idAt s.vs i ∧ (0 < i → 1 ≤ idAt s.vs i) := by
  induction i with
  | zero => exact ⟨Int.le_refl _, fun h => by omega⟩
  | succ i ih =>
    have h1 := ih (fun j hj => h j (by omega))
    have h2 := (h i (by omega)).1
    simp only [idAt] at *
    exact ⟨by omega, fun _ => by omega⟩

/-- a number's k bytes, the lowest first -/
def leB : Nat → Nat → List UInt8
  | _, 0 => []
  | n, k + 1 => UInt8.ofNat n :: leB (n / 256) k
@[simp] theorem length_leB (n k : Nat) : (leB n k).length = k := by
  induction k generalizing n with
  | zero => rfl
  | succ k ih => simp [leB, ih]
theorem leB_snoc (n k : Nat) : leB n (k + 1) = leB n k ++ [UInt8.ofNat (n / 256 ^ k)] := by
  induction k generalizing n with
  | zero => simp [leB]
  | succ k ih =>
    rw [leB, ih]
    simp only [leB, List.cons_append]
    rw [Nat.div_div_eq_div_mul, Nat.pow_succ']
/-- bytes' number, the lowest first -/
def leN : List UInt8 → Nat
  | [] => 0
  | b :: l => b.toNat + 256 * leN l
theorem leN_lt (l : List UInt8) : leN l < 256 ^ l.length := by
  induction l with
  | nil => simp [leN]
  | cons b l ih =>
    have := b.toNat_lt
    simp only [leN, List.length_cons, Nat.pow_succ]
    omega
theorem leN_leB (n k : Nat) (h : n < 256 ^ k) : leN (leB n k) = n := by
  induction k generalizing n with
  | zero => simp at h; simp [leB, leN, h]
  | succ k ih =>
    have h2 : n / 256 < 256 ^ k := Nat.div_lt_of_lt_mul (by rw [← Nat.pow_succ']; exact h)
    simp only [leB, leN]
    rw [ih _ h2, UInt8.toNat_ofNat']
    omega
theorem leN_snoc (l : List UInt8) (b : UInt8) : leN (l ++ [b]) = leN l + 256 ^ l.length * b.toNat := by
  induction l with
  | nil => simp [leN]
  | cons a l ih =>
    simp only [List.cons_append, leN, ih, List.length_cons, Nat.pow_succ']
    rw [Nat.mul_add, Nat.mul_assoc, Nat.add_assoc]
theorem leN_drop (l : List UInt8) (i : Nat) (h : i < l.length) : leN (l.drop i) = (l.getD i 0).toNat + 256 * leN (l.drop (i + 1)) := by
  rw [List.drop_eq_getElem_cons h, leN, List.getD_eq_getElem?_getD, List.getElem?_eq_getElem h, Option.getD_some]

def verB (v : Ver) : List UInt8 := leB v.id.toNat 4 ++ leB v.root.toNat 2 ++ leB v.next.toNat 4 ++ [if v.fx then 1 else 0]
@[simp] theorem length_verB (v : Ver) : (verB v).length = 11 := by simp [verB]
def versB (vs : List Ver) : List UInt8 := vs.flatMap verB
theorem length_versB (vs : List Ver) : (versB vs).length = 11 * vs.length := by
  induction vs with
  | nil => rfl
  | cons v vs ih => simp only [versB, List.flatMap_cons, List.length_append, length_verB, List.length_cons] at *; omega
def headB (s : Sup) : List UInt8 := [75, 73, 83, 84] ++ leB s.gen.toNat 4 ++ leB s.sec.toNat 2 ++ leB s.next.toNat 4
@[simp] theorem length_headB (s : Sup) : (headB s).length = 14 := by simp [headB]
def bodyB (s : Sup) : List UInt8 := headB s ++ [UInt8.ofNat s.vs.length] ++ versB s.vs
theorem length_bodyB (s : Sup) : (bodyB s).length = 15 + 11 * s.vs.length := by simp [bodyB, length_versB]; omega
def dataB (s : Sup) : List UInt8 := bodyB s ++ List.replicate (252 - (bodyB s).length) 0
theorem length_dataB (s : Sup) (h : s.vs.length ≤ 8) : (dataB s).length = 252 := by
  have := length_bodyB s
  simp only [dataB, List.length_append, List.length_replicate]
  omega
def putS (s : Sup) : List UInt8 := dataB s ++ leB (crc (dataB s)) 4
theorem length_putS (s : Sup) (h : s.vs.length ≤ 8) : (putS s).length = 256 := by simp [putS, length_dataB s h]

/-- a part of some bytes -/
def part (l : List UInt8) (i k : Nat) : List UInt8 := (l.drop i).take k
theorem part_mid (a b c : List UInt8) : part (a ++ b ++ c) a.length b.length = b := by
  unfold part
  rw [List.append_assoc, List.drop_left, List.take_left]
def verD (l : List UInt8) (i : Nat) : Ver := ⟨leN (part l (15 + 11 * i) 4), leN (part l (15 + 11 * i + 4) 2), leN (part l (15 + 11 * i + 6) 4), (l.getD (15 + 11 * i + 10) 0) == 1⟩
def supD (l : List UInt8) : Sup := ⟨leN (part l 4 4), leN (part l 8 2), leN (part l 10 4), (List.range (l.getD 14 0).toNat).map (verD l)⟩
def getS (l : List UInt8) : Option Sup :=
  if l.length = 256 ∧ (l.getD 14 0).toNat ≤ 8 ∧ supOk (supD l) ∧ putS (supD l) = l then some (supD l) else none

theorem part_at (l a b c : List UInt8) (i k : Nat) (h : l = a ++ b ++ c) (hi : a.length = i) (hk : b.length = k) : part l i k = b := by
  subst h hi hk
  exact part_mid a b c
theorem getD_at (l a c : List UInt8) (b : UInt8) (i : Nat) (h : l = a ++ [b] ++ c) (hi : a.length = i) : l.getD i 0 = b := by
  subst h hi
  rw [List.append_assoc, List.getD_eq_getElem?_getD, List.getElem?_append_right (Nat.le_refl _)]
  simp
theorem versB_at (vs : List Ver) (i : Nat) (h : i < vs.length) : versB vs = versB (vs.take i) ++ verB (vs.getD i Ver.nil) ++ versB (vs.drop (i + 1)) := by
  have e : vs = vs.take i ++ [vs.getD i Ver.nil] ++ vs.drop (i + 1) := by
    rw [List.getD_eq_getElem?_getD, List.getElem?_eq_getElem h, Option.getD_some, List.take_append_getElem, List.take_append_drop]
  conv => lhs; rw [e]
  simp [versB]
theorem versB_take (vs : List Ver) (i : Nat) (h : i < vs.length) : versB (vs.take (i + 1)) = versB (vs.take i) ++ verB (vs.getD i Ver.nil) := by
  rw [List.getD_eq_getElem?_getD, List.getElem?_eq_getElem h, Option.getD_some, List.take_succ_eq_append_getElem h]
  simp only [versB, List.flatMap_append, List.flatMap_cons, List.flatMap_nil, List.append_nil]
theorem verD_ver (v : Ver) (l a c : List UInt8) (i : Nat) (h : l = a ++ verB v ++ c) (hi : a.length = 15 + 11 * i) (h1 : 0 ≤ v.id ∧ v.id < 4294967296) (h2 : 0 ≤ v.root ∧ v.root < 65536) (h3 : 0 ≤ v.next ∧ v.next < 4294967296) : verD l i = v := by
  have p1 : part l (15 + 11 * i) 4 = leB v.id.toNat 4 := part_at _ a _ (leB v.root.toNat 2 ++ leB v.next.toNat 4 ++ [if v.fx then 1 else 0] ++ c) _ _ (by rw [h, verB]; simp only [List.append_assoc]) hi (length_leB _ _)
  have p2 : part l (15 + 11 * i + 4) 2 = leB v.root.toNat 2 := part_at _ (a ++ leB v.id.toNat 4) _ (leB v.next.toNat 4 ++ [if v.fx then 1 else 0] ++ c) _ _ (by rw [h, verB]; simp only [List.append_assoc]) (by simp [hi]) (length_leB _ _)
  have p3 : part l (15 + 11 * i + 6) 4 = leB v.next.toNat 4 := part_at _ (a ++ leB v.id.toNat 4 ++ leB v.root.toNat 2) _ ([if v.fx then 1 else 0] ++ c) _ _ (by rw [h, verB]; simp only [List.append_assoc]) (by simp [hi]) (length_leB _ _)
  have p4 : l.getD (15 + 11 * i + 10) 0 = if v.fx then 1 else 0 := getD_at _ (a ++ leB v.id.toNat 4 ++ leB v.root.toNat 2 ++ leB v.next.toNat 4) c _ _ (by rw [h, verB]; simp only [List.append_assoc]) (by simp [hi])
  unfold verD
  rw [p1, p2, p3, p4, leN_leB _ _ (by omega), leN_leB _ _ (by omega), leN_leB _ _ (by omega)]
  obtain ⟨a1, a2, a3, a4⟩ := v
  simp only at *
  rw [Int.toNat_of_nonneg h1.1, Int.toNat_of_nonneg h2.1, Int.toNat_of_nonneg h3.1]
  cases a4 <;> rfl

theorem supD_putS (s : Sup) (h : supOk s) : supD (putS s) = s ∧ ((putS s).getD 14 0).toNat = s.vs.length := by
  obtain ⟨⟨h1, h2, h3, h4, h5, h6, h7⟩, hv⟩ := h
  have e : putS s = headB s ++ [UInt8.ofNat s.vs.length] ++ (versB s.vs ++ (List.replicate (252 - (bodyB s).length) 0 ++ leB (crc (dataB s)) 4)) := by
    simp only [putS, dataB, bodyB, List.append_assoc]
  have h14 := getD_at _ _ _ _ 14 e (length_headB s)
  have h14n : ((putS s).getD 14 0).toNat = s.vs.length := by rw [h14, UInt8.toNat_ofNat']; omega
  refine ⟨?_, h14n⟩
  have p1 : part (putS s) 4 4 = leB s.gen.toNat 4 := part_at _ [75, 73, 83, 84] _ (leB s.sec.toNat 2 ++ (leB s.next.toNat 4 ++ ([UInt8.ofNat s.vs.length] ++ (versB s.vs ++ (List.replicate (252 - (bodyB s).length) 0 ++ leB (crc (dataB s)) 4))))) _ _ (by rw [e, headB]; simp only [List.append_assoc]) rfl (length_leB _ _)
  have p2 : part (putS s) 8 2 = leB s.sec.toNat 2 := part_at _ ([75, 73, 83, 84] ++ leB s.gen.toNat 4) _ (leB s.next.toNat 4 ++ ([UInt8.ofNat s.vs.length] ++ (versB s.vs ++ (List.replicate (252 - (bodyB s).length) 0 ++ leB (crc (dataB s)) 4)))) _ _ (by rw [e, headB]; simp only [List.append_assoc]) (by simp) (length_leB _ _)
  have p3 : part (putS s) 10 4 = leB s.next.toNat 4 := part_at _ ([75, 73, 83, 84] ++ leB s.gen.toNat 4 ++ leB s.sec.toNat 2) _ ([UInt8.ofNat s.vs.length] ++ (versB s.vs ++ (List.replicate (252 - (bodyB s).length) 0 ++ leB (crc (dataB s)) 4))) _ _ (by rw [e, headB]; simp only [List.append_assoc]) (by simp) (length_leB _ _)
  have hvs : (List.range s.vs.length).map (verD (putS s)) = s.vs := by
    apply List.ext_getElem
    · simp
    · intro i i1 i2
      simp only [List.getElem_map, List.getElem_range]
      have hok := hv i i2
      have hpos := idAt_pos s i (fun j hj => hv j (by omega))
      obtain ⟨k1, k2, k3, k4, k5⟩ := hok
      have eg : s.vs.getD i Ver.nil = s.vs[i] := by rw [List.getD_eq_getElem?_getD, List.getElem?_eq_getElem i2, Option.getD_some]
      rw [← eg]
      refine verD_ver _ _ (headB s ++ [UInt8.ofNat s.vs.length] ++ versB (s.vs.take i)) (versB (s.vs.drop (i + 1)) ++ (List.replicate (252 - (bodyB s).length) 0 ++ leB (crc (dataB s)) 4)) i ?_ ?_ (by omega) ?_ (by omega)
      · rw [e]
        conv => lhs; rw [versB_at s.vs i i2]
        simp only [List.append_assoc]
      · simp only [List.length_append, length_headB, length_versB, List.length_take, List.length_cons, List.length_nil]
        omega
      · rcases k3 with k3 | k3 <;> omega
  unfold supD
  rw [p1, p2, p3, h14n, hvs, leN_leB _ _ (by omega), leN_leB _ _ (by omega), leN_leB _ _ (by omega), Int.toNat_of_nonneg (by omega), Int.toNat_of_nonneg (by omega), Int.toNat_of_nonneg (by omega)]

/-- what was put is got again -/
theorem getS_putS (s : Sup) (h : supOk s) : getS (putS s) = some s := by
  obtain ⟨h1, h2⟩ := supD_putS s h
  unfold getS
  rw [h1, h2, if_pos ⟨length_putS s h.1.2.2.2.2.2.2, h.1.2.2.2.2.2.2, h, rfl⟩]
theorem putS_inj (a b : Sup) (ha : supOk a) (hb : supOk b) : putS a = putS b ↔ a = b := by
  constructor
  · intro h
    have h1 := getS_putS a ha
    rw [h, getS_putS b hb] at h1
    exact (Option.some.inj h1).symm
  · rintro rfl; rfl
end Go.Proofs.Ytdbhagnnpjcpmaa
