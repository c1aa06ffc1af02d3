/- A node read from its bytes: the plain function, and that what is written is read again. No condition. -/
import Derived.Test.YtnjpibbmgbiofaaNodP
namespace Go.Proofs.Ytnjpibbmgbiofaa

/-- taking n bytes of r: are they not there, what is given, what is left -/
def tkBad (r : List UInt8) (bad : Bool) (n : Nat) : Bool := bad || decide (r.length < n)
def tkOut (r : List UInt8) (bad : Bool) (n : Nat) : List UInt8 := if tkBad r bad n then List.replicate n 0 else r.take n
def tkRest (r : List UInt8) (bad : Bool) (n : Nat) : List UInt8 := if tkBad r bad n then r else r.drop n
/-- taking a text with its length ahead -/
def txN (r : List UInt8) (bad : Bool) : Nat := ((tkOut r bad 1).getD 0 0).toNat
def txOut (r : List UInt8) (bad : Bool) : List UInt8 := tkOut (tkRest r bad 1) (tkBad r bad 1) (txN r bad)
def txRest (r : List UInt8) (bad : Bool) : List UInt8 := tkRest (tkRest r bad 1) (tkBad r bad 1) (txN r bad)
def txBad (r : List UInt8) (bad : Bool) : Bool := tkBad (tkRest r bad 1) (tkBad r bad 1) (txN r bad)
def strOf (l : List UInt8) : ByteArray := ⟨l.toArray⟩
def kidOf (l : List UInt8) : Int := (((l.getD 0 0).toNat + 256 * (l.getD 1 0).toNat : Nat) : Int)
structure PS where
  nd : Nd
  r : List UInt8
  bad : Bool
/-- a key is read -/
def psKey (s : PS) : PS := ⟨{ s.nd with keys := s.nd.keys ++ [strOf (txOut s.r s.bad)] }, txRest s.r s.bad, txBad s.r s.bad⟩
/-- what goes with a key is read -/
def psVal (s : PS) : PS :=
  if s.nd.leaf then ⟨{ s.nd with vals := s.nd.vals ++ [strOf (txOut s.r s.bad)] }, txRest s.r s.bad, txBad s.r s.bad⟩
  else ⟨{ s.nd with kids := s.nd.kids ++ [kidOf (tkOut s.r s.bad 2)] }, tkRest s.r s.bad 2, tkBad s.r s.bad 2⟩
def psTo (lf : Bool) (body : List UInt8) : Nat → PS
  | 0 => ⟨⟨lf, [], [], []⟩, tkRest body false 1, tkBad body false 1⟩
  | k + 1 => psVal (psKey (psTo lf body k))
def psCount (body : List UInt8) : Nat := ((tkOut body false 1).getD 0 0).toNat
def psN (lf : Bool) (body : List UInt8) : PS := psTo lf body (psCount body)
/-- a block's node -/
def getOk (kd : Int) (body : List UInt8) : Prop :=
  (psN (decide (kd = 1)) body).bad = false ∧ mayN (psN (decide (kd = 1)) body).nd ∧ (kindN (psN (decide (kd = 1)) body).nd : Int) = kd ∧ bodyN (psN (decide (kd = 1)) body).nd = body
noncomputable instance (kd : Int) (body : List UInt8) : Decidable (getOk kd body) := Classical.propDecidable _
noncomputable def getN (kd : Int) (body : List UInt8) : Option Nd := if getOk kd body then some (psN (decide (kd = 1)) body).nd else none

theorem psKey_leaf (s : PS) : (psKey s).nd.leaf = s.nd.leaf := rfl
theorem psVal_leaf (s : PS) : (psVal s).nd.leaf = s.nd.leaf := by unfold psVal; split <;> rfl
theorem psTo_leaf (lf : Bool) (body : List UInt8) (k : Nat) : (psTo lf body k).nd.leaf = lf := by
  induction k with
  | zero => rfl
  | succ k ih => rw [psTo, psVal_leaf, psKey_leaf, ih]
theorem tkBad_of (r : List UInt8) (n : Nat) : tkBad r true n = true := rfl
theorem txBad_of (r : List UInt8) : txBad r true = true := rfl
theorem psKey_bad {s : PS} (h : s.bad = true) : (psKey s).bad = true := by
  show txBad s.r s.bad = true
  rw [h]; rfl
theorem psVal_bad {s : PS} (h : s.bad = true) : (psVal s).bad = true := by
  unfold psVal
  split
  · show txBad s.r s.bad = true
    rw [h]; rfl
  · show tkBad s.r s.bad 2 = true
    rw [h]; rfl
theorem psTo_bad {lf : Bool} {body : List UInt8} {j k : Nat} (hjk : j ≤ k) (h : (psTo lf body j).bad = true) : (psTo lf body k).bad = true := by
  induction k with
  | zero => obtain rfl : j = 0 := by omega
            exact h
  | succ k ih =>
    by_cases hj : j ≤ k
    · exact psVal_bad (psKey_bad (ih hj))
    · obtain rfl : j = k + 1 := by omega
      exact h
theorem getN_bad {kd : Int} {body : List UInt8} {j : Nat} (hj : j ≤ psCount body) (h : (psTo (decide (kd = 1)) body j).bad = true) : getN kd body = none := by
  unfold getN
  rw [if_neg]
  intro hg
  have h1 := psTo_bad hj h
  have h2 := hg.1
  unfold psN at h2
  rw [h1] at h2
  cases h2
theorem getN_key {kd : Int} {body : List UInt8} {j : Nat} (hj : j < psCount body) (h : (psKey (psTo (decide (kd = 1)) body j)).bad = true) : getN kd body = none :=
  getN_bad (j := j + 1) hj (psVal_bad h)

theorem tk_there {r : List UInt8} {n : Nat} (h : n ≤ r.length) : tkBad r false n = false ∧ tkOut r false n = r.take n ∧ tkRest r false n = r.drop n := by
  have hb : tkBad r false n = false := by unfold tkBad; simp; omega
  exact ⟨hb, by unfold tkOut; rw [hb]; rfl, by unfold tkRest; rw [hb]; rfl⟩
theorem tx_there (x : UInt8) (k r : List UInt8) (h : k.length = x.toNat) : txBad (x :: (k ++ r)) false = false ∧ txOut (x :: (k ++ r)) false = k ∧ txRest (x :: (k ++ r)) false = r := by
  obtain ⟨a1, a2, a3⟩ := tk_there (r := x :: (k ++ r)) (n := 1) (by simp)
  have hn : txN (x :: (k ++ r)) false = k.length := by unfold txN; rw [a2, h]; rfl
  simp only [List.drop_succ_cons, List.drop_zero] at a3
  obtain ⟨b1, b2, b3⟩ := tk_there (r := k ++ r) (n := k.length) (by simp)
  refine ⟨?_, ?_, ?_⟩
  · unfold txBad; rw [hn, a1, a3, b1]
  · unfold txOut; rw [hn, a1, a3, b2]; simp
  · unfold txRest; rw [hn, a1, a3, b3]; simp
theorem strOf_toList (b : ByteArray) : strOf b.toList = b := by
  rw [ByteArray.toList_eq]; rfl
theorem bodyTo_prefix (s : Nd) {i k : Nat} (h : i ≤ k) : ∃ t, bodyTo s k = bodyTo s i ++ t := by
  induction k with
  | zero => obtain rfl : i = 0 := by omega
            exact ⟨[], by simp⟩
  | succ k ih =>
    by_cases hi : i ≤ k
    · obtain ⟨t, ht⟩ := ih hi
      exact ⟨t ++ pieceN s k, by rw [bodyTo, ht, List.append_assoc]⟩
    · obtain rfl : i = k + 1 := by omega
      exact ⟨[], by simp⟩
theorem u8_of {n : Nat} (h : n < 256) : (UInt8.ofNat n).toNat = n := by simp [UInt8.toNat_ofNat']; omega
theorem kidOf_two {d : Int} (h : 0 ≤ d ∧ d ≤ 65535) (r : List UInt8) : kidOf ([UInt8.ofNat d.toNat, UInt8.ofNat (d.toNat / 256)] ++ r) = d := by
  obtain ⟨n, rfl⟩ := Int.eq_ofNat_of_zero_le h.1
  have hn : n ≤ 65535 := by omega
  unfold kidOf
  simp only [List.cons_append, List.nil_append, List.getD_cons_zero, List.getD_cons_succ, Int.toNat_natCast]
  rw [u8_of (n := n / 256) (by omega), UInt8.toNat_ofNat']
  omega

theorem psTo_body (s : Nd) (hm : mayN s) (hr : s.keys.length ≤ 8796093022208) (i : Nat) (hi : i ≤ s.keys.length) :
    ∃ t, psTo s.leaf (bodyN s) i = ⟨⟨s.leaf, s.keys.take i, if s.leaf then s.vals.take i else [], if s.leaf then [] else s.kids.take i⟩, t, false⟩ ∧ bodyN s = bodyTo s i ++ t := by
  have hk := may_keys hm hr
  induction i with
  | zero =>
    obtain ⟨t, ht⟩ := bodyTo_prefix s (Nat.zero_le s.keys.length)
    refine ⟨t, ?_, ht⟩
    have hb : bodyN s = UInt8.ofNat s.keys.length :: t := ht
    obtain ⟨a1, a2, a3⟩ := tk_there (r := bodyN s) (n := 1) (by rw [hb]; simp)
    rw [psTo, a1, a3, hb]
    simp
  | succ i ih =>
    obtain ⟨t, h1, h2⟩ := ih (by omega)
    obtain ⟨t', h3⟩ := bodyTo_prefix s hi
    have h3' : bodyN s = bodyTo s i ++ (pieceN s i ++ t') := by
      show bodyTo s s.keys.length = _
      rw [h3, bodyTo, List.append_assoc]
    have ht : t = pieceN s i ++ t' := by
      rw [h2] at h3'
      exact List.append_cancel_left h3'
    refine ⟨t', ?_, h3⟩
    have hks : (kAt s i).size ≤ 24 := (hm.2.1 i (by omega)).1
    rw [psTo, h1]
    have hkk : s.keys.take (i + 1) = s.keys.take i ++ [kAt s i] := take_snoc _ _ _ (by omega)
    cases hl : s.leaf with
    | true =>
      have hv := hm.2.2.1 hl
      have hvs : (vAt s i).size ≤ 24 := hv.2.2.2 i (by rw [hv.2.1]; omega)
      have hvv : s.vals.take (i + 1) = s.vals.take i ++ [vAt s i] := take_snoc _ _ _ (by rw [hv.2.1]; omega)
      have hp : t = UInt8.ofNat (kAt s i).size :: ((kAt s i).toList ++ (UInt8.ofNat (vAt s i).size :: ((vAt s i).toList ++ t'))) := by
        rw [ht]; unfold pieceN; rw [if_pos hl]; simp
      obtain ⟨x1, x2, x3⟩ := tx_there (UInt8.ofNat (kAt s i).size) (kAt s i).toList (UInt8.ofNat (vAt s i).size :: ((vAt s i).toList ++ t')) (by rw [length_toList, u8_of (by omega)])
      obtain ⟨y1, y2, y3⟩ := tx_there (UInt8.ofNat (vAt s i).size) (vAt s i).toList t' (by rw [length_toList, u8_of (by omega)])
      unfold psKey psVal
      rw [hp]
      simp only [if_true, x1, x2, x3, y1, y2, y3, strOf_toList, hkk, hvv]
    | false =>
      have hd := hm.2.2.2 hl
      have hds := hd.2.2 i (by rw [hd.1]; omega)
      have hdd : s.kids.take (i + 1) = s.kids.take i ++ [dAt s i] := take_snoc _ _ _ (by rw [hd.1]; omega)
      have hp : t = UInt8.ofNat (kAt s i).size :: ((kAt s i).toList ++ ([UInt8.ofNat (dAt s i).toNat, UInt8.ofNat ((dAt s i).toNat / 256)] ++ t')) := by
        rw [ht]; unfold pieceN; rw [if_neg (by rw [hl]; simp)]; simp
      obtain ⟨x1, x2, x3⟩ := tx_there (UInt8.ofNat (kAt s i).size) (kAt s i).toList ([UInt8.ofNat (dAt s i).toNat, UInt8.ofNat ((dAt s i).toNat / 256)] ++ t') (by rw [length_toList, u8_of (by omega)])
      obtain ⟨y1, y2, y3⟩ := tk_there (r := [UInt8.ofNat (dAt s i).toNat, UInt8.ofNat ((dAt s i).toNat / 256)] ++ t') (n := 2) (by simp)
      have hk2 : kidOf [UInt8.ofNat (dAt s i).toNat, UInt8.ofNat ((dAt s i).toNat / 256)] = dAt s i := by
        have := kidOf_two (d := dAt s i) hds []
        rwa [List.append_nil] at this
      unfold psKey psVal
      rw [hp]
      simp only [Bool.false_eq_true, if_false, x1, x2, x3, y1, y2, y3, strOf_toList, hkk, hdd]
      simp only [List.cons_append, List.nil_append, List.take_succ_cons, List.take_zero, List.drop_succ_cons, List.drop_zero, hk2]

theorem psN_body (s : Nd) (hm : mayN s) (hr : s.keys.length ≤ 8796093022208) : (psN s.leaf (bodyN s)).nd = s ∧ (psN s.leaf (bodyN s)).bad = false := by
  have hk := may_keys hm hr
  obtain ⟨t0, ht0⟩ := bodyTo_prefix s (Nat.zero_le s.keys.length)
  have hb : bodyN s = UInt8.ofNat s.keys.length :: t0 := ht0
  have hc : psCount (bodyN s) = s.keys.length := by
    obtain ⟨a1, a2, a3⟩ := tk_there (r := bodyN s) (n := 1) (by rw [hb]; simp)
    unfold psCount
    rw [a2, hb]
    simp only [List.take_succ_cons, List.take_zero, List.getD_cons_zero]
    exact u8_of (by omega)
  obtain ⟨t, h1, h2⟩ := psTo_body s hm hr s.keys.length (Nat.le_refl _)
  unfold psN
  rw [hc, h1]
  refine ⟨?_, rfl⟩
  obtain ⟨lf, ks, vs, ds⟩ := s
  simp only at *
  cases lf with
  | true =>
    have hv := hm.2.2.1 rfl
    have e1 : vs.take ks.length = vs := List.take_of_length_le (by have := hv.2.1; simp only at this; omega)
    have e2 : ds = [] := by have := hv.2.2.1; simpa using this
    simp [e1, e2]
  | false =>
    have hd := hm.2.2.2 rfl
    have e1 : ds.take ks.length = ds := List.take_of_length_le (by have := hd.1; simp only at this; omega)
    have e2 : vs = [] := by have := hd.2.1; simpa using this
    simp [e1, e2]

/-- what is written is read again -/
theorem getN_putN (s : Nd) (hm : mayN s) (hr : s.keys.length ≤ 8796093022208) : getN (kindN s) (bodyN s) = some s := by
  obtain ⟨h1, h2⟩ := psN_body s hm hr
  have hl : decide (((kindN s : Nat) : Int) = 1) = s.leaf := by
    unfold kindN
    cases s.leaf <;> simp
  have hg : getOk (kindN s) (bodyN s) := by
    unfold getOk
    rw [hl]
    exact ⟨h2, by rw [h1]; exact hm, by rw [h1], by rw [h1]⟩
  unfold getN
  rw [if_pos hg, hl, h1]
/-- two nodes have the same block just if they are the same -/
theorem putN_inj {a b : Nd} (ha : mayN a) (hra : a.keys.length ≤ 8796093022208) (hb : mayN b) (hrb : b.keys.length ≤ 8796093022208) (hk : kindN a = kindN b) (h : bodyN a = bodyN b) : a = b := by
  have h1 := getN_putN a ha hra
  have h2 := getN_putN b hb hrb
  rw [hk, h, h2] at h1
  exact (Option.some.inj h1).symm
end Go.Proofs.Ytnjpibbmgbiofaa
