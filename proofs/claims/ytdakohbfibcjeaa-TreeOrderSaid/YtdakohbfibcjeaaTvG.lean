/- A node read from its bytes: the plain function, and that what is written is read again. No condition. -/
import Derived.Test.YtdakohbfibcjeaaTvM
import Derived.Test.YtdakohbfibcjeaaTvA
import Derived.Laws.OwnMore
import Derived.Deep.OwnRows
import Derived.Lib.AppendStr
namespace Go.Proofs.Ytdakohbfibcjeaa

/-- taking n bytes of r: are they not there, what is given, what is left -/
def tkBad (r : List UInt8) (bad : Bool) (n : Nat) : Bool := bad || decide (r.length < n)
def tkOut (r : List UInt8) (bad : Bool) (n : Nat) : List UInt8 := if tkBad r bad n then List.replicate n 0 else r.take n
def tkRest (r : List UInt8) (bad : Bool) (n : Nat) : List UInt8 := if tkBad r bad n then r else r.drop n
/-- taking a text with its length ahead -/
def txN (r : List UInt8) (bad : Bool) : Nat := ((tkOut r bad 1).getD 0 0).toNat
def txOut (r : List UInt8) (bad : Bool) : List UInt8 := tkOut (tkRest r bad 1) (tkBad r bad 1) (txN r bad)
def txRest (r : List UInt8) (bad : Bool) : List UInt8 := tkRest (tkRest r bad 1) (tkBad r bad 1) (txN r bad)
def txBad (r : List UInt8) (bad : Bool) : Bool := tkBad (tkRest r bad 1) (tkBad r bad 1) (txN r bad)
def strOf (l : List UInt8) : ByteArray := ⟨l.toArray⟩
def kidOf (l : List UInt8) : Int := (((l.getD 0 0).toNat + 256 * (l.getD 1 0).toNat : Nat) : Int)
structure PS where
  nd : Nd
  r : List UInt8
  bad : Bool
/-- a key is read -/
def psKey (s : PS) : PS := ⟨{ s.nd with keys := s.nd.keys ++ [strOf (txOut s.r s.bad)] }, txRest s.r s.bad, txBad s.r s.bad⟩
/-- what goes with a key is read -/
def psVal (s : PS) : PS :=
  if s.nd.leaf then ⟨{ s.nd with vals := s.nd.vals ++ [strOf (txOut s.r s.bad)] }, txRest s.r s.bad, txBad s.r s.bad⟩
  else ⟨{ s.nd with kids := s.nd.kids ++ [kidOf (tkOut s.r s.bad 2)] }, tkRest s.r s.bad 2, tkBad s.r s.bad 2⟩
def psTo (lf : Bool) (body : List UInt8) : Nat → PS
  | 0 => ⟨⟨lf, [], [], []⟩, tkRest body false 1, tkBad body false 1⟩
  | k + 1 => psVal (psKey (psTo lf body k))
def psCount (body : List UInt8) : Nat := ((tkOut body false 1).getD 0 0).toNat
def psN (lf : Bool) (body : List UInt8) : PS := psTo lf body (psCount body)
/-- a block's node -/
def getOk (kd : Int) (body : List UInt8) : Prop :=
  (psN (decide (kd = 1)) body).bad = false ∧ mayN (psN (decide (kd = 1)) body).nd ∧ (kindN (psN (decide (kd = 1)) body).nd : Int) = kd ∧ bodyN (psN (decide (kd = 1)) body).nd = body
noncomputable instance (kd : Int) (body : List UInt8) : Decidable (getOk kd body) := Classical.propDecidable _
noncomputable def getN (kd : Int) (body : List UInt8) : Option Nd := if getOk kd body then some (psN (decide (kd = 1)) body).nd else none

theorem psKey_leaf (s : PS) : (psKey s).nd.leaf = s.nd.leaf := rfl
theorem psVal_leaf (s : PS) : (psVal s).nd.leaf = s.nd.leaf := by unfold psVal; split <;> rfl
theorem psTo_leaf (lf : Bool) (body : List UInt8) (k : Nat) : (psTo lf body k).nd.leaf = lf := by
  induction k with
  | zero => rfl
  | succ k ih => rw [psTo, psVal_leaf, psKey_leaf, ih]
theorem tkBad_of (r : List UInt8) (n : Nat) : tkBad r true n = true := rfl
theorem txBad_of (r : List UInt8) : txBad r true = true := rfl
theorem psKey_bad {s : PS} (h : s.bad = true) : (psKey s).bad = true := by
  show txBad s.r s.bad = true
  rw [h]; rfl
theorem psVal_bad {s : PS} (h : s.bad = true) : (psVal s).bad = true := by
  unfold psVal
  split
  · show txBad s.r s.bad = true
    rw [h]; rfl
  · show tkBad s.r s.bad 2 = true
    rw [h]; rfl
theorem psTo_bad {lf : Bool} {body : List UInt8} {j k : Nat} (hjk : j ≤ k) (h : (psTo lf body j).bad = true) : (psTo lf body k).bad = true := by
  induction k with
  | zero => obtain rfl : j = 0 := by omega
            exact h
  | succ k ih =>
    by_cases hj : j ≤ k
    · exact psVal_bad (psKey_bad (ih hj))
    · obtain rfl : j = k + 1 := by omega
      exact h
theorem getN_bad {kd : Int} {body : List UInt8} {j : Nat} (hj : j ≤ psCount body) (h : (psTo (decide (kd = 1)) body j).bad = true) : getN kd body = none := by
  unfold getN
  rw [if_neg]
  intro hg
  have h1 := psTo_bad hj h
  have h2 := hg.1
  unfold psN at h2
  rw [h1] at h2
  cases h2
theorem getN_key {kd : Int} {body : List UInt8} {j : Nat} (hj : j < psCount body) (h : (psKey (psTo (decide (kd = 1)) body j)).bad = true) : getN kd body = none :=
  getN_bad (j := j + 1) hj (psVal_bad h)

theorem tk_there {r : List UInt8} {n : Nat} (h : n ≤ r.length) : tkBad r false n = false ∧ tkOut r false n = r.take n ∧ tkRest r false n = r.drop n := by
  have hb : tkBad r false n = false := by unfold tkBad; simp; omega
  exact ⟨hb, by unfold tkOut; rw [hb]; rfl, by unfold tkRest; rw [hb]; rfl⟩
theorem tx_there (x : UInt8) (k r : List UInt8) (h : k.length = x.toNat) : txBad (x :: (k ++ r)) false = false ∧ txOut (x :: (k ++ r)) false = k ∧ txRest (x :: (k ++ r)) false = r := by
  obtain ⟨a1, a2, a3⟩ := tk_there (r := x :: (k ++ r)) (n := 1) (by simp)
  have hn : txN (x :: (k ++ r)) false = k.length := by unfold txN; rw [a2, h]; rfl
  simp only [List.drop_succ_cons, List.drop_zero] at a3
  obtain ⟨b1, b2, b3⟩ := tk_there (r := k ++ r) (n := k.length) (by simp)
  refine ⟨?_, ?_, ?_⟩
  · unfold txBad; rw [hn, a1, a3, b1]
  · unfold txOut; rw [hn, a1, a3, b2]; simp
  · unfold txRest; rw [hn, a1, a3, b3]; simp
theorem strOf_toList (b : ByteArray) : strOf b.toList = b := by
  rw [ByteArray.toList_eq]; rfl
theorem bodyTo_prefix (s : Nd) {i k : Nat} (h : i ≤ k) : ∃ t, bodyTo s k = bodyTo s i ++ t := by
  induction k with
  | zero => obtain rfl : i = 0 := by omega
            exact ⟨[], by simp⟩
  | succ k ih =>
    by_cases hi : i ≤ k
    · obtain ⟨t, ht⟩ := ih hi
      exact ⟨t ++ pieceN s k, by rw [bodyTo, ht, List.append_assoc]⟩
    · obtain rfl : i = k + 1 := by omega
      exact ⟨[], by simp⟩
theorem u8_of {n : Nat} (h : n < 256) : (UInt8.ofNat n).toNat = n := by simp [UInt8.toNat_ofNat']; omega
theorem kidOf_two {d : Int} (h : 0 ≤ d ∧ d ≤ 65535) (r : List UInt8) : kidOf ([UInt8.ofNat d.toNat, UInt8.ofNat (d.toNat / 256)] ++ r) = d := by
  obtain ⟨n, rfl⟩ := Int.eq_ofNat_of_zero_le h.1
  have hn : n ≤ 65535 := by omega
  unfold kidOf
  simp only [List.cons_append, List.nil_append, List.getD_cons_zero, List.getD_cons_succ, Int.toNat_natCast]
  rw [u8_of (n := n / 256) (by omega), UInt8.toNat_ofNat']
  omega

theorem psTo_body (s : Nd) (hm : mayN s) (hr : s.keys.length ≤ 8796093022208) (i : Nat) (hi : i ≤ s.keys.length) :
    ∃ t, psTo s.leaf (bodyN s) i = ⟨⟨s.leaf, s.keys.take i, if s.leaf then s.vals.take i else [], if s.leaf then [] else s.kids.take i⟩, t, false⟩ ∧ bodyN s = bodyTo s i ++ t := by
  have hk := may_keys hm hr
  induction i with
  | zero =>
    obtain ⟨t, ht⟩ := bodyTo_prefix s (Nat.zero_le s.keys.length)
    refine ⟨t, ?_, ht⟩
    have hb : bodyN s = UInt8.ofNat s.keys.length :: t := ht
    obtain ⟨a1, a2, a3⟩ := tk_there (r := bodyN s) (n := 1) (by rw [hb]; simp)
    rw [psTo, a1, a3, hb]
    simp
  | succ i ih =>
    obtain ⟨t, h1, h2⟩ := ih (by omega)
    obtain ⟨t', h3⟩ := bodyTo_prefix s hi
    have h3' : bodyN s = bodyTo s i ++ (pieceN s i ++ t') := by
      show bodyTo s s.keys.length = _
      rw [h3, bodyTo, List.append_assoc]
    have ht : t = pieceN s i ++ t' := by
      rw [h2] at h3'
      exact List.append_cancel_left h3'
    refine ⟨t', ?_, h3⟩
    have hks : (kAt s i).size ≤ 24 := (hm.2.1 i (by omega)).1
    rw [psTo, h1]
    have hkk : s.keys.take (i + 1) = s.keys.take i ++ [kAt s i] := take_snoc _ _ _ (by omega)
    cases hl : s.leaf with
    | true =>
      have hv := hm.2.2.1 hl
      have hvs : (vAt s i).size ≤ 24 := hv.2.2.2 i (by rw [hv.2.1]; omega)
      have hvv : s.vals.take (i + 1) = s.vals.take i ++ [vAt s i] := take_snoc _ _ _ (by rw [hv.2.1]; omega)
      have hp : t = UInt8.ofNat (kAt s i).size :: ((kAt s i).toList ++ (UInt8.ofNat (vAt s i).size :: ((vAt s i).toList ++ t'))) := by
        rw [ht]; unfold pieceN; rw [if_pos hl]; simp
      obtain ⟨x1, x2, x3⟩ := tx_there (UInt8.ofNat (kAt s i).size) (kAt s i).toList (UInt8.ofNat (vAt s i).size :: ((vAt s i).toList ++ t')) (by rw [length_toList, u8_of (by omega)])
      obtain ⟨y1, y2, y3⟩ := tx_there (UInt8.ofNat (vAt s i).size) (vAt s i).toList t' (by rw [length_toList, u8_of (by omega)])
      unfold psKey psVal
      rw [hp]
      simp only [if_true, x1, x2, x3, y1, y2, y3, strOf_toList, hkk, hvv]
    | false =>
      have hd := hm.2.2.2 hl
      have hds := hd.2.2 i (by rw [hd.1]; omega)
      have hdd : s.kids.take (i + 1) = s.kids.take i ++ [dAt s i] := take_snoc _ _ _ (by rw [hd.1]; omega)
      have hp : t = UInt8.ofNat (kAt s i).size :: ((kAt s i).toList ++ ([UInt8.ofNat (dAt s i).toNat, UInt8.ofNat ((dAt s i).toNat / 256)] ++ t')) := by
        rw [ht]; unfold pieceN; rw [if_neg (by rw [hl]; simp)]; simp
      obtain ⟨x1, x2, x3⟩ := tx_there (UInt8.ofNat (kAt s i).size) (kAt s i).toList ([UInt8.ofNat (dAt s i).toNat, UInt8.ofNat ((dAt s i).toNat / 256)] ++ t') (by rw [length_toList, u8_of (by omega)])
      obtain ⟨y1, y2, y3⟩ := tk_there (r := [UInt8.ofNat (dAt s i).toNat, UInt8.ofNat ((dAt s i).toNat / 256)] ++ t') (n := 2) (by simp)
      have hk2 : kidOf [UInt8.ofNat (dAt s i).toNat, UInt8.ofNat ((dAt s i).toNat / 256)] = dAt s i := by
        have := kidOf_two (d := dAt s i) hds []
        rwa [List.append_nil] at this
      unfold psKey psVal
      rw [hp]
      simp only [Bool.false_eq_true, if_false, x1, x2, x3, y1, y2, y3, strOf_toList, hkk, hdd]
      simp only [List.cons_append, List.nil_append, List.take_succ_cons, List.take_zero, List.drop_succ_cons, List.drop_zero, hk2]

theorem psN_body (s : Nd) (hm : mayN s) (hr : s.keys.length ≤ 8796093022208) : (psN s.leaf (bodyN s)).nd = s ∧ (psN s.leaf (bodyN s)).bad = false := by
  have hk := may_keys hm hr
  obtain ⟨t0, ht0⟩ := bodyTo_prefix s (Nat.zero_le s.keys.length)
  have hb : bodyN s = UInt8.ofNat s.keys.length :: t0 := ht0
  have hc : psCount (bodyN s) = s.keys.length := by
    obtain ⟨a1, a2, a3⟩ := tk_there (r := bodyN s) (n := 1) (by rw [hb]; simp)
    unfold psCount
    rw [a2, hb]
    simp only [List.take_succ_cons, List.take_zero, List.getD_cons_zero]
    exact u8_of (by omega)
  obtain ⟨t, h1, h2⟩ := psTo_body s hm hr s.keys.length (Nat.le_refl _)
  unfold psN
  rw [hc, h1]
  refine ⟨?_, rfl⟩
  obtain ⟨lf, ks, vs, ds⟩ := s
  simp only at *
  cases lf with
  | true =>
    have hv := hm.2.2.1 rfl
    have e1 : vs.take ks.length = vs := List.take_of_length_le (by have := hv.2.1; simp only at this; omega)
    have e2 : ds = [] := by have := hv.2.2.1; simpa using this
    simp [e1, e2]
  | false =>
    have hd := hm.2.2.2 rfl
    have e1 : ds.take ks.length = ds := List.take_of_length_le (by have := hd.1; simp only at this; omega)
    have e2 : vs = [] := by have := hd.2.1; simpa using this
    simp [e1, e2]

/-- what is written is read again -/
theorem getN_putN (s : Nd) (hm : mayN s) (hr : s.keys.length ≤ 8796093022208) : getN (kindN s) (bodyN s) = some s := by
  obtain ⟨h1, h2⟩ := psN_body s hm hr
  have hl : decide (((kindN s : Nat) : Int) = 1) = s.leaf := by
    unfold kindN
    cases s.leaf <;> simp
  have hg : getOk (kindN s) (bodyN s) := by
    unfold getOk
    rw [hl]
    exact ⟨h2, by rw [h1]; exact hm, by rw [h1], by rw [h1]⟩
  unfold getN
  rw [if_pos hg, hl, h1]
/-- two nodes have the same block just if they are the same -/
theorem putN_inj {a b : Nd} (ha : mayN a) (hra : a.keys.length ≤ 8796093022208) (hb : mayN b) (hrb : b.keys.length ≤ 8796093022208) (hk : kindN a = kindN b) (h : bodyN a = bodyN b) : a = b := by
  have h1 := getN_putN a ha hra
  have h2 := getN_putN b hb hrb
  rw [hk, h, h2] at h1
  exact (Option.some.inj h1).symm
end Go.Proofs.Ytdakohbfibcjeaa
namespace Go.Proofs.Ytdakohbfibcjeaa
open Go.RowKit
section
variable {w : World} {base n c s g : Nat} {e t : TypeId} {A : Option Addr} {xs cs : List Value}
theorem own_ne_ty (ho : Own w base e s A n c xs) (hB : Blk w g t cs) (ht : t ≠ e) : some g ≠ ablk A := fun h => by
  rcases ho.cases with ⟨rfl, _⟩ | ⟨g', cur, rfl, _, hh, _⟩
  · cases h
  · simp only [ablk, Option.map_some, Option.some.injEq] at h
    subst h
    unfold Blk at hB
    rw [hB] at hh
    simp only [Option.some.injEq, Obj.cells.injEq] at hh
    exact ht hh.2.1
theorem Own.far_ (ho : Own w base e s A n c xs) {p : Addr} (hp : some p.block ≠ ablk A) (u : Value) : Own (w.setCell p u) base e s A n c xs := by
  refine ⟨ho.len, ?_⟩
  rcases ho.cases with ⟨rfl, rfl, rfl, rfl⟩ | ⟨g', cur, rfl, hb, hh, h1, h2, h3, h4⟩
  · exact .inl ⟨rfl, rfl⟩
  · refine .inr ⟨g', c, cur, rfl, hb, ?_, h1, h2, h3, h4⟩
    rw [Below.heap_setCell w p u g' (fun h => hp (by simp [ablk, h]))]
    exact hh
end
end Go.Proofs.Ytdakohbfibcjeaa
namespace Go.Proofs.Ytdakohbfibcjeaa
open Go.RowKit

theorem gr_set {w w' : World} {g : Nat} (h : w.grownBy w' (some g)) (i : Nat) (v : Value) : w.grownBy (w'.setCell ⟨g, i, none⟩ v) (some g) :=
  ⟨h.os, h.tape, h.output, by simpa using h.size, fun k hk hne => (Below.heap_setCell w' ⟨g, i, none⟩ v k (fun e => hne (by rw [e]))).trans (h.block k hk hne)⟩
theorem gr_alloc {w w' : World} {r : Option Nat} (h : w.grownBy w' r) (o : Obj) : w.grownBy (w'.alloc o) r := h.trans (World.grownBy_alloc w' o r)
theorem gr_drew {w w' : World} {r : Option Nat} (h : w.grownBy w' r) : w.grownBy w'.drew r := ⟨h.os, h.tape, h.output, h.size, h.block⟩
theorem bs_zero {w : World} {lo : Nat} {A : Option Addr} {c : Nat} (hc : c ≤ 9223372036854775807) : Bs w lo A 0 c [] := ⟨rfl, Nat.zero_le _, hc, fun h => absurd h (by simp)⟩
theorem bs_made (w : World) (n : Nat) (hn : n ≤ 9223372036854775807) : Bs (w.alloc (.cells (madeCells #[.int .u8 0] n) 5)) 0 (some ⟨w.heap.size, 0, none⟩) n n (List.replicate n 0) := by
  have hl : (madeCells #[Value.int .u8 0] n) = (List.replicate n (Value.int .u8 0)).toArray := by
    apply Array.toList_inj.1
    rw [toList_madeCells_one]
  rw [hl]
  have hb : Blk (w.alloc (.cells (List.replicate n (Value.int .u8 0)).toArray 5)) w.heap.size 5 (List.replicate n (Value.int .u8 0)) := Blk.new w 5 _
  refine ⟨by simp, Nat.le_refl _, hn, ?_⟩
  have := hb.rd0 (Nat.zero_le w.heap.size)
  have e : bvs (List.replicate n (0 : UInt8)) = List.replicate n (Value.int .u8 0) := by
    simp only [bvs, List.map_replicate]
    rfl
  rw [e]
  exact this.weak (Nat.zero_le _)

/-- what a taker gives, and what it is left with -/
def TkP (w0 w : World) (gt : Nat) (out r' : List UInt8) (bad' : Bool) (e : Ending) (w' : World) : Prop :=
  ∃ O co R' c', e = .returned (.slice O out.length co) ∧ Bs w' 0 O out.length co out ∧ Blk w' gt 143 [.slice R' r'.length c', .bool bad'] ∧ Bs w0 0 R' r'.length c' r' ∧ w.grownBy w' (some gt) ∧ (0 < out.length → ∀ g, ablk O = some g → g < w0.heap.size ∨ w.heap.size ≤ g)

theorem make_u8 (w : World) (n : Nat) (hn : n ≤ 255) : (Instr.makeSlice 82 (.int .i64 (n : Int)) (.int .i64 (n : Int))).run Try.prog w = .ok (.slice (some ⟨w.heap.size, 0, none⟩) n n) (w.alloc (.cells (madeCells #[.int .u8 0] n) 5)) :=
  run_make_row' 82 5 (.int .u8 0) 1 Try.underlying82 info5 rfl .i64 .i64 n (by omega) (by omega) w

set_option maxHeartbeats 1000000 in
theorem take_bad {w0 w : World} {gt n : Nat} {R : Option Addr} {m c : Nat} {bad : Bool} {r : List UInt8} (hT : Blk w gt 143 [.slice R m c, .bool bad]) (h0 : Bs w0 0 R m c r) (hn : n ≤ 255) (hb : tkBad r bad n = true) :
    Calls Try.prog 64 #[.pointer (some ⟨gt, 0, none⟩), .int .i64 n] w (TkP w0 w gt (tkOut r bad n) (tkRest r bad n) (tkBad r bad n)) := by
  have HO : Hid (tkOut r bad n = List.replicate n 0) := by show _ = _; unfold tkOut; rw [if_pos hb]
  have HRe : Hid (tkRest r bad n = r) := by show _ = _; unfold tkRest; rw [if_pos hb]
  have hd : bad = false → (m : Int) < n := fun hf => by
    unfold tkBad at hb
    rw [hf] at hb
    simp at hb
    have := h0.1
    omega
  have HB0 := Lib.hid h0
  have HL := Lib.hid h0.1
  have HT := Lib.hid hT
  have HBd := Lib.hid hb
  have hk := make_u8 (w.setCell ⟨gt, 1, none⟩ (.bool true)) n hn
  have tc := hT.cells
  have tf := hT.frees
  clear h0 hT hb
  cases bad with
  | true =>
    clear hd
    go_enter Try.func64, Try.ntmps64
    go_wp2
    go_ret
    rw [HO.out, HRe.out, HBd.out]
    refine ⟨_, n, R, c, by simp; rfl, by have h9 := bs_made (w.setCell ⟨gt, 1, none⟩ (.bool true)) n (by omega); simpa using h9, ?_, by rw [HL.out]; exact HB0.out, ?_⟩
    · rw [HL.out]
      exact (HT.out.set_ 1 (.bool true)).alloc _
    · refine ⟨gr_alloc (gr_set (World.grownBy.refl _ _) _ _) _, fun _ g hg => .inr ?_⟩
      simp at hg
      omega
  | false =>
    have hd' := hd rfl
    have hd2 : decide ((m : Int) < n) = true := decide_eq_true hd'
    clear hd
    go_enter Try.func64, Try.ntmps64
    go_wp2
    go_ret
    rw [HO.out, HRe.out, HBd.out]
    refine ⟨_, n, R, c, by simp; rfl, by have h9 := bs_made (w.setCell ⟨gt, 1, none⟩ (.bool true)) n (by omega); simpa using h9, ?_, by rw [HL.out]; exact HB0.out, ?_⟩
    · rw [HL.out]
      exact (HT.out.set_ 1 (.bool true)).alloc _
    · refine ⟨gr_alloc (gr_set (World.grownBy.refl _ _) _ _) _, fun _ g hg => .inr ?_⟩
      simp at hg
      omega

theorem bs_drop {w : World} {lo b o m c n : Nat} {r : List UInt8} (h : Bs w lo (some ⟨b, o, none⟩) m c r) (hn : n ≤ m) : Bs w lo (some ⟨b, o + n, none⟩) (m - n) (c - n) (r.drop n) := by
  have h1 := h.cut n m hn (Nat.le_refl _)
  have hl := h.1
  rwa [List.take_of_length_le (by simp; omega)] at h1

set_option maxHeartbeats 1000000 in
theorem take_good {w0 w : World} {gt n : Nat} {R : Option Addr} {m c : Nat} {r : List UInt8} (hT : Blk w gt 143 [.slice R m c, .bool false]) (h0 : Bs w0 0 R m c r) (hB : Below w0.heap.size w0 w) (hg : w0.heap.size ≤ gt) (hn : n ≤ 255) (hb : tkBad r false n = false) :
    Calls Try.prog 64 #[.pointer (some ⟨gt, 0, none⟩), .int .i64 n] w (TkP w0 w gt (tkOut r false n) (tkRest r false n) (tkBad r false n)) := by
  have HO : Hid (tkOut r false n = r.take n) := by show _ = _; unfold tkOut; rw [hb]; rfl
  have HRe : Hid (tkRest r false n = r.drop n) := by show _ = _; unfold tkRest; rw [hb]; rfl
  have HBd := Lib.hid hb
  have hnm : n ≤ m := by
    unfold tkBad at hb
    simp at hb
    have := h0.1
    omega
  have HB0 := Lib.hid h0
  have HL := Lib.hid h0.1
  have HT := Lib.hid hT
  have hc1 := h0.2.1
  have hc2 := h0.2.2.1
  have tc := hT.cells
  have tf := hT.frees
  have hd2 : decide ((m : Int) < n) = false := decide_eq_false (by omega)
  have hBw : Below w0.heap.size w0 ((w.setCell ⟨gt, 1, none⟩ (.bool false))) := hB.setCell (by simpa using hg) _
  clear hT hb h0
  rcases Nat.eq_zero_or_pos m with hm | hm
  · subst hm
    obtain rfl : n = 0 := by omega
    have hr : r = [] := List.eq_nil_of_length_eq_zero HL.out
    subst hr
    go_enter Try.func64, Try.ntmps64
    go_wp2
    go_ret
    rw [HO.out, HRe.out, HBd.out]
    refine ⟨_, _, _, _, rfl, bs_zero hc2, ((HT.out.set_ 1 (.bool false)).set_ 0 _), bs_zero (by omega), gr_set (gr_set (World.grownBy.refl _ _) _ _) _ _, fun h => absurd h (by simp)⟩
  · obtain ⟨b, o, rfl, _, hbw⟩ := HB0.out.at_ hm
    by_cases hcn : c = n
    · have hmn : m = n := by omega
      subst hmn
      subst hcn
      go_enter Try.func64, Try.ntmps64
      go_wp2
      go_ret
      rw [HO.out, HRe.out, HBd.out]
      have e1 : r.take c = r := List.take_of_length_le (by rw [HL.out]; exact Nat.le_refl _)
      have e2 : r.drop c = [] := List.drop_of_length_le (by rw [HL.out]; exact Nat.le_refl _)
      rw [e1, e2]
      refine ⟨_, c, _, _, by rw [HL.out]; rfl, ?_, ((HT.out.set_ 1 (.bool false)).set_ 0 _), bs_zero (by omega), gr_set (gr_set (World.grownBy.refl _ _) _ _) _ _, fun _ g hg => .inl (by simp at hg; omega)⟩
      rw [HL.out]
      exact HB0.out.below (hBw.setCell (by simpa using hg) _) (Nat.le_refl _)
    · go_enter Try.func64, Try.ntmps64
      go_wp2
      go_ret
      rw [HO.out, HRe.out, HBd.out]
      have hl1 : (r.take n).length = n := by rw [List.length_take, HL.out]; omega
      have hl2 : (r.drop n).length = m - n := by rw [List.length_drop, HL.out]
      refine ⟨some ⟨b, o, none⟩, c, some ⟨b, o + n, none⟩, c - n, by rw [hl1]; rfl, ?_, ?_, by rw [hl2]; exact bs_drop HB0.out hnm, gr_set (gr_set (World.grownBy.refl _ _) _ _) _ _, fun _ g hg => .inl (by simp at hg; omega)⟩
      · rw [hl1]
        exact (HB0.out.below (hBw.setCell (by simpa using hg) _) (Nat.le_refl _)).take n hnm
      · rw [hl2]
        exact ((HT.out.set_ 1 (.bool false)).set_ 0 _)

theorem take_any {w0 w : World} {gt n : Nat} {R : Option Addr} {m c : Nat} {bad : Bool} {r : List UInt8} (hT : Blk w gt 143 [.slice R m c, .bool bad]) (h0 : Bs w0 0 R m c r) (hB : Below w0.heap.size w0 w) (hg : w0.heap.size ≤ gt) (hn : n ≤ 255) :
    Calls Try.prog 64 #[.pointer (some ⟨gt, 0, none⟩), .int .i64 n] w (TkP w0 w gt (tkOut r bad n) (tkRest r bad n) (tkBad r bad n)) := by
  cases hb : tkBad r bad n with
  | true => have := take_bad hT h0 hn hb
            rwa [hb] at this
  | false =>
    cases bad with
    | true => cases hb
    | false => have := take_good hT h0 hB hg hn hb
               rwa [hb] at this

theorem length_tkOut (r : List UInt8) (bad : Bool) (n : Nat) : (tkOut r bad n).length = n := by
  unfold tkOut
  cases hb : tkBad r bad n with
  | true => simp
  | false =>
    simp only [Bool.false_eq_true, if_false, List.length_take]
    unfold tkBad at hb
    simp at hb
    omega
theorem below_gr {w0 w w' : World} {gt : Nat} (hB : Below w0.heap.size w0 w) (hg : w0.heap.size ≤ gt) (h : w.grownBy w' (some gt)) : Below w0.heap.size w0 w' :=
  hB.grown h hB.size (fun k hk => by cases hk; exact hg)

/-- what a taker's text is, and what it is left with -/
def TxP (w0 w : World) (gt : Nat) (s : ByteArray) (r' : List UInt8) (bad' : Bool) (e : Ending) (w' : World) : Prop :=
  ∃ R' c', e = .returned (.string s) ∧ Blk w' gt 143 [.slice R' r'.length c', .bool bad'] ∧ Bs w0 0 R' r'.length c' r' ∧ w.grownBy w' (some gt)

set_option maxHeartbeats 1000000 in
theorem text_any {w0 w : World} {gt : Nat} {R : Option Addr} {m c : Nat} {bad : Bool} {r : List UInt8} (hT : Blk w gt 143 [.slice R m c, .bool bad]) (h0 : Bs w0 0 R m c r) (hB : Below w0.heap.size w0 w) (hg : w0.heap.size ≤ gt) :
    Calls Try.prog 65 #[.pointer (some ⟨gt, 0, none⟩)] w (TxP w0 w gt (strOf (txOut r bad)) (txRest r bad) (txBad r bad)) := by
  have T1 := Lib.hid (take_any (n := 1) hT h0 hB hg (by omega))
  have HB := Lib.hid hB
  have hN : txN r bad < 256 := UInt8.toNat_lt _
  have HN : Hid (((tkOut r bad 1).getD 0 0).toNat = txN r bad) := rfl
  have HE1 : Hid (tkOut (tkRest r bad 1) (tkBad r bad 1) (txN r bad) = txOut r bad) := rfl
  have HE2 : Hid (tkRest (tkRest r bad 1) (tkBad r bad 1) (txN r bad) = txRest r bad) := rfl
  have HE3 : Hid (tkBad (tkRest r bad 1) (tkBad r bad 1) (txN r bad) = txBad r bad) := rfl
  clear hT h0 hB
  generalize txN r bad = N at *
  go_enter Try.func65, Try.ntmps65
  go_upto_region 1 with fail
  go_wp2_with (first
    | ((with_reducible refine Calls.mono T1.out ?_); rintro e w1 ⟨O, co, R1, c1, rfl, hO, hT1, h1, hg1, -⟩; rw [length_tkOut] at hO ⊢; obtain ⟨b, o, rfl, _, _⟩ := hO.at_ (by omega); have cd := hO.cell 0 (by omega); rw [HN.out, Nat.add_zero] at cd; have hO1 := hO.2.1; have hO2 := hO.2.2.1; have T2 := Lib.hid (take_any (n := N) hT1 h1 (below_gr HB.out hg hg1) hg (by omega)); have HG1 := Lib.hid hg1; clear hO hT1 h1 hg1)
    | ((with_reducible refine Calls.mono T2.out ?_); rintro e w2 ⟨O2, co2, R2, c2, rfl, hO2', hT2, h2, hg2, -⟩; have kc := conv_bs (P := Try.prog) 82 5 9 Try.underlying82 Try.underlying5 Try.underlying9 hO2'))
  go_ret
  rw [HE1.out, HE2.out, HE3.out] at *
  exact ⟨R2, c2, rfl, hT2, h2, HG1.out.trans hg2⟩
end Go.Proofs.Ytdakohbfibcjeaa
namespace Go.Proofs.Ytdakohbfibcjeaa
open Go.RowKit

theorem strCells_bvs (s : ByteArray) : Lib.strCells s = bvs s.toList := by
  rw [ByteArray.toList_eq]; rfl
section
variable {P : Program}
theorem run_app_str (w : World) (base : Nat) (t u ty : TypeId) (ht : P.underlying t = some (.slice 5)) (hu : P.underlying u = some .string) (hi : (P.info? 5).map (fun i => (i.zero, i.size, i.bytes)) = some (some (.int .u8 0), 1, 1))
    (A : Option Addr) (n c : Nat) (xs : List Value) (hown : Own w base 5 1 A n c xs) (s : ByteArray) (hbytes : n + s.size ≤ 140737488355328) (hbase : base ≤ w.heap.size) :
    ∃ A' c' w', (Builtin.append_ #[t, u] ty #[.slice A n c, .string s]).run P w = .ok (.slice A' (n + s.size) c') w' ∧ Own w' base 5 1 A' (n + s.size) c' (xs ++ bvs s.toList) ∧ w.grownBy w' (ablk A) := by
  obtain ⟨i, hi', hz, hsz, hby⟩ := info_parts hi
  obtain ⟨v', w', hr, h2, h3, _⟩ := Lib.run_append_own_string (P := P) w base t u ty 5 i ht hu hi' hz hsz hby _ n xs hown s (by simp [maxLen]; omega) hbytes hbase
  rw [strCells_bvs] at h2
  have hv : ∃ A' c', v' = .slice A' (n + s.size) c' := by
    rcases h2.2 with ⟨h2, h0⟩ | ⟨g, cap, cur, h2, _⟩
    · exact ⟨none, 0, by rw [h2, h0]⟩
    · exact ⟨_, _, h2⟩
  obtain ⟨A', c', rfl⟩ := hv
  exact ⟨A', c', w', hr, h2, by cases A <;> exact h3⟩

theorem wpOp_app_str {w : World} {o : Oper} {a : Act} {K : Act → World → Prop} {Q : Exit → Act → World → Prop} (d x : Operand) (t u : TypeId)
    (ho : o.op = .call { callee := .builtin .append, args := #[d, x], argTypes := #[t, u] })
    (ht : P.underlying t = some (.slice 5)) (hu : P.underlying u = some .string) (hi : (P.info? 5).map (fun i => (i.zero, i.size, i.bytes)) = some (some (.int .u8 0), 1, 1))
    {base : Nat} {A : Option Addr} {n c : Nat} {xs : List Value} (hd : a.eval d = .slice A n c) (hown : Own w base 5 1 A n c xs) {s : ByteArray} (hx : a.eval x = .string s) (hbytes : n + s.size ≤ 140737488355328) (hbase : base ≤ w.heap.size)
    (h : ∀ A' c' w', Own w' base 5 1 A' (n + s.size) c' (xs ++ bvs s.toList) → w.grownBy w' (ablk A) → K (a.put o.dst (.slice A' (n + s.size) c')) w') : o.wp P a w K Q := by
  obtain ⟨A', c', w', hrun, h2, h3⟩ := run_app_str (P := P) w base t u o.type ht hu hi A n c xs hown s hbytes hbase
  unfold Oper.wp execOp
  simp only [ho, resolve, invoke, builtin, Sem.run_bind, Sem.run_pure, Result.andThen_ok, List.map_toArray, List.map_cons, List.map_nil, hd, hx, hrun]
  exact h A' c' w' h2 h3
theorem step_app_str {w : World} {ops : Array Oper} {o : Oper} {a : Act} {K : Act → World → Prop} {Q : Exit → Act → World → Prop} {E : Prop} (hgd : o.guard = none) (d x : Operand) (t u : TypeId)
    (ho : o.op = .call { callee := .builtin .append, args := #[d, x], argTypes := #[t, u] })
    (ht : P.underlying t = some (.slice 5)) (hu : P.underlying u = some .string) (hi : (P.info? 5).map (fun i => (i.zero, i.size, i.bytes)) = some (some (.int .u8 0), 1, 1))
    {base : Nat} {A : Option Addr} {n c : Nat} {xs : List Value} (hd : a.eval d = .slice A n c) (hown : Own w base 5 1 A n c xs) {s : ByteArray} (hx : a.eval x = .string s) (hbytes : n + s.size ≤ 140737488355328) (hbase : base ≤ w.heap.size)
    (h : ∀ A' c' w', Own w' base 5 1 A' (n + s.size) c' (xs ++ bvs s.toList) → w.grownBy w' (ablk A) → K (a.put o.dst (.slice A' (n + s.size) c')) w') :
    if Region.wanted o (yielded ops a.tmps) = true then Oper.wp P o a w K Q else E := by
  have hw : Region.wanted o (yielded ops a.tmps) = true := by simp [Region.wanted, hgd]
  rw [if_pos hw]
  exact wpOp_app_str d x t u ho ht hu hi hd hown hx hbytes hbase h
end
end Go.Proofs.Ytdakohbfibcjeaa
