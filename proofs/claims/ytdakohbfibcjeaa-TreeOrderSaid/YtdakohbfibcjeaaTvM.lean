/- Nodes of a tree: the plain functions. No condition. -/
import Derived.Test.YtdakohbfibcjeaaTvB
import Derived.Test.YtdakohbfibcjeaaLib
import Derived.Maps.Range
import Derived.Deep.DeepCutAuto
namespace Go.Proofs.Ytdakohbfibcjeaa

structure Nd where
  leaf : Bool
  keys : List ByteArray
  vals : List ByteArray
  kids : List Int
deriving DecidableEq
def Nd.nil : Nd := ⟨false, [], [], []⟩
def kAt (s : Nd) (i : Nat) : ByteArray := s.keys.getD i .empty
def vAt (s : Nd) (i : Nat) : ByteArray := s.vals.getD i .empty
def dAt (s : Nd) (i : Nat) : Int := s.kids.getD i 0
/-- how many bytes a key has with what goes with it -/
def eachN (s : Nd) (i : Nat) : Nat :=
  if s.leaf then 2 + (kAt s i).size + (if i < s.vals.length then (vAt s i).size else 0)
  else if i < s.kids.length then 3 + (kAt s i).size else 1 + (kAt s i).size
def sizeTo (s : Nd) : Nat → Nat
  | 0 => 1
  | k + 1 => sizeTo s k + eachN s k
/-- how many bytes a node has -/
def sizeN (s : Nd) : Nat := sizeTo s s.keys.length
theorem sizeTo_le (s : Nd) {i k : Nat} (h : i ≤ k) : sizeTo s i ≤ sizeTo s k := by
  induction k with
  | zero => obtain rfl : i = 0 := by omega
            exact Nat.le_refl _
  | succ k ih =>
    by_cases hi : i ≤ k
    · have := ih hi
      simp only [sizeTo]
      omega
    · obtain rfl : i = k + 1 := by omega
      exact Nat.le_refl _
end Go.Proofs.Ytdakohbfibcjeaa
namespace Go.Proofs.Ytdakohbfibcjeaa
open Go.RowKit

def sl (l : List ByteArray) : List Value := l.map Value.string
def il (l : List Int) : List Value := l.map (Value.int .i64)
@[simp] theorem length_sl (l : List ByteArray) : (sl l).length = l.length := by simp [sl]
@[simp] theorem length_il (l : List Int) : (il l).length = l.length := by simp [il]
theorem sl_get (l : List ByteArray) (i : Nat) (h : i < l.length) : (sl l)[i]? = some (.string (l.getD i .empty)) := by
  rw [sl, List.getElem?_map, List.getElem?_eq_getElem h, List.getD_eq_getElem?_getD, List.getElem?_eq_getElem h]; rfl
theorem il_get (l : List Int) (i : Nat) (h : i < l.length) : (il l)[i]? = some (.int .i64 (l.getD i 0)) := by
  rw [il, List.getElem?_map, List.getElem?_eq_getElem h, List.getD_eq_getElem?_getD, List.getElem?_eq_getElem h]; rfl
theorem sl_oneCell (l : List ByteArray) : ∀ u ∈ sl l, u.oneCell' = true := by
  intro u hu
  obtain ⟨_, _, rfl⟩ := List.mem_map.1 hu
  rfl
theorem il_oneCell (l : List Int) : ∀ u ∈ il l, u.oneCell' = true := by
  intro u hu
  obtain ⟨_, _, rfl⟩ := List.mem_map.1 hu
  rfl
theorem sl_append (a b : List ByteArray) : sl (a ++ b) = sl a ++ sl b := by simp [sl]
theorem il_append (a b : List Int) : il (a ++ b) = il a ++ il b := by simp [il]

/-- The slice value '.slice A n c' reads as the cells xs. -/
def Ls (w : World) (lo : Nat) (A : Option Addr) (n c : Nat) (xs : List Value) : Prop := xs.length = n ∧ n ≤ c ∧ c ≤ 9223372036854775807 ∧ Rd w lo A xs
section
variable {w w' : World} {lo lo' B n c : Nat} {A : Option Addr} {xs : List Value}
theorem Ls.below (h : Ls w lo A n c xs) (hb : Below B w w') (hB : w.heap.size ≤ B) : Ls w' lo A n c xs := ⟨h.1, h.2.1, h.2.2.1, h.2.2.2.below hb hB⟩
theorem Ls.weak (h : Ls w lo A n c xs) (hl : lo' ≤ lo) : Ls w lo' A n c xs := ⟨h.1, h.2.1, h.2.2.1, h.2.2.2.weak hl⟩
theorem Ls.drewN (h : Ls w lo A n c xs) (k : Nat) : Ls (w.drewN k) lo A n c xs := h
theorem Ls.nil_ (w : World) (lo : Nat) : Ls w lo none 0 0 [] := ⟨rfl, by omega, by omega, Rd.nil_⟩
theorem Ls.at_ (h : Ls w lo A n c xs) (hn : 0 < n) : ∃ b o, A = some ⟨b, o, none⟩ ∧ lo ≤ b ∧ b < w.heap.size := by
  obtain ⟨rfl, _, _, hr⟩ := h
  obtain ⟨b, o, e, h1, h2, _⟩ := hr hn
  exact ⟨b, o, e, h1, h2⟩
theorem Ls.cell {b o : Nat} (h : Ls w lo (some ⟨b, o, none⟩) n c xs) (k : Nat) (hk : k < n) : w.cell? ⟨b, o + k, none⟩ = xs[k]? := by
  obtain ⟨rfl, _, _, hr⟩ := h
  obtain ⟨b', o', e, _, _, hc⟩ := hr (by omega)
  injection e with e
  injection e with e1 e2
  subst e1 e2
  rw [hc k hk, List.getElem?_eq_getElem hk]
end
theorem own_ls {w : World} {base n c : Nat} {e : TypeId} {A : Option Addr} {xs : List Value} (h : Own w base e 1 A n c xs) : Ls w base A n c xs := ⟨h.len1, h.cap.1, h.cap.2, h.rd⟩
theorem sl_cell {w : World} {lo n c b o : Nat} {l : List ByteArray} (h : Ls w lo (some ⟨b, o, none⟩) n c (sl l)) (k : Nat) (hk : k < n) : w.cell? ⟨b, o + k, none⟩ = some (.string (l.getD k .empty)) :=
  (h.cell k hk).trans (sl_get l k (by have := h.1; rw [length_sl] at this; omega))
theorem il_cell {w : World} {lo n c b o : Nat} {l : List Int} (h : Ls w lo (some ⟨b, o, none⟩) n c (il l)) (k : Nat) (hk : k < n) : w.cell? ⟨b, o + k, none⟩ = some (.int .i64 (l.getD k 0)) :=
  (h.cell k hk).trans (il_get l k (by have := h.1; rw [length_il] at this; omega))

theorem toList_inj {a b : ByteArray} : (a.toList == b.toList) = decide (a = b) := by
  rw [Bool.eq_iff_iff, beq_iff_eq, decide_eq_true_eq, ByteArray.toList_eq, ByteArray.toList_eq]
  constructor
  · intro h
    obtain ⟨⟨a⟩⟩ := a
    obtain ⟨⟨b⟩⟩ := b
    simp at h
    rw [h]
  · rintro rfl; rfl
theorem take_snoc {α : Type} (l : List α) (d : α) (i : Nat) (h : i < l.length) : l.take (i + 1) = l.take i ++ [l.getD i d] := by
  rw [List.getD_eq_getElem?_getD, List.getElem?_eq_getElem h, Option.getD_some, List.take_succ_eq_append_getElem h]
end Go.Proofs.Ytdakohbfibcjeaa
namespace Go.Proofs.Ytdakohbfibcjeaa
open Go.RowKit

/-- the node's three lists lie in memory; its texts are no longer than memory -/
structure NdR (w : World) (lo : Nat) (s : Nd) (K : Option Addr) (nk ck : Nat) (V : Option Addr) (nv cv : Nat) (D : Option Addr) (nd cd : Nat) : Prop where
  keys : Ls w lo K nk ck (sl s.keys)
  vals : Ls w lo V nv cv (sl s.vals)
  kids : Ls w lo D nd cd (il s.kids)
  ksmall : ∀ i, (kAt s i).size ≤ 140737488355328
  vsmall : ∀ i, (vAt s i).size ≤ 140737488355328
  kroom : nk ≤ 8796093022208
  vroom : nv ≤ 8796093022208
  droom : nd ≤ 17592186044416
section
variable {w w' : World} {lo lo' B : Nat} {s : Nd} {K : Option Addr} {nk ck : Nat} {V : Option Addr} {nv cv : Nat} {D : Option Addr} {nd cd : Nat}
theorem NdR.below (h : NdR w lo s K nk ck V nv cv D nd cd) (hb : Below B w w') (hB : w.heap.size ≤ B) : NdR w' lo s K nk ck V nv cv D nd cd := ⟨h.keys.below hb hB, h.vals.below hb hB, h.kids.below hb hB, h.ksmall, h.vsmall, h.kroom, h.vroom, h.droom⟩
theorem NdR.drewN (h : NdR w lo s K nk ck V nv cv D nd cd) (k : Nat) : NdR (w.drewN k) lo s K nk ck V nv cv D nd cd := ⟨h.keys, h.vals, h.kids, h.ksmall, h.vsmall, h.kroom, h.vroom, h.droom⟩
theorem NdR.weak (h : NdR w lo s K nk ck V nv cv D nd cd) (hl : lo' ≤ lo) : NdR w lo' s K nk ck V nv cv D nd cd := ⟨h.keys.weak hl, h.vals.weak hl, h.kids.weak hl, h.ksmall, h.vsmall, h.kroom, h.vroom, h.droom⟩
theorem NdR.nk_eq (h : NdR w lo s K nk ck V nv cv D nd cd) : s.keys.length = nk := by have := h.keys.1; rwa [length_sl] at this
theorem NdR.nv_eq (h : NdR w lo s K nk ck V nv cv D nd cd) : s.vals.length = nv := by have := h.vals.1; rwa [length_sl] at this
theorem NdR.nd_eq (h : NdR w lo s K nk ck V nv cv D nd cd) : s.kids.length = nd := by have := h.kids.1; rwa [length_il] at this
end
theorem eachN_le {w : World} {lo : Nat} {s : Nd} {K V D : Option Addr} {nk ck nv cv nd cd : Nat} (h : NdR w lo s K nk ck V nv cv D nd cd) (i : Nat) : eachN s i ≤ 281474976710666 := by
  have h1 := h.ksmall i
  have h2 := h.vsmall i
  unfold eachN
  split
  · split <;> omega
  · split <;> omega

set_option maxHeartbeats 1000000 in
theorem each_any (s : Nd) (i : Nat) {w : World} {lo : Nat} {K V D : Option Addr} {nk ck nv cv nd cd : Nat} (h : NdR w lo s K nk ck V nv cv D nd cd) (hi : i < nk) :
    Calls Try.prog 71 #[.agg #[.bool s.leaf, .slice K nk ck, .slice V nv cv, .slice D nd cd], .int .i64 i] w fun e w' => e = .returned (.int .i64 (eachN s i : Nat)) ∧ Below w.heap.size w w' := by
  have hb : Below w.heap.size w (w.alloc (.cells #[.bool s.leaf, .slice K nk ck, .slice V nv cv, .slice D nd cd] 59)) := (Below.refl _ _).alloc (Nat.le_refl _) _
  have k1 := h.ksmall i
  have v1 := h.vsmall i
  obtain ⟨bk, ok, rfl, _, hbk⟩ := h.keys.at_ (by omega)
  have ck := sl_cell h.keys i hi
  have hv : Hid (∀ hv : i < nv, ∃ b o, V = some ⟨b, o, none⟩ ∧ b < w.heap.size ∧ w.cell? ⟨b, o + i, none⟩ = some (.string (vAt s i))) := fun hv => by
    obtain ⟨b, o, rfl, _, hb⟩ := h.vals.at_ (by omega)
    exact ⟨b, o, rfl, hb, sl_cell h.vals i hv⟩
  have E1 : Hid (s.leaf = true → i < nv → eachN s i = 2 + (kAt s i).size + (vAt s i).size) := fun h1 h2 => by
    unfold eachN; rw [if_pos h1, if_pos (by rw [h.nv_eq]; exact h2)]
  have E2 : Hid (s.leaf = true → ¬ i < nv → eachN s i = 2 + (kAt s i).size) := fun h1 h2 => by
    unfold eachN; rw [if_pos h1, if_neg (by rw [h.nv_eq]; exact h2)]; rfl
  have E3 : Hid (s.leaf = false → i < nd → eachN s i = 3 + (kAt s i).size) := fun h1 h2 => by
    unfold eachN; rw [if_neg (by rw [h1]; simp), if_pos (by rw [h.nd_eq]; exact h2)]
  have E4 : Hid (s.leaf = false → ¬ i < nd → eachN s i = 1 + (kAt s i).size) := fun h1 h2 => by
    unfold eachN; rw [if_neg (by rw [h1]; simp), if_neg (by rw [h.nd_eq]; exact h2)]
  have hck : Hid (w.cell? ⟨bk, ok + i, none⟩ = some (.string (kAt s i))) := ck
  clear ck h
  generalize kAt s i = kk at *
  generalize vAt s i = vv at *
  generalize s.leaf = lf at *
  have ckk := hck.out
  cases lf with
  | true =>
    by_cases hvi : i < nv
    · obtain ⟨b, o, rfl, hb2, cvv⟩ := hv.out hvi
      go_enter Try.func71, Try.ntmps71
      go_wp2
      go_ret
      refine ⟨?_, hb⟩
      rw [E1.out (by trivial) hvi]
      show Ending.returned (.int .i64 _) = _
      congr 2
    · go_enter Try.func71, Try.ntmps71
      go_wp2
      go_ret
      refine ⟨?_, hb⟩
      rw [E2.out (by trivial) hvi]
      show Ending.returned (.int .i64 _) = _
      congr 2
  | false =>
    by_cases hdi : i < nd
    · go_enter Try.func71, Try.ntmps71
      go_wp2
      go_ret
      refine ⟨?_, hb⟩
      rw [E3.out (by trivial) hdi]
      show Ending.returned (.int .i64 _) = _
      congr 2
    · go_enter Try.func71, Try.ntmps71
      go_wp2
      go_ret
      refine ⟨?_, hb⟩
      rw [E4.out (by trivial) hdi]
      show Ending.returned (.int .i64 _) = _
      congr 2

/-- a sum as the machine holds it -/
def szV (n : Nat) : Int := IntKind.i64.wrap (n : Int)
theorem szV_bd (n : Nat) : -9223372036854775808 ≤ szV n ∧ szV n ≤ 9223372036854775807 := by
  unfold szV
  rw [IntKind.wrap_i64]
  omega
theorem szV_add (a b : Nat) : IntKind.i64.wrap (szV a + (b : Int)) = szV (a + b) := by
  unfold szV
  rw [IntKind.wrap_i64, IntKind.wrap_i64, IntKind.wrap_i64]
  omega
theorem szV_one : szV 1 = 1 := rfl

set_option maxHeartbeats 1000000 in
theorem nsize_any (s : Nd) {w : World} {lo : Nat} {K V D : Option Addr} {nk ck nv cv nd cd : Nat} (h : NdR w lo s K nk ck V nv cv D nd cd) :
    Calls Try.prog 47 #[.agg #[.bool s.leaf, .slice K nk ck, .slice V nv cv, .slice D nd cd]] w fun e w' => e = .returned (.int .i64 (szV (sizeN s))) ∧ Below w.heap.size w w' := by
  have HR := Lib.hid h
  have hc1 := h.keys.2.1
  have hc2 := h.keys.2.2.1
  have HS : Hid (sizeN s = sizeTo s nk) := by show _ = _; rw [← h.nk_eq]; rfl
  clear h
  go_enter Try.func47, Try.ntmps47
  go_wp2
  go_loopw [3, 4, 8] (fun s3 s4 s8 wr => ∃ j : Nat, j ≤ nk ∧ s8 = .int .i64 j ∧ s3 = .int .i64 (szV (sizeTo s j)) ∧ Blk wr w.heap.size 59 [.bool s.leaf, .slice K nk ck, .slice V nv cv, .slice D nd cd] ∧ Below w.heap.size w wr)
    (fun _ _ s8 _ => nk - (intOf s8).toNat)
  case atStart => exact ⟨0, Nat.zero_le _, rfl, rfl, Blk.new_at (cs := [.bool s.leaf, .slice K nk ck, .slice V nv cv, .slice D nd cd]) rfl, (Below.refl _ _).alloc (Nat.le_refl _) _⟩
  case round =>
    obtain ⟨j, hj, rfl, rfl, hB, hV⟩ := hrel
    have hBc := hB.cells
    by_cases hlt : j < nk
    · have E1 := Lib.hid (each_any s j (HR.out.below hV (Nat.le_refl _)) hlt)
      have hle := eachN_le HR.out j
      have HX : Hid (szV (sizeTo s (j + 1)) = wrap64 (szV (sizeTo s j) + (eachN s j : Nat))) := by show _ = _; rw [← IntWalk.i64_left, szV_add]; rfl
      have hbd := szV_bd (sizeTo s j)
      generalize szV (sizeTo s j) = X at *
      generalize eachN s j = ee at *
      have HB := Lib.hid hB
      clear hB
      go_wp2_with ((with_reducible refine Calls.mono E1.out ?_); rintro e w1 ⟨rfl, hb1⟩)
      go_roundw
      case rel => exact ⟨j + 1, by omega, by go_num, by rw [HX.out], HB.out.below hb1 HB.out.lt, hV.trans (hb1.mono hV.size)⟩
      case measure => simp [intOf]; omega
    · obtain rfl : j = nk := by omega
      rw [← HS.out]
      go_wp2
      go_ret
      exact ⟨rfl, hV⟩

theorem w64_bd (x : Int) : -9223372036854775808 ≤ wrap64 x ∧ wrap64 x ≤ 9223372036854775807 := by unfold wrap64; omega
theorem w64_w64 (x y : Int) : wrap64 (wrap64 x + y) = wrap64 (x + y) := by unfold wrap64; omega

end Go.Proofs.Ytdakohbfibcjeaa
namespace Go.Proofs.Ytdakohbfibcjeaa
open Go.RowKit

theorem long_any (s : ByteArray) (h : s.size ≤ 140737488355328) (w : World) : Calls Try.prog 52 #[.string s] w fun e w' => e = .returned (.bool (decide (24 < s.size))) ∧ w = w' := by
  go_enter Try.func52, Try.ntmps52
  go_wp2
  go_ret
  refine ⟨?_, rfl⟩
  show Ending.returned (.bool (decide ((24 : Int) < (s.size : Int)))) = _
  rw [show decide ((24 : Int) < (s.size : Int)) = decide (24 < s.size) from decide_eq_decide.2 (by omega)]
theorem wide_b {n : Int} {d : Bool} (hd : decide (n < 0 ∨ 65535 < n) = d) (w : World) : Calls Try.prog 54 #[.int .i64 n] w fun e w' => e = .returned (.bool d) ∧ w = w' := by
  have HD := Lib.hid hd
  clear hd
  by_cases h1 : n < 0
  · go_enter Try.func54, Try.ntmps54
    go_wp2
    go_ret
    exact ⟨by rw [← HD.out, decide_eq_true (.inl h1)]; rfl, rfl⟩
  · by_cases h2 : 65535 < n
    · go_enter Try.func54, Try.ntmps54
      go_wp2
      go_ret
      exact ⟨by rw [← HD.out, decide_eq_true (.inr h2)]; rfl, rfl⟩
    · go_enter Try.func54, Try.ntmps54
      go_wp2
      go_ret
      exact ⟨by rw [← HD.out, decide_eq_false (by omega)]; rfl, rfl⟩
theorem wide_any (n : Int) (w : World) : Calls Try.prog 54 #[.int .i64 n] w fun e w' => e = .returned (.bool (decide (n < 0 ∨ 65535 < n))) ∧ w = w' := wide_b rfl w

def shortAll (l : List ByteArray) : Prop := ∀ i, i < l.length → (l.getD i .empty).size ≤ 24
instance (l : List ByteArray) : Decidable (shortAll l) := by unfold shortAll; infer_instance
def narrowAll (l : List Int) : Prop := ∀ i, i < l.length → 0 ≤ l.getD i 0 ∧ l.getD i 0 ≤ 65535
instance (l : List Int) : Decidable (narrowAll l) := by unfold narrowAll; infer_instance

set_option maxHeartbeats 1000000 in
theorem idxs_any {A : Option Addr} {n c lo : Nat} {l : List ByteArray} {w : World} (h : Ls w lo A n c (sl l)) (hs : ∀ i, (l.getD i .empty).size ≤ 140737488355328) :
    Calls Try.prog 75 #[.slice A n c, .func (.func 52) #[] #[]] w fun e w' => (∃ r : Int, e = .returned (.int .i64 r) ∧ Hid ((shortAll l → r = -1) ∧ (¬ shortAll l → 0 ≤ r))) ∧ w = w' := by
  have HR := Lib.hid h
  have hl := Lib.hid (show l.length = n by have := h.1; rwa [length_sl] at this)
  have hc1 := h.2.1
  have hc2 := h.2.2.1
  have HS := Lib.hid hs
  clear h hs
  go_enter Try.func75, Try.ntmps75
  go_wp2
  go_loopw [5, 8] (fun s5 s8 wr => ∃ j : Nat, j ≤ n ∧ s8 = .int .i64 j ∧ (∀ i, i < j → (l.getD i .empty).size ≤ 24) ∧ wr = w) (fun _ s8 _ => n - (intOf s8).toNat)
  case atStart => exact ⟨0, Nat.zero_le _, rfl, fun i hi => absurd hi (by omega), rfl⟩
  case round =>
    obtain ⟨j, hj, rfl, ha, rfl⟩ := hrel
    have HA := Lib.hid ha
    clear ha
    by_cases hlt : j < n
    · obtain ⟨b, o, rfl, _, _⟩ := HR.out.at_ (by omega)
      have cd := sl_cell HR.out j hlt
      have C1 := Lib.hid (long_any (l.getD j .empty) (HS.out j) wr)
      by_cases hk : 24 < (l.getD j .empty).size
      · have HN : Hid (¬ shortAll l) := fun h2 => by have := h2 j (by rw [hl.out]; exact hlt); omega
        rw [decide_eq_true hk] at C1
        clear hk
        generalize l.getD j .empty = u at *
        go_wp2_with ((with_reducible refine Calls.mono C1.out ?_); rintro e w1 ⟨rfl, rfl⟩)
        go_ret
        exact ⟨⟨(j : Int), rfl, ⟨fun h => absurd h HN.out, fun _ => by omega⟩⟩, rfl⟩
      · have HK : Hid (∀ i, i < j + 1 → (l.getD i .empty).size ≤ 24) := fun i hi => by
          by_cases hij : i < j
          · exact HA.out i hij
          · obtain rfl : i = j := by omega
            omega
        rw [decide_eq_false hk] at C1
        clear hk
        generalize l.getD j .empty = u at *
        go_wp2_with ((with_reducible refine Calls.mono C1.out ?_); rintro e w1 ⟨rfl, rfl⟩)
        go_roundw
        case rel => exact ⟨j + 1, by omega, by go_num, HK.out, trivial⟩
        case measure => simp [intOf]; omega
    · obtain rfl : j = n := by omega
      have HY : Hid (shortAll l) := fun i hi => HA.out i (by rw [← hl.out]; exact hi)
      go_wp2
      go_ret
      exact ⟨⟨-1, rfl, ⟨fun _ => rfl, fun h => absurd HY.out h⟩⟩, rfl⟩

theorem cons_any {A : Option Addr} {n c lo : Nat} {l : List ByteArray} {w : World} (h : Ls w lo A n c (sl l)) (hs : ∀ i, (l.getD i .empty).size ≤ 140737488355328) :
    Calls Try.prog 51 #[.slice A n c, .func (.func 52) #[] #[]] w fun e w' => e = .returned (.bool (decide (¬ shortAll l))) ∧ w = w' := by
  have C1 := Lib.hid (idxs_any h hs)
  clear h hs
  go_enter Try.func51, Try.ntmps51
  go_wp2_with ((with_reducible refine Calls.mono C1.out ?_); rintro e w1 ⟨⟨r, rfl, hr⟩, rfl⟩)
  go_ret
  refine ⟨?_, rfl⟩
  show Ending.returned (.bool (decide (0 ≤ r))) = _
  by_cases hsh : shortAll l
  · have hr := hr.out.1 hsh
    rw [decide_eq_false (by omega), decide_eq_false (by simp [hsh])]
  · have hr := hr.out.2 hsh
    rw [decide_eq_true hr, decide_eq_true hsh]
set_option maxHeartbeats 1000000 in
theorem idxd_any {A : Option Addr} {n c lo : Nat} {l : List Int} {w : World} (h : Ls w lo A n c (il l)) :
    Calls Try.prog 76 #[.slice A n c, .func (.func 54) #[] #[]] w fun e w' => (∃ r : Int, e = .returned (.int .i64 r) ∧ Hid ((narrowAll l → r = -1) ∧ (¬ narrowAll l → 0 ≤ r))) ∧ w = w' := by
  have HR := Lib.hid h
  have hl := Lib.hid (show l.length = n by have := h.1; rwa [length_il] at this)
  have hc1 := h.2.1
  have hc2 := h.2.2.1
  clear h
  go_enter Try.func76, Try.ntmps76
  go_wp2
  go_loopw [5, 8] (fun s5 s8 wr => ∃ j : Nat, j ≤ n ∧ s8 = .int .i64 j ∧ (∀ i, i < j → 0 ≤ l.getD i 0 ∧ l.getD i 0 ≤ 65535) ∧ wr = w) (fun _ s8 _ => n - (intOf s8).toNat)
  case atStart => exact ⟨0, Nat.zero_le _, rfl, fun i hi => absurd hi (by omega), rfl⟩
  case round =>
    obtain ⟨j, hj, rfl, ha, rfl⟩ := hrel
    have HA := Lib.hid ha
    clear ha
    by_cases hlt : j < n
    · obtain ⟨b, o, rfl, _, _⟩ := HR.out.at_ (by omega)
      have cd := il_cell HR.out j hlt
      have C1 := Lib.hid (wide_any (l.getD j 0) wr)
      by_cases hk : l.getD j 0 < 0 ∨ 65535 < l.getD j 0
      · have HN : Hid (¬ narrowAll l) := fun h2 => by have := h2 j (by rw [hl.out]; exact hlt); omega
        rw [decide_eq_true hk] at C1
        clear hk
        generalize l.getD j 0 = u at *
        go_wp2_with ((with_reducible refine Calls.mono C1.out ?_); rintro e w1 ⟨rfl, rfl⟩)
        go_ret
        exact ⟨⟨(j : Int), rfl, ⟨fun h => absurd h HN.out, fun _ => by omega⟩⟩, rfl⟩
      · have HK : Hid (∀ i, i < j + 1 → 0 ≤ l.getD i 0 ∧ l.getD i 0 ≤ 65535) := fun i hi => by
          by_cases hij : i < j
          · exact HA.out i hij
          · obtain rfl : i = j := by omega
            omega
        rw [decide_eq_false hk] at C1
        clear hk
        generalize l.getD j 0 = u at *
        go_wp2_with ((with_reducible refine Calls.mono C1.out ?_); rintro e w1 ⟨rfl, rfl⟩)
        go_roundw
        case rel => exact ⟨j + 1, by omega, by go_num, HK.out, trivial⟩
        case measure => simp [intOf]; omega
    · obtain rfl : j = n := by omega
      have HY : Hid (narrowAll l) := fun i hi => HA.out i (by rw [← hl.out]; exact hi)
      go_wp2
      go_ret
      exact ⟨⟨-1, rfl, ⟨fun _ => rfl, fun h => absurd HY.out h⟩⟩, rfl⟩

theorem cond_any {A : Option Addr} {n c lo : Nat} {l : List Int} {w : World} (h : Ls w lo A n c (il l)) :
    Calls Try.prog 53 #[.slice A n c, .func (.func 54) #[] #[]] w fun e w' => e = .returned (.bool (decide (¬ narrowAll l))) ∧ w = w' := by
  have C1 := Lib.hid (idxd_any h)
  clear h
  go_enter Try.func53, Try.ntmps53
  go_wp2_with ((with_reducible refine Calls.mono C1.out ?_); rintro e w1 ⟨⟨r, rfl, hr⟩, rfl⟩)
  go_ret
  refine ⟨?_, rfl⟩
  show Ending.returned (.bool (decide (0 ≤ r))) = _
  by_cases hsh : narrowAll l
  · have hr := hr.out.1 hsh
    rw [decide_eq_false (by omega), decide_eq_false (by simp [hsh])]
  · have hr := hr.out.2 hsh
    rw [decide_eq_true hr, decide_eq_true hsh]
end Go.Proofs.Ytdakohbfibcjeaa
namespace Go.Proofs.Ytdakohbfibcjeaa
open Go.RowKit

def keyOk (s : Nd) (i : Nat) : Prop := (kAt s i).size ≤ 24 ∧ (0 < i → Op.bytesLess (kAt s (i - 1)).toList (kAt s i).toList = true)
instance (s : Nd) (i : Nat) : Decidable (keyOk s i) := by unfold keyOk; infer_instance
def headN (s : Nd) : Prop := 0 < s.keys.length ∧ szV (sizeN s) ≤ 240
instance (s : Nd) : Decidable (headN s) := by unfold headN; infer_instance
def leafN (s : Nd) : Prop := kAt s 0 ≠ .empty ∧ s.vals.length = s.keys.length ∧ s.kids.length = 0 ∧ shortAll s.vals
instance (s : Nd) : Decidable (leafN s) := by unfold leafN; infer_instance
def innerN (s : Nd) : Prop := s.kids.length = s.keys.length ∧ s.vals.length = 0 ∧ narrowAll s.kids
instance (s : Nd) : Decidable (innerN s) := by unfold innerN; infer_instance
def mayN (s : Nd) : Prop := headN s ∧ (∀ i, i < s.keys.length → keyOk s i) ∧ (s.leaf = true → leafN s) ∧ (s.leaf = false → innerN s)
instance (s : Nd) : Decidable (mayN s) := by unfold mayN; infer_instance

theorem toList_empty (k : ByteArray) : k.toList.isEmpty = decide (k = .empty) := by
  have h := @toList_inj k .empty
  rw [← h]
  have e : (ByteArray.empty).toList = [] := by rw [ByteArray.toList_eq]; rfl
  rw [e]
  cases k.toList <;> rfl
theorem kAt_size {w : World} {lo : Nat} {s : Nd} {K V D : Option Addr} {nk ck nv cv nd cd : Nat} (h : NdR w lo s K nk ck V nv cv D nd cd) (i : Nat) : (s.vals.getD i .empty).size ≤ 140737488355328 := h.vsmall i

set_option maxRecDepth 100000 in
set_option maxHeartbeats 4000000 in
theorem nmay_any (s : Nd) {w : World} {lo : Nat} {K V D : Option Addr} {nk ck nv cv nd cd : Nat} (h : NdR w lo s K nk ck V nv cv D nd cd) :
    Calls Try.prog 34 #[.agg #[.bool s.leaf, .slice K nk ck, .slice V nv cv, .slice D nd cd]] w fun e w' => e = .returned (.bool (decide (mayN s))) ∧ Below w.heap.size w w' := by
  have HR := Lib.hid h
  have hk := Lib.hid h.nk_eq
  have hv := Lib.hid h.nv_eq
  have hd := Lib.hid h.nd_eq
  have hc1 := h.keys.2.1
  have hc2 := h.keys.2.2.1
  have HF : Hid (¬ mayN s → decide (mayN s) = false) := fun h => decide_eq_false h
  have HT : Hid (mayN s → decide (mayN s) = true) := fun h => decide_eq_true h
  have hb : Below w.heap.size w (w.alloc (.cells #[.bool s.leaf, .slice K nk ck, .slice V nv cv, .slice D nd cd] 59)) := (Below.refl _ _).alloc (Nat.le_refl _) _
  by_cases h0 : nk = 0
  · have HN : Hid (¬ mayN s) := fun h => by have := h.1.1; rw [hk.out] at this; omega
    have h0' : ((nk : Int) == 0) = true := beq_iff_eq.2 (by omega)
    clear h
    go_enter Try.func34, Try.ntmps34
    go_wp2
    go_ret
    exact ⟨by rw [HF.out HN.out]; rfl, (Below.refl _ _).alloc (Nat.le_refl _) _⟩
  have h0' : ((nk : Int) == 0) = false := beq_eq_false_iff_ne.2 (by omega)
  have S1 := Lib.hid (nsize_any s (h.below hb (Nat.le_refl _)))
  have bd := szV_bd (sizeN s)
  by_cases h1 : szV (sizeN s) ≤ 240
  rotate_left
  · have HN : Hid (¬ mayN s) := fun h => h1 h.1.2
    have d1 : decide (240 < szV (sizeN s)) = true := decide_eq_true (by omega)
    clear h
    go_enter Try.func34, Try.ntmps34
    go_wp2_with ((with_reducible refine Calls.mono S1.out ?_); rintro e w1 ⟨rfl, hb1⟩)
    go_ret
    exact ⟨by rw [HF.out HN.out]; rfl, hb.trans (hb1.mono hb.size)⟩
  have d1 : decide (240 < szV (sizeN s)) = false := decide_eq_false (by omega)
  have HH : Hid (headN s) := ⟨by rw [hk.out]; omega, h1⟩
  clear h
  go_enter Try.func34, Try.ntmps34
  go_upto_region 3 with ((with_reducible refine Calls.mono S1.out ?_); rintro e w1 ⟨rfl, hb1⟩)
  refine wp_world (fun U => Blk U w.heap.size 59 [.bool s.leaf, .slice K nk ck, .slice V nv cv, .slice D nd cd] ∧ Below w.heap.size w U ∧ NdR U lo s K nk ck V nv cv D nd cd)
    ⟨(Blk.new w _ [.bool s.leaf, .slice K nk ck, .slice V nv cv, .slice D nd cd]).below hb1 (by simp), hb.trans (hb1.mono (by simp)), HR.out.below (hb.trans (hb1.mono (by simp))) (Nat.le_refl _)⟩ ?_
  clear S1 hb1 hb d1 bd h1 h0' HR
  rintro U ⟨hB, hU, hR⟩
  have hBc := hB.cells
  have HR := Lib.hid hR
  clear hB hR
  go_wp2
  go_loopw [3, 16] (fun s3 s16 wr => ∃ i : Nat, i ≤ nk ∧ s16 = .int .i64 i ∧ (∀ j, j < i → keyOk s j) ∧ ∃ q, wr = U.drewN q) (fun _ s16 _ => nk - (intOf s16).toNat)
  case atStart => exact ⟨0, Nat.zero_le _, rfl, fun j hj => absurd hj (by omega), 0, rfl⟩
  case round =>
    obtain ⟨i, hi, rfl, ha, q, rfl⟩ := hrel
    have HA := Lib.hid ha
    clear ha
    by_cases hlt : i < nk
    · obtain ⟨b, o, rfl, _, _⟩ := HR.out.keys.at_ (by omega)
      have c0 : U.cell? ⟨b, o + i, none⟩ = some (.string (kAt s i)) := sl_cell HR.out.keys i hlt
      have k1 := HR.out.ksmall i
      have HK : Hid (∀ h : keyOk s i, ∀ j, j < i + 1 → keyOk s j) := fun h j hj => by
        by_cases hji : j < i
        · exact HA.out j hji
        · obtain rfl : j = i := by omega
          exact h
      have HN : Hid (¬ keyOk s i → ¬ mayN s) := fun h h2 => h (h2.2.1 i (by rw [hk.out]; exact hlt))
      have HKo : Hid (keyOk s i ↔ ((kAt s i).size ≤ 24 ∧ (0 < i → Op.bytesLess (kAt s (i - 1)).toList (kAt s i).toList = true))) := Iff.rfl
      go_upto_region 6 with fail
      go_cut [43] (fun s43 wx => s43 = .bool (decide (¬ keyOk s i)) ∧ ∃ q, wx = U.drewN q)
      case first =>
        generalize hkk : kAt s i = kk at *
        by_cases a1 : 24 < kk.size
        · have d1 : decide ((24 : Int) < (kk.size : Int)) = true := decide_eq_true (by omega)
          have HD : Hid (decide (¬ keyOk s i) = true) := decide_eq_true (fun h => by have := (HKo.out.1 h).1; omega)
          go_quiet (fail)
          go_wp2_with fail
          go_meet
          exact ⟨by rw [HD.out], q + nq, by rw [World.drewN_drewN]⟩
        have d1 : decide ((24 : Int) < (kk.size : Int)) = false := decide_eq_false (by omega)
        by_cases a2 : i = 0
        · have d2 : decide (0 < i) = false := decide_eq_false (by omega)
          have HD : Hid (decide (¬ keyOk s i) = false) := decide_eq_false (fun h => h (HKo.out.2 ⟨by omega, fun h => by omega⟩))
          clear a2
          go_quiet (fail)
          go_wp2_with fail
          go_meet
          exact ⟨by rw [HD.out], q + nq, by rw [World.drewN_drewN]⟩
        have d2 : decide (0 < i) = true := decide_eq_true (by omega)
        obtain ⟨j, hj⟩ : ∃ j, i = j + 1 := ⟨i - 1, by omega⟩
        have e1 : (i : Int) - 1 = (j : Int) := by omega
        have cj : U.cell? ⟨b, o + j, none⟩ = some (.string (kAt s j)) := sl_cell HR.out.keys j (by omega)
        have hjn : j < nk := by omega
        have hij : i - 1 = j := by omega
        rw [hij] at HKo
        have HJ := Lib.hid hj
        clear hj hij
        generalize kAt s j = kj at *
        by_cases a3 : Op.bytesLess kj.toList kk.toList = true
        · have HD : Hid (decide (¬ keyOk s i) = false) := decide_eq_false (fun h => h (HKo.out.2 ⟨by omega, fun _ => a3⟩))
          go_quiet (fail)
          go_wp2_with fail
          go_meet
          exact ⟨by rw [HD.out], q + nq, by rw [World.drewN_drewN]⟩
        · have a3' : Op.bytesLess kj.toList kk.toList = false := by simpa using a3
          have HD : Hid (decide (¬ keyOk s i) = true) := decide_eq_true (fun h => a3 ((HKo.out.1 h).2 (by have := HJ.out; omega)))
          clear a3
          go_quiet (fail)
          go_wp2_with fail
          go_meet
          exact ⟨by rw [HD.out], q + nq, by rw [World.drewN_drewN]⟩
      case rest =>
        obtain ⟨rfl, q2, rfl⟩ := hcut
        by_cases hko : keyOk s i
        · rw [show decide (¬ keyOk s i) = false from decide_eq_false (fun h => h hko)]
          have HKN := Lib.hid (HK.out hko)
          clear hko
          go_wp2
          go_roundw
          case rel => exact ⟨i + 1, by omega, by go_num, HKN.out, q2, rfl⟩
          case measure => simp [intOf]; omega
        · rw [show decide (¬ keyOk s i) = true from decide_eq_true hko]
          have HN2 := Lib.hid (HN.out hko)
          clear hko
          go_wp2
          go_ret
          exact ⟨by rw [HF.out HN2.out]; rfl, below_drewN hU q2⟩
    · obtain rfl : i = nk := by omega
      have HAll : Hid (∀ j, j < s.keys.length → keyOk s j) := fun j hj => HA.out j (by rw [← hk.out]; exact hj)
      have hq := below_drewN hU q
      by_cases hlf : s.leaf = true
      · rw [hlf] at hBc
        obtain ⟨b, o, rfl, _, _⟩ := HR.out.keys.at_ (by omega)
        have c0 : U.cell? ⟨b, o, none⟩ = some (.string (kAt s 0)) := sl_cell HR.out.keys 0 (by omega)
        have C1 := Lib.hid (cons_any (w := U.drewN q) (HR.out.vals.drewN q) (fun i => HR.out.vsmall i))
        have HL : Hid (leafN s ↔ (kAt s 0 ≠ .empty ∧ nv = i ∧ nd = 0 ∧ shortAll s.vals)) := by
          show _ ↔ _
          unfold leafN
          rw [hk.out, hv.out, hd.out]
        have HM : Hid (leafN s → mayN s) := fun h => by
          unfold mayN
          exact ⟨HH.out, HAll.out, fun _ => h, fun h2 => absurd (hlf.symm.trans h2) (by simp)⟩
        have HNM : Hid (¬ leafN s → ¬ mayN s) := fun h h2 => h (h2.2.2.1 hlf)
        have hem := toList_empty (kAt s 0)
        generalize kAt s 0 = k0 at *
        by_cases b1 : k0 = .empty
        · have HX := Lib.hid (HF.out (HNM.out (fun h => (HL.out.1 h).1 b1)))
          rw [decide_eq_true b1] at hem
          clear b1
          go_wp2
          go_ret
          exact ⟨by rw [HX.out]; rfl, hq⟩
        rw [decide_eq_false b1] at hem
        have HB1 := Lib.hid b1
        clear b1
        by_cases b2 : nv = i
        rotate_left
        · have HX := Lib.hid (HF.out (HNM.out (fun h => b2 (HL.out.1 h).2.1)))
          have e2 : ((nv : Int) == (i : Int)) = false := beq_eq_false_iff_ne.2 (by omega)
          clear b2
          go_wp2
          go_ret
          exact ⟨by rw [HX.out]; rfl, hq⟩
        have e2 : ((nv : Int) == (i : Int)) = true := beq_iff_eq.2 (by omega)
        have HB2 := Lib.hid b2
        clear b2
        by_cases b3 : nd = 0
        rotate_left
        · have HX := Lib.hid (HF.out (HNM.out (fun h => b3 (HL.out.1 h).2.2.1)))
          have e3 : ((nd : Int) == 0) = false := beq_eq_false_iff_ne.2 (by omega)
          clear b3
          go_wp2
          go_ret
          exact ⟨by rw [HX.out]; rfl, hq⟩
        have e3 : ((nd : Int) == 0) = true := beq_iff_eq.2 (by omega)
        have HB3 := Lib.hid b3
        clear b3
        by_cases b4 : shortAll s.vals
        · have HX := Lib.hid (HT.out (HM.out (HL.out.2 ⟨HB1.out, HB2.out, HB3.out, b4⟩)))
          rw [decide_eq_false (show ¬ ¬ shortAll s.vals from fun h => h b4)] at C1
          clear b4
          go_wp2_with ((with_reducible refine Calls.mono C1.out ?_); rintro e w1 ⟨rfl, rfl⟩)
          go_ret
          exact ⟨by rw [HX.out]; rfl, hq⟩
        · have HX := Lib.hid (HF.out (HNM.out (fun h => b4 (HL.out.1 h).2.2.2)))
          rw [decide_eq_true (show ¬ shortAll s.vals from b4)] at C1
          clear b4
          go_wp2_with ((with_reducible refine Calls.mono C1.out ?_); rintro e w1 ⟨rfl, rfl⟩)
          go_ret
          exact ⟨by rw [HX.out]; rfl, hq⟩
      · have hlf : s.leaf = false := by simpa using hlf
        rw [hlf] at hBc
        have C1 := Lib.hid (cond_any (w := U.drewN q) (HR.out.kids.drewN q))
        have HL : Hid (innerN s ↔ (nd = i ∧ nv = 0 ∧ narrowAll s.kids)) := by
          show _ ↔ _
          unfold innerN
          rw [hk.out, hv.out, hd.out]
        have HM : Hid (innerN s → mayN s) := fun h => by
          unfold mayN
          exact ⟨HH.out, HAll.out, fun h2 => absurd (hlf.symm.trans h2) (by simp), fun _ => h⟩
        have HNM : Hid (¬ innerN s → ¬ mayN s) := fun h h2 => h (h2.2.2.2 hlf)
        by_cases b2 : nd = i
        rotate_left
        · have HX := Lib.hid (HF.out (HNM.out (fun h => b2 (HL.out.1 h).1)))
          have e2 : ((nd : Int) == (i : Int)) = false := beq_eq_false_iff_ne.2 (by omega)
          clear b2
          go_wp2
          go_ret
          exact ⟨by rw [HX.out]; rfl, hq⟩
        have e2 : ((nd : Int) == (i : Int)) = true := beq_iff_eq.2 (by omega)
        have HB2 := Lib.hid b2
        clear b2
        by_cases b3 : nv = 0
        rotate_left
        · have HX := Lib.hid (HF.out (HNM.out (fun h => b3 (HL.out.1 h).2.1)))
          have e3 : ((nv : Int) == 0) = false := beq_eq_false_iff_ne.2 (by omega)
          clear b3
          go_wp2
          go_ret
          exact ⟨by rw [HX.out]; rfl, hq⟩
        have e3 : ((nv : Int) == 0) = true := beq_iff_eq.2 (by omega)
        have HB3 := Lib.hid b3
        clear b3
        by_cases b4 : narrowAll s.kids
        · have HX := Lib.hid (HT.out (HM.out (HL.out.2 ⟨HB2.out, HB3.out, b4⟩)))
          rw [decide_eq_false (show ¬ ¬ narrowAll s.kids from fun h => h b4)] at C1
          clear b4
          go_wp2_with ((with_reducible refine Calls.mono C1.out ?_); rintro e w1 ⟨rfl, rfl⟩)
          go_ret
          exact ⟨by rw [HX.out]; rfl, hq⟩
        · have HX := Lib.hid (HF.out (HNM.out (fun h => b4 (HL.out.1 h).2.2)))
          rw [decide_eq_true (show ¬ narrowAll s.kids from b4)] at C1
          clear b4
          go_wp2_with ((with_reducible refine Calls.mono C1.out ?_); rintro e w1 ⟨rfl, rfl⟩)
          go_ret
          exact ⟨by rw [HX.out]; rfl, hq⟩
end Go.Proofs.Ytdakohbfibcjeaa
namespace Go.Proofs.Ytdakohbfibcjeaa

/-- the bytes of a key, and of what goes with it -/
def pieceN (s : Nd) (i : Nat) : List UInt8 :=
  UInt8.ofNat (kAt s i).size :: ((kAt s i).toList ++ (if s.leaf then UInt8.ofNat (vAt s i).size :: (vAt s i).toList else [UInt8.ofNat (dAt s i).toNat, UInt8.ofNat ((dAt s i).toNat / 256)]))
def bodyTo (s : Nd) : Nat → List UInt8
  | 0 => [UInt8.ofNat s.keys.length]
  | k + 1 => bodyTo s k ++ pieceN s k
def bodyN (s : Nd) : List UInt8 := bodyTo s s.keys.length
def kindN (s : Nd) : Nat := if s.leaf then 1 else 2
theorem length_toList (b : ByteArray) : b.toList.length = b.size := by rw [ByteArray.toList_eq]; rfl
theorem length_pieceN (s : Nd) (i : Nat) (hi : i < s.keys.length) (hl : s.leaf = true → s.vals.length = s.keys.length) (hd : s.leaf = false → s.kids.length = s.keys.length) : (pieceN s i).length = eachN s i := by
  unfold pieceN eachN
  cases h : s.leaf with
  | true =>
    simp only [if_true, List.length_cons, List.length_append, length_toList]
    rw [if_pos (by rw [hl h]; exact hi)]
    omega
  | false =>
    simp only [List.length_cons, List.length_append, length_toList, List.length_nil, Bool.false_eq_true, if_false]
    rw [if_pos (by rw [hd h]; exact hi)]
    omega
theorem length_bodyTo (s : Nd) (hl : s.leaf = true → s.vals.length = s.keys.length) (hd : s.leaf = false → s.kids.length = s.keys.length) (k : Nat) (hk : k ≤ s.keys.length) : (bodyTo s k).length = sizeTo s k := by
  induction k with
  | zero => rfl
  | succ k ih =>
    rw [bodyTo, sizeTo, List.length_append, ih (by omega), length_pieceN s k (by omega) hl hd]

theorem may_lens {s : Nd} (h : mayN s) : (s.leaf = true → s.vals.length = s.keys.length) ∧ (s.leaf = false → s.kids.length = s.keys.length) := ⟨fun hl => (h.2.2.1 hl).2.1, fun hl => (h.2.2.2 hl).1⟩
theorem may_each {s : Nd} (h : mayN s) (i : Nat) (hi : i < s.keys.length) : eachN s i ≤ 50 := by
  have h1 := (h.2.1 i hi).1
  unfold eachN
  cases hl : s.leaf with
  | true =>
    have h2 := (h.2.2.1 hl).2.2.2
    simp only [if_true]
    split
    · rename_i hv
      have := h2 i hv
      unfold vAt
      omega
    · omega
  | false =>
    simp only [Bool.false_eq_true, if_false]
    split <;> omega
theorem sizeTo_le50 {s : Nd} (h : mayN s) (k : Nat) (hk : k ≤ s.keys.length) : sizeTo s k ≤ 1 + 50 * k := by
  induction k with
  | zero => simp [sizeTo]
  | succ k ih =>
    have := ih (by omega)
    have := may_each h k (by omega)
    simp only [sizeTo]
    omega
/-- a node that may be has at most 240 bytes -/
theorem may_size {s : Nd} (h : mayN s) (hr : s.keys.length ≤ 8796093022208) : sizeN s ≤ 240 := by
  have h1 := sizeTo_le50 h s.keys.length (Nat.le_refl _)
  have h2 := h.1.2
  unfold sizeN at h2 ⊢
  unfold szV at h2
  rw [IntWalk.i64_in _ (by omega)] at h2
  omega
theorem sizeTo_ge (s : Nd) (k : Nat) : k ≤ sizeTo s k := by
  induction k with
  | zero => omega
  | succ k ih =>
    have : 1 ≤ eachN s k := by unfold eachN; split <;> (try split) <;> omega
    simp only [sizeTo]
    omega
theorem may_keys {s : Nd} (h : mayN s) (hr : s.keys.length ≤ 8796093022208) : s.keys.length ≤ 240 := Nat.le_trans (sizeTo_ge s _) (may_size h hr)
theorem length_bodyN {s : Nd} (h : mayN s) (hr : s.keys.length ≤ 8796093022208) : (bodyN s).length ≤ 240 := by
  unfold bodyN
  rw [length_bodyTo s (may_lens h).1 (may_lens h).2 _ (Nat.le_refl _)]
  exact may_size h hr
theorem length_bodyTo_le {s : Nd} (h : mayN s) (hr : s.keys.length ≤ 8796093022208) (k : Nat) (hk : k ≤ s.keys.length) : (bodyTo s k).length ≤ 240 := by
  rw [length_bodyTo s (may_lens h).1 (may_lens h).2 _ hk]
  exact Nat.le_trans (sizeTo_le s hk) (may_size h hr)
end Go.Proofs.Ytdakohbfibcjeaa
