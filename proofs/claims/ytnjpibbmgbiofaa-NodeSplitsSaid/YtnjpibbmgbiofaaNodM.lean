/- Nodes in memory: lists of texts, lists of numbers. No condition. -/
import Derived.Test.YtnjpibbmgbiofaaLib
import Derived.Test.YtnjpibbmgbiofaaPlainN
import Derived.Maps.Range
namespace Go.Proofs.Ytnjpibbmgbiofaa
open Go.RowKit

def sl (l : List ByteArray) : List Value := l.map Value.string
def il (l : List Int) : List Value := l.map (Value.int .i64)
@[simp] theorem length_sl (l : List ByteArray) : (sl l).length = l.length := by simp [sl]
@[simp] theorem length_il (l : List Int) : (il l).length = l.length := by simp [il]
theorem sl_get (l : List ByteArray) (i : Nat) (h : i < l.length) : (sl l)[i]? = some (.string (l.getD i .empty)) := by
  rw [sl, List.getElem?_map, List.getElem?_eq_getElem h, List.getD_eq_getElem?_getD, List.getElem?_eq_getElem h]; rfl
theorem il_get (l : List Int) (i : Nat) (h : i < l.length) : (il l)[i]? = some (.int .i64 (l.getD i 0)) := by
  rw [il, List.getElem?_map, List.getElem?_eq_getElem h, List.getD_eq_getElem?_getD, List.getElem?_eq_getElem h]; rfl
theorem sl_oneCell (l : List ByteArray) : ∀ u ∈ sl l, u.oneCell' = true := by
  intro u hu
  obtain ⟨_, _, rfl⟩ := List.mem_map.1 hu
  rfl
theorem il_oneCell (l : List Int) : ∀ u ∈ il l, u.oneCell' = true := by
  intro u hu
  obtain ⟨_, _, rfl⟩ := List.mem_map.1 hu
  rfl
theorem sl_append (a b : List ByteArray) : sl (a ++ b) = sl a ++ sl b := by simp [sl]
theorem il_append (a b : List Int) : il (a ++ b) = il a ++ il b := by simp [il]

/-- The slice value '.slice A n c' reads as the cells xs. -/
def Ls (w : World) (lo : Nat) (A : Option Addr) (n c : Nat) (xs : List Value) : Prop := xs.length = n ∧ n ≤ c ∧ c ≤ 9223372036854775807 ∧ Rd w lo A xs
section
variable {w w' : World} {lo lo' B n c : Nat} {A : Option Addr} {xs : List Value}
theorem Ls.below (h : Ls w lo A n c xs) (hb : Below B w w') (hB : w.heap.size ≤ B) : Ls w' lo A n c xs := ⟨h.1, h.2.1, h.2.2.1, h.2.2.2.below hb hB⟩
theorem Ls.weak (h : Ls w lo A n c xs) (hl : lo' ≤ lo) : Ls w lo' A n c xs := ⟨h.1, h.2.1, h.2.2.1, h.2.2.2.weak hl⟩
theorem Ls.drewN (h : Ls w lo A n c xs) (k : Nat) : Ls (w.drewN k) lo A n c xs := h
theorem Ls.nil_ (w : World) (lo : Nat) : Ls w lo none 0 0 [] := ⟨rfl, by omega, by omega, Rd.nil_⟩
theorem Ls.at_ (h : Ls w lo A n c xs) (hn : 0 < n) : ∃ b o, A = some ⟨b, o, none⟩ ∧ lo ≤ b ∧ b < w.heap.size := by
  obtain ⟨rfl, _, _, hr⟩ := h
  obtain ⟨b, o, e, h1, h2, _⟩ := hr hn
  exact ⟨b, o, e, h1, h2⟩
theorem Ls.cell {b o : Nat} (h : Ls w lo (some ⟨b, o, none⟩) n c xs) (k : Nat) (hk : k < n) : w.cell? ⟨b, o + k, none⟩ = xs[k]? := by
  obtain ⟨rfl, _, _, hr⟩ := h
  obtain ⟨b', o', e, _, _, hc⟩ := hr (by omega)
  injection e with e
  injection e with e1 e2
  subst e1 e2
  rw [hc k hk, List.getElem?_eq_getElem hk]
end
theorem own_ls {w : World} {base n c : Nat} {e : TypeId} {A : Option Addr} {xs : List Value} (h : Own w base e 1 A n c xs) : Ls w base A n c xs := ⟨h.len1, h.cap.1, h.cap.2, h.rd⟩
theorem sl_cell {w : World} {lo n c b o : Nat} {l : List ByteArray} (h : Ls w lo (some ⟨b, o, none⟩) n c (sl l)) (k : Nat) (hk : k < n) : w.cell? ⟨b, o + k, none⟩ = some (.string (l.getD k .empty)) :=
  (h.cell k hk).trans (sl_get l k (by have := h.1; rw [length_sl] at this; omega))
theorem il_cell {w : World} {lo n c b o : Nat} {l : List Int} (h : Ls w lo (some ⟨b, o, none⟩) n c (il l)) (k : Nat) (hk : k < n) : w.cell? ⟨b, o + k, none⟩ = some (.int .i64 (l.getD k 0)) :=
  (h.cell k hk).trans (il_get l k (by have := h.1; rw [length_il] at this; omega))

theorem toList_inj {a b : ByteArray} : (a.toList == b.toList) = decide (a = b) := by
  rw [Bool.eq_iff_iff, beq_iff_eq, decide_eq_true_eq, ByteArray.toList_eq, ByteArray.toList_eq]
  constructor
  · intro h
    obtain ⟨⟨a⟩⟩ := a
    obtain ⟨⟨b⟩⟩ := b
    simp at h
    rw [h]
  · rintro rfl; rfl
theorem take_snoc {α : Type} (l : List α) (d : α) (i : Nat) (h : i < l.length) : l.take (i + 1) = l.take i ++ [l.getD i d] := by
  rw [List.getD_eq_getElem?_getD, List.getElem?_eq_getElem h, Option.getD_some, List.take_succ_eq_append_getElem h]
end Go.Proofs.Ytnjpibbmgbiofaa
