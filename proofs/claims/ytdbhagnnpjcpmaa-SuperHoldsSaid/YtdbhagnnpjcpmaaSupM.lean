/- Superblocks in memory: a list of versions, four cells each. No condition. -/
import Derived.Test.YtdbhagnnpjcpmaaLib
import Derived.Test.YtdbhagnnpjcpmaaPlainS
import Derived.Maps.Range
namespace Go.Proofs.Ytdbhagnnpjcpmaa
open Go.RowKit

def vc (v : Ver) : List Value := [.int .i64 v.id, .int .i64 v.root, .int .i64 v.next, .bool v.fx]
def vcs (vs : List Ver) : List Value := vs.flatMap vc
theorem length_vcs (vs : List Ver) : (vcs vs).length = vs.length * 4 := by
  induction vs with
  | nil => rfl
  | cons v vs ih => simp only [vcs, List.flatMap_cons, List.length_append, List.length_cons] at *; rw [ih]; simp [vc]; omega
theorem vcs_append (a b : List Ver) : vcs (a ++ b) = vcs a ++ vcs b := by simp [vcs]
theorem vcs_one (v : Ver) : vcs [v] = vc v := by simp [vcs]
theorem vcs_oneCell (vs : List Ver) : ∀ u ∈ vcs vs, u.oneCell' = true := by
  intro u hu
  obtain ⟨v, _, hv⟩ := List.mem_flatMap.1 hu
  simp only [vc, List.mem_cons, List.not_mem_nil, or_false] at hv
  rcases hv with rfl | rfl | rfl | rfl <;> rfl
theorem vcs_get (vs : List Ver) (k j : Nat) (hk : k < vs.length) (hj : j < 4) : (vcs vs)[k * 4 + j]? = (vc (vs.getD k Ver.nil))[j]? := by
  have e : vs = vs.take k ++ [vs.getD k Ver.nil] ++ vs.drop (k + 1) := by
    rw [List.getD_eq_getElem?_getD, List.getElem?_eq_getElem hk, Option.getD_some, List.take_append_getElem, List.take_append_drop]
  have h1 : (vcs (vs.take k)).length = k * 4 := by rw [length_vcs, List.length_take, Nat.min_eq_left (by omega)]
  conv => lhs; rw [e]
  rw [vcs_append, vcs_append, vcs_one, List.append_assoc, List.getElem?_append_right (by omega), h1, Nat.add_sub_cancel_left, List.getElem?_append_left (by simp [vc]; omega)]

/-- The slice value '.slice A n c' reads as the versions vs. -/
def Vr (w : World) (lo : Nat) (A : Option Addr) (n c : Nat) (vs : List Ver) : Prop := vs.length = n ∧ n ≤ c ∧ c ≤ 9223372036854775807 ∧ Rd w lo A (vcs vs)
section
variable {w w' : World} {lo lo' B n c : Nat} {A : Option Addr} {vs : List Ver}
theorem Vr.below (h : Vr w lo A n c vs) (hb : Below B w w') (hB : w.heap.size ≤ B) : Vr w' lo A n c vs := ⟨h.1, h.2.1, h.2.2.1, h.2.2.2.below hb hB⟩
theorem Vr.weak (h : Vr w lo A n c vs) (hl : lo' ≤ lo) : Vr w lo' A n c vs := ⟨h.1, h.2.1, h.2.2.1, h.2.2.2.weak hl⟩
theorem Vr.drewN (h : Vr w lo A n c vs) (k : Nat) : Vr (w.drewN k) lo A n c vs := h
theorem Vr.nil_ (w : World) (lo : Nat) : Vr w lo none 0 0 [] := ⟨rfl, by omega, by omega, Rd.nil_⟩
theorem Vr.at_ (h : Vr w lo A n c vs) (hn : 0 < n) : ∃ b o, A = some ⟨b, o, none⟩ ∧ lo ≤ b ∧ b < w.heap.size := by
  obtain ⟨rfl, _, _, hr⟩ := h
  obtain ⟨b, o, e, h1, h2, _⟩ := hr (by rw [length_vcs]; omega)
  exact ⟨b, o, e, h1, h2⟩
theorem Vr.cells {b o : Nat} (h : Vr w lo (some ⟨b, o, none⟩) n c vs) (k : Nat) (hk : k < n) :
    w.cell? ⟨b, o + k * 4, none⟩ = some (.int .i64 (vs.getD k Ver.nil).id) ∧ w.cell? ⟨b, o + k * 4 + 1, none⟩ = some (.int .i64 (vs.getD k Ver.nil).root) ∧
    w.cell? ⟨b, o + k * 4 + 2, none⟩ = some (.int .i64 (vs.getD k Ver.nil).next) ∧ w.cell? ⟨b, o + k * 4 + 3, none⟩ = some (.bool (vs.getD k Ver.nil).fx) := by
  obtain ⟨rfl, _, _, hr⟩ := h
  obtain ⟨b', o', e, _, _, hc⟩ := hr (by rw [length_vcs]; omega)
  injection e with e
  injection e with e1 e2
  subst e1 e2
  have key : ∀ j, j < 4 → w.cell? ⟨b, o + k * 4 + j, none⟩ = (vc (vs.getD k Ver.nil))[j]? := fun j hj => by
    have hl : k * 4 + j < (vcs vs).length := by rw [length_vcs]; omega
    rw [Nat.add_assoc, hc _ hl, ← vcs_get vs k j hk hj, List.getElem?_eq_getElem hl]
  exact ⟨key 0 (by omega), key 1 (by omega), key 2 (by omega), key 3 (by omega)⟩
end
theorem own_vr {w : World} {base n c : Nat} {e : TypeId} {A : Option Addr} {vs : List Ver} (h : Own w base e 4 A n c (vcs vs)) : Vr w base A n c vs :=
  ⟨by have := h.len; rw [length_vcs] at this; omega, h.cap.1, h.cap.2, h.rd⟩

/-- a superblock as a value -/
def supV (s : Sup) (A : Option Addr) (n c : Nat) : Value := .agg #[.int .i64 s.gen, .int .i64 s.sec, .int .i64 s.next, .slice A n c]

theorem grown_own {w w1 w2 : World} {A A1 : Option Addr} (h : w.grownBy w1 (ablk A)) (h2 : w1.grownBy w2 (ablk A1)) (hA : ablk A1 = ablk A ∨ ∀ g, ablk A1 = some g → w.heap.size ≤ g) : w.grownBy w2 (ablk A) :=
  h.andThen h2 fun j hj => by
    rcases hA with hA | hA
    · exact .inr (hA ▸ hj)
    · exact .inl (hA j hj)
theorem fresh_step {w w1 : World} {A A1 A2 : Option Addr} (hA : ablk A1 = ablk A ∨ ∀ g, ablk A1 = some g → w.heap.size ≤ g) (h2 : ablk A2 = ablk A1 ∨ ablk A2 = some w1.heap.size) (hs : w.heap.size ≤ w1.heap.size) : ablk A2 = ablk A ∨ ∀ g, ablk A2 = some g → w.heap.size ≤ g := by
  rcases h2 with h2 | h2
  · rw [h2]; exact hA
  · refine .inr fun g hg => ?_
    rw [h2] at hg
    injection hg with hg
    omega
end Go.Proofs.Ytdbhagnnpjcpmaa
