/- An argument opened: a superblock. No condition. -/
import Derived.Test.YtdbhagnnpjcpmaaFacts
import Derived.Test.YtdbhagnnpjcpmaaSupM
import Derived.Deep.Slices
import Derived.Deep.SlicePairs
namespace Go.Proofs.Ytdbhagnnpjcpmaa
open Go.ChangeShapes Go.WideShapes Go.ChangeAt Go.RowKit Go.Joins Go.Deep

instance : Inhabited Ver := ⟨Ver.nil⟩
theorem cells32 : Try.prog.cellsOf 32 = 4 := by kernel_rfl
theorem cells57 : Try.prog.cellsOf 97 = 4 := by kernel_rfl
theorem cells3 : Try.prog.cellsOf 3 = 1 := by kernel_rfl
theorem cells4 : Try.prog.cellsOf 4 = 1 := by kernel_rfl

section
variable {H : Type} {enc : TypeId × Value → H} {W : World}
set_option maxRecDepth 100000 in
theorem open_vers {base fuel : Nat} {cs : List Value} {x : DataW H × List MemPlace} (h : DataW.trod enc Try.prog W base (fun _ => true) true fuel 30 cs = some x) :
    ∃ A n c vs, cs = [.slice A n c] ∧ Vr W 0 A n c vs := by
  rcases open_slice Try.underlying30 h with ⟨rfl, _⟩ | ⟨a, len, cap, m, n, D, Pl, rfl, hb, hl, hm, hmm, _, hx⟩
  · exact ⟨none, 0, 0, [], rfl, Vr.nil_ _ _⟩
  · have hmc : m = cap := by simpa using hmm
    have each : ∀ i, i < m → ∃ v : Ver, W.cell? (a.add (i * 4)) = some (.int .i64 v.id) ∧ W.cell? (a.add (i * 4 + 1)) = some (.int .i64 v.root) ∧ W.cell? (a.add (i * 4 + 2)) = some (.int .i64 v.next) ∧ W.cell? (a.add (i * 4 + 3)) = some (.bool v.fx) := by
      intro i hi
      obtain ⟨cs', h1, h2⟩ := hx i hi
      rw [cells57] at h1
      obtain ⟨_, hlen, hcell⟩ := World.cells?_some h1
      obtain ⟨y0, y1, y2, y3, k, _, _, g0, g1, g2, g3⟩ := trod_struct4 Try.underlying97 h2
      match cs', hlen with
      | [v0, v1, v2, v3], _ =>
        have e0 := hcell 0 (by omega)
        have e1 := hcell 1 (by omega)
        have e2 := hcell 2 (by omega)
        have e3 := hcell 3 (by omega)
        rw [add_add] at e0 e1 e2 e3
        simp [cells3, cells4] at g0 g1 g2 g3
        obtain ⟨x0, q0, _, _⟩ := DataW.trod_int Try.underlying3 g0
        obtain ⟨x1, q1, _, _⟩ := DataW.trod_int Try.underlying3 g1
        obtain ⟨x2, q2, _, _⟩ := DataW.trod_int Try.underlying3 g2
        obtain ⟨x3, q3, _⟩ := DataW.trod_bool Try.underlying4 g3
        simp at q0 q1 q2 q3
        subst q0 q1 q2 q3
        exact ⟨⟨x0, x1, x2, x3⟩, by simpa using e0, by simpa using e1, by simpa using e2, by simpa using e3⟩
    obtain ⟨q, hq⟩ := choose_lt each
    refine ⟨some a, len, cap, (List.range len).map q, rfl, by simp, hl, hm, fun hn => ?_⟩
    rw [length_vcs] at hn
    simp only [List.length_map, List.length_range] at hn
    have h0 := (hq 0 (by omega)).1
    have hs : a.spot = none := by simpa [Addr.add] using World.cell?_spot h0
    obtain ⟨b, o, sp⟩ := a
    simp only at hs
    subst hs
    refine ⟨b, o, rfl, Nat.zero_le _, block_lt_of_cell (a := ⟨b, o, none⟩) (by simpa [Addr.add] using h0), fun k hk => ?_⟩
    have hk2 := hk
    rw [length_vcs] at hk2
    simp only [List.length_map, List.length_range] at hk2
    have hkd : k = k / 4 * 4 + k % 4 := by omega
    have hget := vcs_get ((List.range len).map q) (k / 4) (k % 4) (by simp; omega) (by omega)
    rw [← hkd] at hget
    have hv : ((List.range len).map q).getD (k / 4) Ver.nil = q (k / 4) := by
      rw [List.getD_eq_getElem?_getD, List.getElem?_map, List.getElem?_range (by omega)]
      rfl
    rw [hv] at hget
    rw [List.getElem?_eq_getElem hk] at hget
    rw [hget]
    obtain ⟨p0, p1, p2, p3⟩ := hq (k / 4) (by omega)
    rw [Addr.add_lit] at p0 p1 p2 p3
    have h4 : k % 4 = 0 ∨ k % 4 = 1 ∨ k % 4 = 2 ∨ k % 4 = 3 := by omega
    rcases h4 with h4 | h4 | h4 | h4
    · rw [h4, show o + k = o + k / 4 * 4 by omega]; exact p0
    · rw [h4, show o + k = o + (k / 4 * 4 + 1) by omega]; exact p1
    · rw [h4, show o + k = o + (k / 4 * 4 + 2) by omega]; exact p2
    · rw [h4, show o + k = o + (k / 4 * 4 + 3) by omega]; exact p3

set_option maxRecDepth 100000 in
theorem in_super {base : Nat} {v : Value} {d : DataW H} {p : List MemPlace} (hv : Value.okWide Try.prog W .any base 32 v) (h : DataW.Trod enc Try.prog W 0 (fun _ => true) true 32 v d p) :
    ∃ (s : Sup) (A : Option Addr) (n c : Nat), v = .agg #[.int .i64 s.gen, .int .i64 s.sec, .int .i64 s.next, .slice A n c] ∧ Vr W 0 A n c s.vs := by
  obtain ⟨c0, c1, c2, c3, y0, y1, y2, y3, n, rfl, rfl, rfl, g0, g1, g2, g3⟩ := open_agg4 Try.underlying32 (by kernel_rfl) cells32 hv h
  obtain ⟨x0, q0, _, _⟩ := DataW.trod_int Try.underlying3 g0
  obtain ⟨x1, q1, _, _⟩ := DataW.trod_int Try.underlying3 g1
  obtain ⟨x2, q2, _, _⟩ := DataW.trod_int Try.underlying3 g2
  obtain ⟨A, n, c, vs, q3, hr⟩ := open_vers g3
  simp at q0 q1 q2 q3
  subst q0 q1 q2 q3
  exact ⟨⟨x0, x1, x2, vs⟩, A, n, c, rfl, hr⟩
end
end Go.Proofs.Ytdbhagnnpjcpmaa
