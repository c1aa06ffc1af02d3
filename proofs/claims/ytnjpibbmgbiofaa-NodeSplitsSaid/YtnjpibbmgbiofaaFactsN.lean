/- An argument opened: a node. No condition. -/
import Derived.Test.YtnjpibbmgbiofaaFacts
import Derived.Test.YtnjpibbmgbiofaaNodSize
import Derived.SliceStrings
import Derived.ChangeSlices
namespace Go.Proofs.Ytnjpibbmgbiofaa
open Go.ChangeShapes Go.WideShapes Go.ChangeAt Go.RowKit Go.Joins

theorem cellsNd : Try.prog.cellsOf 25 = 4 := by kernel_rfl
theorem cells9 : Try.prog.cellsOf 9 = 1 := by kernel_rfl
theorem cells3 : Try.prog.cellsOf 3 = 1 := by kernel_rfl
theorem bytes9 : Try.prog.bytesOf 9 = 16 := by kernel_rfl
theorem bytes3 : Try.prog.bytesOf 3 = 8 := by kernel_rfl

section
variable {H : Type} {enc : TypeId × Value → H} {W : World}
theorem weightsAll_strs (P : Program) (e : TypeId) (l : List ByteArray) : DataW.weightsAll (H := H) P e (strs l) = l.map (·.size) := by
  induction l with
  | nil => rfl
  | cons s l ih =>
    show DataW.weightsAll P e (_ :: strs l) = _
    rw [DataW.weightsAll, ih]
    simp [DataW.weights]
theorem ls_of {a : Addr} {len cap : Nat} {xs : List Value} (hl : len ≤ cap) (hc : cap ≤ maxLen) (h : xs.length = len) (hcell : ∀ i, (hi : i < xs.length) → W.cell? (a.add i) = some xs[i]) : Ls W 0 (some a) len cap xs := by
  refine ⟨h, hl, hc, fun hn => ?_⟩
  have h0 := hcell 0 hn
  have hs : a.spot = none := by simpa [Addr.add] using World.cell?_spot h0
  obtain ⟨b, o, sp⟩ := a
  simp only at hs
  subst hs
  refine ⟨b, o, rfl, Nat.zero_le _, block_lt_of_cell (a := ⟨b, o, none⟩) (by simpa [Addr.add] using h0), fun k hk => ?_⟩
  have := hcell k hk
  rwa [Addr.add_lit] at this
theorem open_sl {base fuel : Nat} {cs : List Value} {x : DataW H × List MemPlace} (h : DataW.trod enc Try.prog W base (fun _ => true) true fuel 22 cs = some x) :
    ∃ A n c ss, cs = [.slice A n c] ∧ Ls W 0 A n c (sl ss) ∧ ((x.1.weights Try.prog 22).all (· ≤ reachBytes) = true → n ≤ 8796093022208 ∧ ∀ i, (ss.getD i .empty).size ≤ 140737488355328) := by
  rcases open_strings Try.underlying22 Try.underlying9 cells9 h with ⟨rfl, rfl⟩ | ⟨a, len, cap, ss, rfl, _, hl, hm, hz, rfl, hcell, hwz⟩
  · exact ⟨none, 0, 0, [], rfl, Ls.nil_ _ _, fun _ => ⟨by omega, fun i => by simp⟩⟩
  · simp only [if_true] at hz
    refine ⟨some a, len, cap, ss.take len, rfl, ls_of hl hm (by simp; omega) (fun i hi => ?_), fun hw => ?_⟩
    · simp only [length_sl, List.length_take] at hi
      have := hcell i (by omega)
      rw [this]
      simp [sl, List.getD_eq_getElem?_getD, List.getElem?_eq_getElem (show i < ss.length by omega)]
    · simp only [DataW.weights, Try.underlying22, weightsAll_strs, List.all_cons, List.all_append, Bool.and_eq_true, decide_eq_true_eq, List.all_map] at hw
      obtain ⟨h1, h2, _⟩ := hw
      rw [bytes9] at h1
      simp only [strs, List.length_map, List.length_take, List.length_drop] at h1
      refine ⟨by unfold reachBytes at h1; omega, fun i => ?_⟩
      by_cases hi : i < (ss.take len).length
      · rw [List.getD_eq_getElem?_getD, List.getElem?_eq_getElem hi]
        have := List.all_eq_true.1 h2 _ (List.getElem_mem hi)
        simp [Function.comp, reachBytes] at this
        simp only [Option.getD_some, List.getElem_take]
        omega
      · rw [List.getD_eq_getElem?_getD, List.getElem?_eq_none (by omega)]
        simp
theorem open_il {base fuel : Nat} {cs : List Value} {x : DataW H × List MemPlace} (h : DataW.trod enc Try.prog W base (fun _ => true) true fuel 23 cs = some x) :
    ∃ A n c ds, cs = [.slice A n c] ∧ Ls W 0 A n c (il ds) ∧ ((x.1.weights Try.prog 23).all (· ≤ reachBytes) = true → n ≤ 17592186044416) := by
  rcases open_ints Try.underlying23 Try.underlying3 cells3 h with ⟨rfl, rfl⟩ | ⟨a, len, cap, zs, rfl, _, hl, hm, hz, rfl, hcell, hwz⟩
  · exact ⟨none, 0, 0, [], rfl, Ls.nil_ _ _, fun _ => by omega⟩
  · simp only [if_true] at hz
    refine ⟨some a, len, cap, zs.take len, rfl, ls_of hl hm (by simp; omega) (fun i hi => ?_), fun hw => ?_⟩
    · simp only [length_il, List.length_take] at hi
      have := hcell i (by omega)
      rw [this]
      simp [il, List.getD_eq_getElem?_getD, List.getElem?_eq_getElem (show i < zs.length by omega)]
    · have hw1 := List.all_eq_true.1 hw (((lits .i64 (zs.take len) : List (DataW H)).length + (lits .i64 (zs.drop len) : List (DataW H)).length) * 8) (by simp [DataW.weights, Try.underlying23, bytes3])
      simp [lits, reachBytes] at hw1
      omega

theorem in_node {base : Nat} {v : Value} {d : DataW H} {p : List MemPlace} (hv : Value.okWide Try.prog W .any base 25 v) (h : DataW.Trod enc Try.prog W 0 (fun _ => true) true 25 v d p)
    (hw : (d.weights Try.prog 25).all (· ≤ reachBytes) = true) :
    ∃ (s : Nd) (K : Option Addr) (nk ck : Nat) (V : Option Addr) (nv cv : Nat) (D : Option Addr) (nd cd : Nat), v = .agg #[.bool s.leaf, .slice K nk ck, .slice V nv cv, .slice D nd cd] ∧ NdR W 0 s K nk ck V nv cv D nd cd := by
  obtain ⟨c0, c1, c2, c3, y0, y1, y2, y3, n, rfl, rfl, rfl, g0, g1, g2, g3⟩ := open_agg4 Try.underlying25 (by kernel_rfl) cellsNd hv h
  obtain ⟨x0, q0, _⟩ := DataW.trod_bool Try.underlying4 g0
  obtain ⟨K, nk, ck, ks, q1, hk, wk⟩ := open_sl g1
  obtain ⟨V, nv, cv, vs, q2, hvs, wv⟩ := open_sl g2
  obtain ⟨D, nd, cd, ds, q3, hd, wd⟩ := open_il g3
  simp at q0 q1 q2 q3
  subst q0 q1 q2 q3
  simp only [DataW.weights, Try.underlying25, DataW.weightsEach, List.map, List.nil_append, List.append_nil, List.all_append, Bool.and_eq_true] at hw
  obtain ⟨_, hw1, hw2, hw3⟩ := hw
  obtain ⟨a1, a2⟩ := wk hw1
  obtain ⟨b1, b2⟩ := wv hw2
  exact ⟨⟨x0, ks, vs, ds⟩, K, nk, ck, V, nv, cv, D, nd, cd, rfl, ⟨hk, hvs, hd, a2, b2, a1, b1, wd hw3⟩⟩
end
end Go.Proofs.Ytnjpibbmgbiofaa
