/- An argument opened: a slice, element by element; a list of bytes. No condition. -/
import Derived.Test.YtdakohbfibcjeaaFacts
import Derived.Test.YtdakohbfibcjeaaLibL
import Derived.Deep.Slices
namespace Go.Proofs.Ytdakohbfibcjeaa
open Go.ChangeShapes Go.WideShapes Go.ChangeAt Go.RowKit Go.Joins Go.Deep

theorem all2_map {ι α β : Type} {R : α → β → Prop} {f : ι → α} {g : ι → β} : ∀ {l : List ι}, (∀ i ∈ l, R (f i) (g i)) → All2 R (l.map f) (l.map g)
  | [], _ => .nil
  | i :: l, h => .cons (h i (by simp)) (all2_map (fun j hj => h j (by simp [hj])))
section
variable {H : Type} {enc : TypeId × Value → H} {W : World}
theorem weights_mem (e : TypeId) {d : DataW H} : ∀ {l : List (DataW H)}, d ∈ l → ∀ x ∈ d.weights Try.prog e, x ∈ DataW.weightsAll Try.prog e l
  | [], h, _, _ => by cases h
  | a :: l, h, x, hx => by
    rw [DataW.weightsAll, List.mem_append]
    rcases List.mem_cons.1 h with rfl | h
    · exact .inl hx
    · exact .inr (weights_mem e h x hx)
theorem open_each {t e : TypeId} {k bs base fuel : Nat} {cs : List Value} {x : DataW H × List MemPlace} (ht : Try.prog.underlying t = some (.slice e)) (hk : Try.prog.cellsOf e = k) (hk0 : 0 < k) (hby : Try.prog.bytesOf e = bs)
    (h : DataW.trod enc Try.prog W base (fun _ => true) true fuel t cs = some x) :
    ∃ A n c, ∃ (xs : Nat → List Value) (D : Nat → DataW H), cs = [.slice A n c] ∧ n ≤ c ∧ c ≤ 9223372036854775807 ∧ Rd W 0 A ((List.range n).flatMap xs) ∧
      (∀ i, i < n → (xs i).length = k ∧ ∃ f Pl, DataW.trod enc Try.prog W base (fun _ => true) true f e (xs i) = some (D i, Pl)) ∧
      ((x.1.weights Try.prog t).all (· ≤ reachBytes) = true → c * bs ≤ reachBytes ∧ ∀ i, i < n → ((D i).weights Try.prog e).all (· ≤ reachBytes) = true) := by
  rcases open_slice ht h with ⟨rfl, rfl⟩ | ⟨a, len, cap, m, n, D, Pl, rfl, hb, hl, hm, hmm, rfl, hx⟩
  · exact ⟨none, 0, 0, fun _ => [], fun _ => .nil, rfl, by omega, by omega, Rd.nil_, fun i hi => absurd hi (by omega), fun _ => ⟨by omega, fun i hi => absurd hi (by omega)⟩⟩
  · have hmc : m = cap := by simpa using hmm
    obtain ⟨xs, hxs⟩ := choose_lt hx
    have hlen : ∀ i, i < m → (xs i).length = k := fun i hi => by
      have h1 := (hxs i hi).1
      rw [hk] at h1
      obtain ⟨_, h2, _⟩ := World.cells?_some h1
      exact h2
    have hcell : ∀ i j, i < m → j < k → W.cell? (a.add (i * k + j)) = (xs i)[j]? := fun i j hi hj => by
      have h1 := (hxs i hi).1
      rw [hk] at h1
      obtain ⟨_, h2, h3⟩ := World.cells?_some h1
      have h4 := h3 j (by omega)
      rw [add_add] at h4
      rw [h4]
    refine ⟨some a, len, cap, xs, D, rfl, hl, hm, ?_, fun i hi => ⟨hlen i (by omega), n, Pl i, (hxs i (by omega)).2⟩, fun hw => ?_⟩
    · intro hn
      have hfl := flat_len (n := len) (k := k) (f := xs) (fun i hi => hlen i (by omega))
      have hlen0 : 0 < len := by
        rcases Nat.eq_zero_or_pos len with h0 | h0
        · subst h0; simp at hn
        · exact h0
      have h0 := hcell 0 0 (by omega) hk0
      rw [List.getElem?_eq_getElem (by rw [hlen 0 (by omega)]; exact hk0)] at h0
      rw [Nat.zero_mul, Nat.zero_add] at h0
      have hs : a.spot = none := by simpa [Addr.add] using World.cell?_spot h0
      obtain ⟨b, o, sp⟩ := a
      simp only at hs
      subst hs
      refine ⟨b, o, rfl, Nat.zero_le _, block_lt_of_cell (a := ⟨b, o, none⟩) (by simpa [Addr.add] using h0), fun q hq => ?_⟩
      have hql : q < len * k := by rw [← hfl]; exact hq
      have hq1 : q / k < len := (Nat.div_lt_iff_lt_mul hk0).2 hql
      have hq2 : q % k < k := Nat.mod_lt _ hk0
      have hqe : q / k * k + q % k = q := by rw [Nat.mul_comm]; exact Nat.div_add_mod q k
      have h1 := hcell (q / k) (q % k) (by omega) hq2
      rw [hqe, Addr.add_lit] at h1
      have h2 := flat_get (n := len) (k := k) (f := xs) (fun i hi => hlen i (by omega)) hq1 hq2
      rw [hqe] at h2
      rw [h1, ← h2, List.getElem?_eq_getElem hq]
    · simp only [DataW.weights, ht, List.all_cons, List.all_append, Bool.and_eq_true, decide_eq_true_eq] at hw
      obtain ⟨h1, h2, _⟩ := hw
      rw [hby] at h1
      simp only [List.length_map, List.length_range] at h1
      refine ⟨by rw [show cap = len + (m - len) by omega]; exact h1, fun i hi => ?_⟩
      rw [List.all_eq_true] at h2 ⊢
      exact fun y hy => h2 y (weights_mem e (List.mem_map.2 ⟨i, List.mem_range.2 hi, rfl⟩) y hy)

theorem cells33 : Try.prog.cellsOf 82 = 1 := by kernel_rfl
theorem bytes33 : Try.prog.bytesOf 82 = 24 := by kernel_rfl
end
end Go.Proofs.Ytdakohbfibcjeaa
