/- Where a chunk might end, and what the chunks are: the plain function. No condition. -/
import Derived.Test.YtgfmpgflbphpcaaPlainCut
namespace Go.Proofs.Ytgfmpgflbphpcaa

def mkB (mk : Nat) (b : UInt8) : Nat := (2 * mk + gearN b) % 4294967296
/-- the mark behind some bytes, from nought on -/
def mkF (q : List UInt8) : Nat := q.foldl mkB 0
theorem mkF_snoc (q : List UInt8) (j : Nat) (h : j < q.length) : mkF (q.take (j + 1)) = mkB (mkF (q.take j)) (q.getD j 0) := by
  have e : q.getD j 0 = q[j] := by rw [List.getD_eq_getElem?_getD, List.getElem?_eq_getElem h, Option.getD_some]
  rw [e, List.take_succ_eq_append_getElem h]
  unfold mkF
  rw [List.foldl_append, List.foldl_cons, List.foldl_nil]
theorem mkB_lt (mk : Nat) (b : UInt8) : mkB mk b < 4294967296 := by
  unfold mkB
  exact Nat.mod_lt _ (by decide)
theorem mkF_lt (q : List UInt8) (j : Nat) : mkF (q.take j) < 4294967296 := by
  generalize q.take j = l
  unfold mkF
  suffices ∀ x, x < 4294967296 → l.foldl mkB x < 4294967296 from this 0 (by decide)
  induction l with
  | nil => intro x h; exact h
  | cons b l ih => intro x _; rw [List.foldl_cons]; exact ih (mkB x b) (mkB_lt x b)
theorem beq128 (n : Nat) : (((n : Int) % 128) == 0) = (n % 128 == 0) := by
  rw [Bool.eq_iff_iff]
  simp only [beq_iff_eq]
  omega
def last7 (l : List UInt8) (at_ : Nat) : List UInt8 := (l.drop (at_ - 7)).take 7
def endsB (l : List UInt8) (at_ : Nat) : Bool := mkF (last7 l at_) % 128 == 0

theorem length_last7 (l : List UInt8) (p : Nat) (h7 : 7 ≤ p) (hp : p ≤ l.length) : (last7 l p).length = 7 := by
  unfold last7
  rw [List.length_take, List.length_drop]
  omega
theorem endsB_append (l r : List UInt8) (p : Nat) (h7 : 7 ≤ p) (hp : p ≤ l.length) : endsB (l ++ r) p = endsB l p := by
  unfold endsB last7
  rw [List.drop_append_of_le_length (by omega), List.take_append_of_le_length (by rw [List.length_drop]; omega)]
theorem mkB_mod {x y : Nat} (b : UInt8) (j : Nat) (hj : j < 32) (h : x % 2 ^ j = y % 2 ^ j) : mkB x b % 2 ^ (j + 1) = mkB y b % 2 ^ (j + 1) := by
  have hd : 2 ^ (j + 1) ∣ 4294967296 := by
    rw [show 4294967296 = 2 ^ 32 from rfl]
    exact Nat.pow_dvd_pow 2 (by omega)
  unfold mkB
  rw [Nat.mod_mod_of_dvd _ hd, Nat.mod_mod_of_dvd _ hd, Nat.add_mod, Nat.pow_succ', Nat.mul_mod_mul_left, h, ← Nat.mul_mod_mul_left, ← Nat.pow_succ', ← Nat.add_mod]
theorem foldl_mod (q : List UInt8) : ∀ (j x y : Nat), j + q.length ≤ 32 → x % 2 ^ j = y % 2 ^ j → q.foldl mkB x % 2 ^ (j + q.length) = q.foldl mkB y % 2 ^ (j + q.length) := by
  induction q with
  | nil => intro j x y _ h; exact h
  | cons b q ih =>
    intro j x y hj h
    rw [List.length_cons] at hj
    rw [List.foldl_cons, List.foldl_cons, List.length_cons, show j + (q.length + 1) = (j + 1) + q.length by omega]
    exact ih (j + 1) _ _ (by omega) (mkB_mod b j (by omega) h)
theorem foldl7 (x y : Nat) (q : List UInt8) (h : q.length = 7) : q.foldl mkB x % 128 = q.foldl mkB y % 128 := by
  have := foldl_mod q 0 x y (by omega) (by rw [Nat.pow_zero, Nat.mod_one, Nat.mod_one])
  rw [h] at this
  exact this
theorem mkF_last (p q : List UInt8) (h : q.length = 7) : mkF (p ++ q) % 128 = mkF q % 128 := by
  unfold mkF
  rw [List.foldl_append]
  exact foldl7 _ _ q h
/-- at the end of l, the mark of its last n bytes, at least seven, tells whether a chunk might end there -/
theorem mark_ends (l : List UInt8) (n : Nat) (h7 : 7 ≤ n) (hn : n ≤ l.length) : (mkF (l.drop (l.length - n)) % 128 == 0) = endsB l l.length := by
  have e : l.drop (l.length - n) = (l.drop (l.length - n)).take (n - 7) ++ last7 l l.length := by
    unfold last7
    rw [List.take_of_length_le (l := l.drop (l.length - 7)) (by rw [List.length_drop]; omega)]
    have := (List.take_append_drop (n - 7) (l.drop (l.length - n))).symm
    rw [List.drop_drop, show l.length - n + (n - 7) = l.length - 7 by omega] at this
    exact this
  unfold endsB
  rw [e, mkF_last _ _ (length_last7 l _ (by omega) (Nat.le_refl _))]

/-- what holds of the chunks so far -/
structure CutOk (l : List UInt8) (s : CutS) : Prop where
  sum : s.out.sum + s.n = l.length
  lt : s.n < 512
  mark : s.mark = mkF (l.drop (l.length - s.n))
  size : ∀ x ∈ s.out, 64 ≤ x ∧ x ≤ 512
  inner : ∀ i, (h : i < s.out.length) → ∀ k, 64 ≤ k → k < s.out[i] → endsB l ((s.out.take i).sum + k) = false
  ends : ∀ i, (h : i < s.out.length) → s.out[i] < 512 → endsB l ((s.out.take i).sum + s.out[i]) = true
  rest : ∀ k, 64 ≤ k → k ≤ s.n → endsB l (s.out.sum + k) = false
  back : ∀ o x, s.out = o ++ [x] → cutR (l.take o.sum) = ⟨o, 0, 0⟩
  here : cutR (l.take s.out.sum) = ⟨s.out, 0, 0⟩

theorem sum_take_le (l : List Nat) (i : Nat) (h : i < l.length) : (l.take i).sum + l[i] ≤ l.sum := by
  induction l generalizing i with
  | nil => simp at h
  | cons a l ih =>
    cases i with
    | zero => simp
    | succ i =>
      have := ih i (by simpa using h)
      simp only [List.take_succ_cons, List.sum_cons, List.getElem_cons_succ]
      omega

theorem cutR_append (l : List UInt8) (b : UInt8) : cutR (l ++ [b]) = cutB (cutR l) b := by
  simp only [cutR, List.foldl_append, List.foldl_cons, List.foldl_nil]

theorem snoc_ind {α : Type} {P : List α → Prop} (h0 : P []) (h1 : ∀ l a, P l → P (l ++ [a])) (l : List α) : P l := by
  rw [← List.reverse_reverse l]
  induction l.reverse with
  | nil => exact h0
  | cons a l ih => rw [List.reverse_cons]; exact h1 _ _ ih
theorem cutOk (l : List UInt8) : CutOk l (cutR l) := by
  refine snoc_ind (P := fun l => CutOk l (cutR l)) ?_ (fun l b ih => ?_) l
  ·  exact ⟨rfl, by decide, rfl, by simp [cutR], by simp [cutR], by simp [cutR], fun k h1 h2 => by simp [cutR] at h2; omega, fun o x h => by simp [cutR] at h, rfl⟩
  · rw [cutR_append]
    generalize hs : cutR l = s at *
    obtain ⟨h1, h2, h3, h4, h5, h6, h7, h8, h9⟩ := ih
    have hlen : (l ++ [b]).length = l.length + 1 := by simp
    have hm : (2 * s.mark + gearN b) % 4294967296 = mkF ((l ++ [b]).drop (l.length - s.n)) := by
      rw [List.drop_append_of_le_length (by omega)]
      unfold mkF
      rw [List.foldl_append, List.foldl_cons, List.foldl_nil, h3]
      rfl
    have hme : 64 ≤ s.n + 1 → ((2 * s.mark + gearN b) % 4294967296 % 128 == 0) = endsB (l ++ [b]) (l.length + 1) := fun h => by
      have := mark_ends (l ++ [b]) (s.n + 1) (by omega) (by rw [hlen]; omega)
      rw [hlen, show l.length + 1 - (s.n + 1) = l.length - s.n by omega, ← hm] at this
      exact this
    have hin : ∀ i, (h : i < s.out.length) → ∀ k, 64 ≤ k → k < s.out[i] → endsB (l ++ [b]) ((s.out.take i).sum + k) = false := fun i h k k1 k2 => by
      have := sum_take_le s.out i h
      rw [endsB_append _ _ _ (by omega) (by omega)]
      exact h5 i h k k1 k2
    have hen : ∀ i, (h : i < s.out.length) → s.out[i] < 512 → endsB (l ++ [b]) ((s.out.take i).sum + s.out[i]) = true := fun i h k => by
      have := sum_take_le s.out i h
      have := (h4 s.out[i] (List.getElem_mem h)).1
      rw [endsB_append _ _ _ (by omega) (by omega)]
      exact h6 i h k
    have hre : ∀ k, 64 ≤ k → k ≤ s.n → endsB (l ++ [b]) (s.out.sum + k) = false := fun k k1 k2 => by
      rw [endsB_append _ _ _ (by omega) (by omega)]
      exact h7 k k1 k2
    have hhe : cutR ((l ++ [b]).take s.out.sum) = ⟨s.out, 0, 0⟩ := by
      rw [List.take_append_of_le_length (by omega)]
      exact h9
    unfold cutB
    split
    · rename_i hc
      have hc64 : 64 ≤ s.n + 1 := by
        unfold isCut at hc
        simp at hc
        omega
      refine ⟨by simp; omega, by simp, ?_, ?_, ?_, ?_, ?_, ?_, ?_⟩
      · simp [mkF]
      · intro x hx
        rcases List.mem_append.1 hx with hx | hx
        · exact h4 x hx
        · simp at hx; omega
      · intro i h k k1 k2
        simp only [List.length_append, List.length_cons, List.length_nil] at h
        by_cases hi : i < s.out.length
        · simp only [List.getElem_append_left hi] at k2
          simp only
          rw [List.take_append_of_le_length (by omega)]
          exact hin i hi k k1 k2
        · obtain rfl : i = s.out.length := by omega
          simp only [List.getElem_concat_length] at k2
          simp only
          rw [List.take_left]
          exact hre k k1 (by omega)
      · intro i h k
        simp only [List.length_append, List.length_cons, List.length_nil] at h
        by_cases hi : i < s.out.length
        · simp only [List.getElem_append_left hi] at k ⊢
          rw [List.take_append_of_le_length (by omega)]
          exact hen i hi k
        · obtain rfl : i = s.out.length := by omega
          simp only [List.getElem_concat_length] at k ⊢
          rw [List.take_left, show s.out.sum + (s.n + 1) = l.length + 1 by omega, ← hme hc64]
          unfold isCut at hc
          rw [Bool.or_eq_true, Bool.and_eq_true] at hc
          rcases hc with hc | hc
          · simp at hc; omega
          · exact hc.2
      · intro k k1 k2
        simp only at k2
        omega
      · intro o x hox
        simp only at hox
        obtain ⟨rfl, _⟩ := List.append_inj' hox rfl
        exact hhe
      · simp only [List.sum_append, List.sum_cons, List.sum_nil]
        rw [List.take_of_length_le (by rw [hlen]; omega), cutR_append, hs]
        unfold cutB
        rw [if_pos hc]
    · rename_i hc
      have hc0 : ¬ (s.n + 1 = 512) ∧ (64 ≤ s.n + 1 → ((2 * s.mark + gearN b) % 4294967296 % 128 == 0) = false) := by
        unfold isCut at hc
        rw [Bool.or_eq_true, Bool.and_eq_true, not_or] at hc
        refine ⟨fun h => hc.1 (by simpa using h), fun h => ?_⟩
        rw [Bool.eq_false_iff]
        exact fun hh => hc.2 ⟨by simpa using h, hh⟩
      refine ⟨by simp; omega, by simp only; omega, ?_, h4, hin, hen, ?_, ?_, hhe⟩
      · simp only
        rw [hlen, show l.length + 1 - (s.n + 1) = l.length - s.n by omega]
        exact hm
      · intro k k1 k2
        simp only at k2 ⊢
        by_cases hk : k ≤ s.n
        · exact hre k k1 hk
        · obtain rfl : k = s.n + 1 := by omega
          rw [show s.out.sum + (s.n + 1) = l.length + 1 by omega, ← hme k1]
          exact hc0.2 k1
      · intro o x hox
        simp only at hox
        have : o.sum ≤ l.length := by
          have : s.out.sum = o.sum + x := by rw [hox]; simp
          omega
        rw [List.take_append_of_le_length this]
        exact h8 o x hox

theorem getD_get {α : Type} (l : List α) (i : Nat) (d : α) (h : i < l.length) : l.getD i d = l[i] := by rw [List.getD_eq_getElem?_getD, List.getElem?_eq_getElem h, Option.getD_some]
theorem cuts_sum (l : List UInt8) : (cuts l).sum = l.length := by
  have h := (cutOk l).sum
  unfold cuts
  split
  · rw [List.sum_append, List.sum_cons, List.sum_nil]; omega
  · omega
theorem cuts_at (l : List UInt8) (i : Nat) (h : i < (cuts l).length) : 1 ≤ (cuts l).getD i 0 ∧ (cuts l).getD i 0 ≤ 512 ∧ (i + 1 ≠ (cuts l).length → 64 ≤ (cuts l).getD i 0) ∧ ((cuts l).take i).sum + (cuts l).getD i 0 ≤ l.length ∧
    (∀ k, 64 ≤ k → k < (cuts l).getD i 0 → endsB l (((cuts l).take i).sum + k) = false) ∧ (i + 1 ≠ (cuts l).length → (cuts l).getD i 0 < 512 → endsB l (((cuts l).take i).sum + (cuts l).getD i 0) = true) := by
  obtain ⟨h1, h2, h3, h4, h5, h6, h7, h8, h9⟩ := cutOk l
  have hs := sum_take_le (cuts l) i h
  rw [cuts_sum, ← getD_get _ _ 0 h] at hs
  have hsum := hs
  clear hs
  revert h hsum
  unfold cuts
  generalize cutR l = s at *
  intro h hsum
  by_cases hn : 0 < s.n
  · simp only [if_pos hn] at h hsum ⊢
    simp only [List.length_append, List.length_cons, List.length_nil] at h ⊢
    by_cases hi : i < s.out.length
    · have e : (s.out ++ [s.n]).getD i 0 = s.out[i] := by rw [getD_get _ _ _ (by simp; omega), List.getElem_append_left hi]
      rw [e, List.take_append_of_le_length (by omega)] at hsum
      rw [e, List.take_append_of_le_length (by omega)]
      have := h4 s.out[i] (List.getElem_mem hi)
      exact ⟨by omega, by omega, fun _ => by omega, hsum, h5 i hi, fun _ => h6 i hi⟩
    · obtain rfl : i = s.out.length := by omega
      have e : (s.out ++ [s.n]).getD s.out.length 0 = s.n := by rw [getD_get _ _ _ (by simp), List.getElem_concat_length rfl]
      rw [e, List.take_left] at hsum
      rw [e, List.take_left]
      exact ⟨by omega, by omega, fun hh => absurd rfl hh, hsum, fun k k1 k2 => h7 k k1 (by omega), fun hh => absurd rfl hh⟩
  · simp only [if_neg hn] at h hsum ⊢
    rw [getD_get _ _ _ h] at hsum ⊢
    have := h4 s.out[i] (List.getElem_mem h)
    exact ⟨by omega, by omega, fun _ => by omega, hsum, h5 i h, fun _ => h6 i h⟩

/-- without its last chunk it ends with one -/
theorem cuts_back (l : List UInt8) (o : List Nat) (x : Nat) (h : cuts l = o ++ [x]) : o.sum + x = l.length ∧ cutR (l.take o.sum) = ⟨o, 0, 0⟩ := by
  have hs := cuts_sum l
  rw [h, List.sum_append, List.sum_cons, List.sum_nil] at hs
  refine ⟨by omega, ?_⟩
  obtain ⟨_, _, _, _, _, _, _, h8, h9⟩ := cutOk l
  revert h
  unfold cuts
  generalize cutR l = s at *
  intro h
  by_cases hn : 0 < s.n
  · rw [if_pos hn] at h
    obtain ⟨rfl, _⟩ := List.append_inj' h rfl
    exact h9
  · rw [if_neg hn] at h
    exact h8 o x h
theorem cutB_out (o : List Nat) (s : CutS) (b : UInt8) : cutB ⟨o ++ s.out, s.mark, s.n⟩ b = ⟨o ++ (cutB s b).out, (cutB s b).mark, (cutB s b).n⟩ := by
  unfold cutB
  simp only
  split <;> simp
theorem foldl_out (o : List Nat) (l : List UInt8) : ∀ s : CutS, l.foldl cutB ⟨o ++ s.out, s.mark, s.n⟩ = ⟨o ++ (l.foldl cutB s).out, (l.foldl cutB s).mark, (l.foldl cutB s).n⟩ := by
  induction l with
  | nil => intro s; rfl
  | cons b l ih => intro s; rw [List.foldl_cons, List.foldl_cons, cutB_out, ih]
/-- what is alike is cut alike -/
theorem cuts_join (p q : List UInt8) (o : List Nat) (h : cutR p = ⟨o, 0, 0⟩) : cuts (p ++ q) = o ++ cuts q := by
  have e : cutR (p ++ q) = ⟨o ++ (cutR q).out, (cutR q).mark, (cutR q).n⟩ := by
    have := foldl_out o q ⟨[], 0, 0⟩
    rw [List.append_nil] at this
    unfold cutR at h ⊢
    rw [List.foldl_append, h]
    exact this
  unfold cuts
  rw [e]
  simp only
  split
  · rw [List.append_assoc]
  · rfl
end Go.Proofs.Ytgfmpgflbphpcaa
