/- A journal behind a loss of power: a first part of what was appended. No condition. -/
import Derived.Test.YtnclebnodkkgnaaJrLaw
import Derived.Test.YtnclebnodkkgnaaDkPow
namespace Go.Proofs.Ytnclebnodkkgnaa

/-- noughts, or a piece of an older generation -/
def Old (g : Nat) (x : List UInt8) : Prop := x = z256 ∨ ∃ G N p m l, G < g ∧ x = pieceB G N p m l
section
variable {g : Nat} {x : List UInt8} {s : Dsk} {rs : List (List UInt8)} {r : List UInt8} {fl t : Nat} {P sec : Nat → List UInt8}
theorem Old.ne (h : Old g x) (hg : g < 4294967296) (N p m : Nat) (l : List UInt8) : x ≠ pieceB g N p m l := fun e => by
  rcases h with rfl | ⟨G, N', p', m', l', hG, rfl⟩
  · rw [pieceB_eq] at e
    have : (z256).head? = some 74 := by rw [e]; rfl
    rw [z256, show (256 : Nat) = 255 + 1 from rfl, List.replicate_succ] at this
    simp only [List.head?_cons, Option.some.injEq] at this
    exact absurd this (by decide)
  · have := piece_G (by omega) hg e
    omega
theorem Old.up (h : Old g x) : Old (g + 1) x := by
  rcases h with h | ⟨G, N', p', m', l', hG, h⟩
  · exact .inl h
  · exact .inr ⟨G, N', p', m', l', by omega, h⟩
theorem old_recs {k : Nat} (h : RecsAt P g 0 1 rs) (hk : k < usedOf rs) : Old (g + 1) (P k) := by
  obtain ⟨N, i, m, l, e⟩ := recs_piece h (Nat.zero_le k) (by omega)
  exact .inr ⟨g, N, i, m, l, by omega, e⟩
theorem old_stop (hg : g < 4294967296) {p N : Nat} (h : Old g (sec p)) : recAt sec g p N = none := recAt_first (fun j d _ => h.ne hg _ _ _ _)

theorem open_pre (hg : g < 4294967296) : ∀ (rs : List (List UInt8)) (p f : Nat) (out : List (List UInt8)), RecsAt P g p (out.length + 1) rs → p + usedOf rs ≤ 48 → 48 ≤ f + p →
    (∀ k, p ≤ k → k < p + usedOf rs → sec k = P k ∨ Old g (sec k)) → (p + usedOf rs < 48 → Old g (sec (p + usedOf rs))) →
    ∃ j, j ≤ rs.length ∧ openGo sec g f p out = out ++ rs.take j ∧ ∀ q, q ≤ rs.length → (∀ k, p ≤ k → k < p + usedOf (rs.take q) → sec k = P k) → q ≤ j
  | [], p, f, out, _, hu, hf, _, hs => by
    refine ⟨0, Nat.zero_le _, ?_, fun q hq _ => hq⟩
    simp only [usedOf, Nat.add_zero, List.take_nil, List.append_nil] at hs ⊢
    by_cases hp : p < 48
    · exact openGo_stop hp (old_stop hg (hs hp))
    · exact openGo_end (by omega)
  | r :: rs, p, f, out, ⟨h1, h2⟩, hu, hf, hk, hs => by
    have hr := pcsN_pos r.length
    simp only [usedOf] at hu hk hs
    obtain ⟨f, rfl⟩ : ∃ f', f = f' + 1 := ⟨f - 1, by omega⟩
    by_cases hall : ∀ i, i < pcsN r.length → sec (p + i) = P (p + i)
    · have hrec : RecAt sec g p (out.length + 1) r := fun i hi => (hall i hi).trans (h1 i hi)
      rw [openGo_next (by omega) (recAt_at hrec (by omega))]
      obtain ⟨j, j1, j2, j3⟩ := open_pre hg rs (p + pcsN r.length) f (out ++ [r]) (by simpa using h2) (by omega) (by omega) (fun k a b => hk k (by omega) (by omega)) (fun a => by
        rw [show p + pcsN r.length + usedOf rs = p + (pcsN r.length + usedOf rs) by omega] at a ⊢
        exact hs a)
      refine ⟨j + 1, by simp; omega, by rw [j2]; simp, fun q hq hqk => ?_⟩
      cases q with
      | zero => omega
      | succ q =>
        have := j3 q (by simpa using hq) (fun k a b => hqk k (by omega) (by simp only [List.take_succ_cons, usedOf]; omega))
        omega
    · have hnone : recAt sec g p (out.length + 1) = none := by
        by_cases h0 : sec p = P p
        · obtain ⟨i, hi⟩ := Classical.not_forall.1 hall
          obtain ⟨hi, hne⟩ := Classical.not_imp.1 hi
          have hold : Old g (sec (p + i)) := (hk (p + i) (by omega) (by omega)).resolve_left hne
          have hM : recM sec p = pcsN r.length := by
            have e : recM sec p = recM P p := by unfold recM; rw [h0]
            rw [e]; exact recM_at h1 (by omega)
          unfold recAt
          rw [hM]
          split
          · rfl
          · unfold recAll
            rw [hM, recGo_none ⟨i, by omega, by omega, pcOk_none (fun d _ => hold.ne hg _ _ _ _)⟩]
            rfl
        · exact old_stop hg ((hk p (by omega) (by omega)).resolve_left h0)
      refine ⟨0, Nat.zero_le _, by rw [openGo_stop (by omega) hnone]; simp, fun q hq hqk => ?_⟩
      cases q with
      | zero => omega
      | succ q =>
        exfalso
        apply hall
        intro i hi
        exact hqk (p + i) (by omega) (by simp only [List.take_succ_cons, usedOf]; omega)

/-- the disk of a journal, of which fl records were flushed -/
structure Pre (s : Dsk) (g : Nat) (rs : List (List UInt8)) (fl : Nat) (P : Nat → List UInt8) (t : Nat) : Prop where
  n_ : s.n = 60
  cut_ : s.cut = false
  used_ : usedOf rs ≤ 48
  recs : RecsAt P g 0 1 rs
  fl_ : fl ≤ rs.length
  flat : ∀ k, k < usedOf (rs.take fl) → s.lies (2 + k) = P k ∧ s.vers (2 + k) = []
  mid : ∀ k, usedOf (rs.take fl) ≤ k → k < usedOf rs → Old g (s.lies (2 + k)) ∧ ∃ vs, s.vers (2 + k) = vs ++ [P k] ∧ ∀ x ∈ vs, Old g x
  rest : ∀ k, usedOf rs ≤ k → k < 48 → Old g (s.lies (2 + k)) ∧ ∀ x ∈ s.vers (2 + k), Old g x
  cnt : ∀ k, k < s.n → (s.vers k).length ≤ t
theorem take_used (rs : List (List UInt8)) (q : Nat) : usedOf (rs.take q) ≤ usedOf rs := by
  have := used_append (rs.take q) (rs.drop q)
  rw [List.take_append_drop] at this
  omega
theorem Pre.cnt_up (h : Pre s g rs fl P t) {t' : Nat} (ht : t ≤ t') : Pre s g rs fl P t' := { h with cnt := fun k hk => Nat.le_trans (h.cnt k hk) ht }
theorem laid_vers (hc : s.cut = false) {G N m p : Nat} {l : List UInt8} {i : Nat} (k : Nat) : (laidTo s G N m p l i).vers k = s.vers k ++ (if p ≤ k ∧ k < p + i then [pieceB G N (k - p) m (pcAt l (k - p))] else []) := by
  induction i with
  | zero => rw [if_neg (by omega), List.append_nil]; rfl
  | succ i ih =>
    rw [laidTo, writeD_cut (laid_has hc).1]
    show (if k = p + i then _ else _) = _
    by_cases e : k = p + i
    · subst e
      rw [if_pos rfl, if_pos (by omega), ih, if_neg (by omega), List.append_nil, Nat.add_sub_cancel_left]
    · rw [if_neg e, ih]
      by_cases e2 : p ≤ k ∧ k < p + i
      · rw [if_pos e2, if_pos (by omega)]
      · rw [if_neg e2, if_neg (by omega)]
theorem Pre.more (h : Pre s g rs fl P t) (hp : usedOf rs + pcsN r.length ≤ 48) :
    ∃ P', Pre (laidTo s g (rs.length + 1) (pcsN r.length) (2 + usedOf rs) r (pcsN r.length)) g (rs ++ [r]) fl P' (t + 1) := by
  refine ⟨fun k => if usedOf rs ≤ k ∧ k < usedOf rs + pcsN r.length then pieceB g (rs.length + 1) (k - usedOf rs) (pcsN r.length) (pcAt r (k - usedOf rs)) else P k, ?_⟩
  have hl := (laid_has (G := g) (N := rs.length + 1) (m := pcsN r.length) (p := 2 + usedOf rs) (l := r) (i := pcsN r.length) h.cut_)
  have hv := fun k => laid_vers (G := g) (N := rs.length + 1) (m := pcsN r.length) (p := 2 + usedOf rs) (l := r) (i := pcsN r.length) h.cut_ k
  have htk : (rs ++ [r]).take fl = rs.take fl := by rw [List.take_append_of_le_length h.fl_]
  have htu := take_used rs fl
  refine ⟨by rw [laidTo_n, h.n_], hl.1, by rw [used_snoc]; exact hp, RecsAt.split.2 ⟨h.recs.congr (fun k _ hk => by rw [if_neg (by omega)]), fun i hi => ?_, trivial⟩, by rw [List.length_append]; have := h.fl_; omega, fun k hk => ?_, fun k h1 h2 => ?_, fun k h1 h2 => ?_, fun k hk => ?_⟩
  · rw [Nat.zero_add]
    show (if _ then _ else _) = _
    rw [if_pos (by omega), Nat.add_sub_cancel_left, Nat.add_comm 1]
  · rw [htk] at hk
    obtain ⟨a, b⟩ := h.flat k hk
    refine ⟨?_, ?_⟩
    · rw [hl.2.1, if_neg (by omega)]; exact a
    · rw [hv, b, if_neg (by omega)]; rfl
  · rw [htk] at h1
    rw [used_snoc] at h2
    rw [hl.2.1, hv]
    by_cases e : k < usedOf rs
    · obtain ⟨a, vs, b, c⟩ := h.mid k h1 e
      exact ⟨a, vs, by rw [if_neg (by omega), if_neg (by omega), List.append_nil]; exact b, c⟩
    · obtain ⟨a, b⟩ := h.rest k (by omega) (by omega)
      exact ⟨a, s.vers (2 + k), by rw [if_pos (by omega), if_pos (by omega), show 2 + k - (2 + usedOf rs) = k - usedOf rs by omega], b⟩
  · rw [used_snoc] at h1
    rw [hl.2.1, hv, if_neg (by omega), List.append_nil]
    exact h.rest k (by omega) h2
  · rw [hv, List.length_append]
    have := h.cnt k (by rw [laidTo_n] at hk; exact hk)
    split <;> simp <;> omega
theorem Pre.flush (h : Pre s g rs fl P t) : Pre (flushD s) g rs rs.length P t := by
  have hn := h.n_
  have hf : ∀ k, k < 48 → (flushD s).lies (2 + k) = hasD s (2 + k) ∧ (flushD s).vers (2 + k) = [] := fun k hk => by
    obtain ⟨a, b⟩ := flush_has (k := 2 + k) h.cut_ (by omega)
    exact ⟨by rw [← a, hasD_flat b], b⟩
  obtain ⟨c1, c2⟩ := flush_cut h.cut_
  refine ⟨by rw [c2, hn], c1, h.used_, h.recs, Nat.le_refl _, fun k hk => ?_, fun k h1 h2 => ?_, fun k h1 h2 => ?_, fun k hk => ?_⟩
  · rw [List.take_length] at hk
    have hu := h.used_
    obtain ⟨a, b⟩ := hf k (by omega)
    refine ⟨?_, b⟩
    rw [a]
    by_cases e : k < usedOf (rs.take fl)
    · obtain ⟨q1, q2⟩ := h.flat k e
      rw [hasD_flat q2, q1]
    · obtain ⟨_, vs, q2, _⟩ := h.mid k (by omega) hk
      unfold hasD
      rw [q2]; simp
  · rw [List.take_length] at h1; omega
  · obtain ⟨a, b⟩ := hf k h2
    obtain ⟨q1, q2⟩ := h.rest k h1 h2
    refine ⟨?_, by rw [b]; intro x hx; cases hx⟩
    rw [a]
    unfold hasD
    cases hx : (s.vers (2 + k)).getLast? with
    | none => exact q1
    | some x => exact q2 x (List.mem_of_getLast? hx)
  · rw [c2] at hk
    rw [(flush_has h.cut_ hk).2]
    exact Nat.zero_le _
/-- a generation begins -/
theorem Pre.next (h : Pre s g rs fl P t) : Pre s (g + 1) [] 0 P t := by
  have htu := take_used rs fl
  have hu := h.used_
  refine ⟨h.n_, h.cut_, Nat.zero_le _, trivial, Nat.le_refl _, fun k hk => absurd hk (by simp [usedOf]), fun k h1 h2 => absurd h2 (by simp [usedOf]), fun k _ h2 => ?_, h.cnt⟩
  by_cases e1 : k < usedOf (rs.take fl)
  · obtain ⟨a, b⟩ := h.flat k e1
    exact ⟨by rw [a]; exact old_recs h.recs (by omega), by rw [b]; intro x hx; cases hx⟩
  · by_cases e2 : k < usedOf rs
    · obtain ⟨a, vs, b, c⟩ := h.mid k (by omega) e2
      refine ⟨a.up, fun x hx => ?_⟩
      rw [b] at hx
      rcases List.mem_append.1 hx with hx | hx
      · exact (c x hx).up
      · rw [List.mem_singleton] at hx; rw [hx]; exact old_recs h.recs e2
    · obtain ⟨a, b⟩ := h.rest k (by omega) h2
      exact ⟨a.up, fun x hx => (b x hx).up⟩
/-- behind a loss of power: what is read, and that a generation can begin -/
theorem Pre.power (h : Pre s g rs fl P t) (hg : g < 4294967296) (ps : List Int) : (∃ j, fl ≤ j ∧ j ≤ rs.length ∧ openS (secs (powerD s ps)) g = rs.take j) ∧ Pre (powerD s ps) (g + 1) [] 0 P t := by
  obtain ⟨p1, p2, p3⟩ := power_all s ps
  have hn := h.n_
  have htu := take_used rs fl
  have hu := h.used_
  have hk : ∀ k, k < 48 → (k < usedOf (rs.take fl) → (powerD s ps).lies (2 + k) = P k) ∧ (k < usedOf rs → (powerD s ps).lies (2 + k) = P k ∨ Old g ((powerD s ps).lies (2 + k))) ∧ (usedOf rs ≤ k → Old g ((powerD s ps).lies (2 + k))) := fun k hk => by
    obtain ⟨_, q⟩ := p3 (2 + k) (by omega)
    have hfl : k < usedOf (rs.take fl) → (powerD s ps).lies (2 + k) = P k := fun e => by
      obtain ⟨a, b⟩ := h.flat k e
      rcases q with q | q
      · rw [q, a]
      · rw [b] at q; cases q
    refine ⟨hfl, fun e => ?_, fun e => ?_⟩
    · by_cases e1 : k < usedOf (rs.take fl)
      · exact .inl (hfl e1)
      · obtain ⟨a, vs, b, c⟩ := h.mid k (by omega) e
        rcases q with q | q
        · right; rw [q]; exact a
        · rw [b] at q
          rcases List.mem_append.1 q with q | q
          · exact .inr (c _ q)
          · rw [List.mem_singleton] at q; exact .inl q
    · obtain ⟨a, b⟩ := h.rest k e hk
      rcases q with q | q
      · rw [q]; exact a
      · exact b _ q
  have hsec : ∀ k, k < 48 → secs (powerD s ps) k = (powerD s ps).lies (2 + k) := fun k hk => hasD_flat (p3 (2 + k) (by omega)).1
  constructor
  · obtain ⟨j, j1, j2, j3⟩ := open_pre (sec := secs (powerD s ps)) (P := P) hg rs 0 48 [] h.recs (by omega) (by omega) (fun k _ b => by rw [hsec k (by omega)]; exact (hk k (by omega)).2.1 (by omega)) (fun a => by
      rw [Nat.zero_add] at a ⊢
      rw [hsec _ a]
      exact (hk _ a).2.2 (Nat.le_refl _))
    refine ⟨j, j3 fl h.fl_ (fun k _ b => by rw [hsec k (by omega)]; exact (hk k (by omega)).1 (by omega)), j1, ?_⟩
    unfold openS
    rw [j2]; simp
  · refine ⟨by rw [p1, hn], p2, Nat.zero_le _, trivial, Nat.le_refl _, fun k hk => absurd hk (by simp [usedOf]), fun k h1 h2 => absurd h2 (by simp [usedOf]), fun k _ h2 => ?_, fun k hk2 => ?_⟩
    · refine ⟨?_, by rw [(p3 (2 + k) (by omega)).1]; intro x hx; cases hx⟩
      obtain ⟨a, b, c⟩ := hk k h2
      by_cases e : k < usedOf rs
      · rcases b e with b | b
        · rw [b]; exact old_recs h.recs e
        · exact b.up
      · exact (c (by omega)).up
    · rw [p1] at hk2
      rw [(p3 k hk2).1]; exact Nat.zero_le _
theorem pre_wiped : Pre (wipeD (newD 60)) 1 [] 0 (fun _ => []) 0 := by
  obtain ⟨h1, h2, h3, h4⟩ := wipe_all (s := newD 60) rfl (fun _ _ => rfl) (by show 50 ≤ 60; omega)
  refine ⟨h1, h2, Nat.zero_le _, trivial, Nat.le_refl _, fun k hk => absurd hk (by simp [usedOf]), fun k _ hk => absurd hk (by simp [usedOf]), fun k _ hk => ⟨.inl ?_, by rw [h3]; intro x hx; cases hx⟩, fun k _ => by rw [h3]; exact Nat.le_refl _⟩
  rw [← hasD_flat (h3 _), h4, hasD_newD, ite_self]
end
end Go.Proofs.Ytnclebnodkkgnaa
