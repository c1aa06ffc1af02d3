/- A sector is written: the disk behind it. No condition. -/
import Derived.Test.YtnclebnodkkgnaaDkWrite
import Derived.Maps.OwnSet
namespace Go.Proofs.Ytnclebnodkkgnaa
open Go.RowKit Go.Maps

theorem keys_le {H : Type} : ∀ (n : Nat) (es : List (Lit × DataW H)), n ≤ 9223372036854775807 → es.Pairwise (fun p q => p.1 ≠ q.1) → (∀ p ∈ es, ∃ j, j < n ∧ p.1 = kl j) → es.length ≤ n
  | 0, es, _, _, h => by
    cases es with
    | nil => exact Nat.le_refl _
    | cons p l => obtain ⟨j, hj, _⟩ := h p (by simp); omega
  | n + 1, es, hn, hp, h => by
    have h1 := length_strike (k := kl n) es hp
    have h2 := keys_le n (es.filter fun p => !p.1.sameKey (kl n)) (by omega) (hp.filter _) (fun p hm => by
      obtain ⟨hm1, hm2⟩ := List.mem_filter.1 hm
      obtain ⟨j, hj, e⟩ := h p hm1
      refine ⟨j, ?_, e⟩
      by_cases hjn : j = n
      · subst hjn
        rw [e, WideAt.sameKey_self (law3.key (key_kl j (by omega)))] at hm2
        simp at hm2
      · omega)
    split at h1 <;> omega
theorem owns_tight {w : World} {b m n : Nat} {D : DataW Value} (h : w.ownsMap Try.prog 3 RV b m D) (hn : n ≤ 9223372036854775807) (hk : ∀ x, has D x = true → ∃ j, j < n ∧ x = kl j) : w.ownsMap Try.prog 3 RV b n D := by
  obtain ⟨es0, he, hp, hkey⟩ := h.entries law3
  have hle : es0.length ≤ n := keys_le n es0 hn hp (fun p hm => by
    obtain ⟨j, hj, e⟩ := hk p.1 (by
      rw [he]
      exact List.any_eq_true.2 ⟨p, hm, WideAt.sameKey_self (hkey p hm)⟩)
    exact ⟨j, hj, e⟩)
  obtain ⟨es, clock, h1, h2, _, h4⟩ := h
  refine ⟨es, clock, h1, h2, ?_, h4⟩
  rw [h4] at he
  injection he with he
  have : es.size = es0.length := by rw [← he, length_sorted]; simp
  omega

def writeS (s : Dsk) (k : Nat) (x : List UInt8) : Dsk := { s with vers := fun j => if j = k then s.vers k ++ [x] else s.vers j }
def Dw.put (d : Dw) (k : Nat) (a : Sv) : Dw := { d with v := fun j => if j = k then a else d.v j }

section
variable {w w1 w2 : World} {base : Nat} {d : Dw} {s : Dsk}
theorem Dk.apG (h : Dk w base d s) (k : Nat) : ablk (d.v k).A ≠ some d.g := fun e => by
  by_cases hk : k < s.n
  · rcases (h.vers k hk).cases with ⟨h0, _⟩ | ⟨g', cur, hA, _, hh, _⟩
    · rw [h0] at e; cases e
    · rw [hA] at e
      have hg : g' = d.g := by injection e
      subst hg
      have h2 : w.heap[d.g]? = _ := h.blk
      rw [h2] at hh
      simp only [Option.some.injEq, Obj.cells.injEq] at hh
      exact absurd hh.2.1 (by decide)
  · rw [h.out k (by omega)] at e; cases e
theorem Dk.apM (h : Dk w base d s) (k : Nat) : ablk (d.v k).A ≠ some d.M := fun e => by
  by_cases hk : k < s.n
  · rcases (h.vers k hk).cases with ⟨h0, _⟩ | ⟨g', cur, hA, _, hh, _⟩
    · rw [h0] at e; cases e
    · rw [hA] at e
      have hg : g' = d.M := by injection e
      subst hg
      obtain ⟨D, ⟨es, clock, h1, _⟩, _⟩ := h.map
      rw [h1] at hh
      cases hh
  · rw [h.out k (by omega)] at e; cases e
theorem Dk.vlt (h : Dk w base d s) {k b : Nat} (e : ablk (d.v k).A = some b) : b < w.heap.size := (h.foot_base b (.inr (.inr (.inr ⟨k, e⟩)))).2

theorem Dk.write (h : Dk w base d s) {k : Nat} (hk : k < s.n) {x : List UInt8} (hx : x.length = 256) {A' : Option Addr} {c' m : Nat} {D : DataW Value}
    (ho : Own w1 base 93 256 A' ((s.vers k).length + 1) c' (bvs (s.vers k).flatten ++ bvs x)) (hg : w.grownBy w1 (ablk (d.v k).A)) (hf : ablk A' = ablk (d.v k).A ∨ ∃ b, ablk A' = some b ∧ w.heap.size ≤ b)
    (hD : MapD w d s D) (hm : w2.ownsMap Try.prog 3 RV d.M m (D.put (kl k) (.held (.slice A' ((s.vers k).length + 1) c')))) (hg2 : w1.grownBy w2 (some d.M)) :
    Dk w2 base (d.put k ⟨A', c'⟩) (writeS s k x) ∧ Kept d.foot w w2 ∧ ∀ b, (d.put k ⟨A', c'⟩).foot b → d.foot b ∨ w.heap.size ≤ b := by
  have hsm := h.small
  have K1 : Kept (fun b => ablk (d.v k).A = some b) w w1 := Kept.of_grown hg (fun b e => e)
  have K2 : Kept (fun b => b = d.M) w1 w2 := Kept.of_grown hg2 (fun b e => (Option.some.inj e).symm)
  have K : Kept (fun b => ablk (d.v k).A = some b ∨ b = d.M) w w2 := (K1.mono (fun b _ e => .inl e)).trans K2 (fun b _ e => .inr e)
  have hkk : ∀ j, j ≠ k → (d.put k ⟨A', c'⟩).v j = d.v j := fun j hj => by show (if j = k then _ else _) = _; rw [if_neg hj]
  have hks : (d.put k ⟨A', c'⟩).v k = ⟨A', c'⟩ := by show (if k = k then _ else _) = _; rw [if_pos rfl]
  have hvk : ∀ j, j ≠ k → (writeS s k x).vers j = s.vers j := fun j hj => by show (if j = k then _ else _) = _; rw [if_neg hj]
  have hvs : (writeS s k x).vers k = s.vers k ++ [x] := by show (if k = k then _ else _) = _; rw [if_pos rfl]
  have hAM : ablk A' ≠ some d.M := fun e => by
    rcases hf with h1 | ⟨b, h1, h2⟩
    · exact h.apM k (h1 ▸ e)
    · rw [h1] at e; have := Option.some.inj e; have := h.mlt; omega
  have hAo : ∀ j b, j ≠ k → ablk (d.v j).A = some b → ablk A' ≠ some b := fun j b hj hb e => by
    rcases hf with h1 | ⟨b', h1, h2⟩
    · rcases h.apart j k hj with h3 | h3
      · rw [h3] at hb; cases hb
      · exact h3 (by rw [hb, ← h1, e])
    · rw [h1] at e; have := Option.some.inj e; have := h.vlt hb; omega
  refine ⟨⟨K.blk h.blk ?_, Nat.lt_of_lt_of_le h.llt K.size, fun j hj => range_kept (h.lies j hj) (K.block d.L h.llt ?_), there_kept h.there (K.block d.L h.llt ?_), ?_, fun j hj => ?_, fun j hj => ?_, fun i j hij => ?_, fun j => ?_, fun j hj => ?_, h.small, h.left, h.bases, h.ne, rowAt_block h.lty (K.block d.L h.llt (fun e => e.elim (h.apL k) (fun e => h.ne.2.2 e.symm)))⟩, K.mono (fun b _ e => ?_), fun b hb => ?_⟩
  · rintro (e | e)
    · exact h.apG k e
    · exact h.ne.2.1 e.symm
  · rintro (e | e)
    · exact h.apL k e
    · exact h.ne.2.2 e.symm
  · rintro (e | e)
    · exact h.apL k e
    · exact h.ne.2.2 e.symm
  · have hkeys : ∀ y, has (D.put (kl k) (.held (.slice A' ((s.vers k).length + 1) c'))) y = true → ∃ j, j < s.n ∧ y = kl j ∧ (writeS s k x).vers j ≠ [] := fun y hy => by
      by_cases e : y = kl k
      · exact ⟨k, hk, e, by rw [hvs]; simp⟩
      · rw [has_put_other e] at hy
        obtain ⟨j, hj, e2, h2⟩ := hD.2.2 y hy
        have hjk : j ≠ k := fun e3 => e (by rw [e2, e3])
        exact ⟨j, hj, e2, by rw [hvk j hjk]; exact h2⟩
    refine ⟨_, owns_tight hm (show s.n ≤ 9223372036854775807 by omega) (fun y hy => by obtain ⟨j, h1, h2, _⟩ := hkeys y hy; exact ⟨j, h1, h2⟩), fun j hj => ?_, hkeys⟩
    by_cases e : j = k
    · subst e
      rw [atKey_put_same (hD.1.tidy law3).isMap (law3.key (key_kl j (by omega)))]
      rw [hks, hvs, List.length_append]
      rfl
    · rw [atKey_put_other (kl_ne e), hD.2.1 j hj, hkk j e, hvk j e]
  · by_cases e : j = k
    · subst e
      rw [hks, hvs, List.length_append, List.flatten_append]
      have := ho.keep hg2 (.inr hAM)
      simpa [bvs] using this
    · rw [hkk j e, hvk j e]
      refine own_kept (h.vers j hj) K (fun b hb => ?_)
      rintro (e2 | e2)
      · rcases h.apart j k e with h3 | h3
        · rw [h3] at hb; cases hb
        · exact h3 (by rw [hb, e2])
      · subst e2; exact h.apM j hb
  · have e : j ≠ k := fun e => by have : s.n ≤ j := hj; omega
    rw [hkk j e]
    exact h.out j hj
  · by_cases e1 : i = k
    · subst e1
      rw [hks, hkk j (Ne.symm hij)]
      cases hb : ablk (d.v j).A with
      | none => cases hA : ablk A' with
        | none => exact .inl rfl
        | some a => exact .inr (by simp)
      | some b => exact .inr (hAo j b (Ne.symm hij) hb)
    · by_cases e2 : j = k
      · subst e2
        rw [hks, hkk i e1]
        cases hb : ablk (d.v i).A with
        | none => exact .inl rfl
        | some b => exact .inr (fun e => hAo i b e1 hb e.symm)
      · rw [hkk i e1, hkk j e2]
        exact h.apart i j hij
  · by_cases e : j = k
    · subst e
      rw [hks]
      show ablk A' ≠ some d.L
      intro e2
      rcases hf with h1 | ⟨b, h1, h2⟩
      · exact h.apL j (h1 ▸ e2)
      · rw [h1] at e2; have := Option.some.inj e2; have := h.llt; omega
    · rw [hkk j e]; exact h.apL j
  · refine ⟨(h.len j hj).1, fun y hy => ?_⟩
    by_cases e : j = k
    · subst e
      rw [hvs] at hy
      rcases List.mem_append.1 hy with h1 | h1
      · exact (h.len j hj).2 y h1
      · simp at h1; rw [h1]; exact hx
    · rw [hvk j e] at hy; exact (h.len j hj).2 y hy
  · rcases e with e | e
    · exact .inr (.inr (.inr ⟨k, e⟩))
    · exact .inr (.inr (.inl e))
  · rcases hb with hb | hb | hb | ⟨j, hb⟩
    · exact .inl (.inl hb)
    · exact .inl (.inr (.inl hb))
    · exact .inl (.inr (.inr (.inl hb)))
    · by_cases e : j = k
      · subst e
        rw [hks] at hb
        rcases hf with h1 | ⟨b', h1, h2⟩
        · exact .inl (.inr (.inr (.inr ⟨j, h1 ▸ hb⟩)))
        · rw [show ablk A' = some b' from h1] at hb
          exact .inr (by have := Option.some.inj hb; omega)
      · rw [hkk j e] at hb
        exact .inl (.inr (.inr (.inr ⟨j, hb⟩)))
end
end Go.Proofs.Ytnclebnodkkgnaa
