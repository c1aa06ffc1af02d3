/- A cache's plain law: what is always so of it; what its calls do. No condition. -/
import Derived.Test.YtjndopmjlbhajaaCaG
import Derived.Test.YtjndopmjlbhajaaGets
namespace Go.Proofs.Ytjndopmjlbhajaa
set_option linter.unusedVariables false

/-- what is always so of a cache over N sectors -/
structure CaOk (N : Nat) (s : Ca) : Prop where
  room : 1 ≤ s.room ∧ s.room ≤ 1024
  blk : ∀ n x, s.blocks n = some x → 50 ≤ n ∧ n < N ∧ 1 ≤ x.k ∧ x.k ≤ 4 ∧ x.b.length ≤ 240
  cov : ∀ n, (s.blocks n).isSome = true ↔ s.dirty n = true ∨ n ∈ s.order
  apart : ∀ n, s.dirty n = true → n ∉ s.order
  nodup : s.order.Nodup
  len : s.order.length ≤ s.room
/-- .. but for the block n, which is there and clean, and is asked next -/
structure AskOk (N : Nat) (s : Ca) (n : Nat) : Prop where
  room : 1 ≤ s.room ∧ s.room ≤ 1024
  blk : ∀ n x, s.blocks n = some x → 50 ≤ n ∧ n < N ∧ 1 ≤ x.k ∧ x.k ≤ 4 ∧ x.b.length ≤ 240
  cov : ∀ m, m ≠ n → ((s.blocks m).isSome = true ↔ s.dirty m = true ∨ m ∈ s.order)
  apart : ∀ n, s.dirty n = true → n ∉ s.order
  nodup : s.order.Nodup
  len : s.order.length ≤ s.room
  here : (s.blocks n).isSome = true
  clean : s.dirty n = false
section
variable {N n : Nat} {s : Ca}
theorem CaOk.inN (h : CaOk N s) {m : Nat} (hm : m ∈ s.order) : 50 ≤ m ∧ m < N := by
  have := (h.cov m).2 (.inr hm)
  cases hx : s.blocks m with
  | none => rw [hx] at this; cases this
  | some x => have := h.blk m x hx; exact ⟨this.1, this.2.1⟩
theorem AskOk.inN (h : AskOk N s n) {m : Nat} (hm : m ∈ s.order) : m < N := by
  by_cases e : m = n
  · subst e
    cases hx : s.blocks m with
    | none => have := h.here; rw [hx] at this; cases this
    | some x => exact (h.blk m x hx).2.1
  · have := (h.cov m e).2 (.inr hm)
    cases hx : s.blocks m with
    | none => rw [hx] at this; cases this
    | some x => exact (h.blk m x hx).2.1
theorem CaOk.ask (h : CaOk N s) (hn : (s.blocks n).isSome = true) (hd : s.dirty n = false) : AskOk N s n :=
  ⟨h.room, h.blk, fun m _ => h.cov m, h.apart, h.nodup, h.len, hn, hd⟩
theorem mem_outN {l : List Nat} {z : Int} {m : Nat} : m ∈ outN l z ↔ m ∈ l ∧ ¬ (m : Int) = z := by
  unfold outN
  rw [List.mem_filter]
  simp
theorem outN_not {l : List Nat} (h : n ∉ l) : outN l (n : Int) = l := by
  unfold outN
  rw [List.filter_eq_self]
  intro m hm
  have : m ≠ n := fun e => h (e ▸ hm)
  simp; omega
theorem outN_len {l : List Nat} (hd : l.Nodup) (h : n ∈ l) : (outN l (n : Int)).length + 1 = l.length := by
  have e : outN l (n : Int) = l.erase n := by
    rw [hd.erase_eq_filter]
    unfold outN
    refine List.filter_congr fun m _ => ?_
    by_cases e : m = n
    · subst e; simp
    · have h1 : ((m : Int) == (n : Int)) = false := beq_eq_false_iff_ne.2 (by omega)
      have h2 : (m != n) = true := bne_iff_ne.2 e
      rw [h1, h2]; rfl
  rw [e, List.length_erase_of_mem h]
  have : 0 < l.length := List.length_pos_of_mem h
  omega
/-- what asking leaves -/
theorem asked_eq (h : AskOk N s n) : askedC s n = (if s.room < (outN s.order (n : Int) ++ [n]).length then dropC (askC s n) else askC s n) ∧ (outN s.order (n : Int) ++ [n]).length ≤ s.room + 1 := by
  have hl : (outN s.order (n : Int) ++ [n]).length ≤ s.room + 1 := by
    rw [List.length_append]
    have : (outN s.order (n : Int)).length ≤ s.order.length := List.length_filter_le _ _
    have := h.len
    show _ + 1 ≤ _
    omega
  refine ⟨?_, hl⟩
  unfold askedC
  obtain ⟨o, ho⟩ : ∃ o, o = outN s.order (n : Int) ++ [n] := ⟨_, rfl⟩
  have e1 : (askC s n).order = o := by rw [ho]; rfl
  have e2 : (askC s n).room = s.room := rfl
  rw [← ho] at hl ⊢
  by_cases hg : s.room < o.length
  · rw [if_pos hg]
    cases hr : o with
    | nil => rw [hr] at hg; exact absurd hg (by simp)
    | cons x r =>
      rw [trim_step (x := x) (r := r) (by rw [e1]; exact hr) (by rw [e2, e1]; exact hg), trim_done (by
        show ¬ s.room < r.length
        rw [hr] at hl
        have : (x :: r).length = r.length + 1 := rfl
        omega)]
      unfold dropC
      rw [e1, hr]
  · rw [if_neg hg]
    exact trim_done (by rw [e1, e2]; exact hg) _
theorem asked_ok (h : AskOk N s n) : CaOk N (askedC s n) := by
  obtain ⟨e, hl⟩ := asked_eq h
  rw [e]
  have hn : n ∉ outN s.order (n : Int) := fun x => (mem_outN.1 x).2 rfl
  have hnd : (outN s.order (n : Int) ++ [n]).Nodup := by
    rw [List.nodup_append]
    refine ⟨h.nodup.filter _, by simp, fun a ha b hb => ?_⟩
    rw [List.mem_singleton] at hb
    subst hb
    exact fun e => hn (e ▸ ha)
  have hmem : ∀ m, m ∈ outN s.order (n : Int) ++ [n] ↔ m ∈ s.order ∨ m = n := fun m => by
    rw [List.mem_append, mem_outN, List.mem_singleton]
    constructor
    · rintro (⟨a, _⟩ | a)
      · exact .inl a
      · exact .inr a
    · rintro (a | a)
      · by_cases e : m = n
        · exact .inr e
        · exact .inl ⟨a, by omega⟩
      · exact .inr a
  by_cases hg : s.room < (outN s.order (n : Int) ++ [n]).length
  · rw [if_pos hg]
    obtain ⟨o, ho⟩ : ∃ o, o = outN s.order (n : Int) ++ [n] := ⟨_, rfl⟩
    rw [← ho] at hg hl hnd hmem
    cases hr : o with
    | nil => rw [hr] at hg; exact absurd hg (by simp)
    | cons x r =>
      have e2 : dropC (askC s n) = setO (delB (askC s n) (x : Int)) r := by
        unfold dropC
        rw [show (askC s n).order = x :: r from by rw [← hr, ho]; rfl]
      rw [e2]
      rw [hr] at hnd hmem hg hl
      have hxr := (List.nodup_cons.1 hnd).1
      have hlr : (x :: r).length = r.length + 1 := rfl
      have hxd : s.dirty x = false := by
        cases hd : s.dirty x with
        | false => rfl
        | true =>
          rcases (hmem x).1 List.mem_cons_self with a | a
          · exact absurd a (h.apart x hd)
          · subst a; rw [h.clean] at hd; cases hd
      refine ⟨h.room, fun m y hy => ?_, fun m => ?_, fun m hd hm => ?_, (List.nodup_cons.1 hnd).2, by show r.length ≤ s.room; omega⟩
      · have hy : (if (m : Int) = (x : Int) then none else s.blocks m) = some y := hy
        split at hy
        · cases hy
        · exact h.blk m y hy
      · show (if (m : Int) = (x : Int) then none else s.blocks m).isSome = true ↔ s.dirty m = true ∨ m ∈ r
        by_cases ex : (m : Int) = (x : Int)
        · rw [if_pos ex]
          have : m = x := by omega
          subst this
          rw [hxd]
          simp [hxr]
        · rw [if_neg ex]
          have hmr : m ∈ r ↔ m ∈ s.order ∨ m = n := by
            rw [← hmem m, List.mem_cons]
            constructor
            · exact .inr
            · rintro (a | a)
              · exact absurd (by omega) ex
              · exact a
          by_cases en : m = n
          · subst en
            rw [hmr]
            simp [h.here]
          · rw [h.cov m en, hmr]
            simp [en]
      · have hd : s.dirty m = true := hd
        have hm : m ∈ r := hm
        rcases (hmem m).1 (List.mem_cons_of_mem _ hm) with a | a
        · exact h.apart m hd a
        · have := h.clean; rw [← a] at this; rw [show s.dirty m = true from hd] at this; cases this
  · rw [if_neg hg]
    refine ⟨h.room, h.blk, fun m => ?_, fun m hd hm => ?_, hnd, by show (outN s.order (n : Int) ++ [n]).length ≤ s.room; omega⟩
    · show (s.blocks m).isSome = true ↔ s.dirty m = true ∨ m ∈ outN s.order (n : Int) ++ [n]
      rw [hmem m]
      by_cases en : m = n
      · subst en; simp [h.here]
      · rw [h.cov m en]; simp [en]
    · have hd : s.dirty m = true := hd
      rcases (hmem m).1 hm with a | a
      · exact h.apart m hd a
      · have := h.clean; rw [← a] at this; rw [show s.dirty m = true from hd] at this; cases this
theorem asked_same (h : AskOk N s n) : (askedC s n).dirty = s.dirty ∧ (askedC s n).room = s.room := by
  rw [(asked_eq h).1]
  split
  · unfold dropC
    split <;> exact ⟨rfl, rfl⟩
  · exact ⟨rfl, rfl⟩
theorem forget_ok (h : CaOk N s) (z : Int) : CaOk N (forgetC s z) := by
  refine ⟨h.room, fun m y hy => ?_, fun m => ?_, fun m hd hm => ?_, h.nodup.filter _, Nat.le_trans (List.length_filter_le _ _) h.len⟩
  · have hy : (if (m : Int) = z then none else s.blocks m) = some y := hy
    split at hy
    · cases hy
    · exact h.blk m y hy
  · show (if (m : Int) = z then none else s.blocks m).isSome = true ↔ (if (m : Int) = z then false else s.dirty m) = true ∨ m ∈ outN s.order z
    rw [mem_outN]
    by_cases e : (m : Int) = z
    · rw [if_pos e, if_pos e]; simp [e]
    · rw [if_neg e, if_neg e, h.cov m]; simp [e]
  · have hd : (if (m : Int) = z then false else s.dirty m) = true := hd
    split at hd
    · cases hd
    · exact h.apart m hd (mem_outN.1 hm).1
/-- a block is put: it is dirty -/
def putC (s : Ca) (n : Nat) (x : Bk) : Ca := putD (putB (forgetC s (n : Int)) n x) n
theorem put_c_ok (h : CaOk N s) {x : Bk} (h1 : 50 ≤ n) (h2 : n < N) (hx : 1 ≤ x.k ∧ x.k ≤ 4 ∧ x.b.length ≤ 240) : CaOk N (putC s n x) := by
  have hf := forget_ok h (n : Int)
  refine ⟨h.room, fun m y hy => ?_, fun m => ?_, fun m hd hm => ?_, hf.nodup, hf.len⟩
  · have hy : (if m = n then some x else (forgetC s (n : Int)).blocks m) = some y := hy
    split at hy
    · rename_i e
      have e2 : x = y := by injection hy
      rw [e, ← e2]; exact ⟨h1, h2, hx⟩
    · exact hf.blk m y hy
  · show (if m = n then some x else (forgetC s (n : Int)).blocks m).isSome = true ↔ (if m = n then true else (forgetC s (n : Int)).dirty m) = true ∨ m ∈ (forgetC s (n : Int)).order
    by_cases e : m = n
    · rw [if_pos e, if_pos e]; simp
    · rw [if_neg e, if_neg e]; exact hf.cov m
  · have hd : (if m = n then true else (forgetC s (n : Int)).dirty m) = true := hd
    by_cases e : m = n
    · subst e; exact (mem_outN.1 (show m ∈ outN s.order (m : Int) from hm)).2 rfl
    · rw [if_neg e] at hd; exact hf.apart m hd hm
def nilB : Bk := ⟨0, []⟩
/-- what a sector has of a block -/
def readB (t : Dsk) (n : Nat) : Nat × Nat × List UInt8 := gBlk (n : Int) (hasD t n)
/-- what Get tells, and leaves -/
def getC (t : Dsk) (s : Ca) (z : Int) : Nat × Bk × Ca :=
  if 50 ≤ z ∧ z < (t.n : Int) then
    match s.blocks z.toNat with
    | some x => (0, x, if s.dirty z.toNat then s else askedC s z.toNat)
    | none => if (readB t z.toNat).1 = 0 then (0, ⟨(readB t z.toNat).2.1, (readB t z.toNat).2.2⟩, if s.dirty z.toNat then putB s z.toNat ⟨(readB t z.toNat).2.1, (readB t z.toNat).2.2⟩ else askedC (putB s z.toNat ⟨(readB t z.toNat).2.1, (readB t z.toNat).2.2⟩) z.toNat) else ((readB t z.toNat).1, nilB, s)
  else (2, nilB, s)
theorem readB_ok {t : Dsk} {n : Nat} (h : (readB t n).1 = 0) : 1 ≤ (readB t n).2.1 ∧ (readB t n).2.1 ≤ 4 ∧ (readB t n).2.2.length ≤ 240 := by
  unfold readB gBlk at *
  split at h
  · cases h
  · rename_i h0
    split at h
    · rename_i h1
      split at h
      · cases h
      · rename_i h2
        split at h
        · rename_i h3
          rw [if_neg h0, if_pos h1, if_neg h2, if_pos h3]
          have h4 := h3.1
          unfold blkMay at h4
          refine ⟨by show 1 ≤ blkKind _; omega, by show blkKind _ ≤ 4; omega, ?_⟩
          show (blkBody _).length ≤ 240
          rw [length_blkBody _ (by omega) (by omega)]
          exact Nat.le_of_not_lt h2
        · cases h
    · cases h
theorem ask_new (h : CaOk N s) (hb : s.blocks n = none) (h1 : 50 ≤ n) (h2 : n < N) {x : Bk} (hx : 1 ≤ x.k ∧ x.k ≤ 4 ∧ x.b.length ≤ 240) : AskOk N (putB s n x) n ∧ s.dirty n = false := by
  have hc : ¬ (s.dirty n = true ∨ n ∈ s.order) := fun y => by have := (h.cov n).2 y; rw [hb] at this; cases this
  have hd : s.dirty n = false := by
    cases e : s.dirty n with
    | false => rfl
    | true => exact absurd (.inl e) hc
  refine ⟨⟨h.room, fun m y hy => ?_, fun m hm => ?_, h.apart, h.nodup, h.len, ?_, hd⟩, hd⟩
  · have hy : (if m = n then some x else s.blocks m) = some y := hy
    split at hy
    · rename_i e
      have e2 : x = y := by injection hy
      rw [e, ← e2]; exact ⟨h1, h2, hx⟩
    · exact h.blk m y hy
  · show (if m = n then some x else s.blocks m).isSome = true ↔ _
    rw [if_neg hm]; exact h.cov m
  · show (if n = n then some x else s.blocks n).isSome = true
    rw [if_pos rfl]; rfl
theorem get_c_ok {t : Dsk} (h : CaOk t.n s) (z : Int) : CaOk t.n (getC t s z).2.2 := by
  unfold getC
  by_cases hz : 50 ≤ z ∧ z < (t.n : Int)
  · rw [if_pos hz]
    cases hb : s.blocks z.toNat with
    | some x =>
      show CaOk t.n (if s.dirty z.toNat then s else askedC s z.toNat)
      cases hd : s.dirty z.toNat with
      | true => exact h
      | false => exact asked_ok (h.ask (by rw [hb]; rfl) hd)
    | none =>
      by_cases hr : (readB t z.toNat).1 = 0
      · simp only [hr, if_true]
        obtain ⟨h1, h2⟩ := ask_new h hb (by omega) (by omega) (x := ⟨(readB t z.toNat).2.1, (readB t z.toNat).2.2⟩) (readB_ok hr)
        rw [h2]
        exact asked_ok h1
      · simp only [hr, if_false]
        exact h
  · rw [if_neg hz]; exact h
theorem new_ok {room : Nat} (h : 1 ≤ room ∧ room ≤ 1024) : CaOk N (newC room) :=
  ⟨h, fun n x hx => (by cases hx), fun n => ⟨fun h => (by cases h), fun h => by rcases h with h | h <;> cases h⟩, fun n hd => (by cases hd), List.nodup_nil, Nat.zero_le _⟩
end
end Go.Proofs.Ytjndopmjlbhajaa
