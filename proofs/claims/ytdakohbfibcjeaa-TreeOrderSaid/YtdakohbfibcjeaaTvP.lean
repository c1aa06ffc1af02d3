/- A cache's plain law: what is always so of it; what its calls do. No condition. -/
import Derived.Test.YtdakohbfibcjeaaCaG
import Derived.Test.YtdakohbfibcjeaaTvB
namespace Go.Proofs.Ytdakohbfibcjeaa
set_option linter.unusedVariables false

/-- what is always so of a cache over N sectors -/
structure CaOk (N : Nat) (s : Ca) : Prop where
  room : 1 ≤ s.room ∧ s.room ≤ 1024
  blk : ∀ n x, s.blocks n = some x → 50 ≤ n ∧ n < N ∧ 1 ≤ x.k ∧ x.k ≤ 4 ∧ x.b.length ≤ 240
  cov : ∀ n, (s.blocks n).isSome = true ↔ s.dirty n = true ∨ n ∈ s.order
  apart : ∀ n, s.dirty n = true → n ∉ s.order
  nodup : s.order.Nodup
  len : s.order.length ≤ s.room
/-- .. but for the block n, which is there and clean, and is asked next -/
structure AskOk (N : Nat) (s : Ca) (n : Nat) : Prop where
  room : 1 ≤ s.room ∧ s.room ≤ 1024
  blk : ∀ n x, s.blocks n = some x → 50 ≤ n ∧ n < N ∧ 1 ≤ x.k ∧ x.k ≤ 4 ∧ x.b.length ≤ 240
  cov : ∀ m, m ≠ n → ((s.blocks m).isSome = true ↔ s.dirty m = true ∨ m ∈ s.order)
  apart : ∀ n, s.dirty n = true → n ∉ s.order
  nodup : s.order.Nodup
  len : s.order.length ≤ s.room
  here : (s.blocks n).isSome = true
  clean : s.dirty n = false
section
variable {N n : Nat} {s : Ca}
theorem CaOk.inN (h : CaOk N s) {m : Nat} (hm : m ∈ s.order) : 50 ≤ m ∧ m < N := by
  have := (h.cov m).2 (.inr hm)
  cases hx : s.blocks m with
  | none => rw [hx] at this; cases this
  | some x => have := h.blk m x hx; exact ⟨this.1, this.2.1⟩
theorem AskOk.inN (h : AskOk N s n) {m : Nat} (hm : m ∈ s.order) : m < N := by
  by_cases e : m = n
  · subst e
    cases hx : s.blocks m with
    | none => have := h.here; rw [hx] at this; cases this
    | some x => exact (h.blk m x hx).2.1
  · have := (h.cov m e).2 (.inr hm)
    cases hx : s.blocks m with
    | none => rw [hx] at this; cases this
    | some x => exact (h.blk m x hx).2.1
theorem CaOk.ask (h : CaOk N s) (hn : (s.blocks n).isSome = true) (hd : s.dirty n = false) : AskOk N s n :=
  ⟨h.room, h.blk, fun m _ => h.cov m, h.apart, h.nodup, h.len, hn, hd⟩
theorem mem_outN {l : List Nat} {z : Int} {m : Nat} : m ∈ outN l z ↔ m ∈ l ∧ ¬ (m : Int) = z := by
  unfold outN
  rw [List.mem_filter]
  simp
theorem outN_not {l : List Nat} (h : n ∉ l) : outN l (n : Int) = l := by
  unfold outN
  rw [List.filter_eq_self]
  intro m hm
  have : m ≠ n := fun e => h (e ▸ hm)
  simp; omega
theorem outN_len {l : List Nat} (hd : l.Nodup) (h : n ∈ l) : (outN l (n : Int)).length + 1 = l.length := by
  have e : outN l (n : Int) = l.erase n := by
    rw [hd.erase_eq_filter]
    unfold outN
    refine List.filter_congr fun m _ => ?_
    by_cases e : m = n
    · subst e; simp
    · have h1 : ((m : Int) == (n : Int)) = false := beq_eq_false_iff_ne.2 (by omega)
      have h2 : (m != n) = true := bne_iff_ne.2 e
      rw [h1, h2]; rfl
  rw [e, List.length_erase_of_mem h]
  have : 0 < l.length := List.length_pos_of_mem h
  omega
/-- what asking leaves -/
theorem asked_eq (h : AskOk N s n) : askedC s n = (if s.room < (outN s.order (n : Int) ++ [n]).length then dropC (askC s n) else askC s n) ∧ (outN s.order (n : Int) ++ [n]).length ≤ s.room + 1 := by
  have hl : (outN s.order (n : Int) ++ [n]).length ≤ s.room + 1 := by
    rw [List.length_append]
    have : (outN s.order (n : Int)).length ≤ s.order.length := List.length_filter_le _ _
    have := h.len
    show _ + 1 ≤ _
    omega
  refine ⟨?_, hl⟩
  unfold askedC
  obtain ⟨o, ho⟩ : ∃ o, o = outN s.order (n : Int) ++ [n] := ⟨_, rfl⟩
  have e1 : (askC s n).order = o := by rw [ho]; rfl
  have e2 : (askC s n).room = s.room := rfl
  rw [← ho] at hl ⊢
  by_cases hg : s.room < o.length
  · rw [if_pos hg]
    cases hr : o with
    | nil => rw [hr] at hg; exact absurd hg (by simp)
    | cons x r =>
      rw [trim_step (x := x) (r := r) (by rw [e1]; exact hr) (by rw [e2, e1]; exact hg), trim_done (by
        show ¬ s.room < r.length
        rw [hr] at hl
        have : (x :: r).length = r.length + 1 := rfl
        omega)]
      unfold dropC
      rw [e1, hr]
  · rw [if_neg hg]
    exact trim_done (by rw [e1, e2]; exact hg) _
theorem asked_ok (h : AskOk N s n) : CaOk N (askedC s n) := by
  obtain ⟨e, hl⟩ := asked_eq h
  rw [e]
  have hn : n ∉ outN s.order (n : Int) := fun x => (mem_outN.1 x).2 rfl
  have hnd : (outN s.order (n : Int) ++ [n]).Nodup := by
    rw [List.nodup_append]
    refine ⟨h.nodup.filter _, by simp, fun a ha b hb => ?_⟩
    rw [List.mem_singleton] at hb
    subst hb
    exact fun e => hn (e ▸ ha)
  have hmem : ∀ m, m ∈ outN s.order (n : Int) ++ [n] ↔ m ∈ s.order ∨ m = n := fun m => by
    rw [List.mem_append, mem_outN, List.mem_singleton]
    constructor
    · rintro (⟨a, _⟩ | a)
      · exact .inl a
      · exact .inr a
    · rintro (a | a)
      · by_cases e : m = n
        · exact .inr e
        · exact .inl ⟨a, by omega⟩
      · exact .inr a
  by_cases hg : s.room < (outN s.order (n : Int) ++ [n]).length
  · rw [if_pos hg]
    obtain ⟨o, ho⟩ : ∃ o, o = outN s.order (n : Int) ++ [n] := ⟨_, rfl⟩
    rw [← ho] at hg hl hnd hmem
    cases hr : o with
    | nil => rw [hr] at hg; exact absurd hg (by simp)
    | cons x r =>
      have e2 : dropC (askC s n) = setO (delB (askC s n) (x : Int)) r := by
        unfold dropC
        rw [show (askC s n).order = x :: r from by rw [← hr, ho]; rfl]
      rw [e2]
      rw [hr] at hnd hmem hg hl
      have hxr := (List.nodup_cons.1 hnd).1
      have hlr : (x :: r).length = r.length + 1 := rfl
      have hxd : s.dirty x = false := by
        cases hd : s.dirty x with
        | false => rfl
        | true =>
          rcases (hmem x).1 List.mem_cons_self with a | a
          · exact absurd a (h.apart x hd)
          · subst a; rw [h.clean] at hd; cases hd
      refine ⟨h.room, fun m y hy => ?_, fun m => ?_, fun m hd hm => ?_, (List.nodup_cons.1 hnd).2, by show r.length ≤ s.room; omega⟩
      · have hy : (if (m : Int) = (x : Int) then none else s.blocks m) = some y := hy
        split at hy
        · cases hy
        · exact h.blk m y hy
      · show (if (m : Int) = (x : Int) then none else s.blocks m).isSome = true ↔ s.dirty m = true ∨ m ∈ r
        by_cases ex : (m : Int) = (x : Int)
        · rw [if_pos ex]
          have : m = x := by omega
          subst this
          rw [hxd]
          simp [hxr]
        · rw [if_neg ex]
          have hmr : m ∈ r ↔ m ∈ s.order ∨ m = n := by
            rw [← hmem m, List.mem_cons]
            constructor
            · exact .inr
            · rintro (a | a)
              · exact absurd (by omega) ex
              · exact a
          by_cases en : m = n
          · subst en
            rw [hmr]
            simp [h.here]
          · rw [h.cov m en, hmr]
            simp [en]
      · have hd : s.dirty m = true := hd
        have hm : m ∈ r := hm
        rcases (hmem m).1 (List.mem_cons_of_mem _ hm) with a | a
        · exact h.apart m hd a
        · have := h.clean; rw [← a] at this; rw [show s.dirty m = true from hd] at this; cases this
  · rw [if_neg hg]
    refine ⟨h.room, h.blk, fun m => ?_, fun m hd hm => ?_, hnd, by show (outN s.order (n : Int) ++ [n]).length ≤ s.room; omega⟩
    · show (s.blocks m).isSome = true ↔ s.dirty m = true ∨ m ∈ outN s.order (n : Int) ++ [n]
      rw [hmem m]
      by_cases en : m = n
      · subst en; simp [h.here]
      · rw [h.cov m en]; simp [en]
    · have hd : s.dirty m = true := hd
      rcases (hmem m).1 hm with a | a
      · exact h.apart m hd a
      · have := h.clean; rw [← a] at this; rw [show s.dirty m = true from hd] at this; cases this
theorem asked_same (h : AskOk N s n) : (askedC s n).dirty = s.dirty ∧ (askedC s n).room = s.room := by
  rw [(asked_eq h).1]
  split
  · unfold dropC
    split <;> exact ⟨rfl, rfl⟩
  · exact ⟨rfl, rfl⟩
theorem forget_ok (h : CaOk N s) (z : Int) : CaOk N (forgetC s z) := by
  refine ⟨h.room, fun m y hy => ?_, fun m => ?_, fun m hd hm => ?_, h.nodup.filter _, Nat.le_trans (List.length_filter_le _ _) h.len⟩
  · have hy : (if (m : Int) = z then none else s.blocks m) = some y := hy
    split at hy
    · cases hy
    · exact h.blk m y hy
  · show (if (m : Int) = z then none else s.blocks m).isSome = true ↔ (if (m : Int) = z then false else s.dirty m) = true ∨ m ∈ outN s.order z
    rw [mem_outN]
    by_cases e : (m : Int) = z
    · rw [if_pos e, if_pos e]; simp [e]
    · rw [if_neg e, if_neg e, h.cov m]; simp [e]
  · have hd : (if (m : Int) = z then false else s.dirty m) = true := hd
    split at hd
    · cases hd
    · exact h.apart m hd (mem_outN.1 hm).1
/-- a block is put: it is dirty -/
def putC (s : Ca) (n : Nat) (x : Bk) : Ca := putD (putB (forgetC s (n : Int)) n x) n
theorem put_c_ok (h : CaOk N s) {x : Bk} (h1 : 50 ≤ n) (h2 : n < N) (hx : 1 ≤ x.k ∧ x.k ≤ 4 ∧ x.b.length ≤ 240) : CaOk N (putC s n x) := by
  have hf := forget_ok h (n : Int)
  refine ⟨h.room, fun m y hy => ?_, fun m => ?_, fun m hd hm => ?_, hf.nodup, hf.len⟩
  · have hy : (if m = n then some x else (forgetC s (n : Int)).blocks m) = some y := hy
    split at hy
    · rename_i e
      have e2 : x = y := by injection hy
      rw [e, ← e2]; exact ⟨h1, h2, hx⟩
    · exact hf.blk m y hy
  · show (if m = n then some x else (forgetC s (n : Int)).blocks m).isSome = true ↔ (if m = n then true else (forgetC s (n : Int)).dirty m) = true ∨ m ∈ (forgetC s (n : Int)).order
    by_cases e : m = n
    · rw [if_pos e, if_pos e]; simp
    · rw [if_neg e, if_neg e]; exact hf.cov m
  · have hd : (if m = n then true else (forgetC s (n : Int)).dirty m) = true := hd
    by_cases e : m = n
    · subst e; exact (mem_outN.1 (show m ∈ outN s.order (m : Int) from hm)).2 rfl
    · rw [if_neg e] at hd; exact hf.apart m hd hm
def nilB : Bk := ⟨0, []⟩
/-- what a sector has of a block -/
def readB (t : Dsk) (n : Nat) : Nat × Nat × List UInt8 := gBlk (n : Int) (hasD t n)
/-- what Get tells, and leaves -/
def getC (t : Dsk) (s : Ca) (z : Int) : Nat × Bk × Ca :=
  if 50 ≤ z ∧ z < (t.n : Int) then
    match s.blocks z.toNat with
    | some x => (0, x, if s.dirty z.toNat then s else askedC s z.toNat)
    | none => if (readB t z.toNat).1 = 0 then (0, ⟨(readB t z.toNat).2.1, (readB t z.toNat).2.2⟩, if s.dirty z.toNat then putB s z.toNat ⟨(readB t z.toNat).2.1, (readB t z.toNat).2.2⟩ else askedC (putB s z.toNat ⟨(readB t z.toNat).2.1, (readB t z.toNat).2.2⟩) z.toNat) else ((readB t z.toNat).1, nilB, s)
  else (2, nilB, s)
theorem readB_ok {t : Dsk} {n : Nat} (h : (readB t n).1 = 0) : 1 ≤ (readB t n).2.1 ∧ (readB t n).2.1 ≤ 4 ∧ (readB t n).2.2.length ≤ 240 := by
  unfold readB gBlk at *
  split at h
  · cases h
  · rename_i h0
    split at h
    · rename_i h1
      split at h
      · cases h
      · rename_i h2
        split at h
        · rename_i h3
          rw [if_neg h0, if_pos h1, if_neg h2, if_pos h3]
          have h4 := h3.1
          unfold blkMay at h4
          refine ⟨by show 1 ≤ blkKind _; omega, by show blkKind _ ≤ 4; omega, ?_⟩
          show (blkBody _).length ≤ 240
          rw [length_blkBody _ (by omega) (by omega)]
          exact Nat.le_of_not_lt h2
        · cases h
    · cases h
theorem ask_new (h : CaOk N s) (hb : s.blocks n = none) (h1 : 50 ≤ n) (h2 : n < N) {x : Bk} (hx : 1 ≤ x.k ∧ x.k ≤ 4 ∧ x.b.length ≤ 240) : AskOk N (putB s n x) n ∧ s.dirty n = false := by
  have hc : ¬ (s.dirty n = true ∨ n ∈ s.order) := fun y => by have := (h.cov n).2 y; rw [hb] at this; cases this
  have hd : s.dirty n = false := by
    cases e : s.dirty n with
    | false => rfl
    | true => exact absurd (.inl e) hc
  refine ⟨⟨h.room, fun m y hy => ?_, fun m hm => ?_, h.apart, h.nodup, h.len, ?_, hd⟩, hd⟩
  · have hy : (if m = n then some x else s.blocks m) = some y := hy
    split at hy
    · rename_i e
      have e2 : x = y := by injection hy
      rw [e, ← e2]; exact ⟨h1, h2, hx⟩
    · exact h.blk m y hy
  · show (if m = n then some x else s.blocks m).isSome = true ↔ _
    rw [if_neg hm]; exact h.cov m
  · show (if n = n then some x else s.blocks n).isSome = true
    rw [if_pos rfl]; rfl
theorem get_c_ok {t : Dsk} (h : CaOk t.n s) (z : Int) : CaOk t.n (getC t s z).2.2 := by
  unfold getC
  by_cases hz : 50 ≤ z ∧ z < (t.n : Int)
  · rw [if_pos hz]
    cases hb : s.blocks z.toNat with
    | some x =>
      show CaOk t.n (if s.dirty z.toNat then s else askedC s z.toNat)
      cases hd : s.dirty z.toNat with
      | true => exact h
      | false => exact asked_ok (h.ask (by rw [hb]; rfl) hd)
    | none =>
      by_cases hr : (readB t z.toNat).1 = 0
      · simp only [hr, if_true]
        obtain ⟨h1, h2⟩ := ask_new h hb (by omega) (by omega) (x := ⟨(readB t z.toNat).2.1, (readB t z.toNat).2.2⟩) (readB_ok hr)
        rw [h2]
        exact asked_ok h1
      · simp only [hr, if_false]
        exact h
  · rw [if_neg hz]; exact h
theorem new_ok {room : Nat} (h : 1 ≤ room ∧ room ≤ 1024) : CaOk N (newC room) :=
  ⟨h, fun n x hx => (by cases hx), fun n => ⟨fun h => (by cases h), fun h => by rcases h with h | h <;> cases h⟩, fun n hd => (by cases hd), List.nodup_nil, Nat.zero_le _⟩
end
end Go.Proofs.Ytdakohbfibcjeaa
namespace Go.Proofs.Ytdakohbfibcjeaa
open Go.RowKit Go.Maps Go.Sort Go.Shelf Go.Proofs
set_option linter.unusedSimpArgs false
set_option linter.unusedVariables false

/-- the dirty ones, ascending -/
def dirtyN (N : Nat) (s : Ca) : List Nat := (List.range N).filter s.dirty
theorem mem_dirtyN {N k : Nat} {s : Ca} : k ∈ dirtyN N s ↔ k < N ∧ s.dirty k = true := by unfold dirtyN; rw [List.mem_filter, List.mem_range]
theorem dirtyN_asc (N : Nat) (s : Ca) : (dirtyN N s).Pairwise (· < ·) := (List.pairwise_lt_range).filter _
theorem dirtyN_ints (N : Nat) (s : Ca) : ((dirtyN N s).map fun k : Nat => (k : Int)).mergeSort leI = (dirtyN N s).map fun k : Nat => (k : Int) := by
  refine List.mergeSort_of_pairwise ?_
  rw [List.pairwise_map]
  refine (dirtyN_asc N s).imp fun {a b} h => ?_
  simp only [leI, decide_eq_true_eq]
  omega
theorem keysOf {w : World} {M N : Nat} {s : Ca} (h : Mp w M N (drM s)) (hN : N ≤ 4096) : ∃ D : DataW Value, w.ownsMap Try.prog 3 RV M N D ∧ ((dirtyN N s).map fun k : Nat => (k : Int)).Perm (intKeys D) ∧ size D ≤ N := by
  obtain ⟨D, h1, h2, h3, h4⟩ := h
  obtain ⟨es0, he, hp, hkey⟩ := h1.entries law3
  have hk : ∀ p ∈ es0, ∃ j, j < N ∧ p.1 = kl j := fun p hm => h4 p.1 (by rw [he]; exact List.any_eq_true.2 ⟨p, hm, WideAt.sameKey_self (hkey p hm)⟩)
  have hd : ∀ k, k < N → has D (kl k) = s.dirty k := fun k hk => by
    rw [h3 k hk]; unfold drM; cases s.dirty k <;> rfl
  refine ⟨D, h1, ?_, by rw [he, size_eq]; exact keys_le N es0 (by omega) hp hk⟩
  have hp2 := perm_intKeys (es := es0) hp (fun p hm => by obtain ⟨j, _, e⟩ := hk p hm; exact ⟨(j : Int), e⟩) (ss := (dirtyN N s).map fun k : Nat => (k : Int)) ?_ ?_
  · rw [he]; exact hp2
  · refine List.pairwise_map.2 ((dirtyN_asc N s).imp fun {a b} h => ?_)
    omega
  · intro x
    rw [List.mem_map, ← he]
    constructor
    · rintro ⟨k, hk, rfl⟩
      obtain ⟨h1, h2⟩ := mem_dirtyN.1 hk
      show has D (kl k) = true
      rw [hd k h1]; exact h2
    · intro hx
      obtain ⟨j, hj, e⟩ := h4 _ hx
      have e2 := e
      injection e2 with _ e2
      refine ⟨j, mem_dirtyN.2 ⟨hj, ?_⟩, e2.symm⟩
      rw [← hd j hj, ← e]; exact hx

theorem CCh.poke {w w' w2 : World} {base : Nat} {d d' : Dw} {k k' : Cw} {t' : Dsk} {s' : Ca} (h : CCh w w' base d d' k k' t' s') {g : Nat} (K : Kept (fun b => b = g) w' w2) (hg : ¬ footC d' k' g) (hn : w.heap.size ≤ g) : CCh w w2 base d d' k k' t' s' :=
  ⟨h.cd.kept K (fun b hb e => hg (by rw [← e]; exact hb)), h.gd, h.gk, h.K.trans K (fun b hb x => by omega), h.hard, h.foot⟩
theorem kept_set (w : World) (g i : Nat) (v : Value) : Kept (fun b => b = g) w (w.setCell ⟨g, i, none⟩ v) := ⟨rfl, rfl, rfl, by simp, fun b _ hne => Below.heap_setCell w _ _ b (fun e => hne e)⟩
/-- the block told: its bytes lie in memory of their own -/
def CGet (w : World) (base : Nat) (d : Dw) (k : Cw) (t : Dsk) (r : Nat × Bk × Ca) (e : Ending) (w' : World) : Prop :=
  ∃ k' A c, e = .returned (.tuple #[.agg #[.int .i64 (r.2.1.k : Int), .slice A r.2.1.b.length c], .int .i64 (r.1 : Int)]) ∧ CCh w w' base d d k k' t r.2.2 ∧ Own w' w.heap.size 5 1 A r.2.1.b.length c (bvs r.2.1.b) ∧ ∀ b, ablk A = some b → ¬ footC d k' b
set_option maxRecDepth 100000 in
set_option maxHeartbeats 8000000 in
theorem get_any_c {w : World} {base : Nat} {d : Dw} {k : Cw} {t : Dsk} {s : Ca} (h : CD w base d k t s) (ok : CaOk t.n s) {z : Int} :
    Calls Try.prog 41 #[.pointer (some ⟨k.g, 0, none⟩), .int .i64 z] w (CGet w base d k t (getC t s z)) := by
  have hz := zeroBk
  have hz2 := zeroUn
  have H := Lib.hid h
  have HOk := Lib.hid ok
  have hn4 : t.n ≤ 4096 := h.dk.small.2
  obtain ⟨kg, hkg⟩ : ∃ x, x = k.g := ⟨_, rfl⟩
  have HKg := Lib.hid hkg
  rw [← hkg]
  clear h ok hkg
  go_enter Try.func41, Try.ntmps41
  go_upto_region 1 with fail
  obtain ⟨g4, hg4⟩ : ∃ g, g = w.heap.size := ⟨_, rfl⟩
  have hal : Below w.heap.size w (w.alloc (.cells #[.int .i64 0, .slice none 0 0] 89)) := (Below.refl _ _).alloc (Nat.le_refl _) _
  have hnf : ¬ footC d k g4 := fun x => by have := (H.out.foot_base g4 x).2; omega
  rw [← hg4]
  refine wp_world (fun V => CCh w V base d d k k t s ∧ Blk V g4 89 [.int .i64 0, .slice none 0 0] ∧ g4 < V.heap.size) ⟨(CCh.init H.out).below hal (Nat.le_refl _), Blk.new_at (cs := [.int .i64 0, .slice none 0 0]) hg4, by rw [hg4]; simp⟩ ?_
  clear hal
  rintro V ⟨hC, hB4, hl4⟩
  have HNf := Lib.hid hnf
  have HG4 := Lib.hid hg4
  have HC := Lib.hid hC
  have HB4 := Lib.hid hB4
  have HL4 := Lib.hid hl4
  clear hC hB4 hl4 hnf hg4
  by_cases hin : 50 ≤ z ∧ z < (t.n : Int)
  rotate_left
  · have T0 := there_b HC.out.cd (n := z) (decide_eq_false hin)
    rw [← HKg.out] at T0
    have T := Lib.hid T0
    have hgc : getC t s z = (2, nilB, s) := if_neg hin
    have HGc := Lib.hid hgc
    have b4c := HB4.out.cells
    have b4f := HB4.out.frees
    clear T0 hgc hin
    go_wp2_with ((with_reducible refine Calls.mono T.out ?_); rintro e w1 ⟨rfl, rfl⟩)
    refine bodyPost_ret (results_blk rfl rfl rfl ((HB4.out.set_ 0 _).set_ 1 _)) rfl ?_
    rw [HGc.out]
    have hs4 : w.heap.size ≤ g4 := by rw [HG4.out]; omega
    refine ⟨k, none, 0, rfl, ?_, Own.nil_ _ _ _ _, fun b e => (by cases e)⟩
    have hK : ∀ (i : Nat) (v : Value) (W : World), CCh w W base d d k k t s → CCh w (W.setCell ⟨g4, i, none⟩ v) base d d k k t s := fun i v W hc => hc.poke (kept_set W g4 i v) HNf.out hs4
    exact hK _ _ _ (hK _ _ _ HC.out)
  · obtain ⟨n, rfl⟩ : ∃ n : Nat, z = (n : Int) := ⟨z.toNat, by omega⟩
    have hnl : n < t.n := by omega
    have T0 := there_b HC.out.cd (n := (n : Int)) (decide_eq_true hin)
    rw [← HKg.out] at T0
    have T := Lib.hid T0
    have HIn := Lib.hid hin
    clear T0 hin
    have c2 : V.cell? ⟨kg, 2, none⟩ = some (.map (some k.B)) := by rw [HKg.out]; exact HC.out.cd.ck.blk.cell 2
    have hlk0 := HC.out.cd.ck.bm.look_ok hn4 hnl Try.underlying79 zeroBk (w' := V) rfl
    cases hbn : s.blocks n with
    | some x =>
      have hlk : (Instr.lookup 79 (.map (some k.B)) (.int .i64 (n : Int)) true).run Try.prog V = .ok (.tuple #[.agg #[.int .i64 (x.k : Int), .slice (k.v n).A x.b.length (k.v n).c], .bool true]) V := by
        rw [hlk0]; unfold bkM; rw [hbn]; rfl
      have hbd := HC.out.cd.ck.bod n x hbn
      have hx4 := HOk.out.blk n x hbn
      have hgc : getC t s (n : Int) = (0, x, if s.dirty n then s else askedC s n) := by
        unfold getC
        rw [if_pos HIn.out]
        show (match s.blocks n with | some x => _ | none => _) = _
        rw [hbn]
        rfl
      have hask : s.dirty n = false → AskOk t.n s n := fun hd => HOk.out.ask (by rw [hbn]; rfl) hd
      obtain ⟨A, hA⟩ : ∃ A, A = (k.v n).A := ⟨_, rfl⟩
      obtain ⟨c, hc⟩ : ∃ c, c = (k.v n).c := ⟨_, rfl⟩
      rw [← hA, ← hc] at hlk hbd
      have hoff : 0 < x.b.length → ∀ b, ablk A = some b → ¬ hardC d k b := fun hm b e y => by
        have hby : k.body b := ⟨n, by rw [hbd.2]; exact hm, by rw [← hA]; exact e⟩
        rcases y with y | y
        · exact (HC.out.cd.ap b y).2 hby
        · exact HC.out.cd.ck.bodb b hby y
      have HRes := Lib.hid hgc
      have HAsk := Lib.hid hask
      have HOff := Lib.hid hoff
      have HBd := Lib.hid hbd.1
      have HX4 := Lib.hid hx4
      clear hlk0 hbn hbd hx4 hgc hask hA hc hoff
      go_upto_region 11 with ((with_reducible refine Calls.mono T.out ?_); rintro e w1 ⟨rfl, rfl⟩)
      obtain ⟨g6, hg6⟩ : ∃ g, g = V.heap.size := ⟨_, rfl⟩
      have hal : Below V.heap.size V (V.alloc (.cells #[.int .i64 (x.k : Int), .slice A x.b.length c] 89)) := (Below.refl _ _).alloc (Nat.le_refl _) _
      have hn6 : ¬ footC d k g6 := fun y => by have := (HC.out.cd.foot_base g6 y).2; omega
      have hg46 : g4 ≠ g6 := by have := HL4.out; omega
      have hg4g : w.heap.size ≤ g4 ∧ w.heap.size ≤ g6 := by have := HG4.out; have := HL4.out; omega
      rw [← hg6]
      refine wp_world (fun U => CCh w U base d d k k t s ∧ Blk U g4 89 [.int .i64 0, .slice none 0 0] ∧ Blk U g6 89 [.int .i64 (x.k : Int), .slice A x.b.length c] ∧ Bs U base A x.b.length c x.b) ⟨HC.out.below hal (Nat.le_refl _), HB4.out.below hal HB4.out.lt, Blk.new_at (cs := [.int .i64 (x.k : Int), .slice A x.b.length c]) hg6, HBd.out.below hal (Nat.le_refl _)⟩ ?_
      clear hal hlk c2
      rintro U ⟨hC1, hB4, hB6, hBs⟩
      obtain ⟨k1, hk1⟩ : ∃ k1, k1 = k := ⟨_, rfl⟩
      obtain ⟨s1, hs1⟩ : ∃ s1, s1 = s := ⟨_, rfl⟩
      have hK1 : kg = k1.g := by rw [hk1]; exact HKg.out
      have hF4 := HNf.out
      have hgc2 : getC t s (n : Int) = (0, x, if s1.dirty n then s1 else askedC s1 n) := by rw [hs1]; exact HRes.out
      rw [← hs1] at HAsk hC1
      replace HRes := Lib.hid hgc2
      clear hgc2
      have HC1 : Hid (CCh w U base d d k k1 t s1) := Lib.hid (by rw [hk1]; exact hC1)
      have HN4 : Hid (¬ footC d k1 g4) := Lib.hid (by rw [hk1]; exact hF4)
      have HN6 : Hid (¬ footC d k1 g6) := Lib.hid (by rw [hk1]; exact hn6)
      have HOf : Hid (0 < x.b.length → ∀ b, ablk A = some b → ¬ hardC d k1 b) := Lib.hid (by rw [hk1]; exact HOff.out)
      have HK1 := Lib.hid hK1
      have H46 := Lib.hid hg46
      have HGg := Lib.hid hg4g
      replace HB4 := Lib.hid hB4
      have HB6 := Lib.hid hB6
      have HBs := Lib.hid hBs
      clear hk1 hs1 hK1 hF4 hn6 hg46 hg4g hC1 hB4 hB6 hBs hg6 HOff HBd HC HKg HNf T HOk H HIn
      have c3 : U.cell? ⟨kg, 3, none⟩ = some (.map (some k1.D)) := by rw [HK1.out]; exact HC1.out.cd.ck.blk.cell 3
      have hlk : (Instr.lookup 70 (.map (some k1.D)) (.int .i64 (n : Int)) true).run Try.prog U = .ok (.tuple #[.agg #[], .bool (s1.dirty n)]) U := by
        have := HC1.out.cd.ck.dm.look_ok hn4 hnl Try.underlying70 zeroUn rfl
        rw [this]
        have e1 : (drM s1 n).getD (.agg #[]) = .agg #[] := by unfold drM; split <;> rfl
        have e2 : (drM s1 n).isSome = s1.dirty n := by unfold drM; cases s1.dirty n <;> rfl
        rw [e1, e2]
      obtain ⟨dd, hdd⟩ : ∃ b, b = s1.dirty n := ⟨_, rfl⟩
      rw [← hdd] at hlk
      have HDd := Lib.hid hdd
      clear hdd
      have HLk := Lib.hid hlk
      have hal : Below U.heap.size U (U.alloc (.cells #[] 94)) := (Below.refl _ _).alloc (Nat.le_refl _) _
      have HAl := Lib.hid hal
      clear hal
      cases dd
      · have HAk := Lib.hid (HAsk.out HDd.out.symm)
        go_upto_region 13 with fail
        refine wp_world (fun W => CCh w W base d d k k1 t s1 ∧ Blk W g4 89 [.int .i64 0, .slice none 0 0] ∧ Blk W g6 89 [.int .i64 (x.k : Int), .slice A x.b.length c] ∧ Bs W base A x.b.length c x.b) ⟨HC1.out.below HAl.out (Nat.le_refl _), HB4.out.below HAl.out HB4.out.lt, HB6.out.below HAl.out HB6.out.lt, HBs.out.below HAl.out (Nat.le_refl _)⟩ ?_
        clear c3 hlk HB4 HB6 HBs HC1 HAl HLk
        rintro W ⟨hC2, hB4, hB6, hBs⟩
        have A0 := asked_any hC2.cd (z := n) hnl (by have := HAk.out.len; have := HAk.out.room; omega) (fun y hy => HAk.out.inN hy) HAk.out.room
        rw [← HK1.out] at A0
        have AA := Lib.hid A0
        have HC2 := Lib.hid hC2
        have HB4 := Lib.hid hB4
        have HB6 := Lib.hid hB6
        have HBs := Lib.hid hBs
        clear A0 hC2 hB4 hB6 hBs
        go_upto_region 14 with ((with_reducible refine Calls.mono AA.out ?_); rintro e w3 ⟨rfl, k3, hC3⟩)
        have hs3 := HC2.out.K.size
        have b4 := hC3.K.blk HB4.out (fun y => HN4.out (hard_foot y))
        have b6 := hC3.K.blk HB6.out (fun y => HN6.out (hard_foot y))
        have bs3 := HBs.out.kept hC3.K (fun hm b e => HOf.out hm b e)
        have n4 : ¬ footC d k3 g4 := hC3.away HN4.out HB4.out.lt
        have hCw := HC2.out.trans hC3
        have hfin : getC t s (n : Int) = (0, x, askedC s1 n) := by rw [HRes.out, if_neg (by rw [← HDd.out]; decide)]
        have HFin := Lib.hid hfin
        clear hfin hC3 AA HC2 HB4 HB6 HBs hs3
        have O := Lib.hid (own_any (kd := (x.k : Int)) bs3 (by have := HX4.out; omega))
        have b6c := b6.cells
        have HBB := Lib.hid b4
        have HCw := Lib.hid hCw
        have HN := Lib.hid n4
        clear b4 b6 bs3 hCw n4
        go_wp2_with ((with_reducible refine Calls.mono O.out ?_); rintro e w5 ⟨A5, c5, rfl, ho5, hb5⟩; have b4 := HBB.out.below hb5 HBB.out.lt; have b4c := b4.cells; have b4f := b4.frees)
        refine bodyPost_ret (results_blk rfl rfl rfl ((b4.set_ 0 _).set_ 1 _)) rfl ?_
        rw [HFin.out]
        have hl4 := HBB.out.lt
        have hg4 := HGg.out.1
        have hsz := HCw.out.K.size
        refine ⟨k3, A5, c5, rfl, ?_, ((ho5.far (show g4 < w3.heap.size from hl4) _).far (show g4 < w3.heap.size from hl4) _).weak hsz, fun b e y => ?_⟩
        · exact ((HCw.out.below hb5 (Nat.le_refl _)).poke (kept_set _ g4 0 _) HN.out hg4).poke (kept_set _ g4 1 _) HN.out hg4
        · have h1 := (ho5.blk e).1
          have h2 := (HCw.out.cd.foot_base b y).2
          omega
      · go_upto_region 14 with fail
        have hCw := HC1.out.below HAl.out (Nat.le_refl _)
        have b4 := HB4.out.below HAl.out HB4.out.lt
        have b6 := HB6.out.below HAl.out HB6.out.lt
        have bs3 := HBs.out.below HAl.out (Nat.le_refl _)
        have n4 := HN4.out
        obtain ⟨k3, hk3⟩ : ∃ z, z = k1 := ⟨_, rfl⟩
        rw [← hk3] at hCw n4
        have hfin : getC t s (n : Int) = (0, x, s1) := by rw [HRes.out, if_pos HDd.out.symm]
        have HFin := Lib.hid hfin
        refine wp_world (fun W => CCh w W base d d k k3 t s1 ∧ Blk W g4 89 [.int .i64 0, .slice none 0 0] ∧ Blk W g6 89 [.int .i64 (x.k : Int), .slice A x.b.length c] ∧ Bs W base A x.b.length c x.b) ⟨hCw, b4, b6, bs3⟩ ?_
        clear hfin c3 hlk HB4 HB6 HBs HC1 HAl HLk hCw b4 b6 bs3 hk3
        rintro w3 ⟨hCw, b4, b6, bs3⟩
        have O := Lib.hid (own_any (kd := (x.k : Int)) bs3 (by have := HX4.out; omega))
        have b6c := b6.cells
        have HBB := Lib.hid b4
        have HCw := Lib.hid hCw
        have HN := Lib.hid n4
        clear b4 b6 bs3 hCw n4
        go_wp2_with ((with_reducible refine Calls.mono O.out ?_); rintro e w5 ⟨A5, c5, rfl, ho5, hb5⟩; have b4 := HBB.out.below hb5 HBB.out.lt; have b4c := b4.cells; have b4f := b4.frees)
        refine bodyPost_ret (results_blk rfl rfl rfl ((b4.set_ 0 _).set_ 1 _)) rfl ?_
        rw [HFin.out]
        have hl4 := HBB.out.lt
        have hg4 := HGg.out.1
        have hsz := HCw.out.K.size
        refine ⟨k3, A5, c5, rfl, ?_, ((ho5.far (show g4 < w3.heap.size from hl4) _).far (show g4 < w3.heap.size from hl4) _).weak hsz, fun b e y => ?_⟩
        · exact ((HCw.out.below hb5 (Nat.le_refl _)).poke (kept_set _ g4 0 _) HN.out hg4).poke (kept_set _ g4 1 _) HN.out hg4
        · have h1 := (ho5.blk e).1
          have h2 := (HCw.out.cd.foot_base b y).2
          omega
    | none =>
      have hlk : (Instr.lookup 79 (.map (some k.B)) (.int .i64 (n : Int)) true).run Try.prog V = .ok (.tuple #[.agg #[.int .i64 0, .slice none 0 0], .bool false]) V := by
        rw [hlk0]; unfold bkM; rw [hbn]; rfl
      have HBn := Lib.hid hbn
      clear hlk0 hbn
      go_upto_region 5 with ((with_reducible refine Calls.mono T.out ?_); rintro e w1 ⟨rfl, rfl⟩)
      obtain ⟨g6, hg6⟩ : ∃ g, g = V.heap.size := ⟨_, rfl⟩
      have hal : Below V.heap.size V (V.alloc (.cells #[.int .i64 0, .slice none 0 0] 89)) := (Below.refl _ _).alloc (Nat.le_refl _) _
      have hn6 : ¬ footC d k g6 := fun y => by have := (HC.out.cd.foot_base g6 y).2; omega
      have hg46 : g4 ≠ g6 := by have := HL4.out; omega
      have hg4g : w.heap.size ≤ g4 ∧ w.heap.size ≤ g6 := by have := HG4.out; have := HL4.out; omega
      rw [← hg6]
      refine wp_world (fun U => Below V.heap.size V U ∧ Blk U g6 89 [.int .i64 0, .slice none 0 0]) ⟨hal, Blk.new_at (cs := [.int .i64 0, .slice none 0 0]) hg6⟩ ?_
      clear hal hlk c2
      rintro U0 ⟨hbV, hB6⟩
      have hcd := HC.out.cd.below hbV (Nat.le_refl _)
      have c0 : U0.cell? ⟨kg, 0, none⟩ = some (.pointer (some ⟨d.g, 0, none⟩)) := by rw [HKg.out]; exact hcd.ck.blk.cell 0
      have R := Lib.hid (dread_ok hcd.dk (k := n) hnl)
      have hll := hasD_len hcd.dk (k := n) hnl
      have HLL := Lib.hid hll
      have HbV := Lib.hid hbV
      have HB6 := Lib.hid hB6
      have HN6k := Lib.hid hn6
      have H46 := Lib.hid hg46
      have HGg := Lib.hid hg4g
      have HG6 := Lib.hid hg6
      clear hcd hll hbV hB6 hn6 hg46 hg4g hg6
      go_upto_region 7 with ((with_reducible refine Calls.mono R.out ?_); rintro e w6 ⟨gr, rfl, hx6, hg6, hb6⟩)
      have G0 := get_u (n : Int) (hx6.bs0 0 256 256 (Nat.zero_le _) (Nat.le_refl _) (by omega) HLL.out)
      obtain ⟨cd, hcd⟩ : ∃ z, z = (gBlk (n : Int) (hasD t n)).1 := ⟨_, rfl⟩
      obtain ⟨kd, hkd⟩ : ∃ z, z = (gBlk (n : Int) (hasD t n)).2.1 := ⟨_, rfl⟩
      obtain ⟨bd, hbd⟩ : ∃ z, z = (gBlk (n : Int) (hasD t n)).2.2 := ⟨_, rfl⟩
      have G1 : Calls Try.prog 62 #[.int .i64 (n : Int), .slice (some ⟨gr, 0, none⟩) 256 256] w6 fun e w' => ∃ A' c', e = .returned (.tuple #[.agg #[.int .i64 (kd : Int), .slice A' bd.length c'], .int .i64 (cd : Int)]) ∧ Bs w' w6.heap.size A' bd.length c' bd ∧ Below w6.heap.size w6 w' := by
        rw [hcd, hkd, hbd]; exact G0
      have G := Lib.hid G1
      have HCd := Lib.hid hcd
      have HKd := Lib.hid hkd
      have HBd := Lib.hid hbd
      have HB66 := Lib.hid (HB6.out.below hb6 HB6.out.lt)
      have HbV6 := Lib.hid (HbV.out.trans (hb6.mono HbV.out.size))
      clear G0 G1 hcd hkd hbd hx6 hg6 hb6 R c0 HB6 HbV
      go_upto_region 8 with (first
        | ((with_reducible refine Calls.mono G.out ?_); rintro e w8 ⟨A, c, rfl, hbs8, hb8⟩)
        | (((with_reducible refine row_put (o := ⟨none, _, _, _, _, _⟩) ?_ ?_ 89 (.tmp 6) (.tmp 42) ?_ g6 ?_ [.int .i64 (kd : Int), .slice A bd.length c] ?_ 89 [.int .i64 0, .slice none 0 0] ?_ ?_ ?_ ?_ ?_); rfl; rfl; rfl; rfl; rfl; exact HB66.out.below hb8 HB66.out.lt; (rw [sizeBk]; rfl); rfl; (intro u hu; simp at hu; rcases hu with rfl | rfl <;> rfl); (intro w9 X9 g9))))
      have hl6 := HB66.out.lt
      have hbV9 : Below V.heap.size V w9 := (HbV6.out.trans (hb8.mono HbV6.out.size)).grown g9 (Nat.le_trans HbV6.out.size hb8.size) (by intro y hy; injection hy with hy; have := HG6.out; omega)
      have hbs9 : Bs w9 w6.heap.size A bd.length c bd := hbs8.kept (F := fun b => b = g6) (Kept.of_grown g9 (fun b e => (Option.some.inj e).symm)) (fun hm b e y => by
        obtain ⟨b', o', e2, h3, _⟩ := hbs8.at_ hm
        rw [e2] at e; injection e with e; have e : b' = b := e; omega)
      have hB4 : Blk w9 g4 89 [.int .i64 0, .slice none 0 0] := HB4.out.below hbV9 HB4.out.lt
      have HbV9 := Lib.hid hbV9
      have HBs9 := Lib.hid hbs9
      have HB49 := Lib.hid hB4
      have HL6 := Lib.hid hl6
      have HX9 := X9
      clear hbs8 hb8 g9 hbV9 hbs9 hB4 hl6 X9 G HB66
      by_cases hcode : cd = 0
      rotate_left
      · have hcI : ((cd : Int) != 0) = true := by rw [bne_iff_ne]; omega
        have hgc : getC t s (n : Int) = (cd, nilB, s) := by
          unfold getC
          rw [if_pos HIn.out]
          show (match s.blocks n with | some x => _ | none => _) = _
          rw [HBn.out]
          show (if (gBlk (n : Int) (hasD t n)).1 = 0 then _ else _) = _
          rw [← HCd.out, if_neg hcode]
          show ((gBlk (n : Int) (hasD t n)).1, nilB, s) = _
          rw [← HCd.out]
        have HGc := Lib.hid hgc
        have b4c := HB49.out.cells
        have b4f := HB49.out.frees
        clear hgc
        go_wp2
        refine bodyPost_ret (results_blk rfl rfl rfl ((HB49.out.set_ 0 _).set_ 1 _)) rfl ?_
        rw [HGc.out]
        have hs4 := HGg.out.1
        refine ⟨k, none, 0, rfl, ?_, Own.nil_ _ _ _ _, fun b e => (by cases e)⟩
        have hC9 := HC.out.below HbV9.out (Nat.le_refl _)
        exact (hC9.poke (kept_set _ g4 0 _) HNf.out hs4).poke (kept_set _ g4 1 _) HNf.out hs4
      · obtain rfl : cd = 0 := hcode
        have hcI : (((0 : Nat) : Int) != 0) = false := rfl
        obtain ⟨x, hx⟩ : ∃ x : Bk, x = ⟨kd, bd⟩ := ⟨_, rfl⟩
        have hrd : (readB t n).1 = 0 := HCd.out.symm
        have hro := readB_ok hrd
        have hx4 : 1 ≤ x.k ∧ x.k ≤ 4 ∧ x.b.length ≤ 240 := by rw [hx, HKd.out, HBd.out]; exact hro
        have hgc : getC t s (n : Int) = (0, x, if (putB s n x).dirty n then putB s n x else askedC (putB s n x) n) := by
          unfold getC
          rw [if_pos HIn.out]
          show (match s.blocks n with | some x => _ | none => _) = _
          rw [HBn.out, hx, HKd.out, HBd.out]
          show (if (readB t n).1 = 0 then _ else _) = _
          rw [if_pos hrd]
          rfl
        have hIn := HIn.out
        have hask := (ask_new HOk.out HBn.out (by omega) hnl hx4).1
        have HX4' := Lib.hid hx4
        have c2 : w9.cell? ⟨kg, 2, none⟩ = some (.map (some k.B)) := by rw [HKg.out]; exact (HC.out.cd.below HbV9.out (Nat.le_refl _)).ck.blk.cell 2
        have b6c := HX9.out.cells
        have hcd9 := HC.out.cd.below HbV9.out (Nat.le_refl _)
        have HCd9 := Lib.hid hcd9
        have HRes0 := Lib.hid hgc
        have HAsk0 := Lib.hid hask
        have HX := Lib.hid hx
        clear hrd hro hx4 hgc hIn hask hcd9 hx
        go_upto_region 10 with fail
        go_still_tail 6, (by kernel_rfl)
        change wpList _ _ _ _ _ w9.drew
        clear c2 b6c hcI
        refine wpList_mput rfl (.tmp 51) (.tmp 52) (.tmp 53) 79 rfl Try.underlying79 rfl rfl rfl (HCd9.out.drewN 1).ck.bm hn4 hnl ?_
        intro w10 hm10 hg10
        have hbV9d : Below V.heap.size V w9.drew := HbV9.out.drew
        have hbsd : Bs w9.drew base A x.b.length c x.b := by rw [HX.out]; exact (HBs9.out.drewN 1).weak (Nat.le_trans (by have := (HC.out.cd.foot_base k.g (.inr (.inl (.inl rfl)))); exact Nat.le_of_lt (Nat.lt_of_le_of_lt this.1 this.2)) HbV6.out.size)
        have hAnew : 0 < x.b.length → ∀ b, ablk A = some b → w6.heap.size ≤ b ∧ b < w9.heap.size := fun hm b e => by
          rw [HX.out] at hm
          obtain ⟨b', o', e2, h3, h4⟩ := HBs9.out.at_ hm
          rw [e2] at e; injection e with e; have e : b' = b := e
          rw [← e]; exact ⟨h3, h4⟩
        obtain ⟨k1, h10, hh10, hf10⟩ := HC.out.cd.putB_ hbV9d hbsd (fun hm b e => Nat.le_trans HbV6.out.size (hAnew hm b e).1) (by rw [HX.out]; exact hm10) hg10
        have hC1 := HC.out.trans h10
        have hlV := fun b e => (HC.out.cd.foot_base b e).2
        have hsV6 := HbV6.out.size
        have hK10 : Kept (fun b => b = k.B) w9.drew w10 := Kept.of_grown hg10 (fun b e => (Option.some.inj e).symm)
        have hkB := hlV k.B (.inr (.inl (.inr (.inl rfl))))
        have hN4 : ¬ footC d k1 g4 := h10.away HNf.out HL4.out
        have hN6 : ¬ footC d k1 g6 := fun y => by
          rcases hf10 g6 y with q | ⟨q1, q2⟩
          · exact HN6k.out q
          · have := (hAnew q1 g6 q2).1; have := HL6.out; omega
        have hOf : 0 < x.b.length → ∀ b, ablk A = some b → ¬ hardC d k1 b := fun hm b e y => by
          have h1 := hlV b (hard_foot (hh10 b y))
          have h2 := (hAnew hm b e).1
          omega
        have hK1 : kg = k1.g := by rw [HKg.out]; exact h10.gk.symm
        have hB4 := hK10.blk HB49.out.drew (fun e => HNf.out (.inr (.inl (.inr (.inl e)))))
        have hB6 := hK10.blk HX9.out.drew (fun e => HN6k.out (.inr (.inl (.inr (.inl e)))))
        have hBs := hbsd.kept hK10 (fun hm b e y => by have := (hAnew hm b e).1; omega)
        obtain ⟨s1, hs1⟩ : ∃ s1, s1 = putB s n x := ⟨_, rfl⟩
        have hres := HRes0.out
        have hask := HAsk0.out
        rw [← hs1] at hC1 hres hask
        rw [show (.int .i64 (kd : Int) : Value) = .int .i64 (x.k : Int) from by rw [HX.out], show bd = x.b from by rw [HX.out]] at hB6
        obtain ⟨U, hU⟩ : ∃ U, U = w10 := ⟨_, rfl⟩
        rw [← hU] at hC1 hB4 hB6 hBs
        rw [← hU]
        have HRes := Lib.hid hres
        have HAsk : Hid (s1.dirty n = false → AskOk t.n s1 n) := Lib.hid fun _ => hask
        have HC1 := Lib.hid hC1
        have HN4 := Lib.hid hN4
        have HN6 := Lib.hid hN6
        have HOf := Lib.hid hOf
        have HK1 := Lib.hid hK1
        replace HB4 := Lib.hid hB4
        replace HB6 := Lib.hid hB6
        have HBs := Lib.hid hBs
        have HX4 : Hid (50 ≤ n ∧ n < t.n ∧ 1 ≤ x.k ∧ x.k ≤ 4 ∧ x.b.length ≤ 240) := Lib.hid ⟨by have := HIn.out; omega, hnl, HX4'.out⟩
        clear hres hask hs1 hC1 hB4 hB6 hBs hN4 hN6 hOf hK1 hU hbV9d hbsd hAnew h10 hh10 hf10 hlV hsV6 hK10 hkB hm10 hg10 HRes0 HAsk0 HX4' HCd9 HX HbV9 HBs9 HB49 HL6 HX9 HbV6 HCd HKd HBd HN6k HG6 HC HKg HNf T HOk H HIn HLL
        have c3 : U.cell? ⟨kg, 3, none⟩ = some (.map (some k1.D)) := by rw [HK1.out]; exact HC1.out.cd.ck.blk.cell 3
        have hlk : (Instr.lookup 70 (.map (some k1.D)) (.int .i64 (n : Int)) true).run Try.prog U = .ok (.tuple #[.agg #[], .bool (s1.dirty n)]) U := by
          have := HC1.out.cd.ck.dm.look_ok hn4 hnl Try.underlying70 zeroUn rfl
          rw [this]
          have e1 : (drM s1 n).getD (.agg #[]) = .agg #[] := by unfold drM; split <;> rfl
          have e2 : (drM s1 n).isSome = s1.dirty n := by unfold drM; cases s1.dirty n <;> rfl
          rw [e1, e2]
        obtain ⟨dd, hdd⟩ : ∃ b, b = s1.dirty n := ⟨_, rfl⟩
        rw [← hdd] at hlk
        have HDd := Lib.hid hdd
        clear hdd
        have HLk := Lib.hid hlk
        have hal : Below U.heap.size U (U.alloc (.cells #[] 94)) := (Below.refl _ _).alloc (Nat.le_refl _) _
        have HAl := Lib.hid hal
        clear hal
        cases dd
        · have HAk := Lib.hid (HAsk.out HDd.out.symm)
          go_upto_region 13 with fail
          refine wp_world (fun W => CCh w W base d d k k1 t s1 ∧ Blk W g4 89 [.int .i64 0, .slice none 0 0] ∧ Blk W g6 89 [.int .i64 (x.k : Int), .slice A x.b.length c] ∧ Bs W base A x.b.length c x.b) ⟨HC1.out.below HAl.out (Nat.le_refl _), HB4.out.below HAl.out HB4.out.lt, HB6.out.below HAl.out HB6.out.lt, HBs.out.below HAl.out (Nat.le_refl _)⟩ ?_
          clear c3 hlk HB4 HB6 HBs HC1 HAl HLk
          rintro W ⟨hC2, hB4, hB6, hBs⟩
          have A0 := asked_any hC2.cd (z := n) hnl (by have := HAk.out.len; have := HAk.out.room; omega) (fun y hy => HAk.out.inN hy) HAk.out.room
          rw [← HK1.out] at A0
          have AA := Lib.hid A0
          have HC2 := Lib.hid hC2
          have HB4 := Lib.hid hB4
          have HB6 := Lib.hid hB6
          have HBs := Lib.hid hBs
          clear A0 hC2 hB4 hB6 hBs
          go_upto_region 14 with ((with_reducible refine Calls.mono AA.out ?_); rintro e w3 ⟨rfl, k3, hC3⟩)
          have hs3 := HC2.out.K.size
          have b4 := hC3.K.blk HB4.out (fun y => HN4.out (hard_foot y))
          have b6 := hC3.K.blk HB6.out (fun y => HN6.out (hard_foot y))
          have bs3 := HBs.out.kept hC3.K (fun hm b e => HOf.out hm b e)
          have n4 : ¬ footC d k3 g4 := hC3.away HN4.out HB4.out.lt
          have hCw := HC2.out.trans hC3
          have hfin : getC t s (n : Int) = (0, x, askedC s1 n) := by rw [HRes.out, if_neg (by rw [← HDd.out]; decide)]
          have HFin := Lib.hid hfin
          clear hfin hC3 AA HC2 HB4 HB6 HBs hs3
          have O := Lib.hid (own_any (kd := (x.k : Int)) bs3 (by have := HX4.out; omega))
          have b6c := b6.cells
          have HBB := Lib.hid b4
          have HCw := Lib.hid hCw
          have HN := Lib.hid n4
          clear b4 b6 bs3 hCw n4
          go_wp2_with ((with_reducible refine Calls.mono O.out ?_); rintro e w5 ⟨A5, c5, rfl, ho5, hb5⟩; have b4 := HBB.out.below hb5 HBB.out.lt; have b4c := b4.cells; have b4f := b4.frees)
          refine bodyPost_ret (results_blk rfl rfl rfl ((b4.set_ 0 _).set_ 1 _)) rfl ?_
          rw [HFin.out]
          have hl4 := HBB.out.lt
          have hg4 := HGg.out.1
          have hsz := HCw.out.K.size
          refine ⟨k3, A5, c5, rfl, ?_, ((ho5.far (show g4 < w3.heap.size from hl4) _).far (show g4 < w3.heap.size from hl4) _).weak hsz, fun b e y => ?_⟩
          · exact ((HCw.out.below hb5 (Nat.le_refl _)).poke (kept_set _ g4 0 _) HN.out hg4).poke (kept_set _ g4 1 _) HN.out hg4
          · have h1 := (ho5.blk e).1
            have h2 := (HCw.out.cd.foot_base b y).2
            omega
        · go_upto_region 14 with fail
          have hCw := HC1.out.below HAl.out (Nat.le_refl _)
          have b4 := HB4.out.below HAl.out HB4.out.lt
          have b6 := HB6.out.below HAl.out HB6.out.lt
          have bs3 := HBs.out.below HAl.out (Nat.le_refl _)
          have n4 := HN4.out
          obtain ⟨k3, hk3⟩ : ∃ z, z = k1 := ⟨_, rfl⟩
          rw [← hk3] at hCw n4
          have hfin : getC t s (n : Int) = (0, x, s1) := by rw [HRes.out, if_pos HDd.out.symm]
          have HFin := Lib.hid hfin
          refine wp_world (fun W => CCh w W base d d k k3 t s1 ∧ Blk W g4 89 [.int .i64 0, .slice none 0 0] ∧ Blk W g6 89 [.int .i64 (x.k : Int), .slice A x.b.length c] ∧ Bs W base A x.b.length c x.b) ⟨hCw, b4, b6, bs3⟩ ?_
          clear hfin c3 hlk HB4 HB6 HBs HC1 HAl HLk hCw b4 b6 bs3 hk3
          rintro w3 ⟨hCw, b4, b6, bs3⟩
          have O := Lib.hid (own_any (kd := (x.k : Int)) bs3 (by have := HX4.out; omega))
          have b6c := b6.cells
          have HBB := Lib.hid b4
          have HCw := Lib.hid hCw
          have HN := Lib.hid n4
          clear b4 b6 bs3 hCw n4
          go_wp2_with ((with_reducible refine Calls.mono O.out ?_); rintro e w5 ⟨A5, c5, rfl, ho5, hb5⟩; have b4 := HBB.out.below hb5 HBB.out.lt; have b4c := b4.cells; have b4f := b4.frees)
          refine bodyPost_ret (results_blk rfl rfl rfl ((b4.set_ 0 _).set_ 1 _)) rfl ?_
          rw [HFin.out]
          have hl4 := HBB.out.lt
          have hg4 := HGg.out.1
          have hsz := HCw.out.K.size
          refine ⟨k3, A5, c5, rfl, ?_, ((ho5.far (show g4 < w3.heap.size from hl4) _).far (show g4 < w3.heap.size from hl4) _).weak hsz, fun b e y => ?_⟩
          · exact ((HCw.out.below hb5 (Nat.le_refl _)).poke (kept_set _ g4 0 _) HN.out hg4).poke (kept_set _ g4 1 _) HN.out hg4
          · have h1 := (ho5.blk e).1
            have h2 := (HCw.out.cd.foot_base b y).2
            omega
end Go.Proofs.Ytdakohbfibcjeaa
namespace Go.Proofs.Ytdakohbfibcjeaa
open Go.RowKit Go.Maps
set_option linter.unusedSimpArgs false
set_option linter.unusedVariables false

/-- may a block be written at a number? -/
def mayB (z kd : Int) (m : Nat) : Prop := 1 ≤ kd ∧ kd ≤ 4 ∧ m ≤ 240
instance (z kd : Int) (m : Nat) : Decidable (mayB z kd m) := inferInstanceAs (Decidable (_ ∧ _ ∧ _))
/-- what Put tells, and leaves -/
def putR (t : Dsk) (s : Ca) (z kd : Int) (l : List UInt8) : Nat × Ca :=
  if 50 ≤ z ∧ z < (t.n : Int) then (if mayB z kd l.length then (0, putC s z.toNat ⟨kd.toNat, l⟩) else (1, s)) else (2, s)
def CPut (w : World) (base : Nat) (d : Dw) (k : Cw) (t : Dsk) (r : Nat × Ca) (e : Ending) (w' : World) : Prop :=
  e = .returned (.int .i64 (r.1 : Int)) ∧ ∃ k', CCh w w' base d d k k' t r.2
theorem Bs.off {w w' : World} {base : Nat} {d d' : Dw} {k k' : Cw} {t' : Dsk} {s' : Ca} (h : CCh w w' base d d' k k' t' s') {lo m c : Nat} {A : Option Addr} {l : List UInt8} (hb : Bs w lo A m c l) (hf : 0 < m → ∀ b, ablk A = some b → ¬ hardC d k b) : Bs w' lo A m c l := hb.kept h.K hf
set_option maxRecDepth 100000 in
set_option maxHeartbeats 8000000 in
theorem put_any_c {w : World} {base : Nat} {d : Dw} {k : Cw} {t : Dsk} {s : Ca} (h : CD w base d k t s) (ok : CaOk t.n s) {z kd : Int} (hz : -9223372036854775808 ≤ z ∧ z ≤ 9223372036854775807) {lo c : Nat} {A : Option Addr} {l : List UInt8} (hbs : Bs w lo A l.length c l) (hoff : 0 < l.length → ∀ b, ablk A = some b → ¬ hardC d k b) :
    Calls Try.prog 25 #[.pointer (some ⟨k.g, 0, none⟩), .int .i64 z, .agg #[.int .i64 kd, .slice A l.length c]] w (CPut w base d k t (putR t s z kd l)) := by
  have hz2 := zeroUn
  have H := Lib.hid h
  have HOk := Lib.hid ok
  have HZ := Lib.hid hz
  have HBs := Lib.hid hbs
  have HOff := Lib.hid hoff
  have hn4 : t.n ≤ 4096 := h.dk.small.2
  obtain ⟨kg, hkg⟩ : ∃ x, x = k.g := ⟨_, rfl⟩
  have HKg := Lib.hid hkg
  rw [← hkg]
  clear h ok hkg hz hbs hoff
  go_enter Try.func25, Try.ntmps25
  go_upto_region 1 with fail
  obtain ⟨g5, hg5⟩ : ∃ g, g = w.heap.size := ⟨_, rfl⟩
  have hal : Below w.heap.size w (w.alloc (.cells #[.int .i64 kd, .slice A l.length c] 89)) := (Below.refl _ _).alloc (Nat.le_refl _) _
  have hnf : ¬ footC d k g5 := fun x => by have := (H.out.foot_base g5 x).2; omega
  rw [← hg5]
  refine wp_world (fun V => CCh w V base d d k k t s ∧ Blk V g5 89 [.int .i64 kd, .slice A l.length c] ∧ Bs V lo A l.length c l ∧ g5 < V.heap.size) ⟨(CCh.init H.out).below hal (Nat.le_refl _), Blk.new_at (cs := [.int .i64 kd, .slice A l.length c]) hg5, HBs.out.below hal (Nat.le_refl _), by rw [hg5]; simp⟩ ?_
  clear hal HBs
  rintro V ⟨hC, hB5, hBs, hl5⟩
  have HNf := Lib.hid hnf
  have HC := Lib.hid hC
  have HB5 := Lib.hid hB5
  have HBs := Lib.hid hBs
  have HL5 := Lib.hid hl5
  have HG5 := Lib.hid (show w.heap.size ≤ g5 by omega)
  clear hC hB5 hBs hl5 hnf hg5
  by_cases hin : 50 ≤ z ∧ z < (t.n : Int)
  rotate_left
  · have T0 := there_b HC.out.cd (n := z) (decide_eq_false hin)
    rw [← HKg.out] at T0
    have T := Lib.hid T0
    have hgc : putR t s z kd l = (2, s) := if_neg hin
    have HGc := Lib.hid hgc
    clear T0 hgc hin
    go_wp2_with ((with_reducible refine Calls.mono T.out ?_); rintro e w1 ⟨rfl, rfl⟩)
    go_ret
    rw [HGc.out]
    exact ⟨rfl, k, HC.out⟩
  · obtain ⟨n, rfl⟩ : ∃ n : Nat, z = (n : Int) := ⟨z.toNat, by omega⟩
    have hnl : n < t.n := by omega
    have T0 := there_b HC.out.cd (n := (n : Int)) (decide_eq_true hin)
    rw [← HKg.out] at T0
    have T := Lib.hid T0
    have HIn := Lib.hid hin
    have b5c := HB5.out.cells
    clear T0 hin
    by_cases hmay : mayB n kd l.length
    rotate_left
    · have hno : (n : Int) < 0 ∨ 65535 < (n : Int) ∨ kd < 1 ∨ 4 < kd ∨ 240 < l.length := by unfold mayB at hmay; omega
      have P := Lib.hid (put_no (n : Int) kd (A := A) (m := l.length) (c := c) (w := V) hno)
      have hgc : putR t s (n : Int) kd l = (1, s) := by unfold putR; rw [if_pos HIn.out, if_neg hmay]
      have HGc := Lib.hid hgc
      clear hgc hmay hno
      go_wp2_with (first | ((with_reducible refine Calls.mono T.out ?_); rintro e w1 ⟨rfl, rfl⟩) | ((with_reducible refine Calls.mono P.out ?_); rintro e w2 ⟨rfl, hb2⟩))
      go_ret
      rw [HGc.out]
      exact ⟨rfl, k, HC.out.below hb2 (Nat.le_refl _)⟩
    · have hmay2 := hmay
      unfold mayB at hmay2
      obtain ⟨kn, rfl⟩ : ∃ kn : Nat, kd = (kn : Int) := ⟨kd.toNat, by omega⟩
      have P := Lib.hid (put_ok n kn HBs.out (by omega) (by omega) (by omega) (by omega))
      have hgc : putR t s (n : Int) (kn : Int) l = (0, putC s n ⟨kn, l⟩) := by unfold putR; rw [if_pos HIn.out, if_pos hmay]; rfl
      have HGc := Lib.hid hgc
      have HMay := Lib.hid hmay2
      clear hgc hmay hmay2
      go_upto_region 6 with (first | ((with_reducible refine Calls.mono T.out ?_); rintro e w1 ⟨rfl, rfl⟩) | ((with_reducible refine Calls.mono P.out ?_); rintro e w2 ⟨rfl, hx2, hb2⟩))
      have hC2 := HC.out.below hb2 (Nat.le_refl _)
      have F0 := forget_any hC2.cd HZ.out
      rw [← HKg.out] at F0
      have F := Lib.hid F0
      have HC2 := Lib.hid hC2
      have HB52 := Lib.hid (HB5.out.below hb2 HB5.out.lt)
      have HBs2 := Lib.hid (HBs.out.below hb2 (Nat.le_refl _))
      clear F0 hC2 hb2 hx2 P T HB5 HBs b5c
      go_upto_region 7 with ((with_reducible refine Calls.mono F.out ?_); rintro e w3 ⟨rfl, k2, hC3⟩)
      have hbs3 := Bs.off hC3 HBs2.out HOff.out
      have hB53 := hC3.K.blk HB52.out (fun y => HNf.out (hard_foot y))
      have hn53 : ¬ footC d k2 g5 := hC3.away HNf.out HB52.out.lt
      have hCw := HC2.out.trans hC3
      have hk2 : kg = k2.g := by rw [HKg.out]; exact hC3.gk.symm
      have O := Lib.hid (own_any (w := w3.drew) (kd := (kn : Int)) hbs3.drew (by have := HMay.out; omega))
      have hCd : CCh w w3.drew base d d k k2 t (forgetC s (n : Int)) := hCw.below (Below.refl w3.heap.size w3).drew (Nat.le_refl _)
      have c2 : w3.drew.cell? ⟨kg, 2, none⟩ = some (.map (some k2.B)) := by rw [hk2]; exact hCd.cd.ck.blk.cell 2
      have c50 : w3.drew.cell? ⟨g5, 0, none⟩ = some (.int .i64 (kn : Int)) := hB53.drew.cell 0
      have c51 : w3.drew.cell? ⟨g5, 1, none⟩ = some (.slice A l.length c) := hB53.drew.cell 1
      have hX5 : ∀ W, Below w3.heap.size w3.drew W → W.cell? ⟨kg, 2, none⟩ = some (.map (some k2.B)) ∧ W.cell? ⟨g5, 0, none⟩ = some (.int .i64 (kn : Int)) ∧ W.cell? ⟨g5, 1, none⟩ = some (.slice A l.length c) := fun W hb =>
        ⟨(hb.cell (p := ⟨kg, 2, none⟩) (by rw [hk2]; exact hCw.cd.ck.blk.lt)).trans c2, (hb.cell (p := ⟨g5, 0, none⟩) hB53.lt).trans c50, (hb.cell (p := ⟨g5, 1, none⟩) hB53.lt).trans c51⟩
      have HCd := Lib.hid hCd
      have HC0 : Hid (CD w base d k t s) := Lib.hid H.out
      have HSz : Hid (w.heap.size ≤ w3.heap.size) := Lib.hid hCd.K.size
      have HM := Lib.hid hCd.cd.ck.bm
      have HK2 := Lib.hid hk2
      clear hbs3 hB53 hn53 hCw hk2 hC3 hCd HB52 HBs2 HC2 HC F
      refine wp_region_last (S := fun w' => w'.cell? ⟨kg, 2, none⟩ = some (.map (some k2.B)) ∧ w'.cell? ⟨g5, 0, none⟩ = some (.int .i64 (kn : Int)) ∧ w'.cell? ⟨g5, 1, none⟩ = some (.slice A l.length c)) 7 (by kernel_rfl) rfl (by kernel_rfl) ?_ ?_
      · exact ⟨c2, c50, c51⟩
      intro hHeld
      simp only [List.take_succ_cons, List.take_zero]
      refine wpAnyH_take (i := 0) (v := ?_) (by simp only [List.getElem?_toArray, List.getElem?_cons_succ, List.getElem?_cons_zero]; rfl) (by kernel_rfl) (by kernel_rfl) (by kernel_rfl) (fun _ _ _ h => h) (Or.inl ⟨by rfl, ?_⟩) hHeld ?_
      rotate_left
      · intro wz hSw; (try dsimp only at hSw); go_simp; try with_reducible rfl
      (try simp only [Act.put, List.setIfInBounds_toArray, List.set_cons_zero, List.set_cons_succ])
      refine wpAnyH_take (i := 1) (v := ?_) (by simp only [List.getElem?_toArray, List.getElem?_cons_succ, List.getElem?_cons_zero]; rfl) (by kernel_rfl) (by kernel_rfl) (by kernel_rfl) (fun _ _ _ h => h) (Or.inl ⟨by rfl, ?_⟩) hHeld ?_
      rotate_left
      · intro wz hSw; (try dsimp only at hSw); go_simp; try with_reducible rfl
      (try simp only [Act.put, List.setIfInBounds_toArray, List.set_cons_zero, List.set_cons_succ])
      refine wpAnyH_take (i := 2) (v := ?_) (by simp only [List.getElem?_toArray, List.getElem?_cons_succ, List.getElem?_cons_zero]; rfl) (by kernel_rfl) (by kernel_rfl) (by kernel_rfl) (fun _ _ _ h => h) (Or.inl ⟨by rfl, ?_⟩) hHeld ?_
      rotate_left
      · intro wz hSw; (try dsimp only at hSw); go_simp; try with_reducible rfl
      (try simp only [Act.put, List.setIfInBounds_toArray, List.set_cons_zero, List.set_cons_succ])
      refine wpAnyH_take (i := 3) (v := ?_) (by simp only [List.getElem?_toArray, List.getElem?_cons_succ, List.getElem?_cons_zero]; rfl) (by kernel_rfl) (by kernel_rfl) (by kernel_rfl) (fun _ _ _ h => h) (Or.inl ⟨by rfl, ?_⟩) hHeld ?_
      rotate_left
      · intro wz hSw; (try dsimp only at hSw); go_simp; try with_reducible rfl
      (try simp only [Act.put, List.setIfInBounds_toArray, List.set_cons_zero, List.set_cons_succ])
      refine wpAnyH_take (i := 4) (v := ?_) (by simp only [List.getElem?_toArray, List.getElem?_cons_succ, List.getElem?_cons_zero]; rfl) (by kernel_rfl) (by kernel_rfl) (by kernel_rfl) (fun _ _ _ h => h) (Or.inl ⟨by rfl, ?_⟩) hHeld ?_
      rotate_left
      · intro wz hSw; (try dsimp only at hSw); go_simp; try with_reducible rfl
      (try simp only [Act.put, List.setIfInBounds_toArray, List.set_cons_zero, List.set_cons_succ])
      refine wpAnyH_take (i := 5) (v := ?_) (by simp only [List.getElem?_toArray, List.getElem?_cons_succ, List.getElem?_cons_zero]; rfl) (by kernel_rfl) (by kernel_rfl) (by kernel_rfl) (fun _ _ _ h => h) (Or.inl ⟨by rfl, ?_⟩) hHeld ?_
      rotate_left
      · intro wz hSw; (try dsimp only at hSw); go_simp; try with_reducible rfl
      (try simp only [Act.put, List.setIfInBounds_toArray, List.set_cons_zero, List.set_cons_succ])
      refine wpAnyH_ready (rs := [6]) (by kernel_rfl) (by simp) ?_
      refine AllReadyH.cons (by simp only [List.getElem?_toArray, List.getElem?_cons_succ, List.getElem?_cons_zero]; rfl) (fun KK hK => ?_) AllReadyH.nil
      go_simp; ((with_reducible refine Calls.mono O.out ?_); rintro e w5 ⟨A5, c5, rfl, ho5, hb5⟩); go_wp2_with fail
      refine hK.out _ _ ?_ (fun hHeld => ?_)
      · exact hX5 w5 hb5
      clear hK KK
      (try simp only [Act.put, List.setIfInBounds_toArray, List.set_cons_zero, List.set_cons_succ])
      have hm5 := HM.out.block (w' := w5) (hb5.block _ HM.out.lt)
      obtain ⟨w6, hrun, hm6, hg6⟩ := hm5.put hn4 hnl Try.underlying79 (.agg #[.int .i64 (kn : Int), .slice A5 l.length c5])
      refine wpAnyH_done (by kernel_rfl) ?_ _
      simp only [lastQ]
      go_simp
      clear hrun hHeld c2 c50 c51 hX5
      obtain ⟨x, hx⟩ : ∃ x : Bk, x = ⟨kn, l⟩ := ⟨_, rfl⟩
      have hbx : Bs w5 base A5 x.b.length c5 x.b := by rw [hx]; exact (own_bs ho5).weak (Nat.le_trans (by have := (HC0.out.foot_base k.g (.inr (.inl (.inl rfl)))); exact Nat.le_of_lt (Nat.lt_of_le_of_lt this.1 this.2)) HSz.out)
      obtain ⟨k7, h7, _, _⟩ := HCd.out.cd.putB_ (x := x) hb5 hbx (fun hm b e => (ho5.blk e).1) (by rw [hx]; exact hm6) hg6
      have hC7 := HCd.out.trans h7
      have hk7 : kg = k7.g := by rw [HK2.out]; exact h7.gk.symm
      rw [hx] at hC7
      have c3 : w6.cell? ⟨kg, 3, none⟩ = some (.map (some k7.D)) := by rw [hk7]; exact hC7.cd.ck.blk.cell 3
      have HC7 := Lib.hid hC7
      clear hbx h7 hC7 hk7 hx hm6 hg6 hm5 ho5 hb5 HCd HM O HK2
      go_upto_region 9 with (refine wpList_mput rfl (.tmp 35) (.tmp 36) (.tmp 37) 70 rfl Try.underlying70 rfl rfl rfl HC7.out.cd.ck.dm hn4 hnl ?_; intro w8 hm8 hg8)
      have h8 := HC7.out.cd.putD_ hm8 hg8
      have hC8 := HC7.out.trans h8
      have HC8 := Lib.hid hC8
      clear hm8 hg8 h8 hC8 HC7 c3
      go_wp2
      go_ret
      rw [HGc.out]
      exact ⟨rfl, k7, HC8.out⟩
theorem put_ca_ok {t : Dsk} {s : Ca} (h : CaOk t.n s) {z kd : Int} {l : List UInt8} : CaOk t.n (putR t s z kd l).2 := by
  unfold putR
  split
  · rename_i h1
    split
    · rename_i h2
      unfold mayB at h2
      exact put_c_ok h (by omega) (by omega) ⟨by show 1 ≤ kd.toNat; omega, by show kd.toNat ≤ 4; omega, h2.2.2⟩
    · exact h
  · exact h
end Go.Proofs.Ytdakohbfibcjeaa
namespace Go.Proofs.Ytdakohbfibcjeaa
open Go.RowKit Go.Maps
set_option linter.unusedSimpArgs false
set_option linter.unusedVariables false

def secOf (s : Ca) (n : Nat) : List UInt8 := blkSector n ((s.blocks n).getD nilB).k ((s.blocks n).getD nilB).b
/-- the first i of some dirty blocks are written -/
def flushTo (t : Dsk) (s : Ca) (L : List Nat) : Nat → Dsk × Ca
  | 0 => (t, s)
  | i + 1 => (writeD (flushTo t s L i).1 (L.getD i 0) (secOf (flushTo t s L i).2 (L.getD i 0)), askedC (delD (flushTo t s L i).2 ((L.getD i 0 : Nat) : Int)) (L.getD i 0))
def flushC (t : Dsk) (s : Ca) : Dsk × Ca := flushTo t s (dirtyN t.n s) (dirtyN t.n s).length
theorem flushTo_n (t : Dsk) (s : Ca) (L : List Nat) : ∀ i, (flushTo t s L i).1.n = t.n
  | 0 => rfl
  | i + 1 => by rw [flushTo]; show (writeD _ _ _).n = _; rw [writeD_n, flushTo_n t s L i]
theorem writeD_len (t : Dsk) (k : Nat) (x : List UInt8) (j : Nat) : ((writeD t k x).vers j).length ≤ (t.vers j).length + 1 := by
  have e : ∀ u : Dsk, ((writeS u k x).vers j).length ≤ (u.vers j).length + 1 := fun u => by
    show (if j = k then u.vers k ++ [x] else u.vers j : List (List UInt8)).length ≤ _
    split
    · rename_i h; subst h; rw [List.length_append]; exact Nat.le_refl _
    · omega
  have e2 : (doneS t).vers = t.vers := (doneS_n t).2.2.1
  unfold writeD
  split
  · rw [← e2]; exact e _
  · rw [e2]; omega
theorem flushTo_len (t : Dsk) (s : Ca) (L : List Nat) (j : Nat) : ∀ i, ((flushTo t s L i).1.vers j).length ≤ (t.vers j).length + i
  | 0 => Nat.le_refl _
  | i + 1 => by
    rw [flushTo]
    exact Nat.le_trans (writeD_len _ _ _ _) (by have := flushTo_len t s L j i; omega)
theorem ask_flush {N n : Nat} {s : Ca} (h : CaOk N s) (hd : s.dirty n = true) : AskOk N (delD s (n : Int)) n := by
  refine ⟨h.room, h.blk, fun m hm => ?_, fun m hm => ?_, h.nodup, h.len, (h.cov n).2 (.inl hd), ?_⟩
  · show (s.blocks m).isSome = true ↔ (if (m : Int) = (n : Int) then false else s.dirty m) = true ∨ _
    rw [if_neg (by omega)]; exact h.cov m
  · have hm : (if (m : Int) = (n : Int) then false else s.dirty m) = true := hm
    split at hm
    · cases hm
    · exact h.apart m hm
  · show (if (n : Int) = (n : Int) then false else s.dirty n) = false
    rw [if_pos rfl]
theorem dirtyN_nodup (N : Nat) (s : Ca) {i j : Nat} (hi : i < (dirtyN N s).length) (hj : j < i) : (dirtyN N s).getD j 0 ≠ (dirtyN N s).getD i 0 := by
  have := List.pairwise_iff_getElem.1 (dirtyN_asc N s) j i (by omega) hi hj
  rw [List.getD_eq_getElem?_getD, List.getD_eq_getElem?_getD, List.getElem?_eq_getElem hi, List.getElem?_eq_getElem (by omega)]
  simp only [Option.getD_some]
  omega
theorem dirtyN_get {N : Nat} {s : Ca} {i : Nat} (hi : i < (dirtyN N s).length) : (dirtyN N s).getD i 0 < N ∧ s.dirty ((dirtyN N s).getD i 0) = true := by
  have : (dirtyN N s).getD i 0 ∈ dirtyN N s := by
    rw [List.getD_eq_getElem?_getD, List.getElem?_eq_getElem hi]
    exact List.getElem_mem _
  exact mem_dirtyN.1 this
theorem flushTo_ok {t : Dsk} {s : Ca} (h : CaOk t.n s) : ∀ i, i ≤ (dirtyN t.n s).length → CaOk t.n (flushTo t s (dirtyN t.n s) i).2 ∧ (∀ m, (∀ j, j < i → (dirtyN t.n s).getD j 0 ≠ m) → (flushTo t s (dirtyN t.n s) i).2.dirty m = s.dirty m) ∧ (∀ m, (∃ j, j < i ∧ (dirtyN t.n s).getD j 0 = m) → (flushTo t s (dirtyN t.n s) i).2.dirty m = false) ∧ (flushTo t s (dirtyN t.n s) i).2.room = s.room
  | 0, _ => ⟨h, fun _ _ => rfl, fun m ⟨j, hj, _⟩ => absurd hj (Nat.not_lt_zero _), rfl⟩
  | i + 1, hi => by
    obtain ⟨h1, h2, h3, h4⟩ := flushTo_ok h i (by omega)
    have hn := dirtyN_get (s := s) (N := t.n) (i := i) (by omega)
    have hd : (flushTo t s (dirtyN t.n s) i).2.dirty ((dirtyN t.n s).getD i 0) = true := by
      rw [h2 _ (fun j hj => dirtyN_nodup t.n s (by omega) hj)]; exact hn.2
    have ha := ask_flush h1 hd
    rw [flushTo]
    have hs := asked_same ha
    refine ⟨asked_ok ha, fun m hm => ?_, fun m hm => ?_, ?_⟩
    · show (askedC _ _).dirty m = _
      rw [hs.1]
      show (if (m : Int) = _ then false else _) = _
      rw [if_neg (by have := hm i (by omega); omega)]
      exact h2 m (fun j hj => hm j (by omega))
    · show (askedC _ _).dirty m = _
      rw [hs.1]
      show (if (m : Int) = _ then false else _) = false
      split
      · rfl
      · rename_i hne
        obtain ⟨j, hj, e⟩ := hm
        by_cases hji : j = i
        · subst hji; exact absurd (by rw [e]) hne
        · exact h3 m ⟨j, by omega, e⟩
    · show (askedC _ _).room = _
      rw [hs.2]; exact h4
theorem flushTo_dirty {t : Dsk} {s : Ca} (h : CaOk t.n s) {i : Nat} (hi : i < (dirtyN t.n s).length) : (flushTo t s (dirtyN t.n s) i).2.dirty ((dirtyN t.n s).getD i 0) = true := by
  obtain ⟨h1, h2, h3, h4⟩ := flushTo_ok h i (by omega)
  rw [h2 _ (fun j hj => dirtyN_nodup t.n s hi hj)]
  exact (dirtyN_get hi).2
theorem flushC_ok {t : Dsk} {s : Ca} (h : CaOk t.n s) : CaOk t.n (flushC t s).2 ∧ (flushC t s).1.n = t.n ∧ ∀ m, (flushC t s).2.dirty m = false ∨ t.n ≤ m := by
  obtain ⟨h1, h2, h3, h4⟩ := flushTo_ok h _ (Nat.le_refl (dirtyN t.n s).length)
  refine ⟨h1, flushTo_n _ _ _ _, fun m => ?_⟩
  by_cases hm : m < t.n
  · left
    by_cases hd : s.dirty m = true
    · obtain ⟨j, hj, e⟩ := List.getElem_of_mem (mem_dirtyN.2 ⟨hm, hd⟩)
      exact h3 m ⟨j, hj, by rw [List.getD_eq_getElem?_getD, List.getElem?_eq_getElem hj]; exact e⟩
    · have hdf : s.dirty m = false := by cases e : s.dirty m with | false => rfl | true => exact absurd e hd
      unfold flushC
      rw [h2 m (fun j hj e => by rw [← e] at hd; exact hd (dirtyN_get hj).2)]
      exact hdf
  · exact .inr (by omega)

end Go.Proofs.Ytdakohbfibcjeaa
namespace Go.Proofs.Ytdakohbfibcjeaa
set_option linter.unusedVariables false

/-- what is read of a block -/
def cont (t : Dsk) (s : Ca) (m : Nat) : Nat × Nat × List UInt8 := match s.blocks m with
  | some x => (0, x.k, x.b)
  | none => readB t m
/-- clean blocks are as on the disk -/
def Cons (t : Dsk) (s : Ca) : Prop := ∀ m x, s.blocks m = some x → s.dirty m = false → readB t m = (0, x.k, x.b)
section
variable {t : Dsk} {s s' : Ca} {n m N : Nat} {x : Bk}
theorem cont_some (h : s.blocks m = some x) : cont t s m = (0, x.k, x.b) := by unfold cont; rw [h]
theorem cont_none (h : s.blocks m = none) : cont t s m = readB t m := by unfold cont; rw [h]
/-- clean blocks are dropped: nothing else is read -/
theorem cont_sub (hc : Cons t s) (hb : ∀ m, s'.blocks m = s.blocks m ∨ (s'.blocks m = none ∧ s.dirty m = false)) (hd : s'.dirty = s.dirty) : (∀ m, cont t s' m = cont t s m) ∧ Cons t s' := by
  refine ⟨fun m => ?_, fun m x hx hm => ?_⟩
  · rcases hb m with e | ⟨e, e2⟩
    · unfold cont; rw [e]
    · rw [cont_none e]
      cases h : s.blocks m with
      | none => rw [cont_none h]
      | some x => rw [cont_some h, hc m x h e2]
  · rw [hd] at hm
    rcases hb m with e | ⟨e, e2⟩
    · exact hc m x (by rw [← e]; exact hx) hm
    · rw [e] at hx; cases hx
theorem asked_cont (h : AskOk N s n) (hc : Cons t s) : (∀ m, cont t (askedC s n) m = cont t s m) ∧ Cons t (askedC s n) := by
  refine cont_sub hc (fun m => ?_) (asked_same h).1
  rw [(asked_eq h).1]
  split
  · unfold dropC
    obtain ⟨o, ho⟩ : ∃ o, o = (askC s n).order := ⟨_, rfl⟩
    rw [← ho]
    cases hr : o with
    | nil => exact .inl rfl
    | cons y r =>
      show (if (m : Int) = (y : Int) then none else s.blocks m) = _ ∨ ((if (m : Int) = (y : Int) then none else s.blocks m) = none ∧ _)
      by_cases e : (m : Int) = (y : Int)
      · rw [if_pos e]
        right
        refine ⟨rfl, ?_⟩
        have hy : m ∈ outN s.order (n : Int) ++ [n] := by
          have : m = y := by omega
          rw [this, show outN s.order (n : Int) ++ [n] = o from by rw [ho]; rfl, hr]
          exact List.mem_cons_self
        rcases List.mem_append.1 hy with q | q
        · cases hd : s.dirty m with
          | false => rfl
          | true => exact absurd (mem_outN.1 q).1 (h.apart m hd)
        · rw [List.mem_singleton] at q; rw [q]; exact h.clean
      · rw [if_neg e]; exact .inl rfl
  · exact .inl rfl
theorem getC_some (h1 : 50 ≤ n) (h2 : n < t.n) (hb : s.blocks n = some x) : getC t s (n : Int) = (0, x, if s.dirty n then s else askedC s n) := by
  unfold getC
  rw [if_pos (by omega), show (n : Int).toNat = n from rfl, hb]
theorem getC_read (h1 : 50 ≤ n) (h2 : n < t.n) (hb : s.blocks n = none) (hr : (readB t n).1 = 0) : getC t s (n : Int) = (0, ⟨(readB t n).2.1, (readB t n).2.2⟩, if s.dirty n then putB s n ⟨(readB t n).2.1, (readB t n).2.2⟩ else askedC (putB s n ⟨(readB t n).2.1, (readB t n).2.2⟩) n) := by
  unfold getC
  rw [if_pos (by omega), show (n : Int).toNat = n from rfl, hb]
  exact if_pos hr
theorem getC_bad (h1 : 50 ≤ n) (h2 : n < t.n) (hb : s.blocks n = none) (hr : (readB t n).1 ≠ 0) : getC t s (n : Int) = ((readB t n).1, nilB, s) := by
  unfold getC
  rw [if_pos (by omega), show (n : Int).toNat = n from rfl, hb]
  exact if_neg hr
theorem cont_putB (hc : Cons t s) (hb : s.blocks n = none) (hr : (readB t n).1 = 0) : (∀ m, cont t (putB s n ⟨(readB t n).2.1, (readB t n).2.2⟩) m = cont t s m) ∧ Cons t (putB s n ⟨(readB t n).2.1, (readB t n).2.2⟩) := by
  obtain ⟨r, hrd⟩ : ∃ r, r = readB t n := ⟨_, rfl⟩
  rw [← hrd] at hr ⊢
  have hrr : r = (0, r.2.1, r.2.2) := by rw [← hr]
  refine ⟨fun m => ?_, fun m y hy hm => ?_⟩
  · by_cases e : m = n
    · subst e
      rw [cont_some (x := ⟨r.2.1, r.2.2⟩) (show (if m = m then _ else _) = _ from if_pos rfl), cont_none hb, ← hrd]
      exact hrr.symm
    · unfold cont
      rw [show (putB s n ⟨r.2.1, r.2.2⟩).blocks m = s.blocks m from if_neg e]
  · have hy : (if m = n then some (⟨r.2.1, r.2.2⟩ : Bk) else s.blocks m) = some y := hy
    by_cases e : m = n
    · subst e
      rw [if_pos rfl] at hy
      injection hy with hy2
      rw [← hy2, ← hrd]
      exact hrr
    · rw [if_neg e] at hy
      exact hc m y hy hm
/-- what Get tells -/
theorem get_cont (h : CaOk t.n s) (hc : Cons t s) (h1 : 50 ≤ n) (h2 : n < t.n) :
    (getC t s (n : Int)).1 = (cont t s n).1 ∧ ((cont t s n).1 = 0 → (getC t s (n : Int)).2.1 = ⟨(cont t s n).2.1, (cont t s n).2.2⟩) ∧ ((cont t s n).1 ≠ 0 → (getC t s (n : Int)).2.1 = nilB) ∧ (∀ m, cont t (getC t s (n : Int)).2.2 m = cont t s m) ∧ Cons t (getC t s (n : Int)).2.2 := by
  cases hb : s.blocks n with
  | some x =>
    rw [cont_some hb, getC_some h1 h2 hb]
    refine ⟨rfl, fun _ => rfl, fun e => absurd rfl e, ?_⟩
    show (∀ m, cont t (if s.dirty n then s else askedC s n) m = _) ∧ Cons t (if s.dirty n then s else askedC s n)
    cases hd : s.dirty n with
    | true => exact ⟨fun _ => rfl, hc⟩
    | false => exact asked_cont (h.ask (by rw [hb]; rfl) hd) hc
  | none =>
    rw [cont_none hb]
    by_cases hr : (readB t n).1 = 0
    · rw [getC_read h1 h2 hb hr]
      obtain ⟨a1, a2⟩ := ask_new h hb h1 h2 (x := ⟨(readB t n).2.1, (readB t n).2.2⟩) (readB_ok hr)
      refine ⟨hr.symm, fun _ => rfl, fun e => absurd hr e, ?_⟩
      rw [a2]
      have hpc := cont_putB hc hb hr
      obtain ⟨b1, b2⟩ := asked_cont a1 hpc.2
      exact ⟨fun m => (b1 m).trans (hpc.1 m), b2⟩
    · rw [getC_bad h1 h2 hb hr]
      exact ⟨rfl, fun e => absurd e hr, fun _ => rfl, fun _ => rfl, hc⟩
/-- what Put changes -/
theorem put_cont (h : CaOk t.n s) (hc : Cons t s) (h1 : 50 ≤ n) (h2 : n < t.n) {kd : Int} {l : List UInt8} :
    (putR t s (n : Int) kd l).1 = (if mayB n kd l.length then 0 else 1) ∧ (∀ m, cont t (putR t s (n : Int) kd l).2 m = if m = n ∧ mayB n kd l.length then (0, kd.toNat, l) else cont t s m) ∧ Cons t (putR t s (n : Int) kd l).2 := by
  unfold putR
  rw [if_pos (by omega), show (n : Int).toNat = n from rfl]
  by_cases hm : mayB n kd l.length
  · rw [if_pos hm, if_pos hm]
    refine ⟨rfl, fun m => ?_, fun m y hy hd => ?_⟩
    · by_cases e : m = n
      · subst e
        rw [if_pos ⟨rfl, hm⟩, cont_some (x := ⟨kd.toNat, l⟩) (show (if m = m then _ else _) = _ from if_pos rfl)]
      · rw [if_neg (fun q => e q.1)]
        unfold cont
        rw [show (putC s n ⟨kd.toNat, l⟩).blocks m = (if m = n then some ⟨kd.toNat, l⟩ else if (m : Int) = (n : Int) then none else s.blocks m) from rfl, if_neg e, if_neg (by omega)]
    · have hd : (if m = n then true else if (m : Int) = (n : Int) then false else s.dirty m) = false := hd
      have hy : (if m = n then some (⟨kd.toNat, l⟩ : Bk) else if (m : Int) = (n : Int) then none else s.blocks m) = some y := hy
      by_cases e : m = n
      · rw [if_pos e] at hd; cases hd
      · rw [if_neg e, if_neg (by omega)] at hd hy
        exact hc m y hy hd
  · rw [if_neg hm, if_neg hm]
    exact ⟨rfl, fun m => (if_neg (fun q => hm q.2)).symm, hc⟩
theorem cons_new {N r : Nat} : Cons (newD N) (newC r) := fun m x hx => by cases hx
end
end Go.Proofs.Ytdakohbfibcjeaa
