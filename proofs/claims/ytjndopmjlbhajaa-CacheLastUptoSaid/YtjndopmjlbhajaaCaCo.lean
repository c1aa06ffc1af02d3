/- What a cache and its disk have of a block: what the calls change of it. No condition. -/
import Derived.Test.YtjndopmjlbhajaaCaQ
import Derived.Test.YtjndopmjlbhajaaCaL
namespace Go.Proofs.Ytjndopmjlbhajaa
set_option linter.unusedVariables false

/-- what is read of a block -/
def cont (t : Dsk) (s : Ca) (m : Nat) : Nat × Nat × List UInt8 := match s.blocks m with
  | some x => (0, x.k, x.b)
  | none => readB t m
/-- clean blocks are as on the disk -/
def Cons (t : Dsk) (s : Ca) : Prop := ∀ m x, s.blocks m = some x → s.dirty m = false → readB t m = (0, x.k, x.b)
section
variable {t : Dsk} {s s' : Ca} {n m N : Nat} {x : Bk}
theorem cont_some (h : s.blocks m = some x) : cont t s m = (0, x.k, x.b) := by unfold cont; rw [h]
theorem cont_none (h : s.blocks m = none) : cont t s m = readB t m := by unfold cont; rw [h]
/-- clean blocks are dropped: nothing else is read -/
theorem cont_sub (hc : Cons t s) (hb : ∀ m, s'.blocks m = s.blocks m ∨ (s'.blocks m = none ∧ s.dirty m = false)) (hd : s'.dirty = s.dirty) : (∀ m, cont t s' m = cont t s m) ∧ Cons t s' := by
  refine ⟨fun m => ?_, fun m x hx hm => ?_⟩
  · rcases hb m with e | ⟨e, e2⟩
    · unfold cont; rw [e]
    · rw [cont_none e]
      cases h : s.blocks m with
      | none => rw [cont_none h]
      | some x => rw [cont_some h, hc m x h e2]
  · rw [hd] at hm
    rcases hb m with e | ⟨e, e2⟩
    · exact hc m x (by rw [← e]; exact hx) hm
    · rw [e] at hx; cases hx
theorem asked_cont (h : AskOk N s n) (hc : Cons t s) : (∀ m, cont t (askedC s n) m = cont t s m) ∧ Cons t (askedC s n) := by
  refine cont_sub hc (fun m => ?_) (asked_same h).1
  rw [(asked_eq h).1]
  split
  · unfold dropC
    obtain ⟨o, ho⟩ : ∃ o, o = (askC s n).order := ⟨_, rfl⟩
    rw [← ho]
    cases hr : o with
    | nil => exact .inl rfl
    | cons y r =>
      show (if (m : Int) = (y : Int) then none else s.blocks m) = _ ∨ ((if (m : Int) = (y : Int) then none else s.blocks m) = none ∧ _)
      by_cases e : (m : Int) = (y : Int)
      · rw [if_pos e]
        right
        refine ⟨rfl, ?_⟩
        have hy : m ∈ outN s.order (n : Int) ++ [n] := by
          have : m = y := by omega
          rw [this, show outN s.order (n : Int) ++ [n] = o from by rw [ho]; rfl, hr]
          exact List.mem_cons_self
        rcases List.mem_append.1 hy with q | q
        · cases hd : s.dirty m with
          | false => rfl
          | true => exact absurd (mem_outN.1 q).1 (h.apart m hd)
        · rw [List.mem_singleton] at q; rw [q]; exact h.clean
      · rw [if_neg e]; exact .inl rfl
  · exact .inl rfl
theorem getC_some (h1 : 50 ≤ n) (h2 : n < t.n) (hb : s.blocks n = some x) : getC t s (n : Int) = (0, x, if s.dirty n then s else askedC s n) := by
  unfold getC
  rw [if_pos (by omega), show (n : Int).toNat = n from rfl, hb]
theorem getC_read (h1 : 50 ≤ n) (h2 : n < t.n) (hb : s.blocks n = none) (hr : (readB t n).1 = 0) : getC t s (n : Int) = (0, ⟨(readB t n).2.1, (readB t n).2.2⟩, if s.dirty n then putB s n ⟨(readB t n).2.1, (readB t n).2.2⟩ else askedC (putB s n ⟨(readB t n).2.1, (readB t n).2.2⟩) n) := by
  unfold getC
  rw [if_pos (by omega), show (n : Int).toNat = n from rfl, hb]
  exact if_pos hr
theorem getC_bad (h1 : 50 ≤ n) (h2 : n < t.n) (hb : s.blocks n = none) (hr : (readB t n).1 ≠ 0) : getC t s (n : Int) = ((readB t n).1, nilB, s) := by
  unfold getC
  rw [if_pos (by omega), show (n : Int).toNat = n from rfl, hb]
  exact if_neg hr
theorem cont_putB (hc : Cons t s) (hb : s.blocks n = none) (hr : (readB t n).1 = 0) : (∀ m, cont t (putB s n ⟨(readB t n).2.1, (readB t n).2.2⟩) m = cont t s m) ∧ Cons t (putB s n ⟨(readB t n).2.1, (readB t n).2.2⟩) := by
  obtain ⟨r, hrd⟩ : ∃ r, r = readB t n := ⟨_, rfl⟩
  rw [← hrd] at hr ⊢
  have hrr : r = (0, r.2.1, r.2.2) := by rw [← hr]
  refine ⟨fun m => ?_, fun m y hy hm => ?_⟩
  · by_cases e : m = n
    · subst e
      rw [cont_some (x := ⟨r.2.1, r.2.2⟩) (show (if m = m then _ else _) = _ from if_pos rfl), cont_none hb, ← hrd]
      exact hrr.symm
    · unfold cont
      rw [show (putB s n ⟨r.2.1, r.2.2⟩).blocks m = s.blocks m from if_neg e]
  · have hy : (if m = n then some (⟨r.2.1, r.2.2⟩ : Bk) else s.blocks m) = some y := hy
    by_cases e : m = n
    · subst e
      rw [if_pos rfl] at hy
      injection hy with hy2
      rw [← hy2, ← hrd]
      exact hrr
    · rw [if_neg e] at hy
      exact hc m y hy hm
/-- what Get tells -/
theorem get_cont (h : CaOk t.n s) (hc : Cons t s) (h1 : 50 ≤ n) (h2 : n < t.n) :
    (getC t s (n : Int)).1 = (cont t s n).1 ∧ ((cont t s n).1 = 0 → (getC t s (n : Int)).2.1 = ⟨(cont t s n).2.1, (cont t s n).2.2⟩) ∧ ((cont t s n).1 ≠ 0 → (getC t s (n : Int)).2.1 = nilB) ∧ (∀ m, cont t (getC t s (n : Int)).2.2 m = cont t s m) ∧ Cons t (getC t s (n : Int)).2.2 := by
  cases hb : s.blocks n with
  | some x =>
    rw [cont_some hb, getC_some h1 h2 hb]
    refine ⟨rfl, fun _ => rfl, fun e => absurd rfl e, ?_⟩
    show (∀ m, cont t (if s.dirty n then s else askedC s n) m = _) ∧ Cons t (if s.dirty n then s else askedC s n)
    cases hd : s.dirty n with
    | true => exact ⟨fun _ => rfl, hc⟩
    | false => exact asked_cont (h.ask (by rw [hb]; rfl) hd) hc
  | none =>
    rw [cont_none hb]
    by_cases hr : (readB t n).1 = 0
    · rw [getC_read h1 h2 hb hr]
      obtain ⟨a1, a2⟩ := ask_new h hb h1 h2 (x := ⟨(readB t n).2.1, (readB t n).2.2⟩) (readB_ok hr)
      refine ⟨hr.symm, fun _ => rfl, fun e => absurd hr e, ?_⟩
      rw [a2]
      have hpc := cont_putB hc hb hr
      obtain ⟨b1, b2⟩ := asked_cont a1 hpc.2
      exact ⟨fun m => (b1 m).trans (hpc.1 m), b2⟩
    · rw [getC_bad h1 h2 hb hr]
      exact ⟨rfl, fun e => absurd e hr, fun _ => rfl, fun _ => rfl, hc⟩
/-- what Put changes -/
theorem put_cont (h : CaOk t.n s) (hc : Cons t s) (h1 : 50 ≤ n) (h2 : n < t.n) {kd : Int} {l : List UInt8} :
    (putR t s (n : Int) kd l).1 = (if mayB n kd l.length then 0 else 1) ∧ (∀ m, cont t (putR t s (n : Int) kd l).2 m = if m = n ∧ mayB n kd l.length then (0, kd.toNat, l) else cont t s m) ∧ Cons t (putR t s (n : Int) kd l).2 := by
  unfold putR
  rw [if_pos (by omega), show (n : Int).toNat = n from rfl]
  by_cases hm : mayB n kd l.length
  · rw [if_pos hm, if_pos hm]
    refine ⟨rfl, fun m => ?_, fun m y hy hd => ?_⟩
    · by_cases e : m = n
      · subst e
        rw [if_pos ⟨rfl, hm⟩, cont_some (x := ⟨kd.toNat, l⟩) (show (if m = m then _ else _) = _ from if_pos rfl)]
      · rw [if_neg (fun q => e q.1)]
        unfold cont
        rw [show (putC s n ⟨kd.toNat, l⟩).blocks m = (if m = n then some ⟨kd.toNat, l⟩ else if (m : Int) = (n : Int) then none else s.blocks m) from rfl, if_neg e, if_neg (by omega)]
    · have hd : (if m = n then true else if (m : Int) = (n : Int) then false else s.dirty m) = false := hd
      have hy : (if m = n then some (⟨kd.toNat, l⟩ : Bk) else if (m : Int) = (n : Int) then none else s.blocks m) = some y := hy
      by_cases e : m = n
      · rw [if_pos e] at hd; cases hd
      · rw [if_neg e, if_neg (by omega)] at hd hy
        exact hc m y hy hd
  · rw [if_neg hm, if_neg hm]
    exact ⟨rfl, fun m => (if_neg (fun q => hm q.2)).symm, hc⟩
theorem readB_write (hc : t.cut = false) {y : List UInt8} : readB (writeD t n y) m = if m = n then gBlk (m : Int) y else readB t m := by
  unfold readB
  by_cases e : m = n
  · subst e
    rw [if_pos rfl, hasD_write hc]
  · rw [if_neg e, write_new hc]
    unfold hasD
    rw [show (writeS t n y).vers m = t.vers m from if_neg e]
    rfl
/-- a dirty block is written: it is clean, and as it was -/
theorem write_cont (h : CaOk t.n s) (hn4 : t.n ≤ 4096) (hc : Cons t s) (hcut : t.cut = false) (hd : s.dirty n = true) (hx : s.blocks n = some x) :
    (∀ m, cont (writeD t n (blkSector n x.k x.b)) (delD s (n : Int)) m = cont t s m) ∧ Cons (writeD t n (blkSector n x.k x.b)) (delD s (n : Int)) := by
  have hk := h.blk n x hx
  have hg : gBlk (n : Int) (blkSector n x.k x.b) = (0, x.k, x.b) := gBlk_own (by omega) hk.2.2.1 hk.2.2.2.1 hk.2.2.2.2
  refine ⟨fun m => ?_, fun m y hy hm => ?_⟩
  · cases hb : s.blocks m with
    | some y => rw [cont_some hb, cont_some (s := delD s (n : Int)) hb]
    | none =>
      have e : m ≠ n := fun e => by rw [e, hx] at hb; cases hb
      rw [cont_none hb, cont_none (s := delD s (n : Int)) hb, readB_write hcut, if_neg e]
  · have hy : s.blocks m = some y := hy
    have hm : (if (m : Int) = (n : Int) then false else s.dirty m) = false := hm
    rw [readB_write hcut]
    by_cases e : m = n
    · subst e
      have hy2 : x = y := by have h2 := hx.symm.trans hy; injection h2
      rw [if_pos rfl, ← hy2, hg]
    · rw [if_neg (by omega)] at hm
      rw [if_neg e]
      exact hc m y hy hm
theorem writeD_cut (hc : t.cut = false) {y : List UInt8} : (writeD t n y).cut = false := by
  rw [write_new hc]; exact hc
theorem flushTo_cont (h : CaOk t.n s) (hn4 : t.n ≤ 4096) (hc : Cons t s) (hcut : t.cut = false) : ∀ i, i ≤ (dirtyN t.n s).length → (flushTo t s (dirtyN t.n s) i).1.cut = false ∧ (∀ m, cont (flushTo t s (dirtyN t.n s) i).1 (flushTo t s (dirtyN t.n s) i).2 m = cont t s m) ∧ Cons (flushTo t s (dirtyN t.n s) i).1 (flushTo t s (dirtyN t.n s) i).2
  | 0, _ => ⟨hcut, fun _ => rfl, hc⟩
  | i + 1, hi => by
    obtain ⟨c1, c2, c3⟩ := flushTo_cont h hn4 hc hcut i (by omega)
    have ho := (flushTo_ok h i (by omega)).1
    have hd := flushTo_dirty h (i := i) (by omega)
    have hpn := flushTo_n t s (dirtyN t.n s) i
    rw [flushTo]
    obtain ⟨p, hp⟩ : ∃ p, p = flushTo t s (dirtyN t.n s) i := ⟨_, rfl⟩
    obtain ⟨n, hn⟩ : ∃ n, n = (dirtyN t.n s).getD i 0 := ⟨_, rfl⟩
    rw [← hp] at c1 c2 c3 ho hd hpn ⊢
    rw [← hn] at hd ⊢
    rw [← hpn] at ho
    have hx : ∃ x, p.2.blocks n = some x := by
      have := (ho.cov n).2 (.inl hd)
      cases hx : p.2.blocks n with
      | none => rw [hx] at this; cases this
      | some x => exact ⟨x, rfl⟩
    obtain ⟨x, hx⟩ := hx
    have hsec : secOf p.2 n = blkSector n x.k x.b := by unfold secOf; rw [hx]; rfl
    show (writeD p.1 n (secOf p.2 n)).cut = false ∧ (∀ m, cont (writeD p.1 n (secOf p.2 n)) (askedC (delD p.2 (n : Int)) n) m = _) ∧ Cons (writeD p.1 n (secOf p.2 n)) (askedC (delD p.2 (n : Int)) n)
    rw [hsec]
    obtain ⟨w1, w2⟩ := write_cont ho (by rw [hpn]; exact hn4) c3 c1 hd hx
    obtain ⟨a1, a2⟩ := asked_cont (ask_flush ho hd) w2
    exact ⟨writeD_cut c1, fun m => (a1 m).trans ((w1 m).trans (c2 m)), a2⟩
theorem flush_cont (h : CaOk t.n s) (hn4 : t.n ≤ 4096) (hc : Cons t s) (hcut : t.cut = false) : (flushC t s).1.cut = false ∧ (∀ m, cont (flushC t s).1 (flushC t s).2 m = cont t s m) ∧ Cons (flushC t s).1 (flushC t s).2 :=
  flushTo_cont h hn4 hc hcut _ (Nat.le_refl _)
theorem cons_new {N r : Nat} : Cons (newD N) (newC r) := fun m x hx => by cases hx
theorem cont_new {N r m : Nat} : cont (newD N) (newC r) m = (6, 0, []) := readB_new
end
end Go.Proofs.Ytjndopmjlbhajaa
