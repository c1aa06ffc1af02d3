/- A tree over a cache and a map of free blocks, in memory: which node lies at which block; what small changes leave. No condition. -/
import Derived.Test.YtdakohbfibcjeaaTvL
import Derived.Test.YtdakohbfibcjeaaTvP
import Derived.Test.YtdakohbfibcjeaaNodGetO
namespace Go.Proofs.Ytdakohbfibcjeaa
open Go.RowKit Go.Maps
set_option linter.unusedSimpArgs false
set_option linter.unusedVariables false

/-- which node lies at which block; none: the block is free -/
def Nodes := Nat → Option Nd
def updT (T : Nodes) (n : Nat) (x : Option Nd) : Nodes := fun j => if j = n then x else T j
def frT (T : Nodes) : Nat → Bool := fun n => (T n).isNone
def fsM (T : Nodes) : Nat → Option Value := fun n => if (T n).isSome then some (.agg #[]) else none
structure TrS where
  d : Dw
  k : Cw
  t : Dsk
  s : Ca
  a : AlW
  F : Nat
  g : Nat
def TrS.foot (p : TrS) : Nat → Prop := fun b => footC p.d p.k b ∨ p.a.foot b ∨ b = p.F ∨ b = p.g
/-- what the cache has is the tree's nodes -/
def Says (t : Dsk) (s : Ca) (T : Nodes) (N : Nat) : Prop := ∀ n nd, T n = some nd → 50 ≤ n ∧ n < 50 + N ∧ mayN nd ∧ nd.keys.length ≤ 240 ∧ cont t s n = (0, kindN nd, bodyN nd)
structure TrG (w : World) (base : Nat) (p : TrS) (N : Nat) (T : Nodes) (f : Nat → Bool) (m : Nat → Option Value) : Prop where
  cd : CD w base p.d p.k p.t p.s
  ok : CaOk p.t.n p.s
  cons : Cons p.t p.s
  n : p.t.n = 50 + N
  al : Al w base p.a N f
  mp : Mp w p.F (50 + N) m
  blk : Blk w p.g 87 [.pointer (some ⟨p.k.g, 0, none⟩), .pointer (some ⟨p.a.m, 0, none⟩), .map (some p.F)]
  says : Says p.t p.s T N
  apC : ∀ b, footC p.d p.k b → ¬ p.a.foot b ∧ b ≠ p.F ∧ b ≠ p.g
  apA : ∀ b, p.a.foot b → b ≠ p.F ∧ b ≠ p.g
  apF : p.F ≠ p.g
  bases : base ≤ p.F ∧ base ≤ p.g
  small : N ≤ 4000
structure TGh (w w' : World) (base : Nat) (p p' : TrS) (N : Nat) (T' : Nodes) (f' : Nat → Bool) (m' : Nat → Option Value) : Prop where
  tr : TrG w' base p' N T' f' m'
  g : p'.g = p.g
  c : p'.k.g = p.k.g ∧ p'.a.m = p.a.m ∧ p'.F = p.F
  K : Kept p.foot w w'
  foot : ∀ b, p'.foot b → p.foot b ∨ w.heap.size ≤ b
section
variable {F : Nat → Prop} {w w' w1 w2 : World} {base N B : Nat} {p p' p2 : TrS} {T T' T2 : Nodes} {f f' f2 : Nat → Bool} {m m' m2 : Nat → Option Value}
theorem TrG.foot_base (h : TrG w base p N T f m) : ∀ b, p.foot b → base ≤ b ∧ b < w.heap.size := by
  rintro b (e | e | rfl | rfl)
  · exact h.cd.foot_base b e
  · exact h.al.foot_base b e
  · exact ⟨h.bases.1, h.mp.lt⟩
  · exact ⟨h.bases.2, h.blk.lt⟩
theorem TrG.kept (h : TrG w base p N T f m) (K : Kept F w w') (hF : ∀ b, p.foot b → ¬ F b) : TrG w' base p N T f m :=
  ⟨h.cd.kept K (fun b e => hF b (.inl e)), h.ok, h.cons, h.n, h.al.kept K (fun b e => hF b (.inr (.inl e))), h.mp.block (K.block _ h.mp.lt (hF _ (.inr (.inr (.inl rfl))))), K.blk h.blk (hF _ (.inr (.inr (.inr rfl)))), h.says, h.apC, h.apA, h.apF, h.bases, h.small⟩
theorem TrG.below (h : TrG w base p N T f m) (hb : Below B w w') (hB : w.heap.size ≤ B) : TrG w' base p N T f m := h.kept (F := fun _ => False) (Kept.of_below hb hB) (fun _ _ x => x)
theorem TGh.init (h : TrG w base p N T f m) : TGh w w base p p N T f m := ⟨h, rfl, ⟨rfl, rfl, rfl⟩, Kept.refl _ _, fun _ x => .inl x⟩
theorem TGh.trans (h : TGh w w' base p p' N T' f' m') (q : TGh w' w2 base p' p2 N T2 f2 m2) : TGh w w2 base p p2 N T2 f2 m2 :=
  ⟨q.tr, q.g.trans h.g, ⟨q.c.1.trans h.c.1, q.c.2.1.trans h.c.2.1, q.c.2.2.trans h.c.2.2⟩, h.K.trans q.K (fun b hb x => by rcases h.foot b x with y | y; exact y; omega), fun b x => by
    rcases q.foot b x with y | y
    · exact h.foot b y
    · exact .inr (Nat.le_trans h.K.size y)⟩
theorem TGh.below (h : TGh w w' base p p' N T' f' m') (hb : Below B w' w2) (hB : w'.heap.size ≤ B) : TGh w w2 base p p' N T' f' m' :=
  ⟨h.tr.below hb hB, h.g, h.c, h.K.trans (Kept.of_below (F := fun _ => False) hb hB) (fun _ _ x => x.elim), h.foot⟩
theorem TGh.kept (h : TGh w w' base p p' N T' f' m') (K : Kept F w' w2) (hF : ∀ b, F b → w.heap.size ≤ b ∧ ¬ p'.foot b) : TGh w w2 base p p' N T' f' m' :=
  ⟨h.tr.kept K (fun b e x => (hF b x).2 e), h.g, h.c, h.K.trans K (fun b hb x => by have := (hF b x).1; omega), h.foot⟩
theorem TGh.pre (h : TGh w' w2 base p p' N T' f' m') (hb : Below B w w') (hB : w.heap.size ≤ B) : TGh w w2 base p p' N T' f' m' :=
  ⟨h.tr, h.g, h.c, (Kept.of_below (F := p.foot) hb hB).trans h.K (fun _ _ x => x), fun b x => by
    rcases h.foot b x with y | y
    · exact .inl y
    · exact .inr (Nat.le_trans hb.size y)⟩
theorem TGh.away (h : TGh w w' base p p' N T' f' m') {b : Nat} (h1 : ¬ p.foot b) (h2 : b < w.heap.size) : ¬ p'.foot b := fun x => by
  rcases h.foot b x with y | y
  · exact h1 y
  · omega
theorem TGh.bel (h : TGh w w' base p p' N T' f' m') (h0 : TrG w base p N T f m) : Below base w w' := h.K.below (Nat.le_trans h0.bases.2 (Nat.le_of_lt h0.blk.lt)) (fun b x => (h0.foot_base b x).1)
theorem TGh.gblk (h : TGh w w' base p p' N T' f' m') : Blk w' p.g 87 [.pointer (some ⟨p.k.g, 0, none⟩), .pointer (some ⟨p.a.m, 0, none⟩), .map (some p.F)] := by
  have := h.tr.blk
  rwa [h.g, h.c.1, h.c.2.1, h.c.2.2] at this
/-- the cache has turned, and tells the same nodes -/
theorem TrG.onC (h : TrG w base p N T f m) {k' : Cw} {s' : Ca} (c : CCh w w' base p.d p.d p.k k' p.t s') (ok : CaOk p.t.n s') (cons : Cons p.t s') (hs : Says p.t s' T' N) : TGh w w' base p { p with k := k', s := s' } N T' f m := by
  have hk : ∀ b, p.a.foot b ∨ b = p.F ∨ b = p.g → ¬ hardC p.d p.k b := fun b e x => by
    have := h.apC b (hard_foot x)
    rcases e with e | e | e
    · exact this.1 e
    · exact this.2.1 e
    · exact this.2.2 e
  have hf : ∀ b, footC p.d k' b → footC p.d p.k b ∨ w.heap.size ≤ b := c.foot
  have hlt := h.foot_base
  refine ⟨⟨c.cd, ok, cons, h.n, h.al.kept c.K (fun b e => hk b (.inl e)), h.mp.block (c.K.block _ h.mp.lt (hk _ (.inr (.inl rfl)))), ?_, hs, ?_, h.apA, h.apF, h.bases, h.small⟩, rfl, ⟨c.gk, rfl, rfl⟩, ?_, ?_⟩
  · have := c.K.blk h.blk (hk _ (.inr (.inr rfl)))
    show Blk w' p.g _ [.pointer (some ⟨k'.g, 0, none⟩), _, _]
    rw [c.gk]; exact this
  · intro b e
    rcases hf b e with y | y
    · exact h.apC b y
    · refine ⟨fun x => ?_, fun x => ?_, fun x => ?_⟩
      · have := (hlt b (.inr (.inl x))).2; omega
      · have := (hlt b (.inr (.inr (.inl x)))).2; omega
      · have := (hlt b (.inr (.inr (.inr x)))).2; omega
  · exact c.K.mono (fun b _ x => .inl (hard_foot x))
  · rintro b (e | e | e | e)
    · rcases hf b e with y | y
      · exact .inl (.inl y)
      · exact .inr y
    · exact .inl (.inr (.inl e))
    · exact .inl (.inr (.inr (.inl e)))
    · exact .inl (.inr (.inr (.inr e)))
/-- the map of free blocks has turned -/
theorem TrG.onA (h : TrG w base p N T f m) {a' : AlW} (c : ACh w w' base p.a a' N f') : TGh w w' base p { p with a := a' } N T f' m := by
  have hk : ∀ b, footC p.d p.k b ∨ b = p.F ∨ b = p.g → ¬ p.a.foot b := fun b e x => by
    rcases e with e | e | e
    · exact (h.apC b e).1 x
    · exact (h.apA b x).1 e
    · exact (h.apA b x).2 e
  have hlt := h.foot_base
  refine ⟨⟨h.cd.kept c.K (fun b e => hk b (.inl e)), h.ok, h.cons, h.n, c.al, h.mp.block (c.K.block _ h.mp.lt (hk _ (.inr (.inl rfl)))), ?_, h.says, ?_, ?_, h.apF, h.bases, h.small⟩, rfl, ⟨rfl, c.m, rfl⟩, c.K.mono (fun b _ x => .inr (.inl x)), ?_⟩
  · have := c.K.blk h.blk (hk _ (.inr (.inr rfl)))
    show Blk w' p.g _ [_, .pointer (some ⟨a'.m, 0, none⟩), _]
    rw [c.m]; exact this
  · intro b e
    refine ⟨fun x => ?_, (h.apC b e).2⟩
    rcases c.foot b x with y | y
    · exact (h.apC b e).1 y
    · have := (hlt b (.inl e)).2; omega
  · intro b e
    rcases c.foot b e with y | y
    · exact h.apA b y
    · refine ⟨fun x => ?_, fun x => ?_⟩
      · have := (hlt b (.inr (.inr (.inl x)))).2; omega
      · have := (hlt b (.inr (.inr (.inr x)))).2; omega
  · rintro b (e | e | e | e)
    · exact .inl (.inl e)
    · rcases c.foot b e with y | y
      · exact .inl (.inr (.inl y))
      · exact .inr y
    · exact .inl (.inr (.inr (.inl e)))
    · exact .inl (.inr (.inr (.inr e)))
/-- the map of new blocks has turned -/
theorem TrG.onF (h : TrG w base p N T f m) (hm : Mp w' p.F (50 + N) m') (hg : w.grownBy w' (some p.F)) : TGh w w' base p p N T f m' := by
  have K : Kept (fun b => b = p.F) w w' := Kept.of_grown hg (fun b e => (Option.some.inj e).symm)
  refine ⟨⟨h.cd.kept K (fun b e => (h.apC b e).2.1), h.ok, h.cons, h.n, h.al.kept K (fun b e => (h.apA b e).1), hm, K.blk h.blk (fun e => h.apF e.symm), h.says, h.apC, h.apA, h.apF, h.bases, h.small⟩, rfl, ⟨rfl, rfl, rfl⟩, K.mono (fun b _ e => .inr (.inr (.inl e))), fun b e => .inl e⟩
theorem TrG.congr (h : TrG w base p N T f m) (hf : ∀ n, 50 ≤ n → n < 50 + N → f' n = f n) (hm : ∀ n, n < 50 + N → m' n = m n) : TrG w base p N T f' m' :=
  ⟨h.cd, h.ok, h.cons, h.n, h.al.congr hf, h.mp.congr hm, h.blk, h.says, h.apC, h.apA, h.apF, h.bases, h.small⟩
theorem TGh.congr (h : TGh w w' base p p' N T' f m) (hf : ∀ n, 50 ≤ n → n < 50 + N → f' n = f n) (hm : ∀ n, n < 50 + N → m' n = m n) : TGh w w' base p p' N T' f' m' := ⟨h.tr.congr hf hm, h.g, h.c, h.K, h.foot⟩
/-- what one block has changes what is said -/
theorem Says.upd {t : Dsk} {s s' : Ca} {n : Nat} {nd : Nd} (h : Says t s T N) (h1 : 50 ≤ n) (h2 : n < 50 + N) (hm : mayN nd) (hk : nd.keys.length ≤ 240) (hc : ∀ j, cont t s' j = if j = n then (0, kindN nd, bodyN nd) else cont t s j) : Says t s' (updT T n (some nd)) N := by
  intro j x hj
  have hj : (if j = n then some nd else T j) = some x := hj
  by_cases e : j = n
  · rw [if_pos e] at hj; injection hj with hj; subst hj
    exact ⟨by omega, by omega, hm, hk, by rw [hc, if_pos e]⟩
  · rw [if_neg e] at hj
    obtain ⟨a1, a2, a3, a4, a5⟩ := h j x hj
    exact ⟨a1, a2, a3, a4, by rw [hc, if_neg e]; exact a5⟩
theorem Says.none_ {t : Dsk} {s s' : Ca} {n : Nat} (h : Says t s T N) (hc : ∀ j, j ≠ n → cont t s' j = cont t s j) : Says t s' (updT T n none) N := by
  intro j x hj
  have hj : (if j = n then none else T j) = some x := hj
  by_cases e : j = n
  · rw [if_pos e] at hj; cases hj
  · rw [if_neg e] at hj
    obtain ⟨a1, a2, a3, a4, a5⟩ := h j x hj
    exact ⟨a1, a2, a3, a4, by rw [hc j e]; exact a5⟩
theorem Says.same {t : Dsk} {s s' : Ca} (h : Says t s T N) (hc : ∀ j, cont t s' j = cont t s j) : Says t s' T N := by
  intro j x hj
  obtain ⟨a1, a2, a3, a4, a5⟩ := h j x hj
  exact ⟨a1, a2, a3, a4, by rw [hc j]; exact a5⟩
theorem forget_cont {t : Dsk} {s : Ca} {n : Nat} (h : CaOk (50 + N) s) (hc : Cons t s) : (∀ j, j ≠ n → cont t (forgetC s (n : Int)) j = cont t s j) ∧ Cons t (forgetC s (n : Int)) := by
  have e : ∀ j, (forgetC s (n : Int)).blocks j = if (j : Int) = (n : Int) then none else s.blocks j := fun _ => rfl
  have e2 : ∀ j, (forgetC s (n : Int)).dirty j = if (j : Int) = (n : Int) then false else s.dirty j := fun _ => rfl
  refine ⟨fun j hj => ?_, fun j x hx hd => ?_⟩
  · unfold cont; rw [e, if_neg (by omega)]
  · rw [e] at hx; rw [e2] at hd
    by_cases hj : (j : Int) = (n : Int)
    · rw [if_pos hj] at hx; cases hx
    · rw [if_neg hj] at hx hd; exact hc j x hx hd
end
abbrev TrM (w : World) (base : Nat) (p : TrS) (N : Nat) (T : Nodes) : Prop := TrG w base p N T (frT T) (fsM T)
abbrev TCh (w w' : World) (base : Nat) (p p' : TrS) (N : Nat) (T' : Nodes) : Prop := TGh w w' base p p' N T' (frT T') (fsM T')
end Go.Proofs.Ytdakohbfibcjeaa
