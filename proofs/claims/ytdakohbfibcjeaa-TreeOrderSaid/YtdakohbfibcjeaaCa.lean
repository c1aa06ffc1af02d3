/- A cache over a disk, in memory: what each small change leaves. No condition. -/
import Derived.Test.YtdakohbfibcjeaaTvC
namespace Go.Proofs.Ytdakohbfibcjeaa
open Go.RowKit Go.Maps
set_option linter.unusedSimpArgs false
set_option linter.unusedVariables false

/-- a block in a cache: its kind and its bytes -/
structure Bk where
  k : Nat
  b : List UInt8
/-- a cache: its room, its blocks, which of them are dirty, the order of the clean ones -/
structure Ca where
  room : Nat
  blocks : Nat → Option Bk
  dirty : Nat → Bool
  order : List Nat
structure Bw where
  A : Option Addr
  c : Nat
  m : Nat
/-- where a cache lies -/
structure Cw where
  g : Nat
  B : Nat
  D : Nat
  v : Nat → Bw
  oA : Option Addr
  oc : Nat
def Cw.core (k : Cw) : Nat → Prop := fun b => b = k.g ∨ b = k.B ∨ b = k.D ∨ ablk k.oA = some b
def Cw.body (k : Cw) : Nat → Prop := fun b => ∃ n, 0 < (k.v n).m ∧ ablk (k.v n).A = some b
def bkV (a : Bw) (x : Bk) : Value := .agg #[.int .i64 (x.k : Int), .slice a.A x.b.length a.c]
def bkM (k : Cw) (s : Ca) (n : Nat) : Option Value := (s.blocks n).map (bkV (k.v n))
def drM (s : Ca) (n : Nat) : Option Value := if s.dirty n then some (.agg #[]) else none
structure Ck (w : World) (base gd N : Nat) (k : Cw) (s : Ca) : Prop where
  blk : Blk w k.g 81 [.pointer (some ⟨gd, 0, none⟩), .int .i64 (s.room : Int), .map (some k.B), .map (some k.D), .slice k.oA s.order.length k.oc]
  bm : Mp w k.B N (bkM k s)
  dm : Mp w k.D N (drM s)
  ord : Oz w base k.oA s.order.length k.oc s.order
  bod : ∀ n x, s.blocks n = some x → Bs w base (k.v n).A x.b.length (k.v n).c x.b ∧ (k.v n).m = x.b.length
  out : ∀ n, s.blocks n = none → (k.v n).m = 0
  bases : base ≤ k.g ∧ base ≤ k.B ∧ base ≤ k.D
  bodb : ∀ b, k.body b → ¬ k.core b
  ne : k.B ≠ k.g ∧ k.D ≠ k.g ∧ k.D ≠ k.B
  neo : ablk k.oA ≠ some k.g ∧ ablk k.oA ≠ some k.B ∧ ablk k.oA ≠ some k.D
section
variable {F : Nat → Prop} {w w' w1 w2 : World} {base gd N : Nat} {k : Cw} {s : Ca}
theorem Ck.core_base (h : Ck w base gd N k s) : ∀ b, k.core b → base ≤ b ∧ b < w.heap.size := by
  rintro b (rfl | rfl | rfl | e)
  · exact ⟨h.bases.1, h.blk.lt⟩
  · exact ⟨h.bases.2.1, h.bm.lt⟩
  · exact ⟨h.bases.2.2, h.dm.lt⟩
  · exact h.ord.blk e
theorem Ck.body_base (h : Ck w base gd N k s) : ∀ b, k.body b → base ≤ b ∧ b < w.heap.size := by
  rintro b ⟨n, hm, e⟩
  cases hx : s.blocks n with
  | none => rw [h.out n hx] at hm; omega
  | some x =>
    obtain ⟨h1, h2⟩ := h.bod n x hx
    obtain ⟨b', o, e2, h3, h4⟩ := h1.at_ (by omega)
    rw [e2] at e
    injection e with e
    have e : b' = b := e
    subst e
    exact ⟨h3, h4⟩
theorem Ck.kept (h : Ck w base gd N k s) (K : Kept F w w') (hF : ∀ b, k.core b ∨ k.body b → ¬ F b) : Ck w' base gd N k s :=
  ⟨K.blk h.blk (hF _ (.inl (.inl rfl))), h.bm.block (K.block _ h.bm.lt (hF _ (.inl (.inr (.inl rfl))))), h.dm.block (K.block _ h.dm.lt (hF _ (.inl (.inr (.inr (.inl rfl)))))),
   h.ord.kept K (fun b e => hF b (.inl (.inr (.inr (.inr e))))), fun n x hx => ⟨(h.bod n x hx).1.kept K (fun hm b e => hF b (.inr ⟨n, by rw [(h.bod n x hx).2]; exact hm, e⟩)), (h.bod n x hx).2⟩, h.out, h.bases, h.bodb, h.ne, h.neo⟩
theorem Ck.below {B : Nat} (h : Ck w base gd N k s) (hb : Below B w w') (hB : w.heap.size ≤ B) : Ck w' base gd N k s := h.kept (F := fun _ => False) (Kept.of_below hb hB) (fun _ _ x => x)
end

/-- a disk and a cache over it -/
structure CD (w : World) (base : Nat) (d : Dw) (k : Cw) (t : Dsk) (s : Ca) : Prop where
  dk : Dk w base d t
  ck : Ck w base d.g t.n k s
  ap : ∀ b, d.foot b → ¬ k.core b ∧ ¬ k.body b
def footC (d : Dw) (k : Cw) : Nat → Prop := fun b => d.foot b ∨ k.core b ∨ k.body b
/-- what may be written -/
def hardC (d : Dw) (k : Cw) : Nat → Prop := fun b => d.foot b ∨ k.core b
theorem hard_foot {d : Dw} {k : Cw} {b : Nat} (h : hardC d k b) : footC d k b := by rcases h with h | h; exact .inl h; exact .inr (.inl h)
structure CCh (w w' : World) (base : Nat) (d d' : Dw) (k k' : Cw) (t' : Dsk) (s' : Ca) : Prop where
  cd : CD w' base d' k' t' s'
  gd : d'.g = d.g
  gk : k'.g = k.g
  K : Kept (hardC d k) w w'
  hard : ∀ b, hardC d' k' b → hardC d k b ∨ w.heap.size ≤ b
  foot : ∀ b, footC d' k' b → footC d k b ∨ w.heap.size ≤ b
section
variable {F : Nat → Prop} {w w' w1 w2 : World} {base : Nat} {d d' d2 : Dw} {k k' k2 : Cw} {t t' t2 : Dsk} {s s' s2 : Ca}
theorem CD.foot_base (h : CD w base d k t s) : ∀ b, footC d k b → base ≤ b ∧ b < w.heap.size := by
  rintro b (e | e | e)
  · exact h.dk.foot_base b e
  · exact h.ck.core_base b e
  · exact h.ck.body_base b e
theorem CD.kept (h : CD w base d k t s) (K : Kept F w w') (hF : ∀ b, footC d k b → ¬ F b) : CD w' base d k t s :=
  ⟨h.dk.kept K (fun b e => hF b (.inl e)), h.ck.kept K (fun b e => hF b (.inr e)), h.ap⟩
theorem CD.below {B : Nat} (h : CD w base d k t s) (hb : Below B w w') (hB : w.heap.size ≤ B) : CD w' base d k t s := h.kept (F := fun _ => False) (Kept.of_below hb hB) (fun _ _ x => x)
theorem CD.drewN (h : CD w base d k t s) (n : Nat) : CD (w.drewN n) base d k t s := h.below (below_drewN (Below.refl _ _) n) (Nat.le_refl _)
theorem CCh.init (h : CD w base d k t s) : CCh w w base d d k k t s := ⟨h, rfl, rfl, Kept.refl _ _, fun _ x => .inl x, fun _ x => .inl x⟩
theorem CCh.trans (h : CCh w w' base d d' k k' t' s') (q : CCh w' w2 base d' d2 k' k2 t2 s2) : CCh w w2 base d d2 k k2 t2 s2 :=
  ⟨q.cd, q.gd.trans h.gd, q.gk.trans h.gk, h.K.trans q.K (fun b hb x => by rcases h.hard b x with y | y; exact y; omega), fun b hb => by
    rcases q.hard b hb with y | y
    · exact h.hard b y
    · exact .inr (Nat.le_trans h.K.size y), fun b hb => by
    rcases q.foot b hb with y | y
    · exact h.foot b y
    · exact .inr (Nat.le_trans h.K.size y)⟩
theorem CCh.below {B : Nat} (h : CCh w w' base d d' k k' t' s') (hb : Below B w' w2) (hB : w'.heap.size ≤ B) : CCh w w2 base d d' k k' t' s' :=
  ⟨h.cd.below hb hB, h.gd, h.gk, h.K.trans (Kept.of_below (F := fun _ => False) hb hB) (fun _ _ x => x.elim), h.hard, h.foot⟩
theorem CCh.pre {B : Nat} (h : CCh w' w2 base d d' k k' t' s') (hb : Below B w w') (hB : w.heap.size ≤ B) : CCh w w2 base d d' k k' t' s' :=
  ⟨h.cd, h.gd, h.gk, (Kept.of_below (F := hardC d k) hb hB).trans h.K (fun _ _ x => x), fun b hb2 => by
    rcases h.hard b hb2 with y | y
    · exact .inl y
    · exact .inr (Nat.le_trans hb.size y), fun b hb2 => by
    rcases h.foot b hb2 with y | y
    · exact .inl y
    · exact .inr (Nat.le_trans hb.size y)⟩
theorem CCh.bel (h : CCh w w' base d d' k k' t' s') (h0 : CD w base d k t s) : Below base w w' := h.K.below (Nat.le_trans (h0.ck.bases.1) (Nat.le_of_lt h0.ck.blk.lt)) (fun b x => (h0.foot_base b (hard_foot x)).1)
theorem CCh.away (h : CCh w w' base d d' k k' t' s') {b : Nat} (h1 : ¬ footC d k b) (h2 : b < w.heap.size) : ¬ footC d' k' b := fun x => by
  rcases h.foot b x with y | y
  · exact h1 y
  · omega
/-- the disk has turned -/
theorem CD.onD (h : CD w base d k t s) (c : Ch w w' base d d' t') (hn : t'.n = t.n) : CCh w w' base d d' k k t' s := by
  have hk : ∀ b, k.core b ∨ k.body b → ¬ d.foot b := fun b e x => by
    rcases e with e | e
    · exact (h.ap b x).1 e
    · exact (h.ap b x).2 e
  refine ⟨⟨c.dk, ?_, fun b x => ?_⟩, c.g, rfl, c.K.mono (fun b _ x => .inl x), fun b x => ?_, fun b x => ?_⟩
  · rw [c.g, hn]; exact h.ck.kept c.K hk
  · rcases c.foot b x with y | y
    · exact h.ap b y
    · exact ⟨fun e => by have := (h.ck.core_base b e).2; omega, fun e => by have := (h.ck.body_base b e).2; omega⟩
  · rcases x with x | x
    · rcases c.foot b x with y | y
      · exact .inl (.inl y)
      · exact .inr y
    · exact .inl (.inr x)
  · rcases x with x | x
    · rcases c.foot b x with y | y
      · exact .inl (.inl y)
      · exact .inr y
    · exact .inl (.inr x)

/-- a block is struck out of the map of blocks -/
def delB (s : Ca) (z : Int) : Ca := { s with blocks := fun n => if (n : Int) = z then none else s.blocks n }
def delD (s : Ca) (z : Int) : Ca := { s with dirty := fun n => if (n : Int) = z then false else s.dirty n }
def putB (s : Ca) (n : Nat) (x : Bk) : Ca := { s with blocks := fun j => if j = n then some x else s.blocks j }
def putD (s : Ca) (n : Nat) : Ca := { s with dirty := fun j => if j = n then true else s.dirty j }
def setO (s : Ca) (l : List Nat) : Ca := { s with order := l }
theorem CD.delB_ (h : CD w base d k t s) {z : Int} (hm : Mp w' k.B t.n (delM (bkM k s) z)) (hg : w.grownBy w' (some k.B)) :
    ∃ k', CCh w w' base d d k k' t (delB s z) := by
  have K : Kept (fun b => b = k.B) w w' := Kept.of_grown hg (fun b e => (Option.some.inj e).symm)
  have hb := h.ck.bodb
  have hc := h.ck
  refine ⟨{ k with v := fun n => if (n : Int) = z then ⟨none, 0, 0⟩ else k.v n }, ⟨h.dk.kept K (fun b e x => (h.ap b e).1 (.inr (.inl x))), ?_, fun b e => ⟨(h.ap b e).1, ?_⟩⟩, rfl, rfl, K.mono (fun b _ e => .inr (.inr (.inl e))), fun b e => .inl e, fun b e => ?_⟩
  · refine ⟨K.blk hc.blk (fun e => hc.ne.1 e.symm), hm.congr (fun n hn => ?_), hc.dm.block (K.block _ hc.dm.lt (fun e => hc.ne.2.2 e)), hc.ord.kept K (fun b e x => hc.neo.2.1 (by rw [e, x])), fun n x hx => ?_, fun n hx => ?_, hc.bases, fun b e => ?_, hc.ne, hc.neo⟩
    · show ((if (n : Int) = z then none else s.blocks n).map (bkV (if (n : Int) = z then ⟨none, 0, 0⟩ else k.v n))) = (if (n : Int) = z then none else bkM k s n)
      split
      · rfl
      · rfl
    · have hx : (if (n : Int) = z then none else s.blocks n) = some x := hx
      by_cases e : (n : Int) = z
      · rw [if_pos e] at hx; cases hx
      · rw [if_neg e] at hx
        have e2 : (if (n : Int) = z then (⟨none, 0, 0⟩ : Bw) else k.v n) = k.v n := if_neg e
        show Bs w' base (if (n : Int) = z then (⟨none, 0, 0⟩ : Bw) else k.v n).A _ (if (n : Int) = z then (⟨none, 0, 0⟩ : Bw) else k.v n).c _ ∧ (if (n : Int) = z then (⟨none, 0, 0⟩ : Bw) else k.v n).m = _
        rw [e2]
        exact ⟨(hc.bod n x hx).1.kept K (fun hm b e y => hb b ⟨n, by rw [(hc.bod n x hx).2]; exact hm, e⟩ (.inr (.inl y))), (hc.bod n x hx).2⟩
    · show (if (n : Int) = z then (⟨none, 0, 0⟩ : Bw) else k.v n).m = 0
      have hx : (if (n : Int) = z then none else s.blocks n) = none := hx
      by_cases e : (n : Int) = z
      · rw [if_pos e]
      · rw [if_neg e] at hx ⊢; exact hc.out n hx
    · obtain ⟨n, hm, e⟩ := e
      have hm : 0 < (if (n : Int) = z then (⟨none, 0, 0⟩ : Bw) else k.v n).m := hm
      have e : ablk (if (n : Int) = z then (⟨none, 0, 0⟩ : Bw) else k.v n).A = some b := e
      by_cases ez : (n : Int) = z
      · rw [if_pos ez] at hm; exact absurd hm (by decide)
      · rw [if_neg ez] at hm e; exact hb b ⟨n, hm, e⟩
  · rintro ⟨n, hm, e2⟩
    have hm : 0 < (if (n : Int) = z then (⟨none, 0, 0⟩ : Bw) else k.v n).m := hm
    have e2 : ablk (if (n : Int) = z then (⟨none, 0, 0⟩ : Bw) else k.v n).A = some b := e2
    by_cases ez : (n : Int) = z
    · rw [if_pos ez] at hm; exact absurd hm (by decide)
    · rw [if_neg ez] at hm e2; exact (h.ap b e).2 ⟨n, hm, e2⟩
  · rcases e with e | e | ⟨n, hm, e⟩
    · exact .inl (.inl e)
    · exact .inl (.inr (.inl e))
    · have hm : 0 < (if (n : Int) = z then (⟨none, 0, 0⟩ : Bw) else k.v n).m := hm
      have e : ablk (if (n : Int) = z then (⟨none, 0, 0⟩ : Bw) else k.v n).A = some b := e
      by_cases ez : (n : Int) = z
      · rw [if_pos ez] at hm; exact absurd hm (by decide)
      · rw [if_neg ez] at hm e; exact .inl (.inr (.inr ⟨n, hm, e⟩))
/-- the map of dirty ones has turned -/
theorem CD.onDirty (h : CD w base d k t s) {f : Nat → Bool} (hm : Mp w' k.D t.n (drM { s with dirty := f })) (hg : w.grownBy w' (some k.D)) : CCh w w' base d d k k t { s with dirty := f } := by
  have K : Kept (fun b => b = k.D) w w' := Kept.of_grown hg (fun b e => (Option.some.inj e).symm)
  have hc := h.ck
  refine ⟨⟨h.dk.kept K (fun b e x => (h.ap b e).1 (.inr (.inr (.inl x)))), ?_, h.ap⟩, rfl, rfl, K.mono (fun b _ e => .inr (.inr (.inr (.inl e)))), fun b e => .inl e, fun b e => .inl e⟩
  exact ⟨K.blk hc.blk (fun e => hc.ne.2.1 e.symm), hc.bm.block (K.block _ hc.bm.lt (fun e => hc.ne.2.2 e.symm)), hm, hc.ord.kept K (fun b e x => hc.neo.2.2 (by rw [e, x])), fun n x hx => ⟨(hc.bod n x hx).1.kept K (fun hm b e y => hc.bodb b ⟨n, by rw [(hc.bod n x hx).2]; exact hm, e⟩ (.inr (.inr (.inl y)))), (hc.bod n x hx).2⟩, hc.out, hc.bases, hc.bodb, hc.ne, hc.neo⟩
theorem CD.delD_ (h : CD w base d k t s) {z : Int} (hm : Mp w' k.D t.n (delM (drM s) z)) (hg : w.grownBy w' (some k.D)) : CCh w w' base d d k k t (delD s z) :=
  h.onDirty (hm.congr (fun n hn => by
    show (if (if (n : Int) = z then false else s.dirty n) = true then some (Value.agg #[]) else none) = (if (n : Int) = z then none else (if s.dirty n = true then some (Value.agg #[]) else none))
    by_cases e : (n : Int) = z
    · rw [if_pos e, if_pos e]; rfl
    · rw [if_neg e, if_neg e])) hg
theorem CD.putD_ (h : CD w base d k t s) {n : Nat} (hm : Mp w' k.D t.n (updM (drM s) n (some (.agg #[])))) (hg : w.grownBy w' (some k.D)) : CCh w w' base d d k k t (putD s n) :=
  h.onDirty (hm.congr (fun j hn => by
    show (if (if j = n then true else s.dirty j) = true then some (Value.agg #[]) else none) = (if j = n then some (Value.agg #[]) else (if s.dirty j = true then some (Value.agg #[]) else none))
    by_cases e : j = n
    · rw [if_pos e, if_pos e]; rfl
    · rw [if_neg e, if_neg e])) hg
/-- a block that was made meanwhile comes to the map of blocks -/
theorem CD.putB_ {w0 : World} (h0 : CD w0 base d k t s) (hb0 : Below w0.heap.size w0 w) {n : Nat} {x : Bk} {A : Option Addr} {c : Nat} (hx : Bs w base A x.b.length c x.b) (hA : 0 < x.b.length → ∀ b, ablk A = some b → w0.heap.size ≤ b)
    (hm : Mp w' k.B t.n (updM (bkM k s) n (some (bkV ⟨A, c, x.b.length⟩ x)))) (hg : w.grownBy w' (some k.B)) : ∃ k', CCh w0 w' base d d k k' t (putB s n x) ∧ (∀ b, hardC d k' b → hardC d k b) ∧ (∀ b, footC d k' b → footC d k b ∨ (0 < x.b.length ∧ ablk A = some b)) := by
  have h := h0.below hb0 (Nat.le_refl _)
  have K : Kept (fun b => b = k.B) w w' := Kept.of_grown hg (fun b e => (Option.some.inj e).symm)
  have hb := h.ck.bodb
  have hc := h.ck
  have e1 : (fun j => if j = n then (⟨A, c, x.b.length⟩ : Bw) else k.v j) n = ⟨A, c, x.b.length⟩ := if_pos rfl
  have e2 : ∀ j, j ≠ n → (fun j => if j = n then (⟨A, c, x.b.length⟩ : Bw) else k.v j) j = k.v j := fun j hj => if_neg hj
  obtain ⟨v', hv'⟩ : ∃ v', v' = (fun j => if j = n then (⟨A, c, x.b.length⟩ : Bw) else k.v j) := ⟨_, rfl⟩
  rw [← hv'] at e1 e2
  clear hv'
  have f1 : (putB s n x).blocks n = some x := if_pos rfl
  have f2 : ∀ j, j ≠ n → (putB s n x).blocks j = s.blocks j := fun j hj => if_neg hj
  have hnew : ∀ b, ({ k with v := v' } : Cw).body b → k.body b ∨ ((w0.heap.size ≤ b ∧ b < w.heap.size) ∧ (0 < x.b.length ∧ ablk A = some b)) := fun b => by
    rintro ⟨j, hp, e⟩
    have hp : 0 < (v' j).m := hp
    have e : ablk (v' j).A = some b := e
    by_cases ej : j = n
    · subst ej
      rw [e1] at hp e
      refine .inr ⟨⟨hA hp b e, ?_⟩, hp, e⟩
      obtain ⟨b', o, e3, _, h4⟩ := hx.at_ hp
      rw [e3] at e
      injection e with e
      have e : b' = b := e
      rw [← e]; exact h4
    · rw [e2 j ej] at hp e; exact .inl ⟨j, hp, e⟩
  have hcore : ∀ b, footC d k b → b < w0.heap.size := fun b e => (h0.foot_base b e).2
  refine ⟨{ k with v := v' }, ⟨⟨h.dk.kept K (fun b e x => (h.ap b e).1 (.inr (.inl x))), ?_, fun b e => ⟨(h.ap b e).1, fun y => ?_⟩⟩, rfl, rfl, (Kept.of_below (F := hardC d k) hb0 (Nat.le_refl _)).trans K (fun b _ e => .inr (.inr (.inl e))), fun b e => .inl e, fun b e => ?_⟩, fun b e => e, fun b e => ?_⟩
  · refine ⟨K.blk hc.blk (fun e => hc.ne.1 e.symm), hm.congr (fun j hn => ?_), hc.dm.block (K.block _ hc.dm.lt (fun e => hc.ne.2.2 e)), hc.ord.kept K (fun b e x => hc.neo.2.1 (by rw [e, x])), fun j y hy => ?_, fun j hy => ?_, hc.bases, fun b e => ?_, hc.ne, hc.neo⟩
    · show ((putB s n x).blocks j).map (bkV (v' j)) = (if j = n then some (bkV ⟨A, c, x.b.length⟩ x) else bkM k s j)
      by_cases e : j = n
      · subst e; rw [f1, e1, if_pos rfl]; rfl
      · rw [f2 j e, e2 j e, if_neg e]; rfl
    · show Bs w' base (v' j).A _ (v' j).c _ ∧ (v' j).m = _
      by_cases e : j = n
      · subst e
        rw [f1] at hy
        injection hy with hy
        subst hy
        rw [e1]
        exact ⟨hx.kept K (fun hm b e y => by have h1 := hA hm b e; have h2 := hcore b (.inr (.inl (.inr (.inl y)))); omega), rfl⟩
      · rw [f2 j e] at hy
        rw [e2 j e]
        exact ⟨(hc.bod j y hy).1.kept K (fun hm b e z => hb b ⟨j, by rw [(hc.bod j y hy).2]; exact hm, e⟩ (.inr (.inl z))), (hc.bod j y hy).2⟩
    · show (v' j).m = 0
      by_cases e : j = n
      · subst e; rw [f1] at hy; cases hy
      · rw [f2 j e] at hy; rw [e2 j e]; exact hc.out j hy
    · rcases hnew b e with y | y
      · exact hb b y
      · exact fun z => by have := hcore b (.inr (.inl z)); omega
  · rcases hnew b y with y | y
    · exact (h.ap b e).2 y
    · have := hcore b (.inl e); omega
  · rcases e with e | e | e
    · exact .inl (.inl e)
    · exact .inl (.inr (.inl e))
    · rcases hnew b e with y | y
      · exact .inl (.inr (.inr y))
      · exact .inr y.1.1
  · rcases e with e | e | e
    · exact .inl (.inl e)
    · exact .inl (.inr (.inl e))
    · rcases hnew b e with y | y
      · exact .inl (.inr (.inr y))
      · exact .inr y.2
/-- the order has turned, and is stored -/
theorem CD.setO_ (h : CD w base d k t s) (K1 : Kept (fun b => ablk k.oA = some b) w w1) {A : Option Addr} {m c : Nat} {l : List Nat} (ho : Oz w1 base A m c l) (hA : ablk A = ablk k.oA ∨ ∃ b, ablk A = some b ∧ w.heap.size ≤ b) :
    CCh w (w1.setCell ⟨k.g, 4, none⟩ (.slice A m c)) base d d k { k with oA := A, oc := c } t (setO s l) := by
  have hc := h.ck
  have hm : l.length = m := ho.1
  have K2 : Kept (fun b => b = k.g) w1 (w1.setCell ⟨k.g, 4, none⟩ (.slice A m c)) := ⟨rfl, rfl, rfl, by simp, fun b _ hne => Below.heap_setCell w1 _ _ b (fun e => hne e)⟩
  have K : Kept (fun b => ablk k.oA = some b ∨ b = k.g) w (w1.setCell ⟨k.g, 4, none⟩ (.slice A m c)) := (K1.mono (fun b _ e => .inl e)).trans K2 (fun b _ e => .inr e)
  have hAF : ∀ b, ablk A = some b → ablk k.oA = some b ∨ w.heap.size ≤ b := fun b e => by
    rcases hA with h1 | ⟨b', h1, h2⟩
    · exact .inl (by rw [← h1]; exact e)
    · rw [h1] at e; injection e with e; exact .inr (by rw [← e]; exact h2)
  have hlt := fun b e => (h.foot_base b e).2
  have nA : ablk A ≠ some k.g ∧ ablk A ≠ some k.B ∧ ablk A ≠ some k.D := by
    refine ⟨fun e => ?_, fun e => ?_, fun e => ?_⟩
    · rcases hAF _ e with y | y
      · exact hc.neo.1 y
      · have := hlt k.g (.inr (.inl (.inl rfl))); omega
    · rcases hAF _ e with y | y
      · exact hc.neo.2.1 y
      · have := hlt k.B (.inr (.inl (.inr (.inl rfl)))); omega
    · rcases hAF _ e with y | y
      · exact hc.neo.2.2 y
      · have := hlt k.D (.inr (.inl (.inr (.inr (.inl rfl))))); omega
  have hcore : ∀ b, ({ k with oA := A, oc := c } : Cw).core b → k.core b ∨ w.heap.size ≤ b := by
    rintro b (e | e | e | e)
    · exact .inl (.inl e)
    · exact .inl (.inr (.inl e))
    · exact .inl (.inr (.inr (.inl e)))
    · rcases hAF b e with y | y
      · exact .inl (.inr (.inr (.inr y)))
      · exact .inr y
  have b1 : Blk w1 k.g 81 [.pointer (some ⟨d.g, 0, none⟩), .int .i64 (s.room : Int), .map (some k.B), .map (some k.D), .slice k.oA s.order.length k.oc] := K1.blk hc.blk hc.neo.1
  refine ⟨⟨h.dk.kept K (fun b e x => (h.ap b e).1 (by rcases x with x | x; exact .inr (.inr (.inr x)); exact .inl x)), ?_, fun b e => ⟨fun y => ?_, (h.ap b e).2⟩⟩, rfl, rfl, K.mono (fun b _ x => .inr (by rcases x with x | x; exact .inr (.inr (.inr x)); exact .inl x)), fun b e => ?_, fun b e => ?_⟩
  · refine ⟨?_, hc.bm.block (K.block _ hc.bm.lt (fun x => by rcases x with x | x; exact hc.neo.2.1 x; exact hc.ne.1 x)), hc.dm.block (K.block _ hc.dm.lt (fun x => by rcases x with x | x; exact hc.neo.2.2 x; exact hc.ne.2.1 x)), ?_, fun n x hx => ⟨(hc.bod n x hx).1.kept K (fun hm b e y => hc.bodb b ⟨n, by rw [(hc.bod n x hx).2]; exact hm, e⟩ (by rcases y with y | y; exact .inr (.inr (.inr y)); exact .inl y)), (hc.bod n x hx).2⟩, hc.out, hc.bases, fun b e y => ?_, hc.ne, nA⟩
    · have := b1.set_ 4 (.slice A m c)
      show Blk _ k.g _ [_, _, _, _, .slice A l.length c]
      rw [hm]
      exact this
    · show Oz _ base A l.length c l
      rw [hm]
      exact ho.kept K2 (fun b e y => nA.1 (by rw [e, y]))
    · rcases hcore b y with z | z
      · exact hc.bodb b e z
      · have := hlt b (.inr (.inr e)); omega
  · rcases hcore b y with z | z
    · exact (h.ap b e).1 z
    · have := hlt b (.inl e); omega
  · rcases e with e | e
    · exact .inl (.inl e)
    · rcases hcore b e with y | y
      · exact .inl (.inr y)
      · exact .inr y
  · rcases e with e | e | e
    · exact .inl (.inl e)
    · rcases hcore b e with y | y
      · exact .inl (.inr (.inl y))
      · exact .inr y
    · exact .inl (.inr (.inr e))
end
end Go.Proofs.Ytdakohbfibcjeaa
