/- What a scan holds in memory: the tree, what is told so far, which blocks were seen. No condition. -/
import Derived.Test.YtdakohbfibcjeaaTrO
import Derived.Test.YtdakohbfibcjeaaPc
import Derived.Test.YtdakohbfibcjeaaTvS
namespace Go.Proofs.Ytdakohbfibcjeaa
open Go.RowKit Go.Maps
set_option linter.unusedSimpArgs false
set_option linter.unusedVariables false

/-- entries as cells -/
def entC (l : List Ent) : List Value := l.flatMap fun x => [.string x.1, .string x.2]
theorem entC_len (l : List Ent) : (entC l).length = l.length * 2 := by
  induction l with
  | nil => rfl
  | cons a l ih => unfold entC at *; rw [List.flatMap_cons, List.length_append, ih, List.length_cons]; simp; omega
theorem entC_app (a b : List Ent) : entC (a ++ b) = entC a ++ entC b := by unfold entC; rw [List.flatMap_append]
theorem entC_one (l : List Ent) : ∀ u ∈ entC l, u.oneCell' = true := by
  intro u hu
  unfold entC at hu
  obtain ⟨x, _, hx⟩ := List.mem_flatMap.1 hu
  simp only [List.mem_cons, List.not_mem_nil, or_false] at hx
  rcases hx with rfl | rfl <;> rfl
theorem infoEnt : (Try.prog.info? 27).map (fun i => (i.zero, i.size, i.bytes)) = some (some (.agg #[.string .empty, .string .empty]), 2, 32) := by kernel_rfl
def setF (S : Nat → Bool) : Nat → Option Value := fun n => if S n then some (.agg #[]) else none
structure ScA where
  go : Nat
  gm : Nat
  gf : Nat
  gt : Nat
  gs : Nat
/-- what a scan turns -/
def ScF (p : TrS) (A : Option Addr) (a : ScA) (b : Nat) : Prop := p.foot b ∨ b = a.go ∨ b = a.gs ∨ ablk A = some b
/-- what stays -/
def ScK (a : ScA) (b : Nat) : Prop := b = a.gm ∨ b = a.gf ∨ b = a.gt
structure Sc (w : World) (base : Nat) (p : TrS) (N : Nat) (T : Nodes) (a : ScA) (A : Option Addr) (n c : Nat) (es : List Ent) (S : Nat → Bool) : Prop where
  tr : TrM w base p N T
  out : Blk w a.go 22 [.slice A n c]
  own : Own w 0 27 2 A n c (entC es)
  most : Blk w a.gm 3 [.int .i64 1000]
  from_ : Blk w a.gf 9 [.string ⟨#[]⟩]
  to_ : Blk w a.gt 9 [.string ⟨#[]⟩]
  seen : Mp w a.gs (50 + N) (setF S)
  ap1 : a.gs ≠ a.go ∧ ablk A ≠ some a.go ∧ ablk A ≠ some a.gs
  ap2 : ¬ p.foot a.go ∧ ¬ p.foot a.gs ∧ ∀ b, ablk A = some b → ¬ p.foot b
  ap3 : ∀ b, ScK a b → ¬ ScF p A a b
structure ScC (w w' : World) (base : Nat) (p p' : TrS) (N : Nat) (T : Nodes) (a : ScA) (A A' : Option Addr) (n' c' : Nat) (es' : List Ent) (S' : Nat → Bool) : Prop where
  sc : Sc w' base p' N T a A' n' c' es' S'
  g : p'.g = p.g
  cc : p'.k.g = p.k.g ∧ p'.a.m = p.a.m ∧ p'.F = p.F
  K : Kept (ScF p A a) w w'
  foot : ∀ b, ScF p' A' a b → ScF p A a b ∨ w.heap.size ≤ b
section
variable {F : Nat → Prop} {w w' w2 : World} {base N B n c n' c' n2 c2 : Nat} {p p' p2 : TrS} {T : Nodes} {a : ScA} {A A' A2 : Option Addr} {es es' es2 : List Ent} {S S' S2 : Nat → Bool}
theorem Sc.len (h : Sc w base p N T a A n c es S) : n = es.length := by have := h.own.len; rw [entC_len] at this; omega
theorem Sc.lt (h : Sc w base p N T a A n c es S) : ∀ b, ScF p A a b → b < w.heap.size := by
  rintro b (e | rfl | rfl | e)
  · exact (h.tr.foot_base b e).2
  · exact h.out.lt
  · exact h.seen.lt
  · exact (h.own.blk e).2
theorem ScC.init (h : Sc w base p N T a A n c es S) : ScC w w base p p N T a A A n c es S := ⟨h, rfl, ⟨rfl, rfl, rfl⟩, Kept.refl _ _, fun _ x => .inl x⟩
theorem ScC.trans (h : ScC w w' base p p' N T a A A' n' c' es' S') (q : ScC w' w2 base p' p2 N T a A' A2 n2 c2 es2 S2) : ScC w w2 base p p2 N T a A A2 n2 c2 es2 S2 :=
  ⟨q.sc, q.g.trans h.g, ⟨q.cc.1.trans h.cc.1, q.cc.2.1.trans h.cc.2.1, q.cc.2.2.trans h.cc.2.2⟩, h.K.trans q.K (fun b hb x => by rcases h.foot b x with y | y; exact y; omega), fun b x => by
    rcases q.foot b x with y | y
    · exact h.foot b y
    · exact .inr (Nat.le_trans h.K.size y)⟩
theorem Sc.kept (h : Sc w base p N T a A n c es S) (K : Kept F w w') (hF : ∀ b, ScF p A a b ∨ ScK a b → ¬ F b) : Sc w' base p N T a A n c es S :=
  ⟨h.tr.kept K (fun b e => hF b (.inl (.inl e))), K.blk h.out (hF _ (.inl (.inr (.inl rfl)))), own_kept h.own K (fun b e => hF b (.inl (.inr (.inr (.inr e))))), K.blk h.most (hF _ (.inr (.inl rfl))), K.blk h.from_ (hF _ (.inr (.inr (.inl rfl)))), K.blk h.to_ (hF _ (.inr (.inr (.inr rfl)))),
    h.seen.block (K.block _ h.seen.lt (hF _ (.inl (.inr (.inr (.inl rfl)))))), h.ap1, h.ap2, h.ap3⟩
theorem ScC.kept (h : ScC w w' base p p' N T a A A' n' c' es' S') (K : Kept F w' w2) (hF : ∀ b, F b → w.heap.size ≤ b ∧ ¬ ScF p' A' a b ∧ ¬ ScK a b) : ScC w w2 base p p' N T a A A' n' c' es' S' :=
  ⟨h.sc.kept K (fun b e x => by rcases e with e | e; exact (hF b x).2.1 e; exact (hF b x).2.2 e), h.g, h.cc, h.K.trans K (fun b hb x => by have := (hF b x).1; omega), h.foot⟩
theorem ScC.below (h : ScC w w' base p p' N T a A A' n' c' es' S') (hb : Below B w' w2) (hB : w'.heap.size ≤ B) : ScC w w2 base p p' N T a A A' n' c' es' S' :=
  h.kept (F := fun _ => False) (Kept.of_below hb hB) (fun _ x => x.elim)
theorem ScC.away (h : ScC w w' base p p' N T a A A' n' c' es' S') {b : Nat} (h1 : ¬ ScF p A a b) (h2 : b < w.heap.size) : ¬ ScF p' A' a b := fun x => by
  rcases h.foot b x with y | y
  · exact h1 y
  · omega
/-- the tree's memory has turned -/
theorem Sc.onT (h : Sc w base p N T a A n c es S) (q : TCh w w' base p p' N T) : ScC w w' base p p' N T a A A n c es S := by
  have far : ∀ b, ¬ p.foot b → b < w.heap.size → ¬ p'.foot b := fun b x y => q.away x y
  have hm : ∀ b, ScK a b → b < w.heap.size := fun b e => by
    rcases e with rfl | rfl | rfl
    · exact h.most.lt
    · exact h.from_.lt
    · exact h.to_.lt
  refine ⟨⟨q.tr, q.K.blk h.out h.ap2.1, own_kept h.own q.K h.ap2.2.2, q.K.blk h.most (fun e => h.ap3 _ (.inl rfl) (.inl e)), q.K.blk h.from_ (fun e => h.ap3 _ (.inr (.inl rfl)) (.inl e)), q.K.blk h.to_ (fun e => h.ap3 _ (.inr (.inr rfl)) (.inl e)), h.seen.block (q.K.block _ h.seen.lt h.ap2.2.1), h.ap1,
    ⟨far _ h.ap2.1 h.out.lt, far _ h.ap2.2.1 h.seen.lt, fun b e => far b (h.ap2.2.2 b e) (h.own.blk e).2⟩, fun b e x => ?_⟩, q.g, q.c, q.K.mono (fun b _ x => .inl x), fun b x => ?_⟩
  · rcases x with x | x
    · exact far b (fun y => h.ap3 b e (.inl y)) (hm b e) x
    · exact h.ap3 b e (.inr x)
  · rcases x with x | x
    · exact (q.foot b x).imp_left .inl
    · exact .inl (.inr x)
/-- a block was seen -/
theorem Sc.onS (h : Sc w base p N T a A n c es S) {f : Nat → Option Value} (hm : Mp w' a.gs (50 + N) f) (hg : w.grownBy w' (some a.gs)) (hf : ∀ j, j < 50 + N → f j = setF S' j) : ScC w w' base p p N T a A A n c es S' := by
  have K : Kept (fun b => b = a.gs) w w' := Kept.of_grown hg (fun b e => by cases e; rfl)
  have hk : ∀ b, ScK a b → b ≠ a.gs := fun b e x => h.ap3 b e (.inr (.inr (.inl x)))
  exact ⟨⟨h.tr.kept K (fun b e x => h.ap2.2.1 (by rw [← x]; exact e)), K.blk h.out (fun x => h.ap1.1 x.symm), own_kept h.own K (fun b e x => h.ap1.2.2 (by rw [← x]; exact e)), K.blk h.most (hk _ (.inl rfl)), K.blk h.from_ (hk _ (.inr (.inl rfl))), K.blk h.to_ (hk _ (.inr (.inr rfl))),
    hm.congr (fun j hj => (hf j hj).symm), h.ap1, h.ap2, h.ap3⟩, rfl, ⟨rfl, rfl, rfl⟩, K.mono (fun b _ x => .inr (.inr (.inl x))), fun _ x => .inl x⟩
/-- entries more are told -/
theorem Sc.onO (h : Sc w base p N T a A n c es S) (ho : Own w' 0 27 2 A2 n2 c2 (entC es2)) (K : Kept (fun b => ablk A = some b) w w') (hA : ablk A2 = ablk A ∨ ∃ b, ablk A2 = some b ∧ w.heap.size ≤ b) :
    ScC w (w'.setCell ⟨a.go, 0, none⟩ (.slice A2 n2 c2)) base p p N T a A A2 n2 c2 es2 S := by
  have hne : ∀ b, ablk A2 = some b → ablk A = some b ∨ w.heap.size ≤ b := fun b e => by
    rcases hA with x | ⟨b', x, y⟩
    · exact .inl (x ▸ e)
    · rw [x] at e; cases e; exact .inr y
  have K1 : Kept (fun b => ablk A = some b ∨ b = a.go) w (w'.setCell ⟨a.go, 0, none⟩ (.slice A2 n2 c2)) := (K.mono (fun b _ x => .inl x)).trans Kept.setCell_ (fun b _ x => .inr x)
  have hgo : ∀ b, ablk A2 = some b → b ≠ a.go := fun b e x => by
    rcases hne b e with y | y
    · exact h.ap1.2.1 (by rw [← x]; exact y)
    · have := h.out.lt; omega
  have hk : ∀ b, ScK a b → ¬ (ablk A = some b ∨ b = a.go) := fun b e x => h.ap3 b e (x.elim (fun y => .inr (.inr (.inr y))) (fun y => .inr (.inl y)))
  have hkl : ∀ b, ScK a b → b < w.heap.size := fun b e => by
    rcases e with rfl | rfl | rfl
    · exact h.most.lt
    · exact h.from_.lt
    · exact h.to_.lt
  refine ⟨⟨h.tr.kept K1 (fun b e x => ?_), ?_, own_kept ho (Kept.setCell_) (fun b e => hgo b e), K1.blk h.most (hk _ (.inl rfl)), K1.blk h.from_ (hk _ (.inr (.inl rfl))), K1.blk h.to_ (hk _ (.inr (.inr rfl))), h.seen.block (K1.block _ h.seen.lt (fun x => ?_)), ⟨h.ap1.1, fun x => hgo _ x rfl, fun x => ?_⟩, ⟨h.ap2.1, h.ap2.2.1, fun b e x => ?_⟩, fun b e x => ?_⟩, rfl, ⟨rfl, rfl, rfl⟩, K1.mono (fun b _ x => x.elim (fun y => .inr (.inr (.inr y))) (fun y => .inr (.inl y))), fun b x => ?_⟩
  · rcases x with x | x
    · exact h.ap2.2.2 b x e
    · exact h.ap2.1 (by rw [← x]; exact e)
  · exact (K.blk h.out (fun x => h.ap1.2.1 x)).set_ 0 _
  · rcases x with x | x
    · exact h.ap1.2.2 x
    · exact h.ap1.1 x
  · rcases hne _ x with y | y
    · exact h.ap1.2.2 y
    · have := h.seen.lt; omega
  · rcases hne b e with y | y
    · exact h.ap2.2.2 b y x
    · have := (h.tr.foot_base b x).2; omega
  · rcases x with x | x | x | x
    · exact h.ap3 b e (.inl x)
    · exact h.ap3 b e (.inr (.inl x))
    · exact h.ap3 b e (.inr (.inr (.inl x)))
    · rcases hne b x with y | y
      · exact h.ap3 b e (.inr (.inr (.inr y)))
      · have := hkl b e; omega
  · rcases x with x | x | x | x
    · exact .inl (.inl x)
    · exact .inl (.inr (.inl x))
    · exact .inl (.inr (.inr (.inl x)))
    · exact (hne b x).imp_left (fun y => .inr (.inr (.inr y)))
end
end Go.Proofs.Ytdakohbfibcjeaa
