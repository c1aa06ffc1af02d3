/- Words for memory: a slice that reads as a list of cells; only some blocks of a world have turned. No condition. -/
import Derived.WalkKit
import Derived.WalkSpells
import Derived.WalkLawsBesides
import Derived.Deep.QuietTactic
import Derived.BigQuiet
import Derived.Lib.Hide
import Derived.Lib.SlBytesConst
import Derived.Deep.AppendLies
import Derived.Deep.Draws
import Derived.Laws.CopyOwn
import Derived.Deep.RegionHeld3
import Derived.StillTailTactics
import Derived.Deep.LoopGhost
import Derived.Maps.AppendAt
namespace Go.Proofs.Ytdakohbfibcjeaa
open Go.RowKit

/-- at a piece of code: of the world only F is kept -/
theorem wp_world {P : Program} {c : Code} {Q : Exit → Act → World → Prop} {a : Act} {w : World} (F : World → Prop) (hF : F w) (h : ∀ W, F W → c.wp P Q a W) : c.wp P Q a w := h w hF

/-- A byte as a value. -/
def bv (b : UInt8) : Value := .int .u8 (b.toNat : Int)
def bvs (l : List UInt8) : List Value := l.map bv
@[simp] theorem length_bvs (l : List UInt8) : (bvs l).length = l.length := by simp [bvs]
theorem bvs_get (l : List UInt8) (k : Nat) (h : k < (bvs l).length) : (bvs l)[k] = .int .u8 ((l[k]'(by simpa using h)).toNat : Int) := by simp [bvs, bv]
theorem bvs_append (a b : List UInt8) : bvs (a ++ b) = bvs a ++ bvs b := by simp [bvs]
theorem bvs_oneCell (l : List UInt8) : ∀ u ∈ bvs l, u.oneCell' = true := by
  intro u hu
  obtain ⟨_, _, rfl⟩ := List.mem_map.1 hu
  rfl

/-- The slice's cells, from its address on, are xs; its block is lo or later. -/
def Rd (w : World) (lo : Nat) (A : Option Addr) (xs : List Value) : Prop :=
  0 < xs.length → ∃ b o, A = some ⟨b, o, none⟩ ∧ lo ≤ b ∧ b < w.heap.size ∧ ∀ k (h : k < xs.length), w.cell? ⟨b, o + k, none⟩ = some xs[k]

section
variable {w w' : World} {lo lo' B : Nat} {A : Option Addr} {xs : List Value} {l : List UInt8}
theorem Rd.nil_ : Rd w lo A [] := fun h => absurd h (by simp)
theorem Rd.below (h : Rd w lo A xs) (hb : Below B w w') (hB : w.heap.size ≤ B) : Rd w' lo A xs := fun hn => by
  obtain ⟨b, o, e, h1, h2, hc⟩ := h hn
  exact ⟨b, o, e, h1, Nat.lt_of_lt_of_le h2 hb.size, fun k hk => (hb.cell (p := ⟨b, o + k, none⟩) (by show b < B; omega)).trans (hc k hk)⟩
theorem Rd.weak (h : Rd w lo A xs) (hl : lo' ≤ lo) : Rd w lo' A xs := fun hn => by
  obtain ⟨b, o, e, h1, h2, hc⟩ := h hn
  exact ⟨b, o, e, by omega, h2, hc⟩
theorem Rd.drewN (h : Rd w lo A xs) (k : Nat) : Rd (w.drewN k) lo A xs := h
theorem Rd.byte (h : Rd w lo A (bvs l)) {k : Nat} (hk : k < l.length) : ∃ b o, A = some ⟨b, o, none⟩ ∧ lo ≤ b ∧ b < w.heap.size ∧ w.cell? ⟨b, o + k, none⟩ = some (.int .u8 (l[k].toNat : Int)) := by
  obtain ⟨b, o, e, h1, h2, hc⟩ := h (by simp; omega)
  exact ⟨b, o, e, h1, h2, by rw [hc k (by simpa using hk), bvs_get]⟩
end

/-- The slice value '.slice A m c' reads as the bytes l, in a block that is lo or later. -/
def Bs (w : World) (lo : Nat) (A : Option Addr) (m c : Nat) (l : List UInt8) : Prop := l.length = m ∧ m ≤ c ∧ c ≤ 9223372036854775807 ∧ Rd w lo A (bvs l)
section
variable {w w' : World} {lo lo' B m c : Nat} {A : Option Addr} {l : List UInt8}
theorem Bs.below (h : Bs w lo A m c l) (hb : Below B w w') (hB : w.heap.size ≤ B) : Bs w' lo A m c l := ⟨h.1, h.2.1, h.2.2.1, h.2.2.2.below hb hB⟩
theorem Bs.weak (h : Bs w lo A m c l) (hl : lo' ≤ lo) : Bs w lo' A m c l := ⟨h.1, h.2.1, h.2.2.1, h.2.2.2.weak hl⟩
theorem Bs.drewN (h : Bs w lo A m c l) (k : Nat) : Bs (w.drewN k) lo A m c l := h
theorem Bs.drew (h : Bs w lo A m c l) : Bs w.drew lo A m c l := h
theorem Bs.nil_ (w : World) (lo : Nat) : Bs w lo none 0 0 [] := ⟨rfl, by omega, by omega, Rd.nil_⟩
end

/-- Block g is just the cells cs of element type t, none frozen. -/
def Blk (w : World) (g : Nat) (t : TypeId) (cs : List Value) : Prop := w.heap[g]? = some (.cells cs.toArray t (0, 0))

section
variable {w w' : World} {g B : Nat} {t : TypeId} {cs : List Value}
theorem Blk.lt (h : Blk w g t cs) : g < w.heap.size := by
  rcases Nat.lt_or_ge g w.heap.size with hlt | hge
  · exact hlt
  · unfold Blk at h; rw [Array.getElem?_eq_none hge] at h; cases h
theorem Blk.cell (h : Blk w g t cs) (i : Nat) : w.cell? ⟨g, i, none⟩ = cs[i]? := by
  rw [cell_of_row w g i cs.toArray t (0, 0) h]; simp
theorem Blk.frozen (h : Blk w g t cs) (i : Nat) : w.frozen? ⟨g, i, none⟩ = false := by
  unfold Blk at h
  simp [World.frozen?, h]
theorem Blk.cells (h : Blk w g t cs) : ∀ i, w.cell? ⟨g, i, none⟩ = cs[i]? := h.cell
theorem Blk.frees (h : Blk w g t cs) : ∀ i, w.frozen? ⟨g, i, none⟩ = false := h.frozen
theorem Blk.alloc (h : Blk w g t cs) (o : Obj) : Blk (w.alloc o) g t cs := (Below.heap_alloc w o g h.lt).trans h
theorem Blk.drew (h : Blk w g t cs) : Blk w.drew g t cs := h
theorem Blk.drewN (h : Blk w g t cs) (n : Nat) : Blk (w.drewN n) g t cs := h
theorem Blk.set_ (h : Blk w g t cs) (i : Nat) (u : Value) : Blk (w.setCell ⟨g, i, none⟩ u) g t (cs.set i u) := by
  unfold Blk at h ⊢
  simp [World.setCell, Array.getElem?_modify, h]
theorem Blk.far (h : Blk w g t cs) {p : Addr} (hp : g ≠ p.block) (u : Value) : Blk (w.setCell p u) g t cs := (Below.heap_setCell w p u g hp).trans h
theorem Blk.below (h : Blk w g t cs) (hb : Below B w w') (hg : g < B) : Blk w' g t cs := (hb.block g hg).trans h
theorem Blk.grown {row : Option Nat} (h : Blk w g t cs) (hb : w.grownBy w' row) (hg : some g ≠ row) : Blk w' g t cs := (hb.block g h.lt hg).trans h
theorem Blk.rd {lo : Nat} (h : Blk w g t cs) (hl : lo ≤ g) (o n : Nat) : Rd w lo (some ⟨g, o, none⟩) ((cs.drop o).take n) := fun _ =>
  ⟨g, o, rfl, hl, h.lt, fun k hk => by
    rw [h.cell]
    have h1 : k < n := by simp at hk; omega
    simp⟩
theorem Blk.rd0 {lo : Nat} (h : Blk w g t cs) (hl : lo ≤ g) : Rd w lo (some ⟨g, 0, none⟩) cs := fun _ =>
  ⟨g, 0, rfl, hl, h.lt, fun k hk => by rw [h.cell]; simp [hk]⟩
end
theorem Blk.new (w : World) (t : TypeId) (cs : List Value) : Blk (w.alloc (.cells cs.toArray t)) w.heap.size t cs := heap_alloc_new w _

theorem Blk.new_at {w : World} {t : TypeId} {cs : List Value} {n : Nat} (hn : n = w.heap.size) : Blk (w.alloc (.cells cs.toArray t)) n t cs := by
  subst hn; exact Blk.new w t cs

/-- copy(d, s): what is laid in block g; all else stands. -/
theorem wpOp_copy {P : Program} {o : Oper} {a : Act} {w : World} {K : Act → World → Prop} {Q : Exit → Act → World → Prop} (d s : Operand) (dT sT : TypeId)
    (ho : o.op = .call { callee := .builtin .copy, args := #[d, s], argTypes := #[dT, sT] }) (elem : TypeId) (hu : P.underlying dT = some (.slice elem)) (hsz : (P.info? elem).map (·.size) = some 1)
    (dp sp : Option Addr) (dLen dCap sLen sCap : Nat) (hd : a.eval d = .slice dp dLen dCap) (hs : a.eval s = .slice sp sLen sCap)
    (g off : Nat) (cur : List Value) (t : TypeId) (hg : Blk w g t cur) (cs : List Value) (hn : cs.length = min sLen dLen)
    (hpos : 0 < cs.length → dp = some ⟨g, off, none⟩) (lo : Nat) (src : List Value) (hsrc : Rd w lo sp src) (hpre : cs = src.take cs.length)
    (hfit : off + cs.length ≤ cur.length) (h1 : ∀ v ∈ cs, v.oneCell' = true)
    (h : ∀ w', Hid (Blk w' g t (splice cur off cs)) → w.grownBy w' (some g) → K (a.put o.dst (goInt cs.length)) w') :
    Oper.wp P o a w K Q := by
  by_cases h0 : cs.length = 0
  · obtain rfl : cs = [] := List.eq_nil_of_length_eq_zero h0
    have hrun := run_copy_none (P := P) w dT sT o.type elem dp sp dLen dCap sLen sCap hu hsz (by simpa using hn.symm)
    unfold Oper.wp
    simp [execOp, ho, resolve, invoke, builtin, hd, hs, hrun, Result.andThen]
    exact h w (show Blk _ _ _ _ by simpa [splice] using hg) (World.grownBy.refl _ _)
  · obtain rfl := hpos (by omega)
    have hl : cs.length ≤ src.length := by
      have := congrArg List.length hpre
      rw [List.length_take] at this
      omega
    obtain ⟨b, q, rfl, _, _, hc⟩ := hsrc (by omega)
    have hsrc' : ∀ j v, cs[j]? = some v → w.cell? ((⟨b, q, none⟩ : Addr).add j) = some v := by
      intro j v hv
      have hj : j < cs.length := (List.getElem?_eq_some_iff.1 hv).1
      have h2 : cs[j]? = (src.take cs.length)[j]? := congrArg (fun l => l[j]?) hpre
      rw [List.getElem?_take_of_lt hj] at h2
      rw [Addr.add_lit, hc j (by omega), ← hv, h2, List.getElem?_eq_getElem (by omega)]
    have hrun := run_copy_row (P := P) w dT sT o.type elem g off dLen dCap ⟨b, q, none⟩ sLen sCap cur.toArray t cs hu hsz hg hn hsrc' (by simpa using hfit) h1
    unfold Oper.wp
    simp [execOp, ho, resolve, invoke, builtin, hd, hs, hrun, Result.andThen]
    exact h _ (show Blk _ _ _ _ by simpa [splice, Blk] using setRow_heap w g _ _ t _ hg) ⟨rfl, rfl, rfl, by simp, fun k _ hk => setRow_other w g k _ (fun e => hk (by rw [e]))⟩

theorem step_copy {P : Program} {ops : Array Oper} {o : Oper} {a : Act} {w : World} {K : Act → World → Prop} {Q : Exit → Act → World → Prop} {E : Prop} (hgd : o.guard = none) (d s : Operand) (dT sT : TypeId)
    (ho : o.op = .call { callee := .builtin .copy, args := #[d, s], argTypes := #[dT, sT] }) (elem : TypeId) (hu : P.underlying dT = some (.slice elem)) (hsz : (P.info? elem).map (·.size) = some 1)
    (dp sp : Option Addr) (dLen dCap sLen sCap : Nat) (hd : a.eval d = .slice dp dLen dCap) (hs : a.eval s = .slice sp sLen sCap)
    (g off : Nat) (cur : List Value) (t : TypeId) (hg : Blk w g t cur) (cs : List Value) (hn : cs.length = min sLen dLen)
    (hpos : 0 < cs.length → dp = some ⟨g, off, none⟩) (lo : Nat) (src : List Value) (hsrc : Rd w lo sp src) (hpre : cs = src.take cs.length)
    (hfit : off + cs.length ≤ cur.length) (h1 : ∀ v ∈ cs, v.oneCell' = true)
    (h : ∀ w', Hid (Blk w' g t (splice cur off cs)) → w.grownBy w' (some g) → K (a.put o.dst (goInt cs.length)) w') :
    if Region.wanted o (yielded ops a.tmps) = true then Oper.wp P o a w K Q else E := by
  have hw : Region.wanted o (yielded ops a.tmps) = true := by simp [Region.wanted, hgd]
  rw [if_pos hw]
  exact wpOp_copy d s dT sT ho elem hu hsz dp sp dLen dCap sLen sCap hd hs g off cur t hg cs hn hpos lo src hsrc hpre hfit h1 h

theorem wpList_copy {P : Program} {ops : Array Oper} {rest : List Oper} {o : Oper} {a : Act} {w : World} {Q : Exit → Act → World → Prop} (hgd : o.guard = none) (d s : Operand) (dT sT : TypeId)
    (ho : o.op = .call { callee := .builtin .copy, args := #[d, s], argTypes := #[dT, sT] }) (elem : TypeId) (hu : P.underlying dT = some (.slice elem)) (hsz : (P.info? elem).map (·.size) = some 1)
    (dp sp : Option Addr) (dLen dCap sLen sCap : Nat) (hd : a.eval d = .slice dp dLen dCap) (hs : a.eval s = .slice sp sLen sCap)
    (g off : Nat) (cur : List Value) (t : TypeId) (hg : Blk w g t cur) (cs : List Value) (hn : cs.length = min sLen dLen)
    (hpos : 0 < cs.length → dp = some ⟨g, off, none⟩) (lo : Nat) (src : List Value) (hsrc : Rd w lo sp src) (hpre : cs = src.take cs.length)
    (hfit : off + cs.length ≤ cur.length) (h1 : ∀ v ∈ cs, v.oneCell' = true)
    (h : ∀ w', Hid (Blk w' g t (splice cur off cs)) → w.grownBy w' (some g) → wpList P ops Q rest (a.put o.dst (goInt cs.length)) w') :
    wpList P ops Q (o :: rest) a w :=
  wpList_plain hgd fun _ hK => wpOp_copy d s dT sT ho elem hu hsz dp sp dLen dCap sLen sCap hd hs g off cur t hg cs hn hpos lo src hsrc hpre hfit h1 fun w' h2 h3 => hK _ _ (h w' h2 h3)

theorem Blk.bs {w : World} {g t : Nat} {l : List UInt8} (h : Blk w g t (bvs l)) (lo o m c : Nat) (hl : lo ≤ g) (hc : m ≤ c) (hx : c ≤ 9223372036854775807) (hm : o + m ≤ l.length) : Bs w lo (some ⟨g, o, none⟩) m c ((l.drop o).take m) :=
  ⟨by simp; omega, hc, hx, by have := h.rd hl o m; simpa [bvs, List.map_take, List.map_drop] using this⟩
theorem Blk.bs0 {w : World} {g t : Nat} {l : List UInt8} (h : Blk w g t (bvs l)) (lo m c : Nat) (hl : lo ≤ g) (hc : m ≤ c) (hx : c ≤ 9223372036854775807) (hm : l.length = m) : Bs w lo (some ⟨g, 0, none⟩) m c l :=
  ⟨hm, hc, hx, h.rd0 hl⟩
/-- a part of a slice: s[i:j], i below the capacity -/
theorem Bs.cut {w : World} {lo : Nat} {b o m c : Nat} {l : List UInt8} (h : Bs w lo (some ⟨b, o, none⟩) m c l) (i j : Nat) (hij : i ≤ j) (hj : j ≤ m) : Bs w lo (some ⟨b, o + i, none⟩) (j - i) (c - i) ((l.drop i).take (j - i)) := by
  obtain ⟨rfl, h1, h2, hr⟩ := h
  refine ⟨by simp; omega, by omega, by omega, fun hn => ?_⟩
  obtain ⟨b', o', e, hb, hs, hc⟩ := hr (by simp at hn ⊢; omega)
  injection e with e
  injection e with e1 e2
  subst e1 e2
  refine ⟨b, o + i, rfl, hb, hs, fun k hk => ?_⟩
  simp only [length_bvs, List.length_take, List.length_drop] at hk
  have := hc (i + k) (by simp; omega)
  rw [Nat.add_assoc, this]
  simp [bvs]
theorem Bs.take {w : World} {lo : Nat} {A : Option Addr} {m c : Nat} {l : List UInt8} (h : Bs w lo A m c l) (j : Nat) (hj : j ≤ m) : Bs w lo A j c (l.take j) := by
  obtain ⟨rfl, h1, h2, hr⟩ := h
  refine ⟨by simp; omega, by omega, by omega, fun hn => ?_⟩
  obtain ⟨b, o, e, hb, hs, hc⟩ := hr (by simp at hn ⊢; omega)
  refine ⟨b, o, e, hb, hs, fun k hk => ?_⟩
  simp only [length_bvs, List.length_take] at hk
  rw [hc k (by simp; omega)]
  simp [bvs]
theorem Bs.at_ {w : World} {lo : Nat} {A : Option Addr} {m c : Nat} {l : List UInt8} (h : Bs w lo A m c l) (hm : 0 < m) : ∃ b o, A = some ⟨b, o, none⟩ ∧ lo ≤ b ∧ b < w.heap.size := by
  obtain ⟨rfl, h1, h2, hr⟩ := h
  obtain ⟨b, o, e, hb, hs, _⟩ := hr (by simpa using hm)
  exact ⟨b, o, e, hb, hs⟩
theorem Bs.cell {w : World} {lo : Nat} {b o m c : Nat} {l : List UInt8} (h : Bs w lo (some ⟨b, o, none⟩) m c l) (k : Nat) (hk : k < m) : w.cell? ⟨b, o + k, none⟩ = some (.int .u8 ((l.getD k 0).toNat : Int)) := by
  obtain ⟨rfl, h1, h2, hr⟩ := h
  obtain ⟨b', o', e, hb, hs, hc⟩ := hr.byte hk
  injection e with e
  injection e with e1 e2
  subst e1 e2
  rw [hc, List.getD_eq_getElem?_getD, List.getElem?_eq_getElem hk]
  rfl
/-- the bytes of a constant text, behind their conversion -/
theorem bs_const {w : World} (e : TypeId) (l : List UInt8) (fr : Nat × Nat) {m : Nat} (hm : l.length = m) (hx : m ≤ 9223372036854775807) : Bs (w.alloc (.cells (bvs l).toArray e fr)) 0 (some ⟨w.heap.size, 0, none⟩) m m l := by
  subst hm
  refine ⟨rfl, Nat.le_refl _, hx, fun _ => ⟨w.heap.size, 0, rfl, Nat.zero_le _, by simp, fun k hk => ?_⟩⟩
  rw [World.cell?_alloc_mark, Nat.zero_add]
  simp
theorem below_drewN {B : Nat} {a w : World} (h : Below B a w) (n : Nat) : Below B a (w.drewN n) := ⟨h.os, h.tape, h.output, h.size, h.block⟩
end Go.Proofs.Ytdakohbfibcjeaa
namespace Go.Proofs.Ytdakohbfibcjeaa
open Go.RowKit

def ablk (A : Option Addr) : Option Nat := A.map (·.block)
@[simp] theorem ablk_none : ablk none = none := rfl
@[simp] theorem ablk_some (a : Addr) : ablk (some a) = some a.block := rfl

theorem one_int (k : IntKind) (n : Int) : ∀ u ∈ [Value.int k n], u.oneCell' = true := by
  intro u hu
  rw [List.mem_singleton] at hu
  subst hu
  rfl

/-- a slice's length: for a loop's measure -/
def slen : Value → Nat | .slice _ n _ => n | _ => 0

/-- '.slice A n c' is nil, or the head of a block from base on: its n elements, of s cells each, are the cells xs. -/
def Own (w : World) (base : Nat) (e : TypeId) (s : Nat) (A : Option Addr) (n c : Nat) (xs : List Value) : Prop := w.ownsRow base e s (.slice A n c) n xs

section
variable {w w' : World} {base base' n c B s : Nat} {e : TypeId} {A : Option Addr} {xs : List Value}
theorem Own.len (h : Own w base e s A n c xs) : xs.length = n * s := h.1
theorem Own.len1 (h : Own w base e 1 A n c xs) : xs.length = n := by have := h.1; omega
theorem Own.nil_ (w : World) (base : Nat) (e : TypeId) (s : Nat) : Own w base e s none 0 0 [] := World.ownsRow_nil w base e s
theorem Own.cases (h : Own w base e s A n c xs) : (A = none ∧ n = 0 ∧ c = 0 ∧ xs = []) ∨
    ∃ g cur, A = some ⟨g, 0, none⟩ ∧ base ≤ g ∧ w.heap[g]? = some (.cells cur e (0, 0)) ∧ n ≤ c ∧ c ≤ 9223372036854775807 ∧ cur.size = c * s ∧ cur.toList.take (n * s) = xs := by
  rcases h.2 with ⟨h1, h2⟩ | ⟨g, cap, cur, hv, hg, hh, hnc, hcm, hs, ht⟩
  · injection h1 with ha hn hc
    subst ha hn hc
    exact .inl ⟨rfl, rfl, rfl, List.eq_nil_of_length_eq_zero (by have := h.1; omega)⟩
  · injection hv with ha hn hc
    subst ha hc
    exact .inr ⟨g, cur, rfl, hg, hh, hnc, hcm, hs, ht⟩
theorem Own.cap (h : Own w base e s A n c xs) : n ≤ c ∧ c ≤ 9223372036854775807 := by
  rcases h.cases with ⟨_, rfl, rfl, _⟩ | ⟨g, cur, _, _, _, h1, h2, _⟩
  · omega
  · exact ⟨h1, h2⟩
theorem Own.blk (h : Own w base e s A n c xs) {g : Nat} (hg : ablk A = some g) : base ≤ g ∧ g < w.heap.size := h.lt g (by
  cases A with
  | none => simp at hg
  | some a => simpa [Value.ownBlock] using hg)
theorem Own.head (h : Own w base e s A n c xs) (hn : 0 < n) : ∃ g, A = some ⟨g, 0, none⟩ ∧ base ≤ g ∧ g < w.heap.size := by
  rcases h.cases with ⟨_, rfl, _⟩ | ⟨g, cur, rfl, hb, hh, _⟩
  · omega
  · exact ⟨g, rfl, hb, (Array.getElem?_eq_some_iff.1 hh).1⟩
theorem Own.rd (h : Own w base e s A n c xs) : Rd w base A xs := fun hn => by
  rcases h.cases with ⟨_, _, _, rfl⟩ | ⟨g, cur, rfl, hb, hh, _, _, hs, ht⟩
  · simp at hn
  · refine ⟨g, 0, rfl, hb, (Array.getElem?_eq_some_iff.1 hh).1, fun k hk => ?_⟩
    subst ht
    rw [Nat.zero_add, cell_of_row w g k cur e (0, 0) hh]
    simp only [List.length_take, Array.length_toList] at hk
    simp [show k < cur.size by omega]
theorem Own.keep (h : Own w base e s A n c xs) {row : Option Nat} (hg : w.grownBy w' row) (hne : ablk A = none ∨ ablk A ≠ row) : Own w' base e s A n c xs :=
  World.ownsRow.kept h hg (by
    cases A with
    | none => exact .inl rfl
    | some a => exact .inr (by simpa [Value.ownBlock] using hne))
theorem Own.below (h : Own w base e s A n c xs) (hb : Below B w w') (hB : w.heap.size ≤ B) : Own w' base e s A n c xs :=
  h.keep (row := none) ⟨hb.os, hb.tape, hb.output, hb.size, fun k hk _ => hb.block k (by omega)⟩ (by cases A <;> simp)
theorem Own.alloc (h : Own w base e s A n c xs) (o : Obj) : Own (w.alloc o) base e s A n c xs := World.ownsRow.alloc h o
theorem Own.drew (h : Own w base e s A n c xs) : Own w.drew base e s A n c xs := h
theorem Own.drewN (h : Own w base e s A n c xs) (k : Nat) : Own (w.drewN k) base e s A n c xs := h
theorem Own.far (h : Own w base e s A n c xs) {p : Addr} (hp : p.block < base) (u : Value) : Own (w.setCell p u) base e s A n c xs := ownsRow_setCell_below h hp u
theorem Own.weak (h : Own w base e s A n c xs) (hb : base' ≤ base) : Own w base' e s A n c xs := by
  refine ⟨h.1, ?_⟩
  rcases h.2 with h2 | ⟨g, cap, cur, hv, hg, r⟩
  · exact .inl h2
  · exact .inr ⟨g, cap, cur, hv, by omega, r⟩
theorem Own.take (h : Own w base e s A n c xs) {k : Nat} (hk : k ≤ n) : Own w base e s A k c (xs.take (k * s)) := by
  rcases h.cases with ⟨rfl, rfl, rfl, rfl⟩ | ⟨g, cur, rfl, hb, hh, h1, h2, h3, h4⟩
  · obtain rfl : k = 0 := by omega
    simpa using Own.nil_ w base e s
  · refine ⟨by rw [List.length_take, h.len]; exact Nat.min_eq_left (Nat.mul_le_mul_right _ hk), .inr ⟨g, c, cur, rfl, hb, hh, by omega, h2, h3, ?_⟩⟩
    subst h4
    rw [List.take_take, Nat.min_eq_left (Nat.mul_le_mul_right _ hk)]
/-- a block that was just laid, whole -/
theorem Own.lit (w : World) (e : TypeId) (cs : List Value) {n g : Nat} (hm : n ≤ 9223372036854775807) (hn : cs.length = n * s) (hb : base ≤ g) (hg : g = w.heap.size) : Own (w.alloc (.cells cs.toArray e)) base e s (some ⟨g, 0, none⟩) n n cs := by
  subst hg
  exact ⟨hn, .inr ⟨w.heap.size, n, cs.toArray, rfl, hb, heap_alloc_new w _, Nat.le_refl _, hm, by simpa using hn, by rw [← hn]; simp⟩⟩
theorem Own.cell (h : Own w base e s A n c xs) {k : Nat} (hk : k < xs.length) : ∃ g, A = some ⟨g, 0, none⟩ ∧ base ≤ g ∧ g < w.heap.size ∧ w.cell? ⟨g, k, none⟩ = some xs[k] ∧ w.frozen? ⟨g, k, none⟩ = false := by
  obtain ⟨b, o, e1, h1, h2, hc⟩ := h.rd (by omega)
  rcases h.cases with ⟨rfl, _⟩ | ⟨g, cur, rfl, hb, hh, _⟩
  · cases e1
  · injection e1 with e1
    injection e1 with e2 e3
    subst e2 e3
    refine ⟨g, rfl, hb, h2, by have := hc k hk; rwa [Nat.zero_add] at this, by simp [World.frozen?, hh]⟩
theorem Own.set_ {g : Nat} (h : Own w base e s (some ⟨g, 0, none⟩) n c xs) (j : Nat) (u : Value) : Own (w.setCell ⟨g, j, none⟩ u) base e s (some ⟨g, 0, none⟩) n c (xs.set j u) := by
  rcases h.cases with ⟨h0, _⟩ | ⟨g', cur, e1, hb, hh, h1, h2, h3, h4⟩
  · cases h0
  · injection e1 with e1
    injection e1 with e1
    subst e1
    refine ⟨by rw [List.length_set, h.len], .inr ⟨g, c, cur.setIfInBounds j u, rfl, hb, heap_setCell_same w g j cur e u hh, h1, h2, by simp [h3], ?_⟩⟩
    subst h4
    simp [List.take_set]
end

theorem below_own {w0 w w' : World} {base B n c s : Nat} {e : TypeId} {A : Option Addr} {xs : List Value} (hb : Below B w0 w) (ho : Own w base e s A n c xs) (hg : w.grownBy w' (ablk A)) (h1 : B ≤ base) (h2 : B ≤ w.heap.size) : Below B w0 w' :=
  hb.grown hg h2 (fun k hk => by have := (ho.blk hk).1; omega)

theorem rd_one {w : World} {g : Nat} (x : Value) (e : TypeId) (hg : g = w.heap.size) : Rd (w.alloc (.cells #[x] e)) 0 (some ⟨g, 0, none⟩) [x] := (Blk.new_at (cs := [x]) hg).rd0 (Nat.zero_le _)

theorem own_ne {w : World} {base e s n c g : Nat} {A : Option Addr} {xs : List Value} (ho : Own w base e s A n c xs) (hg : g < base) : some g ≠ ablk A := fun h => by
  have := (ho.blk h.symm).1
  omega

section
variable {P : Program}
theorem run_app (w : World) (base : Nat) (t ty e : TypeId) (z : Value) (s bytes : Nat) (ht : P.underlying t = some (.slice e)) (hi : (P.info? e).map (fun i => (i.zero, i.size, i.bytes)) = some (some z, s, bytes)) (hzs : z.cells.size = s) (hs0 : 0 < s)
    (A : Option Addr) (n c : Nat) (xs : List Value) (hown : Own w base e s A n c xs)
    (X : Option Addr) (m cx lo : Nat) (news : List Value) (hr : Rd w lo X news) (hl : news.length = m * s) (h1 : ∀ u ∈ news, u.oneCell' = true)
    (h63 : n + m ≤ 9223372036854775807) (hbytes : (n + m) * bytes ≤ 140737488355328) (hbase : base ≤ w.heap.size) :
    ∃ A' c' w', (Builtin.append_ #[t, t] ty #[.slice A n c, .slice X m cx]).run P w = .ok (.slice A' (n + m) c') w' ∧ Own w' base e s A' (n + m) c' (xs ++ news) ∧ w.grownBy w' (ablk A) ∧
      (ablk A' = ablk A ∨ ablk A' = some w.heap.size) := by
  obtain ⟨i, hi, hz, hsz, hby⟩ := info_parts hi
  rcases X with _ | ad
  · have hm : m = 0 := by
      rcases Nat.eq_zero_or_pos m with h0 | h0
      · exact h0
      · obtain ⟨_, _, h, _⟩ := hr (by rw [hl]; exact Nat.mul_pos h0 hs0)
        cases h
    subst hm
    have hn : news = [] := List.eq_nil_of_length_eq_zero (by simpa using hl)
    subst hn
    refine ⟨A, c, w, ?_, by simpa using hown, World.grownBy.refl w _, .inl rfl⟩
    rcases hown.cases with ⟨rfl, rfl, rfl, rfl⟩ | ⟨g, cur, rfl, _, _, hnc, _⟩
    · simp [Builtin.append_, run_underlying ht, sizeOf, typeInfo, hi, Builtin.lenOf, Builtin.firstCells]
    · simp [Builtin.append_, run_underlying ht, sizeOf, typeInfo, hi, Builtin.lenOf, Builtin.firstCells, hnc, storeCells]
  · have hcells : ∀ j u, news[j]? = some u → w.cell? (ad.add j) = some u := by
      intro j u hu
      have hj : j < news.length := (List.getElem?_eq_some_iff.1 hu).1
      obtain ⟨b, o, h, _, _, hc⟩ := hr (by omega)
      injection h with h
      subst h
      rw [Addr.add_lit, hc j hj, ← hu, List.getElem?_eq_getElem hj]
    obtain ⟨v', w', hrun, h2, h3, _, h5⟩ := run_append_own_at (P := P) w base t ty e i z s bytes ht hi hz hsz hby hzs hs0 _ n xs hown ad m cx news hl hcells h1 h63 hbytes hbase
    have hv : ∃ A' c', v' = .slice A' (n + m) c' := by
      rcases h2.2 with ⟨h2, h0⟩ | ⟨g, cap, cur, h2, _⟩
      · exact ⟨none, 0, by rw [h2, h0]⟩
      · exact ⟨_, _, h2⟩
    obtain ⟨A', c', rfl⟩ := hv
    refine ⟨A', c', w', hrun, h2, ?_, ?_⟩
    · cases A <;> exact h3
    · cases A <;> cases A' <;> exact h5

theorem wpOp_app {w : World} {o : Oper} {a : Act} {K : Act → World → Prop} {Q : Exit → Act → World → Prop} (d x : Operand) (t : TypeId)
    (ho : o.op = .call { callee := .builtin .append, args := #[d, x], argTypes := #[t, t] })
    (e : TypeId) {z : Value} (s : Nat) {bytes : Nat} (ht : P.underlying t = some (.slice e)) (hi : (P.info? e).map (fun i => (i.zero, i.size, i.bytes)) = some (some z, s, bytes)) (hzs : z.cells.size = s) (hs0 : 0 < s)
    {base : Nat} {A : Option Addr} {n c : Nat} {xs : List Value} (hd : a.eval d = .slice A n c) (hown : Own w base e s A n c xs)
    {X : Option Addr} {m cx lo : Nat} {news : List Value} (hx : a.eval x = .slice X m cx) (hr : Rd w lo X news) (hl : news.length = m * s) (h1 : ∀ u ∈ news, u.oneCell' = true)
    (h63 : n + m ≤ 9223372036854775807) (hbytes : (n + m) * bytes ≤ 140737488355328) (hbase : base ≤ w.heap.size)
    (h : ∀ A' c' w', Own w' base e s A' (n + m) c' (xs ++ news) → w.grownBy w' (ablk A) → (ablk A' = ablk A ∨ ablk A' = some w.heap.size) → K (a.put o.dst (.slice A' (n + m) c')) w') : o.wp P a w K Q := by
  obtain ⟨A', c', w', hrun, h2, h3, h4⟩ := run_app (P := P) w base t o.type e z s bytes ht hi hzs hs0 A n c xs hown X m cx lo news hr hl h1 h63 hbytes hbase
  unfold Oper.wp execOp
  simp only [ho, resolve, invoke, builtin, Sem.run_bind, Sem.run_pure, Result.andThen_ok, List.map_toArray, List.map_cons, List.map_nil, hd, hx, hrun]
  exact h A' c' w' h2 h3 h4

theorem wpList_app {w : World} {ops : Array Oper} {rest : List Oper} {o : Oper} {a : Act} {Q : Exit → Act → World → Prop} (hgd : o.guard = none) (d x : Operand) (t : TypeId)
    (ho : o.op = .call { callee := .builtin .append, args := #[d, x], argTypes := #[t, t] })
    (e : TypeId) {z : Value} (s : Nat) {bytes : Nat} (ht : P.underlying t = some (.slice e)) (hi : (P.info? e).map (fun i => (i.zero, i.size, i.bytes)) = some (some z, s, bytes)) (hzs : z.cells.size = s) (hs0 : 0 < s)
    {base : Nat} {A : Option Addr} {n c : Nat} {xs : List Value} (hd : a.eval d = .slice A n c) (hown : Own w base e s A n c xs)
    {X : Option Addr} {m cx lo : Nat} {news : List Value} (hx : a.eval x = .slice X m cx) (hr : Rd w lo X news) (hl : news.length = m * s) (h1 : ∀ u ∈ news, u.oneCell' = true)
    (h63 : n + m ≤ 9223372036854775807) (hbytes : (n + m) * bytes ≤ 140737488355328) (hbase : base ≤ w.heap.size)
    (h : ∀ A' c' w', Own w' base e s A' (n + m) c' (xs ++ news) → w.grownBy w' (ablk A) → (ablk A' = ablk A ∨ ablk A' = some w.heap.size) → wpList P ops Q rest (a.put o.dst (.slice A' (n + m) c')) w') : wpList P ops Q (o :: rest) a w :=
  wpList_plain hgd fun _ hK => wpOp_app d x t ho e s ht hi hzs hs0 hd hown hx hr hl h1 h63 hbytes hbase fun A' c' w' h2 h3 h4 => hK _ _ (h A' c' w' h2 h3 h4)

theorem step_app {w : World} {ops : Array Oper} {o : Oper} {a : Act} {K : Act → World → Prop} {Q : Exit → Act → World → Prop} {E : Prop} (hgd : o.guard = none) (d x : Operand) (t : TypeId)
    (ho : o.op = .call { callee := .builtin .append, args := #[d, x], argTypes := #[t, t] })
    (e : TypeId) {z : Value} (s : Nat) {bytes : Nat} (ht : P.underlying t = some (.slice e)) (hi : (P.info? e).map (fun i => (i.zero, i.size, i.bytes)) = some (some z, s, bytes)) (hzs : z.cells.size = s) (hs0 : 0 < s)
    {base : Nat} {A : Option Addr} {n c : Nat} {xs : List Value} (hd : a.eval d = .slice A n c) (hown : Own w base e s A n c xs)
    {X : Option Addr} {m cx lo : Nat} {news : List Value} (hx : a.eval x = .slice X m cx) (hr : Rd w lo X news) (hl : news.length = m * s) (h1 : ∀ u ∈ news, u.oneCell' = true)
    (h63 : n + m ≤ 9223372036854775807) (hbytes : (n + m) * bytes ≤ 140737488355328) (hbase : base ≤ w.heap.size)
    (h : ∀ A' c' w', Own w' base e s A' (n + m) c' (xs ++ news) → w.grownBy w' (ablk A) → (ablk A' = ablk A ∨ ablk A' = some w.heap.size) → K (a.put o.dst (.slice A' (n + m) c')) w') :
    if Region.wanted o (yielded ops a.tmps) = true then Oper.wp P o a w K Q else E := by
  have hw : Region.wanted o (yielded ops a.tmps) = true := by simp [Region.wanted, hgd]
  rw [if_pos hw]
  exact wpOp_app d x t ho e s ht hi hzs hs0 hd hown hx hr hl h1 h63 hbytes hbase h
end
end Go.Proofs.Ytdakohbfibcjeaa
