/- What a record is on a disk; steps of journal.Append. No condition. -/
import Derived.Test.YtnclebnodkkgnaaJrM
import Derived.Test.YtnclebnodkkgnaaDkC
namespace Go.Proofs.Ytnclebnodkkgnaa
open Go.RowKit

/-- a piece of a record -/
def pcAt (l : List UInt8) (i : Nat) : List UInt8 := (l.drop (232 * i)).take 232
/-- a disk with the first pieces of a record -/
def laidTo (s : Dsk) (G N m p : Nat) (l : List UInt8) : Nat → Dsk
  | 0 => s
  | i + 1 => writeD (laidTo s G N m p l i) (p + i) (pieceB G N i m (pcAt l i))
theorem writeD_far (s : Dsk) {k j : Nat} (h : j ≠ k) (x : List UInt8) : (writeD s k x).vers j = s.vers j := by
  unfold writeD
  split
  · show (if j = k then _ else _) = _
    rw [if_neg h, (doneS_n s).2.2.1]
  · rw [(doneS_n s).2.2.1]
theorem laidTo_n (s : Dsk) (G N m p : Nat) (l : List UInt8) (i : Nat) : (laidTo s G N m p l i).n = s.n := by
  induction i with
  | zero => rfl
  | succ i ih => rw [laidTo, writeD_n, ih]
theorem laidTo_far (s : Dsk) (G N m p : Nat) (l : List UInt8) (i : Nat) {k : Nat} (h : k < p ∨ p + i ≤ k) : (laidTo s G N m p l i).vers k = s.vers k := by
  induction i with
  | zero => rfl
  | succ i ih => rw [laidTo, writeD_far _ (by omega), ih (by omega)]

/-- where a part of a slice begins -/
def partA (A : Option Addr) (c i : Nat) : Option Addr := if c = i then A else A.map (·.add (i * 1))
theorem ablk_part (A : Option Addr) (c i : Nat) : ablk (partA A c i) = ablk A := by
  unfold partA
  split
  · rfl
  · cases A with
    | none => rfl
    | some a => simp only [Option.map_some, ablk_some, Addr.add]; split <;> rfl
theorem Bs.part {w : World} {lo m c : Nat} {A : Option Addr} {l : List UInt8} (h : Bs w lo A m c l) (i j : Nat) (hij : i ≤ j) (hj : j ≤ m) : Bs w lo (partA A c i) (j - i) (c - i) ((l.drop i).take (j - i)) := by
  have h1 := h.1
  have h2 := h.2.1
  have h3 := h.2.2.1
  refine ⟨by simp; omega, by omega, by omega, fun hn => ?_⟩
  have hlt : 0 < j - i := by
    simp only [length_bvs, List.length_take, List.length_drop] at hn
    omega
  obtain ⟨b, o, e, _⟩ := h.at_ (by omega)
  subst e
  have := (h.cut i j hij hj).2.2.2 hn
  unfold partA
  rw [if_neg (by omega)]
  simp only [Option.map_some, Addr.add_lit, Nat.mul_one]
  exact this
theorem run_sized {P : Program} {e : TypeId} {i : TypeInfo} (h : P.info? e = some i) (w : World) : (sizeOf e).run P w = .ok i.size w := by simp [sizeOf, typeInfo, h]
theorem run_part {w : World} {A : Option Addr} {m c : Nat} (i j : Nat) (hij : i ≤ j) (hj : j ≤ c) :
    (Instr.slice 33 (.slice A m c) (some (.int .i64 (i : Int))) (some (.int .i64 (j : Int))) none).run Try.prog w = .ok (.slice (partA A c i) (j - i) (c - i)) w := by
  have he : Try.prog.elem 33 = 5 := by simp only [Program.elem, Try.underlying33]
  have ht : Try.prog.underlying 33 = some (.slice (Try.prog.elem 33)) := by rw [he]; exact Try.underlying33
  have h := run_slice_lh (P := Try.prog) (w := w) 33 A m c ht .i64 .i64 i j (by omega) (by omega) (by omega)
  rw [h]
  obtain ⟨i5, hi, hz, hsz, hby⟩ := info_parts info5
  rw [he]
  have e : (sizeOf 5).run Try.prog w = .ok 1 w := by rw [run_sized hi, hsz]
  rw [e]
  simp only [Result.andThen, sliced, Int.toNat_natCast]
  rfl

/-- a journal while it is written to -/
structure Ap (w wr : World) (base j : Nat) (d d1 : Dw) (s1 : Dsk) (G used many : Nat) : Prop where
  jn : Jn wr base j d1 s1 G used many
  g : d1.g = d.g
  K : Kept (fun b => d.foot b ∨ b = j) w wr
  foot : ∀ b, d1.foot b → d.foot b ∨ w.heap.size ≤ b
section
variable {w wr w5 w6 : World} {base j : Nat} {d d1 d2 : Dw} {s1 s2 : Dsk} {G used many : Nat}
theorem Jn.setMany (h : Jn w base j d s1 G used many) (m' : Nat) : Jn (w.setCell ⟨j, 3, none⟩ (.int .i64 m')) base j d s1 G used m' := by
  have K : Kept (fun b => b = j) w (w.setCell ⟨j, 3, none⟩ (.int .i64 m')) := ⟨rfl, rfl, rfl, by simp, fun b _ hn => Below.heap_setCell w _ _ b hn⟩
  exact ⟨h.dk.kept K (fun b hb e => h.away (e ▸ hb)), h.blk.set_ 3 _, h.away, h.jb⟩
theorem Jn.setUsed (h : Jn w base j d s1 G used many) (u' : Nat) : Jn (w.setCell ⟨j, 2, none⟩ (.int .i64 u')) base j d s1 G u' many := by
  have K : Kept (fun b => b = j) w (w.setCell ⟨j, 2, none⟩ (.int .i64 u')) := ⟨rfl, rfl, rfl, by simp, fun b _ hn => Below.heap_setCell w _ _ b hn⟩
  exact ⟨h.dk.kept K (fun b hb e => h.away (e ▸ hb)), h.blk.set_ 2 _, h.away, h.jb⟩
theorem Ap.init (h : Jn w base j d s1 G used many) : Ap w w base j d d s1 G used many := ⟨h, rfl, Kept.refl _ _, fun _ h => .inl h⟩
theorem Ap.setMany (h : Ap w wr base j d d1 s1 G used many) (m' : Nat) : Ap w (wr.setCell ⟨j, 3, none⟩ (.int .i64 m')) base j d d1 s1 G used m' := by
  refine ⟨h.jn.setMany m', h.g, h.K.trans (F' := fun b => b = j) ⟨rfl, rfl, rfl, by simp, fun b _ hn => Below.heap_setCell wr _ _ b hn⟩ (fun _ _ e => .inr e), h.foot⟩
theorem Ap.setUsed (h : Ap w wr base j d d1 s1 G used many) (m' : Nat) : Ap w (wr.setCell ⟨j, 2, none⟩ (.int .i64 m')) base j d d1 s1 G m' many := by
  refine ⟨h.jn.setUsed m', h.g, h.K.trans (F' := fun b => b = j) ⟨rfl, rfl, rfl, by simp, fun b _ hn => Below.heap_setCell wr _ _ b hn⟩ (fun _ _ e => .inr e), h.foot⟩
theorem Ap.below (h : Ap w wr base j d d1 s1 G used many) {B : Nat} (hb : Below B wr w5) (hB : wr.heap.size ≤ B) : Ap w w5 base j d d1 s1 G used many := by
  refine ⟨h.jn.below hb hB, h.g, h.K.trans (F' := fun _ => False) (Kept.of_below hb hB) (fun _ _ e => e.elim), h.foot⟩
theorem Ap.write (h : Ap w wr base j d d1 s1 G used many) (h6 : Dk w6 base d2 s2) (hg : d2.g = d1.g) (K : Kept d1.foot wr w6) (hf : ∀ b, d2.foot b → d1.foot b ∨ wr.heap.size ≤ b) : Ap w w6 base j d d2 s2 G used many := by
  refine ⟨h.jn.disk h6 hg K hf, hg.trans h.g, h.K.trans K (fun b hb e => ?_), fun b hb => ?_⟩
  · rcases h.foot b e with h1 | h1
    · exact .inl h1
    · omega
  · rcases hf b hb with h1 | h1
    · exact h.foot b h1
    · exact .inr (by have := h.K.size; omega)
end
end Go.Proofs.Ytnclebnodkkgnaa
