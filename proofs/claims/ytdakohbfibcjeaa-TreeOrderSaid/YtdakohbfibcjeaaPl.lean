/- A tree's place, where nothing is joined. No condition. -/
import Derived.Test.YtdakohbfibcjeaaSv
import Derived.Test.YtdakohbfibcjeaaIns
namespace Go.Proofs.Ytdakohbfibcjeaa
open Go.RowKit Go.Maps
set_option linter.unusedSimpArgs false
set_option linter.unusedVariables false

/-- a node in a variable, beside a tree, and beside the blocks X -/
def NdB (w0 w : World) (p : TrS) (gn : Nat) (X : Nat → Prop) (s : Nd) : Prop := ∃ K nk ck V nv cv D nd cd, Blk w gn 59 [.bool s.leaf, .slice K nk ck, .slice V nv cv, .slice D nd cd] ∧ NdO w w0.heap.size s K nk ck V nv cv D nd cd ∧ w0.heap.size ≤ gn ∧ ¬ p.foot gn ∧ ∀ b, ablk K = some b ∨ ablk V = some b ∨ ablk D = some b → ¬ p.foot b ∧ b ≠ gn ∧ ¬ X b
theorem NdB.step {w0 w w' : World} {base N gn : Nat} {X : Nat → Prop} {p p' : TrS} {T : Nodes} {f : Nat → Bool} {m : Nat → Option Value} {s : Nd} (h : NdB w0 w p gn X s) (c : TGh w w' base p p' N T f m) : NdB w0 w' p' gn X s := by
  obtain ⟨K, nk, ck, V, nv, cv, D, nd, cd, hb, ho, h1, h2, h3⟩ := h
  exact ⟨K, nk, ck, V, nv, cv, D, nd, cd, c.K.blk hb h2, ho.kept c.K (fun b e => (h3 b e).1), h1, c.away h2 hb.lt, fun b e => ⟨c.away (h3 b e).1 (ho.blks b e).2, (h3 b e).2⟩⟩
theorem NdB.below {w0 w w' : World} {B gn : Nat} {X : Nat → Prop} {p : TrS} {s : Nd} (h : NdB w0 w p gn X s) (hb : Below B w w') (hB : w.heap.size ≤ B) : NdB w0 w' p gn X s := by
  obtain ⟨K, nk, ck, V, nv, cv, D, nd, cd, h0, ho, h1, h2, h3⟩ := h
  exact ⟨K, nk, ck, V, nv, cv, D, nd, cd, h0.below hb (by have := h0.lt; omega), ho.below hb hB, h1, h2, h3⟩
theorem NdB.lt {w0 w : World} {gn : Nat} {X : Nat → Prop} {p : TrS} {s : Nd} (h : NdB w0 w p gn X s) : gn < w.heap.size := by
  obtain ⟨K, nk, ck, V, nv, cv, D, nd, cd, h0, _⟩ := h
  exact h0.lt
theorem NdB.mono {w0 w : World} {gn : Nat} {X Y : Nat → Prop} {p : TrS} {s : Nd} (h : NdB w0 w p gn X s) (hx : ∀ b, b < w.heap.size → Y b → X b) : NdB w0 w p gn Y s := by
  obtain ⟨K, nk, ck, V, nv, cv, D, nd, cd, h0, ho, h1, h2, h3⟩ := h
  exact ⟨K, nk, ck, V, nv, cv, D, nd, cd, h0, ho, h1, h2, fun b e => ⟨(h3 b e).1, (h3 b e).2.1, fun x => (h3 b e).2.2 (hx b (ho.blks b e).2 x)⟩⟩
/-- a node with parts in the place of a kid -/
def placeN (s : Nd) (at_ : Nat) (l : List (ByteArray × Nat)) : Nd := ⟨s.leaf, s.keys.take at_ ++ l.map (·.1) ++ s.keys.drop (at_ + 1), s.vals, s.kids.take at_ ++ l.map (fun x => (x.2 : Int)) ++ s.kids.drop (at_ + 1)⟩
def PlI (w0 w wr : World) (base : Nat) (p0 p : TrS) (N : Nat) (T : Nodes) (gn gl : Nat) (s : Nd) (at_ i : Nat) (l : List (ByteArray × Nat)) : Prop :=
  TCh w0 wr base p0 p N T ∧ NdB w0 wr p gn (fun b => b = gl) (placeN s at_ (l.take i)) ∧ Blk wr gl 53 (ptC l) ∧ w.heap.size ≤ wr.heap.size
/-- no two kids that stand side by side are joined -/
def NoJoin (T : Nodes) (s : Nd) : Prop := ∀ j, j + 1 < s.kids.length → ∃ (n1 n2 : Nat) (a b : Nd), s.kids.getD j 0 = (n1 : Int) ∧ s.kids.getD (j + 1) 0 = (n2 : Int) ∧ T n1 = some a ∧ T n2 = some b ∧ a.leaf = b.leaf ∧ 120 < szV (sizeN (joinN a b))
def PlTo (w0 : World) (base : Nat) (p0 : TrS) (N : Nat) (T : Nodes) (gn : Nat) (s : Nd) (e : Ending) (w' : World) : Prop :=
  e = .returned (.int .i64 0) ∧ ∃ p', TCh w0 w' base p0 p' N T ∧ NdB w0 w' p' gn (fun _ => False) s
theorem own_typ2 {w : World} {base base' n c n' c' b : Nat} {xs ys : List Value} {A B : Option Addr} {e e' : TypeId} (h : Own w base e 1 A n c xs) (k : Own w base' e' 1 B n' c' ys) (hA : ablk A = some b) (hB : ablk B = some b) : e = e' := by
  rcases h.cases with ⟨rfl, _⟩ | ⟨g, cur, rfl, _, h1, _⟩
  · cases hA
  · rcases k.cases with ⟨rfl, _⟩ | ⟨g2, cur2, rfl, _, h2, _⟩
    · cases hB
    · injection hA with hA; injection hB with hB
      have hA : g = b := hA
      have hB : g2 = b := hB
      subst hA hB
      rw [h1] at h2; injection h2 with h2; injection h2 with _ h2
theorem sl_eq {l l' : List ByteArray} (h : l = l') : sl l = sl l' := by rw [h]
theorem place_ins {α : Type} (k : List α) (at_ i : Nat) (m : List α) (v : α) (hm : m.length = i) (hk : at_ ≤ k.length) :
    (k.take at_ ++ m ++ k.drop (at_ + 1)).take (at_ + i) ++ v :: (k.take at_ ++ m ++ k.drop (at_ + 1)).drop (at_ + i) = k.take at_ ++ (m ++ [v]) ++ k.drop (at_ + 1) := by
  have hl : (k.take at_ ++ m).length = at_ + i := by rw [List.length_append, List.length_take, hm]; omega
  rw [List.take_append_of_le_length (by omega), List.take_of_length_le (by omega), List.drop_append, hl, Nat.sub_self, List.drop_eq_nil_of_le (by omega)]
  simp
theorem take_get_succ {α : Type} [Inhabited α] (l : List α) (i : Nat) (h : i < l.length) : l.take (i + 1) = l.take i ++ [l[i]] := by rw [List.take_succ_eq_append_getElem h]
theorem ptC_cons (x : ByteArray × Nat) (r : List (ByteArray × Nat)) : ptC (x :: r) = .string x.1 :: .int .i64 (x.2 : Int) :: ptC r := by unfold ptC; rw [List.flatMap_cons]; rfl
theorem ptC_len (l : List (ByteArray × Nat)) : (ptC l).length = l.length * 2 := by
  induction l with
  | nil => rfl
  | cons x r ih => rw [ptC_cons, List.length_cons, List.length_cons, ih, List.length_cons]; omega
theorem ptC_get (l : List (ByteArray × Nat)) (i : Nat) (h : i < l.length) : (ptC l)[i * 2]? = some (.string l[i].1) ∧ (ptC l)[i * 2 + 1]? = some (.int .i64 (l[i].2 : Int)) := by
  induction l generalizing i with
  | nil => simp at h
  | cons x r ih =>
    rw [ptC_cons]
    cases i with
    | zero => exact ⟨rfl, rfl⟩
    | succ i =>
      have := ih i (by simp at h; omega)
      rw [show (i + 1) * 2 = i * 2 + 1 + 1 by omega]
      simp only [List.getElem?_cons_succ, List.getElem_cons_succ]
      exact this
theorem own_pair {w : World} {base base' n c n' c' : Nat} {xs ys : List Value} {A B : Option Addr} {e e' : TypeId} (h : Own w base e 1 A n c xs) (k : Own w base' e' 1 B n' c' ys) (he : e ≠ e') : ∀ b, ablk A = some b → ablk B ≠ some b := fun b e1 e2 => he (own_typ2 h k e1 e2)
/-- the keys have turned -/
theorem NdB.setK {w0 w w2 : World} {gn : Nat} {X : Nat → Prop} {p : TrS} {s : Nd} {K V D K' : Option Addr} {nk ck nv cv nd cd nk' ck' : Nat} {ks : List ByteArray}
    (hb : Blk w gn 59 [.bool s.leaf, .slice K nk ck, .slice V nv cv, .slice D nd cd]) (ho : NdO w w0.heap.size s K nk ck V nv cv D nd cd) (h1 : w0.heap.size ≤ gn) (h2 : ¬ p.foot gn) (h3 : ∀ b, ablk K = some b ∨ ablk V = some b ∨ ablk D = some b → ¬ p.foot b ∧ b ≠ gn ∧ ¬ X b)
    (ho2 : Own w2 w0.heap.size 9 1 K' nk' ck' (sl ks)) (hK : Kept (fun b => ablk K = some b) w w2) (hA : ablk K' = ablk K ∨ ∃ g, ablk K' = some g ∧ w.heap.size ≤ g) (hft : ∀ b, p.foot b → b < w.heap.size) (hX : ∀ b, X b → b < w.heap.size) :
    Blk w2 gn 59 [.bool s.leaf, .slice K nk ck, .slice V nv cv, .slice D nd cd] ∧ NdB w0 (w2.setCell ⟨gn, 1, none⟩ (.slice K' nk' ck')) p gn X { s with keys := ks } := by
  have hgl := hb.lt
  have hb2 := hK.blk hb (fun e => (h3 gn (.inl e)).2.1 rfl)
  have hKn : ∀ b, ablk K' = some b → ¬ p.foot b ∧ b ≠ gn ∧ ¬ X b := fun b e => by
    rcases hA with e2 | ⟨g, e2, e3⟩
    · exact h3 b (.inl (by rw [← e2]; exact e))
    · rw [e2] at e; injection e with e; subst e
      exact ⟨fun x => by have := hft _ x; omega, by omega, fun x => by have := hX _ x; omega⟩
  have hKv : ∀ b, ablk K' = some b → ablk V ≠ some b := fun b e e4 => by
    rcases hA with e2 | ⟨g, e2, e3⟩
    · exact ho.kv b (by rw [← e2]; exact e) e4
    · rw [e2] at e; injection e with e; subst e
      have := (ho.vals.blk e4).2; omega
  have hVK : ∀ b, ablk V = some b → ¬ (ablk K = some b) := fun b e e2 => ho.kv b e2 e
  have hDK : ∀ b, ablk D = some b → ¬ (ablk K = some b) := fun b e e2 => own_pair ho.kids ho.keys (by decide) b e e2
  refine ⟨hb2, K', nk', ck', V, nv, cv, D, nd, cd, hb2.set_ 1 _, ⟨own_kept ho2 Kept.setCell_ (fun b e e2 => (hKn b e).2.1 e2), own_kept (own_kept ho.vals hK hVK) Kept.setCell_ (fun b e e2 => (h3 b (.inr (.inl e))).2.1 e2), own_kept (own_kept ho.kids hK hDK) Kept.setCell_ (fun b e e2 => (h3 b (.inr (.inr e))).2.1 e2), hKv⟩, h1, h2, ?_⟩
  rintro b (e | e | e)
  · exact hKn b e
  · exact h3 b (.inr (.inl e))
  · exact h3 b (.inr (.inr e))
/-- the kids have turned -/
theorem NdB.setD {w0 w w2 : World} {gn : Nat} {X : Nat → Prop} {p : TrS} {s : Nd} {K V D D' : Option Addr} {nk ck nv cv nd cd nd' cd' : Nat} {ds : List Int}
    (hb : Blk w gn 59 [.bool s.leaf, .slice K nk ck, .slice V nv cv, .slice D nd cd]) (ho : NdO w w0.heap.size s K nk ck V nv cv D nd cd) (h1 : w0.heap.size ≤ gn) (h2 : ¬ p.foot gn) (h3 : ∀ b, ablk K = some b ∨ ablk V = some b ∨ ablk D = some b → ¬ p.foot b ∧ b ≠ gn ∧ ¬ X b)
    (ho2 : Own w2 w0.heap.size 3 1 D' nd' cd' (il ds)) (hK : Kept (fun b => ablk D = some b) w w2) (hA : ablk D' = ablk D ∨ ∃ g, ablk D' = some g ∧ w.heap.size ≤ g) (hft : ∀ b, p.foot b → b < w.heap.size) (hX : ∀ b, X b → b < w.heap.size) :
    Blk w2 gn 59 [.bool s.leaf, .slice K nk ck, .slice V nv cv, .slice D nd cd] ∧ NdB w0 (w2.setCell ⟨gn, 3, none⟩ (.slice D' nd' cd')) p gn X { s with kids := ds } := by
  have hgl := hb.lt
  have hb2 := hK.blk hb (fun e => (h3 gn (.inr (.inr e))).2.1 rfl)
  have hKn : ∀ b, ablk D' = some b → ¬ p.foot b ∧ b ≠ gn ∧ ¬ X b := fun b e => by
    rcases hA with e2 | ⟨g, e2, e3⟩
    · exact h3 b (.inr (.inr (by rw [← e2]; exact e)))
    · rw [e2] at e; injection e with e; subst e
      exact ⟨fun x => by have := hft _ x; omega, by omega, fun x => by have := hX _ x; omega⟩
  have hVD : ∀ b, ablk V = some b → ¬ (ablk D = some b) := fun b e e2 => own_pair ho.vals ho.kids (by decide) b e e2
  have hKD : ∀ b, ablk K = some b → ¬ (ablk D = some b) := fun b e e2 => own_pair ho.keys ho.kids (by decide) b e e2
  refine ⟨hb2, K, nk, ck, V, nv, cv, D', nd', cd', hb2.set_ 3 _, ⟨own_kept (own_kept ho.keys hK hKD) Kept.setCell_ (fun b e e2 => (h3 b (.inl e)).2.1 e2), own_kept (own_kept ho.vals hK hVD) Kept.setCell_ (fun b e e2 => (h3 b (.inr (.inl e))).2.1 e2), own_kept ho2 Kept.setCell_ (fun b e e2 => (hKn b e).2.1 e2), ho.kv⟩, h1, h2, ?_⟩
  rintro b (e | e | e)
  · exact h3 b (.inl e)
  · exact h3 b (.inr (.inl e))
  · exact hKn b e
/-- .. the values -/
theorem NdB.setV {w0 w w2 : World} {gn : Nat} {X : Nat → Prop} {p : TrS} {s : Nd} {K V D V' : Option Addr} {nk ck nv cv nd cd nv' cv' : Nat} {vs : List ByteArray}
    (hb : Blk w gn 59 [.bool s.leaf, .slice K nk ck, .slice V nv cv, .slice D nd cd]) (ho : NdO w w0.heap.size s K nk ck V nv cv D nd cd) (h1 : w0.heap.size ≤ gn) (h2 : ¬ p.foot gn) (h3 : ∀ b, ablk K = some b ∨ ablk V = some b ∨ ablk D = some b → ¬ p.foot b ∧ b ≠ gn ∧ ¬ X b)
    (ho2 : Own w2 w0.heap.size 9 1 V' nv' cv' (sl vs)) (hK : Kept (fun b => ablk V = some b) w w2) (hA : ablk V' = ablk V ∨ ∃ g, ablk V' = some g ∧ w.heap.size ≤ g) (hft : ∀ b, p.foot b → b < w.heap.size) (hX : ∀ b, X b → b < w.heap.size) :
    Blk w2 gn 59 [.bool s.leaf, .slice K nk ck, .slice V nv cv, .slice D nd cd] ∧ NdB w0 (w2.setCell ⟨gn, 2, none⟩ (.slice V' nv' cv')) p gn X { s with vals := vs } := by
  have hgl := hb.lt
  have hb2 := hK.blk hb (fun e => (h3 gn (.inr (.inl e))).2.1 rfl)
  have hKn : ∀ b, ablk V' = some b → ¬ p.foot b ∧ b ≠ gn ∧ ¬ X b := fun b e => by
    rcases hA with e2 | ⟨g, e2, e3⟩
    · exact h3 b (.inr (.inl (by rw [← e2]; exact e)))
    · rw [e2] at e; injection e with e; subst e
      exact ⟨fun x => by have := hft _ x; omega, by omega, fun x => by have := hX _ x; omega⟩
  have hkv' : ∀ b, ablk K = some b → ablk V' ≠ some b := fun b e e4 => by
    rcases hA with e2 | ⟨g, e2, e3⟩
    · exact ho.kv b e (by rw [← e2]; exact e4)
    · rw [e2] at e4; injection e4 with e4; subst e4
      have := (ho.keys.blk e).2; omega
  have hKV : ∀ b, ablk K = some b → ¬ (ablk V = some b) := fun b e e2 => ho.kv b e e2
  have hDV : ∀ b, ablk D = some b → ¬ (ablk V = some b) := fun b e e2 => own_pair ho.kids ho.vals (by decide) b e e2
  refine ⟨hb2, K, nk, ck, V', nv', cv', D, nd, cd, hb2.set_ 2 _, ⟨own_kept (own_kept ho.keys hK hKV) Kept.setCell_ (fun b e e2 => (h3 b (.inl e)).2.1 e2), own_kept ho2 Kept.setCell_ (fun b e e2 => (hKn b e).2.1 e2), own_kept (own_kept ho.kids hK hDV) Kept.setCell_ (fun b e e2 => (h3 b (.inr (.inr e))).2.1 e2), hkv'⟩, h1, h2, ?_⟩
  rintro b (e | e | e)
  · exact h3 b (.inl e)
  · exact hKn b e
  · exact h3 b (.inr (.inr e))
/-- keys and values have turned -/
theorem NdB.set2 {w0 w w2 : World} {gn : Nat} {X : Nat → Prop} {p : TrS} {s : Nd} {K V D K' V' : Option Addr} {nk ck nv cv nd cd nk' ck' nv' cv' : Nat} {ks vs : List ByteArray}
    (hb : Blk w gn 59 [.bool s.leaf, .slice K nk ck, .slice V nv cv, .slice D nd cd]) (ho : NdO w w0.heap.size s K nk ck V nv cv D nd cd) (h1 : w0.heap.size ≤ gn) (h2 : ¬ p.foot gn) (h3 : ∀ b, ablk K = some b ∨ ablk V = some b ∨ ablk D = some b → ¬ p.foot b ∧ b ≠ gn ∧ ¬ X b)
    (ho2 : Own w2 w0.heap.size 9 1 K' nk' ck' (sl ks)) (hv2 : Own w2 w0.heap.size 9 1 V' nv' cv' (sl vs)) (hK : Kept (fun b => ablk K = some b ∨ ablk V = some b) w w2) (hA : ∀ b, ablk K' = some b → ablk K = some b ∨ w.heap.size ≤ b) (hA2 : ∀ b, ablk V' = some b → ablk V = some b ∨ w.heap.size ≤ b) (hkv : ∀ b, ablk K' = some b → ablk V' ≠ some b)
    (hft : ∀ b, p.foot b → b < w.heap.size) (hX : ∀ b, X b → b < w.heap.size) :
    Blk w2 gn 59 [.bool s.leaf, .slice K nk ck, .slice V nv cv, .slice D nd cd] ∧ NdB w0 ((w2.setCell ⟨gn, 1, none⟩ (.slice K' nk' ck')).setCell ⟨gn, 2, none⟩ (.slice V' nv' cv')) p gn X { s with keys := ks, vals := vs } := by
  have hgl := hb.lt
  have hb2 := hK.blk hb (fun e => by rcases e with e | e; exact (h3 gn (.inl e)).2.1 rfl; exact (h3 gn (.inr (.inl e))).2.1 rfl)
  have hnew : ∀ b, w.heap.size ≤ b → ¬ p.foot b ∧ b ≠ gn ∧ ¬ X b := fun b e => ⟨fun x => by have := hft _ x; omega, by omega, fun x => by have := hX _ x; omega⟩
  have hKn : ∀ b, ablk K' = some b → ¬ p.foot b ∧ b ≠ gn ∧ ¬ X b := fun b e => by
    rcases hA b e with e2 | e2
    · exact h3 b (.inl e2)
    · exact hnew b e2
  have hVn : ∀ b, ablk V' = some b → ¬ p.foot b ∧ b ≠ gn ∧ ¬ X b := fun b e => by
    rcases hA2 b e with e2 | e2
    · exact h3 b (.inr (.inl e2))
    · exact hnew b e2
  have hD : ∀ b, ablk D = some b → ¬ (ablk K = some b ∨ ablk V = some b) := fun b e e2 => by
    rcases e2 with e2 | e2
    · exact own_pair ho.kids ho.keys (by decide) b e e2
    · exact own_pair ho.kids ho.vals (by decide) b e e2
  have K3 : Kept (fun b => b = gn) w2 ((w2.setCell ⟨gn, 1, none⟩ (.slice K' nk' ck')).setCell ⟨gn, 2, none⟩ (.slice V' nv' cv')) := Kept.setCell_.trans Kept.setCell_ (fun _ _ x => x)
  refine ⟨hb2, K', nk', ck', V', nv', cv', D, nd, cd, (hb2.set_ 1 _).set_ 2 _, ⟨own_kept ho2 K3 (fun b e e2 => (hKn b e).2.1 e2), own_kept hv2 K3 (fun b e e2 => (hVn b e).2.1 e2), own_kept (own_kept ho.kids hK hD) K3 (fun b e e2 => (h3 b (.inr (.inr e))).2.1 e2), hkv⟩, h1, h2, ?_⟩
  rintro b (e | e | e)
  · exact hKn b e
  · exact hVn b e
  · exact h3 b (.inr (.inr e))
theorem place_keys {s : Nd} {at_ i : Nat} {l : List (ByteArray × Nat)} (hi : i < l.length) (hk : at_ ≤ s.keys.length) : (sl (placeN s at_ (l.take i)).keys).take (at_ + i) ++ .string l[i].1 :: (sl (placeN s at_ (l.take i)).keys).drop (at_ + i) = sl (placeN s at_ (l.take (i + 1))).keys := by
  have h1 := place_ins s.keys at_ i ((l.take i).map (·.1)) l[i].1 (by rw [List.length_map, List.length_take]; omega) hk
  have h2 : (placeN s at_ (l.take (i + 1))).keys = s.keys.take at_ ++ ((l.take i).map (·.1) ++ [l[i].1]) ++ s.keys.drop (at_ + 1) := by
    show s.keys.take at_ ++ (l.take (i + 1)).map (·.1) ++ s.keys.drop (at_ + 1) = _
    rw [take_get_succ l i hi, List.map_append]; rfl
  rw [h2, ← h1]
  show (sl (s.keys.take at_ ++ (l.take i).map (·.1) ++ s.keys.drop (at_ + 1))).take (at_ + i) ++ _ :: (sl (s.keys.take at_ ++ (l.take i).map (·.1) ++ s.keys.drop (at_ + 1))).drop (at_ + i) = _
  generalize s.keys.take at_ ++ (l.take i).map (·.1) ++ s.keys.drop (at_ + 1) = z
  simp [sl, List.map_take, List.map_drop]
theorem place_kids {s : Nd} {at_ i : Nat} {l : List (ByteArray × Nat)} (hi : i < l.length) (hk : at_ ≤ s.kids.length) : (il (placeN s at_ (l.take i)).kids).take (at_ + i) ++ .int .i64 (l[i].2 : Int) :: (il (placeN s at_ (l.take i)).kids).drop (at_ + i) = il (placeN s at_ (l.take (i + 1))).kids := by
  have h1 := place_ins s.kids at_ i ((l.take i).map (fun x => (x.2 : Int))) (l[i].2 : Int) (by rw [List.length_map, List.length_take]; omega) hk
  have h2 : (placeN s at_ (l.take (i + 1))).kids = s.kids.take at_ ++ ((l.take i).map (fun x => (x.2 : Int)) ++ [(l[i].2 : Int)]) ++ s.kids.drop (at_ + 1) := by
    show s.kids.take at_ ++ (l.take (i + 1)).map (fun x => (x.2 : Int)) ++ s.kids.drop (at_ + 1) = _
    rw [take_get_succ l i hi, List.map_append]; rfl
  rw [h2, ← h1]
  show (il (s.kids.take at_ ++ (l.take i).map (fun x => (x.2 : Int)) ++ s.kids.drop (at_ + 1))).take (at_ + i) ++ _ :: (il (s.kids.take at_ ++ (l.take i).map (fun x => (x.2 : Int)) ++ s.kids.drop (at_ + 1))).drop (at_ + i) = _
  generalize s.kids.take at_ ++ (l.take i).map (fun x => (x.2 : Int)) ++ s.kids.drop (at_ + 1) = z
  simp [il, List.map_take, List.map_drop]
theorem may_len3 {s : Nd} (h : mayN s) (hk : s.keys.length ≤ 240) : s.vals.length ≤ 240 ∧ s.kids.length ≤ 240 := by
  cases hl : s.leaf with
  | true => have := h.2.2.1 hl; obtain ⟨_, h1, h2, _⟩ := this; omega
  | false => have := h.2.2.2 hl; obtain ⟨h1, h2, _⟩ := this; omega
/-- what else is kept when a list of the node turns -/
theorem turn_kept {w0 U U1 W : World} {base N gn o : Nat} {p0 p : TrS} {T : Nodes} {K : Option Addr} {v : Value} (hC : TCh w0 U base p0 p N T) (hvb : Below U.heap.size U U1) (hKA : Kept (fun b => ablk K = some b) U1 W) (hK : ∀ b, ablk K = some b → w0.heap.size ≤ b ∧ ¬ p.foot b) (hg : w0.heap.size ≤ gn ∧ ¬ p.foot gn) :
    TCh w0 (W.setCell ⟨gn, o, none⟩ v) base p0 p N T ∧ (∀ g t cs, Blk U g t cs → ablk K ≠ some g → g ≠ gn → Blk (W.setCell ⟨gn, o, none⟩ v) g t cs) ∧ U.heap.size ≤ (W.setCell ⟨gn, o, none⟩ v).heap.size := by
  refine ⟨((hC.below hvb (Nat.le_refl _)).kept hKA hK).kept Kept.setCell_ (fun b e => by rw [e]; exact hg), fun g t cs hb h1 h2 => ?_, ?_⟩
  · exact Kept.setCell_.blk (hKA.blk (hb.below hvb hb.lt) h1) h2
  · have h1 := hvb.size; have h2 := hKA.size
    simp; omega
end Go.Proofs.Ytdakohbfibcjeaa
