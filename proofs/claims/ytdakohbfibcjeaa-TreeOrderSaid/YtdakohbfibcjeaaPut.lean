/- tree.Put of a key that is not there: its walk. No condition. -/
import Derived.Test.YtdakohbfibcjeaaChi
import Derived.Test.YtdakohbfibcjeaaTop
namespace Go.Proofs.Ytdakohbfibcjeaa
open Go.RowKit Go.Maps
set_option linter.unusedSimpArgs false
set_option linter.unusedVariables false

def oneLeaf (key val : ByteArray) : Nd := ⟨true, [key], [val], []⟩
set_option maxRecDepth 100000 in
set_option maxHeartbeats 4000000 in
/-- .. into an empty tree -/
theorem put_new {w : World} {base N : Nat} {p : TrS} {T : Nodes} {key val : ByteArray} (h : TrM w base p N T) (hr : Room N T 1) (hk : 1 ≤ key.size ∧ key.size ≤ 24) (hv : val.size ≤ 24) (hm : mayN (oneLeaf key val)) :
    Calls Try.prog 7 #[.pointer (some ⟨p.g, 0, none⟩), .int .i64 0, .string key, .string val] w (TopTo w base p N T (oneLeaf key val)) := by
  obtain ⟨n0, hn0, hT0⟩ := Room.some_ (r := 0) hr
  obtain ⟨gp, hgp⟩ : ∃ z, z = p.g := ⟨_, rfl⟩
  have hzp := zeroPart
  have hzn := zero26_
  have hke : key.toList.isEmpty = false := by
    rw [toList_empty]; refine decide_eq_false (fun e => ?_)
    rw [e] at hk; exact absurd hk.1 (by decide)
  have hk24 : ¬ (24 : Int) < (key.size : Int) := by omega
  have hv24 : ¬ (24 : Int) < (val.size : Int) := by omega
  have H := Lib.hid h
  have HM := Lib.hid hm
  have HT0 := Lib.hid hT0
  have HGp := Lib.hid hgp
  rw [← hgp]
  clear h hr hm hT0 hgp
  go_enter Try.func7, Try.ntmps7
  go_upto_region 4 with fail
  obtain ⟨gk, hgk⟩ : ∃ z, z = w.heap.size := ⟨_, rfl⟩
  rw [← hgk]
  obtain ⟨gv, hgv⟩ : ∃ z, z = gk + 1 := ⟨_, rfl⟩
  rw [← hgv]
  have hal : Below w.heap.size w ((w.alloc (.cells #[.string key] 9)).alloc (.cells #[.string val] 9)) := ((Below.refl _ _).alloc (Nat.le_refl _) _).alloc (by simp) _
  refine wp_world (fun U => TCh w U base p p N T ∧ Blk U gk 9 [.string key] ∧ Blk U gv 9 [.string val]) ⟨(TGh.init H.out).below hal (Nat.le_refl _), (Blk.new_at (cs := [.string key]) hgk).alloc _, Blk.new_at (cs := [.string val]) (by simp; omega)⟩ ?_
  clear hal hgk hgv H
  rintro U ⟨hC, hA, hB⟩
  have c1 := hA.cells
  have c2 := hB.cells
  have hal2 : Below U.heap.size U ((U.alloc (.cells #[.string key] 9)).alloc (.cells #[.string val] 9)) := ((Below.refl _ _).alloc (Nat.le_refl _) _).alloc (by simp) _
  have hC2 := hC.below hal2 (Nat.le_refl _)
  have S0 := save_any (key := .empty) (s := oneLeaf key val) (lo := 0) (K := some ⟨U.heap.size, 0, none⟩) (Vl := some ⟨U.heap.size + 1, 0, none⟩) (D := none) (nk := 1) (ck := 1) (nv := 1) (cv := 1) (nd := 0) (cd := 0) hC2.tr hn0 HT0.out HM.out (by simp [oneLeaf])
    ⟨⟨rfl, by omega, by omega, ((Blk.new U 9 [.string key]).alloc _).rd0 (Nat.zero_le _)⟩, ⟨rfl, by omega, by omega, (Blk.new_at (w := U.alloc (.cells #[.string key] 9)) (cs := [.string val]) (n := U.heap.size + 1) (by simp)).rd0 (Nat.zero_le _)⟩, Ls.nil_ _ _, (may_sm HM.out).1, (may_sm HM.out).2, by omega, by omega, by omega⟩
  rw [← HGp.out] at S0
  have S : Hid (Calls Try.prog 15 #[.pointer (some ⟨gp, 0, none⟩), .agg #[.bool true, .slice (some ⟨U.heap.size, 0, none⟩) 1 1, .slice (some ⟨U.heap.size + 1, 0, none⟩) 1 1, .slice none 0 0], .string ⟨#[]⟩] ((U.alloc (.cells #[.string key] 9)).alloc (.cells #[.string val] 9)) (SaveTo ((U.alloc (.cells #[.string key] 9)).alloc (.cells #[.string val] 9)) base p N T (oneLeaf key val) .empty)) := Lib.hid S0
  have HC2 := Lib.hid hC2
  have hgkU : gk < U.heap.size := hA.lt
  have hgvU : gv < U.heap.size := hB.lt
  clear hC hA hB hal2 hC2 S0 HM HT0
  go_wp2_with ((with_reducible refine Calls.mono S.out ?_); rintro e w2 ⟨n, p2, rfl, hn1, hn2, hTn, hc2⟩; have HC3 := Lib.hid (HC2.out.trans hc2); clear hc2)
  clear S HC2 c1 c2
  go_ret2
  exact ⟨n, p2, rfl, hn1, hn2, hTn, HC3.out.below ((Below.refl _ _).alloc (Nat.le_refl _) _) (Nat.le_refl _)⟩
/-- what Put makes of a tree -/
def TpR (N : Nat) (key val : ByteArray) (h : Nat) (T : Nodes) (root : Nat) (r : Nat) (T' : Nodes) : Prop :=
  ∃ l T1, ChgR N key val h T root ⟨#[]⟩ l T1 ∧ ((∃ k, l = [(k, r)] ∧ T' = T1) ∨ (l.length = 2 ∧ 50 ≤ r ∧ r < 50 + N ∧ T1 r = none ∧ T' = updT T1 r (some (topN l))))
/-- .. and what its walk wants -/
def PutP (N : Nat) (key val : ByteArray) (h : Nat) (T : Nodes) (root : Nat) : Prop :=
  ChgP N key val h T root ∧ h ≤ 15 ∧ ∀ l T1, ChgR N key val h T root ⟨#[]⟩ l T1 → (∀ k r, l = [(k, r)] → ∃ nd, T1 r = some nd ∧ (nd.leaf = true ∨ (nd.leaf = false ∧ 1 < nd.kids.length))) ∧ (l.length = 2 → mayN (topN l) ∧ Room N T1 1)
theorem chgR_len {N : Nat} {key val : ByteArray} : ∀ {h : Nat} {T : Nodes} {root : Nat} {beside : ByteArray} {l : List (ByteArray × Nat)} {T' : Nodes}, ChgR N key val h T root beside l T' → 1 ≤ l.length ∧ l.length ≤ 2
  | 0, _, _, _, _, _, ⟨_, _, _, hs, _⟩ => saved_len hs
  | _ + 1, _, _, _, _, _, ⟨_, _, _, _, _, _, _, _, hs, _⟩ => saved_len hs
def PutTo (w : World) (base : Nat) (p : TrS) (N : Nat) (R : Nat → Nodes → Prop) (e : Ending) (w' : World) : Prop :=
  ∃ (r : Nat) (p' : TrS) (T' : Nodes), e = .returned (.tuple #[.int .i64 (r : Int), .int .i64 0]) ∧ TCh w w' base p p' N T' ∧ R r T'
set_option maxRecDepth 100000 in
set_option maxHeartbeats 4000000 in
/-- .. into a tree -/
theorem put_old {w : World} {base N root hh : Nat} {p : TrS} {T : Nodes} {key val : ByteArray} (h : TrM w base p N T) (hp : PutP N key val hh T root) (hk : 1 ≤ key.size ∧ key.size ≤ 24) (hv : val.size ≤ 24) (h0 : 0 < root) :
    Calls Try.prog 7 #[.pointer (some ⟨p.g, 0, none⟩), .int .i64 (root : Int), .string key, .string val] w (PutTo w base p N (TpR N key val hh T root)) := by
  obtain ⟨gp, hgp⟩ : ∃ z, z = p.g := ⟨_, rfl⟩
  have hke : key.toList.isEmpty = false := by
    rw [toList_empty]; refine decide_eq_false (fun e => ?_)
    rw [e] at hk; exact absurd hk.1 (by decide)
  have hk24 : ¬ (24 : Int) < (key.size : Int) := by omega
  have hv24 : ¬ (24 : Int) < (val.size : Int) := by omega
  have hr0 : ¬ (root : Int) = 0 := by omega
  have hmf : ∀ (fn : Fn) (first cap : Array Value) (w : World), (Instr.makeFunc fn first cap).run Try.prog w = .ok (.func fn first cap) w := fun _ _ _ _ => rfl
  have H := Lib.hid h
  have HP := Lib.hid hp
  have HGp := Lib.hid hgp
  have hft : ∀ b, p.foot b → b < w.heap.size := fun b e => (h.foot_base b e).2
  have HFt := Lib.hid hft
  rw [← hgp]
  clear h hp hgp hft
  go_enter Try.func7, Try.ntmps7
  go_upto_region 6 with fail
  obtain ⟨gk, hgk⟩ : ∃ z, z = w.heap.size := ⟨_, rfl⟩
  rw [← hgk]
  obtain ⟨gv, hgv⟩ : ∃ z, z = gk + 1 := ⟨_, rfl⟩
  rw [← hgv]
  have hal : Below w.heap.size w ((w.alloc (.cells #[.string key] 9)).alloc (.cells #[.string val] 9)) := ((Below.refl _ _).alloc (Nat.le_refl _) _).alloc (by simp) _
  have hnf : ¬ p.foot gk ∧ ¬ p.foot gv := ⟨fun x => by have := HFt.out _ x; omega, fun x => by have := HFt.out _ x; omega⟩
  refine wp_world (fun U => TCh w U base p p N T ∧ Blk U gk 9 [.string key] ∧ Blk U gv 9 [.string val]) ⟨(TGh.init H.out).below hal (Nat.le_refl _), (Blk.new_at (cs := [.string key]) hgk).alloc _, Blk.new_at (cs := [.string val]) (by simp; omega)⟩ ?_
  clear hal hgk hgv H
  rintro U ⟨hC, hA, hB⟩
  have c1 := hA.cells
  have C0 := change_any N key val hh (beside := ⟨#[]⟩) (lv := 1) hC.tr HP.out.1 (by have := HP.out.2.1; omega) hA hB hnf.1 hnf.2
  rw [← HGp.out] at C0
  unfold closureV at C0
  have C := Lib.hid C0
  have HC := Lib.hid hC
  clear hC hA hB C0 hnf HFt
  go_upto_region 7 with ((with_reducible refine Calls.mono C.out ?_); rintro e w2 ⟨g, p2, l, T1, rfl, hg, hgw, hgf, hc2, hr⟩)
  clear C c1
  have hC2 := HC.out.trans hc2
  obtain ⟨hl1, hl2⟩ := chgR_len hr
  obtain ⟨hT1, hT2⟩ := HP.out.2.2 l T1 hr
  have HR := Lib.hid hr
  match l, hl1, hl2 with
  | [(k, r)], _, _ =>
    obtain ⟨nd, h1, h2⟩ := hT1 k r rfl
    have T0 := top_one hC2.tr h1 h2 hg
    rw [hC2.g, ← HGp.out] at T0
    have T := Lib.hid T0
    have HC2 := Lib.hid hC2
    clear T0 hC2 h1 h2 hT1 hT2 hg hgw hgf hc2 hr HC HP
    simp only [List.length_cons, List.length_nil]
    go_wp2_with ((with_reducible refine Calls.mono T.out ?_); rintro e w3 ⟨rfl, p3, hc3⟩; have HC3 := Lib.hid (HC2.out.trans hc3); clear hc3)
    clear T HC2
    go_ret2
    exact ⟨r, p3, T1, rfl, HC3.out, [(k, r)], T1, HR.out, .inl ⟨k, rfl, rfl⟩⟩
  | [(k1, r1), (k2, r2)], _, _ =>
    obtain ⟨h1, h2⟩ := hT2 rfl
    have T0 := top_two hC2.tr h2 h1 hg
    rw [hC2.g, ← HGp.out] at T0
    have T := Lib.hid T0
    have HC2 := Lib.hid hC2
    clear T0 hC2 h1 h2 hT1 hT2 hg hgw hgf hc2 hr HC HP
    simp only [List.length_cons, List.length_nil]
    go_wp2_with ((with_reducible refine Calls.mono T.out ?_); rintro e w3 ⟨n, p3, rfl, hn1, hn2, hTn, hc3⟩; have HC3 := Lib.hid (HC2.out.trans hc3); clear hc3)
    clear T HC2
    go_ret2
    exact ⟨n, p3, _, rfl, HC3.out, [(k1, r1), (k2, r2)], T1, HR.out, .inr ⟨rfl, hn1, hn2, hTn, rfl⟩⟩
end Go.Proofs.Ytdakohbfibcjeaa
