/- tree.change where a key that is not there is put: its walk. No condition. -/
import Derived.Test.YtdakohbfibcjeaaPlw
import Derived.Test.YtdakohbfibcjeaaPc
import Derived.Test.YtdakohbfibcjeaaNodPlL
import Derived.OwnWalk
namespace Go.Proofs.Ytdakohbfibcjeaa
open Go.RowKit Go.Maps
set_option linter.unusedSimpArgs false
set_option linter.unusedVariables false

/-- what saves wants of a node -/
def SaveOk (s : Nd) : Prop := (szV (sizeN s) ≤ 240 → mayN s) ∧ (240 < szV (sizeN s) → 2 ≤ s.keys.length ∧ ∀ a b, SplitN s a b → mayN a ∧ mayN b ∧ a.keys.length ≤ 240 ∧ b.keys.length ≤ 240) ∧ s.keys.length ≤ 240 ∧ s.vals.length ≤ 1000000 ∧ s.kids.length ≤ 1000000 ∧ NdSm s
/-- what change makes of a tree of so many levels below the first -/
def ChgR (N : Nat) (key val : ByteArray) : Nat → Nodes → Nat → ByteArray → List (ByteArray × Nat) → Nodes → Prop
  | 0, T, root, beside, l, T' => ∃ nd T1, T root = some nd ∧ SavedN N T (insN nd (placeL nd key nd.keys.length) key val) beside l T1 ∧ T' = updT T1 root none
  | h + 1, T, root, beside, l, T' => ∃ nd l0 T1 T2 kid, T root = some nd ∧ nd.kids.getD (placeTo nd key nd.keys.length) 0 = (kid : Nat) ∧ ChgR N key val h T kid (kAt nd (placeTo nd key nd.keys.length)) l0 T1 ∧ SavedN N T1 (placeN nd (placeTo nd key nd.keys.length) l0) beside l T2 ∧ T' = updT T2 root none
/-- what its walk wants -/
def ChgP (N : Nat) (key val : ByteArray) : Nat → Nodes → Nat → Prop
  | 0, T, root => ∃ nd, T root = some nd ∧ nd.leaf = true ∧ nd.vals.length = nd.keys.length ∧ nd.keys.length ≤ 240 ∧ placeL nd key nd.keys.length ≤ nd.keys.length ∧ (placeL nd key nd.keys.length < nd.keys.length → kAt nd (placeL nd key nd.keys.length) ≠ key) ∧ SaveOk (insN nd (placeL nd key nd.keys.length) key val) ∧ Room N T 2
  | h + 1, T, root => ∃ nd kid, T root = some nd ∧ nd.leaf = false ∧ nd.kids.length = nd.keys.length ∧ 2 ≤ nd.keys.length ∧ nd.keys.length ≤ 240 ∧ placeTo nd key nd.keys.length < nd.keys.length ∧ nd.kids.getD (placeTo nd key nd.keys.length) 0 = (kid : Nat) ∧ ChgP N key val h T kid ∧
      ∀ l0 T1, ChgR N key val h T kid (kAt nd (placeTo nd key nd.keys.length)) l0 T1 → T1 root = some nd ∧ 1 ≤ l0.length ∧ l0.length ≤ 2 ∧ (l0.length = 1 → NoJoin T1 (placeN nd (placeTo nd key nd.keys.length) l0)) ∧ SaveOk (placeN nd (placeTo nd key nd.keys.length) l0) ∧ Room N T1 2
theorem saved_len {N : Nat} {T T' : Nodes} {s : Nd} {key : ByteArray} {l : List (ByteArray × Nat)} (h : SavedN N T s key l T') : 1 ≤ l.length ∧ l.length ≤ 2 := by
  rcases h with ⟨_, n, _, _, _, rfl, _⟩ | ⟨_, a, b, n1, n2, _, _, _, _, _, _, _, rfl, _⟩
  · exact ⟨by simp, by simp⟩
  · exact ⟨by simp, by simp⟩
theorem saved_keep {N r : Nat} {T T' : Nodes} {s x : Nd} {key : ByteArray} {l : List (ByteArray × Nat)} (h : SavedN N T s key l T') (hr : T r = some x) : T' r = some x := by
  have keep : ∀ (T : Nodes) (n : Nat) (y : Nd), T n = none → T r = some x → updT T n (some y) r = some x := fun T n y h1 h2 => by
    have : r ≠ n := fun e => by rw [e, h1] at h2; cases h2
    exact (if_neg this).trans h2
  rcases h with ⟨_, n, _, _, h1, _, rfl⟩ | ⟨_, a, b, n1, n2, _, _, _, _, _, h1, h2, _, rfl⟩
  · exact keep _ _ _ h1 hr
  · exact keep _ _ _ h2 (keep _ _ _ h1 hr)
theorem NdO.weak {w : World} {lo lo' : Nat} {s : Nd} {K V D : Option Addr} {nk ck nv cv nd cd : Nat} (h : NdO w lo s K nk ck V nv cv D nd cd) (hl : lo' ≤ lo) : NdO w lo' s K nk ck V nv cv D nd cd := ⟨h.keys.weak hl, h.vals.weak hl, h.kids.weak hl, h.kv⟩
/-- what load leaves, in a variable -/
theorem NdB.loaded {w w1 : World} {base N kx vx lo1 : Nat} {p p1 : TrS} {T : Nodes} {nd : Nd} {K V D : Option Addr} {nk ck nv cv ndd cd : Nat} (hc1 : TCh w w1 base p p1 N T) (ho : NdO w1 lo1 nd K nk ck V nv cv D ndd cd) (hlo : w.heap.size ≤ lo1) (hf1 : ∀ b, p1.foot b → b < lo1) (hkx : kx < w.heap.size) (hvx : vx < w.heap.size) :
    NdB w (w1.alloc (.cells #[.bool nd.leaf, .slice K nk ck, .slice V nv cv, .slice D ndd cd] 59)) p1 w1.heap.size (fun b => b = kx ∨ b = vx) nd := by
  have hal : Below w1.heap.size w1 (w1.alloc (.cells #[.bool nd.leaf, .slice K nk ck, .slice V nv cv, .slice D ndd cd] 59)) := (Below.refl _ _).alloc (Nat.le_refl _) _
  refine ⟨K, nk, ck, V, nv, cv, D, ndd, cd, Blk.new w1 _ [.bool nd.leaf, .slice K nk ck, .slice V nv cv, .slice D ndd cd], (ho.below hal (Nat.le_refl _)).weak hlo, hc1.K.size, fun x => by have := (hc1.tr.foot_base _ x).2; omega, fun b e => ?_⟩
  have := ho.blks b e
  exact ⟨fun x => by have := hf1 b x; omega, by omega, fun x => by rcases x with x | x <;> omega⟩
theorem saves_any {w : World} {base N : Nat} {p : TrS} {T : Nodes} {s : Nd} {key : ByteArray} {lo : Nat} {K Vl D : Option Addr} {nk ck nv cv nd cd : Nat} (h : TrM w base p N T) (hr : Room N T 2) (ok : SaveOk s) (hN : NdO w lo s K nk ck Vl nv cv D nd cd) :
    Calls Try.prog 29 #[.pointer (some ⟨p.g, 0, none⟩), .agg #[.bool s.leaf, .slice K nk ck, .slice Vl nv cv, .slice D nd cd], .string key] w (SavesTo w base p N T s key) := by
  obtain ⟨o1, o2, o3, o4, o5, o6⟩ := ok
  have a1 := hN.nk_eq
  have a2 := hN.nv_eq
  have a3 := hN.nd_eq
  have hn := hN.ndr o6 (by omega) (by omega) (by omega)
  by_cases hz : szV (sizeN s) ≤ 240
  · exact saves_one h (hr.mono (by omega)) hz (o1 hz) o3 hn
  · exact saves_two h hr (by omega) (o2 (by omega)).2 (o2 (by omega)).1 hn
/-- the parts of a change -/
def ChgTo (w : World) (base : Nat) (p : TrS) (N : Nat) (R : List (ByteArray × Nat) → Nodes → Prop) (e : Ending) (w' : World) : Prop :=
  ∃ g p' l T', e = .returned (.tuple #[.slice (some ⟨g, 0, none⟩) l.length l.length, .bool true, .int .i64 0]) ∧ Blk w' g 53 (ptC l) ∧ w.heap.size ≤ g ∧ ¬ p'.foot g ∧ TCh w w' base p p' N T' ∧ R l T'
def closureV (kx vx : Nat) : Value := .func (.func 17) #[] #[.pointer (some ⟨kx, 0, none⟩), .pointer (some ⟨vx, 0, none⟩)]
set_option maxRecDepth 100000 in
set_option maxHeartbeats 8000000 in
theorem change_leaf {w : World} {base N root kx vx : Nat} {p : TrS} {T : Nodes} {key val beside : ByteArray} {lv : Int} (h : TrM w base p N T) (hp : ChgP N key val 0 T root) (hl : 0 ≤ lv ∧ lv ≤ 16)
    (hk : Blk w kx 9 [.string key]) (hv : Blk w vx 9 [.string val]) (hkf : ¬ p.foot kx) (hvf : ¬ p.foot vx) :
    Calls Try.prog 16 #[.pointer (some ⟨p.g, 0, none⟩), .int .i64 (root : Int), .int .i64 lv, .string beside, .string key, closureV kx vx] w (ChgTo w base p N (ChgR N key val 0 T root beside)) := by
  obtain ⟨nd, hT, hlf, hvl, hk2, hat, hne, hok, hroom⟩ := hp
  obtain ⟨gp, hgp⟩ : ∃ z, z = p.g := ⟨_, rfl⟩
  have L0 := load_any (lv := lv) h hT ⟨by omega, hl.2⟩
  rw [← hgp] at L0
  have L := Lib.hid L0
  have HGp := Lib.hid hgp
  rw [← hgp]
  have H := Lib.hid h
  have HT := Lib.hid hT
  have HK := Lib.hid hk
  have HV := Lib.hid hv
  have HKf : Hid (¬ p.foot kx ∧ ¬ p.foot vx) := Lib.hid ⟨hkf, hvf⟩
  have HNd : Hid (nd.leaf = true ∧ nd.vals.length = nd.keys.length ∧ nd.keys.length ≤ 240) := Lib.hid ⟨hlf, hvl, hk2⟩
  have HAt : Hid (placeL nd key nd.keys.length ≤ nd.keys.length ∧ (placeL nd key nd.keys.length < nd.keys.length → kAt nd (placeL nd key nd.keys.length) ≠ key)) := Lib.hid ⟨hat, hne⟩
  have HOk := Lib.hid hok
  have HRoom := Lib.hid hroom
  have hzn := zero26_
  unfold closureV
  clear L0 h hT hk hv hkf hvf hlf hvl hk2 hat hne hok hroom hl hgp
  go_enter Try.func16, Try.ntmps16
  go_upto_region 2 with ((with_reducible refine Calls.mono L.out ?_); rintro e w1 ⟨p1, lo1, K, nk, ck, V, nv, cv, D, ndd, cd, rfl, hc1, ho, hlo, hf1⟩)
  have hkw := HK.out.lt
  have hvw := HV.out.lt
  have hC1 := hc1
  have hNb := NdB.loaded hc1 ho hlo hf1 hkw hvw
  have hK1 := hc1.K.blk HK.out HKf.out.1
  have hV1 := hc1.K.blk HV.out HKf.out.2
  have hkf1 := hc1.away HKf.out.1 hkw
  have hvf1 := hc1.away HKf.out.2 hvw
  have hal : Below w1.heap.size w1 (w1.alloc (.cells #[.bool nd.leaf, .slice K nk ck, .slice V nv cv, .slice D ndd cd] 59)) := (Below.refl _ _).alloc (Nat.le_refl _) _
  obtain ⟨g15, hg15⟩ : ∃ z, z = w1.heap.size := ⟨_, rfl⟩
  have hgk : kx ≠ g15 := by have := hc1.K.size; omega
  have hgv : vx ≠ g15 := by have := hc1.K.size; omega
  rw [← hg15] at hNb
  rw [← hg15]
  refine wp_world (fun U => TCh w U base p p1 N T ∧ NdB w U p1 g15 (fun b => b = kx ∨ b = vx) nd ∧ Blk U kx 9 [.string key] ∧ Blk U vx 9 [.string val]) ⟨hC1.below hal (Nat.le_refl _), hNb, hK1.alloc _, hV1.alloc _⟩ ?_
  clear hC1 hc1 hNb hK1 hV1 hal hg15 ho hlo hf1 hkw hvw hkf1 hvf1 L HK HV HKf H
  rintro U ⟨hC, hNb, hk, hv⟩
  have HNb := Lib.hid hNb
  obtain ⟨K1, nk1, ck1, V1, nv1, cv1, D1, nd1, cd1, hb, ho, _, _, _⟩ := hNb
  have a1 := ho.nk_eq
  have a2 := ho.nv_eq
  have a3 := ho.nd_eq
  have hsay := hC.tr.says _ _ HT.out
  have hl3 := may_len3 hsay.2.2.1 hsay.2.2.2.1
  have hn := ho.ndr (may_sm hsay.2.2.1) (by omega) (by omega) (by omega)
  have P0 := nplace_leaf HNd.out.1 key hn
  rw [HNd.out.1] at P0 hb
  rw [← a1] at P0
  have P := Lib.hid P0
  have hBc := hb.cells
  have HC := Lib.hid hC
  have HK := Lib.hid hk
  have HV := Lib.hid hv
  obtain ⟨at_, hat⟩ : ∃ z, z = placeL nd key nd.keys.length := ⟨_, rfl⟩
  rw [← hat] at P HAt HOk
  have HAtE := Lib.hid hat
  clear hC hk hv hb ho a2 a3 hsay hl3 hn P0 hat
  rw [a1] at P
  go_upto_region 5 with ((with_reducible refine Calls.mono P.out ?_); rintro e w2 ⟨rfl, hb2⟩)
  clear P hBc
  have hC2 := HC.out.below hb2 (Nat.le_refl _)
  have hNb2 := HNb.out.below hb2 (Nat.le_refl _)
  have hK2 := HK.out.below hb2 HK.out.lt
  have hV2 := HV.out.below hb2 HV.out.lt
  have hb0 : w2.cell? ⟨g15, 0, none⟩ = some (.bool true) := by
    obtain ⟨K1, nk1, ck1, V1, nv1, cv1, D1, nd1, cd1, hb, _⟩ := hNb2
    have := hb.cell 0
    rw [HNd.out.1] at this; exact this
  have C := Lib.hid (putc_any hC2 hNb2 hK2 hV2 hgk hgv HNd.out.1 HNd.out.2.1 HNd.out.2.2 HAt.out.1 HAt.out.2)
  have HsizeU : Hid (w.heap.size ≤ w2.heap.size) := Lib.hid hC2.K.size
  clear hC2 hNb2 hK2 hV2 HC HNb HK HV hb2
  go_upto_region 14 with ((with_reducible refine Calls.mono C.out ?_); rintro e w3 ⟨rfl, hC3, hNb3⟩)
  clear C hb0
  obtain ⟨K2, nk2, ck2, V2, nv2, cv2, D2, nd2, cd2, hb3, ho3, _, _, _⟩ := hNb3
  have S0 := saves_any (key := beside) hC3.tr HRoom.out HOk.out ho3
  rw [hC3.g, ← HGp.out] at S0
  have S := Lib.hid S0
  have hBc := hb3.cells
  have HC3 := Lib.hid hC3
  clear S0 hb3 ho3 hC3
  go_upto_region 16 with ((with_reducible refine Calls.mono S.out ?_); rintro e w4 ⟨g, p4, l, T1, rfl, hg, hgw, hgf, hc4, hsv⟩)
  clear S hBc
  have hC4 := HC3.out.trans hc4
  have G0 := gone_any hC4.tr (saved_keep hsv HT.out)
  rw [hC4.g, ← HGp.out] at G0
  have G := Lib.hid G0
  have HC4 := Lib.hid hC4
  have HG := Lib.hid hg
  have HGf := Lib.hid hgf
  have HSv := Lib.hid hsv
  have hgw' : w.heap.size ≤ g := Nat.le_trans HC3.out.K.size hgw
  clear G0 hC4 hg hgf hsv hc4 HC3 hgw
  go_wp2_with ((with_reducible refine Calls.mono G.out ?_); rintro e w5 ⟨rfl, p5, hc5⟩)
  have hfin : ChgTo w base p N (ChgR N key val 0 T root beside) (.returned (.tuple #[.slice (some ⟨g, 0, none⟩) l.length l.length, .bool true, .int .i64 0])) w5 :=
    ⟨g, p5, l, _, rfl, hc5.K.blk HG.out HGf.out, hgw', hc5.away HGf.out HG.out.lt, HC4.out.trans hc5, nd, T1, HT.out, by rw [← HAtE.out]; exact HSv.out, rfl⟩
  have HF := Lib.hid hfin
  clear hfin hc5 G HC4 HG HGf HSv
  go_ret3
  exact HF.out
end Go.Proofs.Ytdakohbfibcjeaa
