/- A tree's load, save and gone, in memory. No condition. -/
import Derived.Test.YtdakohbfibcjeaaTr
import Derived.Test.YtdakohbfibcjeaaNodPut
namespace Go.Proofs.Ytdakohbfibcjeaa
open Go.RowKit Go.Maps
set_option linter.unusedSimpArgs false
set_option linter.unusedVariables false

/-- a node whose lists are of the call's own -/
structure NdO (w : World) (lo : Nat) (s : Nd) (K : Option Addr) (nk ck : Nat) (V : Option Addr) (nv cv : Nat) (D : Option Addr) (nd cd : Nat) : Prop where
  keys : Own w lo 9 1 K nk ck (sl s.keys)
  vals : Own w lo 9 1 V nv cv (sl s.vals)
  kids : Own w lo 3 1 D nd cd (il s.kids)
  kv : ∀ g, ablk K = some g → ablk V ≠ some g
/-- no text is too long -/
def NdSm (s : Nd) : Prop := (∀ i, (kAt s i).size ≤ 140737488355328) ∧ ∀ i, (vAt s i).size ≤ 140737488355328
section
variable {F : Nat → Prop} {w w' : World} {lo B : Nat} {s : Nd} {K V D : Option Addr} {nk ck nv cv nd cd : Nat}
theorem NdO.ndr (h : NdO w lo s K nk ck V nv cv D nd cd) (hs : NdSm s) (h1 : nk ≤ 1000000) (h2 : nv ≤ 1000000) (h3 : nd ≤ 1000000) : NdR w lo s K nk ck V nv cv D nd cd :=
  ⟨own_ls h.keys, own_ls h.vals, own_ls h.kids, hs.1, hs.2, by omega, by omega, by omega⟩
theorem NdO.below (h : NdO w lo s K nk ck V nv cv D nd cd) (hb : Below B w w') (hB : w.heap.size ≤ B) : NdO w' lo s K nk ck V nv cv D nd cd := ⟨h.keys.below hb hB, h.vals.below hb hB, h.kids.below hb hB, h.kv⟩
theorem NdO.blks (h : NdO w lo s K nk ck V nv cv D nd cd) : ∀ b, ablk K = some b ∨ ablk V = some b ∨ ablk D = some b → lo ≤ b ∧ b < w.heap.size := by
  rintro b (e | e | e)
  · exact h.keys.blk e
  · exact h.vals.blk e
  · exact h.kids.blk e
theorem NdO.kept (h : NdO w lo s K nk ck V nv cv D nd cd) (k : Kept F w w') (hF : ∀ b, ablk K = some b ∨ ablk V = some b ∨ ablk D = some b → ¬ F b) : NdO w' lo s K nk ck V nv cv D nd cd :=
  ⟨own_kept h.keys k (fun b e => hF b (.inl e)), own_kept h.vals k (fun b e => hF b (.inr (.inl e))), own_kept h.kids k (fun b e => hF b (.inr (.inr e))), h.kv⟩
theorem NdO.nk_eq (h : NdO w lo s K nk ck V nv cv D nd cd) : s.keys.length = nk := by have := h.keys.len1; rwa [length_sl] at this
theorem NdO.nv_eq (h : NdO w lo s K nk ck V nv cv D nd cd) : s.vals.length = nv := by have := h.vals.len1; rwa [length_sl] at this
theorem NdO.nd_eq (h : NdO w lo s K nk ck V nv cv D nd cd) : s.kids.length = nd := by have := h.kids.len1; rwa [length_il] at this
end
theorem may_sm {s : Nd} (h : mayN s) : NdSm s := by
  refine ⟨fun i => ?_, fun i => ?_⟩
  · by_cases hi : i < s.keys.length
    · have := (h.2.1 i hi).1; omega
    · unfold kAt; rw [List.getD_eq_getElem?_getD, List.getElem?_eq_none (by omega)]; exact Nat.zero_le _
  · by_cases hi : i < s.vals.length
    · cases hl : s.leaf with
      | true => have := (h.2.2.1 hl).2.2.2 i hi; unfold vAt; omega
      | false => have := (h.2.2.2 hl).2.1; omega
    · unfold vAt; rw [List.getD_eq_getElem?_getD, List.getElem?_eq_none (by omega)]; exact Nat.zero_le _
theorem kindN_12 (s : Nd) : 1 ≤ kindN s ∧ kindN s ≤ 2 := by unfold kindN; split <;> omega
/-- cache.Get of a block that is a node -/
def CgTo (w : World) (base : Nat) (p : TrS) (N : Nat) (T : Nodes) (nd : Nd) (e : Ending) (w' : World) : Prop :=
  ∃ p' A c, e = .returned (.tuple #[.agg #[.int .i64 (kindN nd : Int), .slice A (bodyN nd).length c], .int .i64 0]) ∧ TCh w w' base p p' N T ∧ Own w' w.heap.size 5 1 A (bodyN nd).length c (bvs (bodyN nd))
theorem cget_T {w : World} {base N n : Nat} {p : TrS} {T : Nodes} {nd : Nd} (h : TrM w base p N T) (hT : T n = some nd) :
    Calls Try.prog 41 #[.pointer (some ⟨p.k.g, 0, none⟩), .int .i64 (n : Int)] w (CgTo w base p N T nd) := by
  obtain ⟨h1, h2, h3, h4, h5⟩ := h.says n nd hT
  obtain ⟨g1, g2, g3, g4, g5⟩ := get_cont h.ok h.cons h1 (by rw [h.n]; exact h2)
  refine (get_any_c h.cd h.ok (z := (n : Int))).mono ?_
  rintro e w' ⟨k', A, c, rfl, hc, ho, _⟩
  rw [h5] at g1 g2
  have e2 := g2 rfl
  rw [g1, e2]
  rw [e2] at ho
  exact ⟨_, A, c, rfl, h.onC hc (get_c_ok h.ok _) g5 (h.says.same g4), ho⟩
theorem cput_T {w : World} {base N n : Nat} {p : TrS} {T : Nodes} {f : Nat → Bool} {m : Nat → Option Value} {nd : Nd} (h : TrG w base p N T f m) (h1 : 50 ≤ n) (h2 : n < 50 + N) (hm : mayN nd) (hk : nd.keys.length ≤ 240) {lo c : Nat} {A : Option Addr} (hbs : Bs w lo A (bodyN nd).length c (bodyN nd)) (hoff : ∀ b, ablk A = some b → ¬ p.foot b) :
    Calls Try.prog 25 #[.pointer (some ⟨p.k.g, 0, none⟩), .int .i64 (n : Int), .agg #[.int .i64 (kindN nd : Int), .slice A (bodyN nd).length c]] w fun e w' => e = .returned (.int .i64 0) ∧ ∃ p', TGh w w' base p p' N (updT T n (some nd)) f m := by
  have hlen := length_bodyN hm (by omega)
  have hk12 := kindN_12 nd
  have hmay : mayB (n : Int) (kindN nd : Int) (bodyN nd).length := ⟨by omega, by omega, hlen⟩
  obtain ⟨g1, g2, g3⟩ := put_cont h.ok h.cons h1 (by rw [h.n]; exact h2) (kd := (kindN nd : Int)) (l := bodyN nd)
  refine (put_any_c h.cd h.ok (z := (n : Int)) (kd := (kindN nd : Int)) (by have := h.small; omega) hbs (fun _ b e x => hoff b e (.inl (hard_foot x)))).mono ?_
  rintro e w' ⟨rfl, k', hc⟩
  rw [if_pos hmay] at g1
  rw [g1]
  refine ⟨rfl, _, h.onC hc (put_ca_ok h.ok) g3 (h.says.upd h1 h2 hm hk (fun j => ?_))⟩
  rw [g2]
  by_cases e : j = n
  · rw [if_pos e, if_pos ⟨e, hmay⟩]; rfl
  · rw [if_neg e, if_neg (fun q => e q.1)]
theorem cforget_T {w : World} {base N n : Nat} {p : TrS} {T : Nodes} {f : Nat → Bool} {m : Nat → Option Value} (h : TrG w base p N T f m) (hn : n < 50 + N) :
    Calls Try.prog 39 #[.pointer (some ⟨p.k.g, 0, none⟩), .int .i64 (n : Int)] w fun e w' => e = .returned (.tuple #[]) ∧ ∃ p', TGh w w' base p p' N (updT T n none) f m := by
  refine (forget_any h.cd (z := (n : Int)) (by have := h.small; omega)).mono ?_
  rintro e w' ⟨rfl, k', hc⟩
  have hok : CaOk (50 + N) p.s := by have := h.ok; rwa [h.n] at this
  obtain ⟨g1, g2⟩ := forget_cont (n := n) hok h.cons
  exact ⟨rfl, _, h.onC hc (forget_ok h.ok _) g2 (h.says.none_ g1)⟩
/-- node.Get of a node's bytes -/
def NgTo (w : World) (s : Nd) (e : Ending) (w' : World) : Prop :=
  ∃ K nk ck V nv cv D nd cd, e = .returned (.tuple #[.agg #[.bool s.leaf, .slice K nk ck, .slice V nv cv, .slice D nd cd], .int .i64 0]) ∧ NdO w' w.heap.size s K nk ck V nv cv D nd cd ∧ Below w.heap.size w w'
theorem nget_own {s : Nd} {kd : Int} {A : Option Addr} {m c lo : Nat} {body : List UInt8} {w : World} (hb : Bs w lo A m c body) (hg : getN kd body = some s) :
    Calls Try.prog 42 #[.agg #[.int .i64 kd, .slice A m c]] w (NgTo w s) := by
  refine (ngeto_any kd hb).mono ?_
  rw [hg]
  rintro e w' ⟨K, nk, ck, V, nv, cv, D, nd, cd, rfl, _, hb', ho⟩
  obtain ⟨o1, o2, o3, o4⟩ := ho rfl
  exact ⟨K, nk, ck, V, nv, cv, D, nd, cd, rfl, ⟨o1, o2, o3, o4⟩, hb'⟩
theorem kept_set4 {w : World} {g : Nat} {a b c d : Value} : Kept (fun x => x = g) w ((((w.setCell ⟨g, 0, none⟩ a).setCell ⟨g, 1, none⟩ b).setCell ⟨g, 2, none⟩ c).setCell ⟨g, 3, none⟩ d) :=
  ((Kept.setCell_.trans Kept.setCell_ (fun _ _ x => x)).trans Kept.setCell_ (fun _ _ x => x)).trans Kept.setCell_ (fun _ _ x => x)
/-- what load tells of a node -/
def LoadTo (w : World) (base : Nat) (p : TrS) (N : Nat) (T : Nodes) (s : Nd) (e : Ending) (w' : World) : Prop :=
  ∃ p' lo K nk ck V nv cv D nd cd, e = .returned (.tuple #[.agg #[.bool s.leaf, .slice K nk ck, .slice V nv cv, .slice D nd cd], .int .i64 0]) ∧ TCh w w' base p p' N T ∧ NdO w' lo s K nk ck V nv cv D nd cd ∧ w.heap.size ≤ lo ∧ ∀ b, p'.foot b → b < lo
set_option maxRecDepth 100000 in
set_option maxHeartbeats 2000000 in
theorem load_any {w : World} {base N n : Nat} {p : TrS} {T : Nodes} {s : Nd} {lv : Int} (h : TrM w base p N T) (hT : T n = some s) (hl : -100 ≤ lv ∧ lv ≤ 16) :
    Calls Try.prog 26 #[.pointer (some ⟨p.g, 0, none⟩), .int .i64 (n : Int), .int .i64 lv] w (LoadTo w base p N T s) := by
  have hz := zero26_
  have hz2 := zeroBk
  have hs := h.says n s hT
  have hget : getN (kindN s : Int) (bodyN s) = some s := getN_putN s hs.2.2.1 (by have := hs.2.2.2.1; omega)
  have hlv : lv ≤ 16 := hl.2
  have hal : Below w.heap.size w (w.alloc (.cells #[.bool false, .slice none 0 0, .slice none 0 0, .slice none 0 0] 59)) := (Below.refl _ _).alloc (Nat.le_refl _) _
  have hnf : ¬ p.foot w.heap.size := fun x => by have := (h.foot_base _ x).2; omega
  obtain ⟨gp, hgp⟩ : ∃ z, z = p.g := ⟨_, rfl⟩
  have HGp := Lib.hid hgp
  rw [← hgp]
  have H := Lib.hid h
  have HT := Lib.hid hT
  have HGet := Lib.hid hget
  clear h hT hs hget hgp hl
  go_enter Try.func26, Try.ntmps26
  go_upto_region 1 with fail
  obtain ⟨gr, hgr⟩ : ∃ z, z = w.heap.size := ⟨_, rfl⟩
  rw [← hgr] at hnf
  rw [← hgr]
  refine wp_world (fun V => TCh w V base p p N T ∧ Blk V gr 59 [.bool false, .slice none 0 0, .slice none 0 0, .slice none 0 0]) ⟨(TGh.init H.out).below hal (Nat.le_refl _), Blk.new_at (cs := [.bool false, .slice none 0 0, .slice none 0 0, .slice none 0 0]) hgr⟩ ?_
  clear hal
  rintro V ⟨hC, hB⟩
  have c0 : V.cell? ⟨gp, 0, none⟩ = some (.pointer (some ⟨p.k.g, 0, none⟩)) := by rw [HGp.out]; exact hC.tr.blk.cell 0
  have G := Lib.hid (cget_T hC.tr HT.out)
  have HC := Lib.hid hC
  have HB := Lib.hid hB
  have HNf := Lib.hid hnf
  have HGr := Lib.hid hgr
  clear hC hB hnf hgr
  go_upto_region 4 with ((with_reducible refine Calls.mono G.out ?_); rintro e w1 ⟨p1, A, c, rfl, hc1, ho1⟩)
  have hC1 := HC.out.trans hc1
  have hnf1 : ¬ p1.foot gr := hc1.away HNf.out HB.out.lt
  have hB1 : Blk w1 gr _ _ := hc1.K.blk HB.out (fun x => HNf.out x)
  obtain ⟨g1, hg1⟩ : ∃ z, z = w1.heap.size := ⟨_, rfl⟩
  rw [← hg1]
  have hal1 : Below w1.heap.size w1 (w1.alloc (.cells #[.int .i64 (kindN s : Int), .slice A (bodyN s).length c] 89)) := (Below.refl _ _).alloc (Nat.le_refl _) _
  refine wp_world (fun V => TCh w V base p p1 N T ∧ Blk V gr 59 [.bool false, .slice none 0 0, .slice none 0 0, .slice none 0 0] ∧ Blk V g1 89 [.int .i64 (kindN s : Int), .slice A (bodyN s).length c] ∧ Bs V 0 A (bodyN s).length c (bodyN s) ∧ (∀ b, p1.foot b → b < V.heap.size))
    ⟨hC1.below hal1 (Nat.le_refl _), hB1.alloc _, Blk.new_at (cs := [.int .i64 (kindN s : Int), .slice A (bodyN s).length c]) hg1, ((own_bs ho1).weak (Nat.zero_le _)).below hal1 (Nat.le_refl _), fun b e => Nat.lt_of_lt_of_le (hC1.tr.foot_base b e).2 hal1.size⟩ ?_
  clear hC1 hB1 hal1 ho1 hc1 G HC HB c0 hg1
  rintro V1 ⟨hC1, hB1, hB2, hbs, hft⟩
  have c1 := hB2.cells
  have N1 := Lib.hid (nget_own hbs HGet.out)
  have hgrV : gr < V1.heap.size := hB1.lt
  have hge : w.heap.size ≤ V1.heap.size := hC1.K.size
  have HC1 := Lib.hid hC1
  have HB1 := Lib.hid hB1
  have HFt := Lib.hid hft
  have HNf1 := Lib.hid hnf1
  have hB1c := hB1.cells
  have hB1f := hB1.frees
  clear hC1 hB1 hft hbs hB2 hnf1 hB1c hB1f
  go_upto_region 6 with fail
  go_wp2_with ((with_reducible refine Calls.mono N1.out ?_); rintro e w2 ⟨K, nk, ck, V, nv, cv, D, nd, cd, rfl, ho, hb2⟩; have HO := Lib.hid ho; have b2 : Blk w2 gr _ _ := HB1.out.below hb2 hgrV; have HB2 := Lib.hid hb2; have b2c := b2.cells; have b2f := b2.frees; have HBb := Lib.hid b2; clear ho hb2 b2)
  refine bodyPost_ret (results_nd rfl rfl rfl ((((HBb.out.set_ 0 _).set_ 1 _).set_ 2 _).set_ 3 _)) rfl ?_
  have hC2 := HC1.out.below HB2.out (Nat.le_refl _)
  refine ⟨p1, V1.heap.size, K, nk, ck, V, nv, cv, D, nd, cd, rfl, hC2.kept kept_set4 (fun b e => ⟨?_, ?_⟩), HO.out.kept kept_set4 (fun b e e2 => ?_), hge, fun b e => HFt.out b e⟩
  · rw [e, HGr.out]; exact Nat.le_refl _
  · rw [e]; exact HNf1.out
  · have := (HO.out.blks b e).1; omega

theorem zeroPart (w : World) : (zeroValue 53).run Try.prog w = .ok (.agg #[.string .empty, .int .i64 0]) w := by kernel_rfl
theorem sizePart : (Try.prog.info? 53).map (·.size) = some 2 := by kernel_rfl
theorem results_pt {fn : Func} {p t : Tmp} (h : fn.results = #[.cell p 53, .tmp t]) {tmps : Array Value} {w : World} {g : Nat} {v0 v1 x : Value}
    (hp : tmps.getD p undef = .pointer (some ⟨g, 0, none⟩)) (hx : tmps.getD t undef = x) (hB : Blk w g 53 [v0, v1]) : (results fn tmps).run Try.prog w = .ok (.tuple #[.agg #[v0, v1], x]) w := by
  have hr := run_loadVar_row (P := Try.prog) w g 53 53 #[v0, v1] (0, 0) _ hB Try.underlying53 rfl sizePart
  have hp' : tmps[p]?.getD undef = .pointer (some ⟨g, 0, none⟩) := by simpa using hp
  have hx' : tmps[t]?.getD undef = x := by simpa using hx
  simp [results, h, hp', hx', asAddr, hr]
/-- what save tells of a node, and leaves -/
def SaveTo (w : World) (base : Nat) (p : TrS) (N : Nat) (T : Nodes) (s : Nd) (key : ByteArray) (e : Ending) (w' : World) : Prop :=
  ∃ (n : Nat) (p' : TrS), e = .returned (.tuple #[.agg #[.string key, .int .i64 (n : Int)], .int .i64 0]) ∧ 50 ≤ n ∧ n < 50 + N ∧ T n = none ∧ TCh w w' base p p' N (updT T n (some s))
set_option maxRecDepth 100000 in
set_option maxHeartbeats 4000000 in
theorem save_any {w : World} {base N n0 : Nat} {p : TrS} {T : Nodes} {s : Nd} {key : ByteArray} {lo : Nat} {K Vl D : Option Addr} {nk ck nv cv nd cd : Nat} (h : TrM w base p N T) (hn0 : 50 ≤ n0 ∧ n0 < 50 + N) (hT0 : T n0 = none) (hm : mayN s) (hk : s.keys.length ≤ 240) (hN : NdR w lo s K nk ck Vl nv cv D nd cd) :
    Calls Try.prog 15 #[.pointer (some ⟨p.g, 0, none⟩), .agg #[.bool s.leaf, .slice K nk ck, .slice Vl nv cv, .slice D nd cd], .string key] w (SaveTo w base p N T s key) := by
  have hz := zeroPart
  have hz2 := zeroBk
  have hz3 := zeroUn
  have hal : Below w.heap.size w ((w.alloc (.cells #[.bool s.leaf, .slice K nk ck, .slice Vl nv cv, .slice D nd cd] 59)).alloc (.cells #[.string .empty, .int .i64 0] 53)) := ((Below.refl _ _).alloc (Nat.le_refl _) _).alloc (by simp) _
  obtain ⟨gp, hgp⟩ : ∃ z, z = p.g := ⟨_, rfl⟩
  have HGp := Lib.hid hgp
  rw [← hgp]
  have H := Lib.hid h
  have HM := Lib.hid hm
  have HK := Lib.hid hk
  have HT0 := Lib.hid hT0
  have HN := Lib.hid hN
  have hlow : ∀ b, p.foot b → b < w.heap.size := fun b e => (h.foot_base b e).2
  have HLow := Lib.hid hlow
  clear h hm hk hT0 hN hgp hlow
  go_enter Try.func15, Try.ntmps15
  go_upto_region 1 with fail
  obtain ⟨gb, hgb⟩ : ∃ z, z = w.heap.size := ⟨_, rfl⟩
  rw [← hgb]
  obtain ⟨gr, hgr⟩ : ∃ z, z = gb + 1 := ⟨_, rfl⟩
  rw [← hgr]
  have hgrw : w.heap.size ≤ gr := by omega
  refine wp_world (fun V => TCh w V base p p N T ∧ Blk V gb 59 [.bool s.leaf, .slice K nk ck, .slice Vl nv cv, .slice D nd cd] ∧ Blk V gr 53 [.string .empty, .int .i64 0] ∧ NdR V lo s K nk ck Vl nv cv D nd cd)
    ⟨(TGh.init H.out).below hal (Nat.le_refl _), (Blk.new_at (cs := [.bool s.leaf, .slice K nk ck, .slice Vl nv cv, .slice D nd cd]) hgb).alloc _, Blk.new_at (cs := [.string .empty, .int .i64 0]) (by simp; omega), HN.out.below hal (Nat.le_refl _)⟩ ?_
  clear hal HN hgb hgr
  rintro V ⟨hC, hB, hR, hN⟩
  have hBc := hB.cells
  have P := Lib.hid (nput_ok s hN HM.out)
  have HC := Lib.hid hC
  have HR := Lib.hid hR
  clear hC hR hN hB
  go_upto_region 4 with ((with_reducible refine Calls.mono P.out ?_); rintro e w1 ⟨A, c, rfl, ho1, hb1⟩)
  clear P hBc
  obtain ⟨g8, hg8⟩ : ∃ z, z = w1.heap.size := ⟨_, rfl⟩
  rw [← hg8]
  have hal1 : Below w1.heap.size w1 (w1.alloc (.cells #[.int .i64 (kindN s : Int), .slice A (bodyN s).length c] 89)) := (Below.refl _ _).alloc (Nat.le_refl _) _
  have hwV : w.heap.size ≤ V.heap.size := HC.out.K.size
  have hV1 : V.heap.size ≤ w1.heap.size := hb1.size
  have hAV : ∀ b, ablk A = some b → w.heap.size ≤ b ∧ b < g8 := fun b e => ⟨Nat.le_trans hwV (ho1.blk e).1, by have := (ho1.blk e).2; omega⟩
  have hg8w : w.heap.size ≤ g8 := by omega
  have hlt8 : gr < g8 := by have := HR.out.lt; omega
  refine wp_world (fun U => TCh w U base p p N T ∧ Blk U gr 53 [.string .empty, .int .i64 0] ∧ Blk U g8 89 [.int .i64 (kindN s : Int), .slice A (bodyN s).length c] ∧ Bs U 0 A (bodyN s).length c (bodyN s))
    ⟨(HC.out.below hb1 (Nat.le_refl _)).below hal1 (Nat.le_refl _), (HR.out.below hb1 HR.out.lt).alloc _, Blk.new_at (cs := [.int .i64 (kindN s : Int), .slice A (bodyN s).length c]) hg8, ((own_bs ho1).weak (Nat.zero_le _)).below hal1 (Nat.le_refl _)⟩ ?_
  clear hal1 ho1 hb1 HC HR hg8 hwV hV1
  rintro U ⟨hC, hR, hB, hbs⟩
  have hgnf : ∀ b, w.heap.size ≤ b → ¬ p.foot b := fun b e x => by have := HLow.out b x; omega
  have c1 : U.cell? ⟨gp, 1, none⟩ = some (.pointer (some ⟨p.a.m, 0, none⟩)) := by rw [HGp.out]; exact hC.tr.blk.cell 1
  have Tk := Lib.hid (altake_any hC.tr.al (n0 := n0) hn0 (by unfold frT; rw [HT0.out]; rfl))
  have HC := Lib.hid hC
  have HR := Lib.hid hR
  have HB := Lib.hid hB
  have HBs := Lib.hid hbs
  have HGn := Lib.hid hgnf
  have HAV := Lib.hid hAV
  clear hC hR hB hbs hgnf hAV
  go_upto_region 5 with ((with_reducible refine Calls.mono Tk.out ?_); rintro e w2 ⟨n, k', rfl, hn1, hn2, hfn, hac⟩)
  clear Tk c1
  have hTn : T n = none := by
    unfold frT at hfn
    cases hx : T n with
    | none => rfl
    | some x => rw [hx] at hfn; cases hfn
  have hC2 := HC.out.trans (HC.out.tr.onA hac)
  have hR2 := (HC.out.tr.onA hac).K.blk HR.out (HGn.out _ hgrw)
  have hB2 := (HC.out.tr.onA hac).K.blk HB.out (HGn.out _ hg8w)
  have hbs2 : Bs w2 0 A (bodyN s).length c (bodyN s) := HBs.out.kept (HC.out.tr.onA hac).K (fun _ b e => HGn.out b (HAV.out b e).1)
  have haw : ∀ b, w.heap.size ≤ b → b ≤ g8 → ¬ ({ p with a := k' } : TrS).foot b := fun b e1 e2 => (HC.out.tr.onA hac).away (HGn.out b e1) (by have := HB.out.lt; omega)
  obtain ⟨p2, hp2⟩ : ∃ z, z = ({ p with a := k' } : TrS) := ⟨_, rfl⟩
  rw [← hp2] at haw
  have HAw : Hid (∀ b, w.heap.size ≤ b → b ≤ g8 → ¬ p2.foot b) := Lib.hid haw
  clear haw
  rw [← hp2] at hC2
  have c2 : w2.cell? ⟨gp, 2, none⟩ = some (.map (some p2.F)) := by rw [HGp.out]; have := hC2.gblk.cell 2; rw [hC2.c.2.2]; exact this
  have hN4 : 50 + N ≤ 4096 := by have := hC2.tr.small; omega
  have HC2 := Lib.hid hC2
  have HR2 := Lib.hid hR2
  have HB2 := Lib.hid hB2
  have HBs2 := Lib.hid hbs2
  have HTn := Lib.hid hTn
  clear hp2 hC2 hR2 hB2 hbs2 hTn hfn hac HC HR HB HBs
  go_upto_region 8 with (refine wpList_mput rfl (.tmp 35) (.tmp 36) (.tmp 37) 70 rfl Try.underlying70 rfl rfl rfl HC2.out.tr.mp hN4 hn2 ?_; intro w3 hm3 hg3)
  clear c2
  have hC3' := HC2.out.tr.onF hm3 hg3
  have hC3 := HC2.out.trans hC3'
  have hnf2 : ∀ b, w.heap.size ≤ b → b < w2.heap.size → b ≠ p2.F := fun b e1 e2 x => by
    have h1 := HC2.out.c.2.2
    have h2 := HLow.out b (by rw [x, h1]; exact .inr (.inr (.inl rfl)))
    omega
  have K3 : Kept (fun b => b = p2.F) w2 w3 := Kept.of_grown hg3 (fun b e => (Option.some.inj e).symm)
  have hR3 := K3.blk HR2.out (hnf2 _ hgrw HR2.out.lt)
  have hB3 := K3.blk HB2.out (hnf2 _ hg8w HB2.out.lt)
  have hbs3 : Bs w3 0 A (bodyN s).length c (bodyN s) := HBs2.out.kept K3 (fun hm b e x => by
    obtain ⟨b', o, e2, _, h4⟩ := HBs2.out.at_ hm
    rw [e2] at e; injection e with e; have e : b' = b := e
    exact hnf2 b (HAV.out b (by rw [e2, ← e]; rfl)).1 (by omega) x)
  refine wp_world (fun U => TGh w U base p p2 N T (updF (frT T) n false) (updM (fsM T) n (some (.agg #[]))) ∧ Blk U gr 53 [.string .empty, .int .i64 0] ∧ Blk U g8 89 [.int .i64 (kindN s : Int), .slice A (bodyN s).length c] ∧ Bs U 0 A (bodyN s).length c (bodyN s)) ⟨hC3, hR3, hB3, hbs3⟩ ?_
  clear hC3' hC3 hnf2 K3 hR3 hB3 hbs3 HC2 HR2 HB2 HBs2 hm3 hg3 w3 hN4
  rintro U3 ⟨hC, hR, hB, hbs⟩
  have hCd : TGh w U3.drew base p p2 N T (updF (frT T) n false) (updM (fsM T) n (some (.agg #[]))) := hC.kept (F := fun _ => False) (kept_drew (Kept.refl _ _)) (fun _ x => x.elim)
  have hRd : Blk U3.drew gr _ _ := hR
  have hBd : Blk U3.drew g8 _ _ := hB
  have hbsd : Bs U3.drew 0 A (bodyN s).length c (bodyN s) := hbs
  have P0 := cput_T hCd.tr hn1 hn2 HM.out HK.out hbsd (fun b e => HAw.out b (HAV.out b e).1 (Nat.le_of_lt (HAV.out b e).2))
  rw [hCd.c.1] at P0
  have P3 := Lib.hid P0
  have c0 : U3.drew.cell? ⟨gp, 0, none⟩ = some (.pointer (some ⟨p.k.g, 0, none⟩)) := by rw [HGp.out]; exact hCd.gblk.cell 0
  have c80 : U3.drew.cell? ⟨g8, 0, none⟩ = some (.int .i64 (kindN s : Int)) := hBd.cell 0
  have c81 : U3.drew.cell? ⟨g8, 1, none⟩ = some (.slice A (bodyN s).length c) := hBd.cell 1
  have HCd := Lib.hid hCd
  have HRd := Lib.hid hRd
  have HBd := Lib.hid hBd
  have hg8g : g8 < U3.heap.size := hB.lt
  have hgrg : gr < U3.heap.size := hR.lt
  clear hC hR hB hbs hCd hRd hBd hbsd P0
  go_region_held3 (fun w' => w'.cell? ⟨gp, 0, none⟩ = some (.pointer (some ⟨p.k.g, 0, none⟩)) ∧ w'.cell? ⟨g8, 0, none⟩ = some (.int .i64 (kindN s : Int)) ∧ w'.cell? ⟨g8, 1, none⟩ = some (.slice A (bodyN s).length c))
    (first | go_keep | (exact K5.out) | (exact K6.out _ (Kept.setCell_.trans Kept.setCell_ (fun _ _ x => x))))
    (first
      | ((with_reducible refine Calls.mono P3.out ?_); rintro e w5 ⟨rfl, p5, hc5⟩
         have hC5 := HCd.out.trans hc5
         have B5 := hc5.K.blk HBd.out (HAw.out _ hg8w (Nat.le_refl _))
         have K5 : Hid (w5.cell? ⟨gp, 0, none⟩ = some (.pointer (some ⟨p.k.g, 0, none⟩)) ∧ w5.cell? ⟨g8, 0, none⟩ = some (.int .i64 (kindN s : Int)) ∧ w5.cell? ⟨g8, 1, none⟩ = some (.slice A (bodyN s).length c)) := ⟨by rw [HGp.out]; exact hC5.gblk.cell 0, B5.cell 0, B5.cell 1⟩
         have R5 := hc5.K.blk HRd.out (HAw.out _ hgrw (Nat.le_of_lt hlt8))
         have K6 : Hid (∀ W, Kept (fun b => b = gr) w5 W → W.cell? ⟨gp, 0, none⟩ = some (.pointer (some ⟨p.k.g, 0, none⟩)) ∧ W.cell? ⟨g8, 0, none⟩ = some (.int .i64 (kindN s : Int)) ∧ W.cell? ⟨g8, 1, none⟩ = some (.slice A (bodyN s).length c)) := Lib.hid fun W KW =>
           ⟨by rw [HGp.out]; exact (KW.blk hC5.gblk (fun e => by have := HLow.out p.g (.inr (.inr (.inr rfl))); omega)).cell 0, (KW.blk B5 (fun e => by omega)).cell 0, (KW.blk B5 (fun e => by omega)).cell 1⟩
         have R5c := R5.cells
         have R5f := R5.frees))
  rename_i hH
  have hn5 := hc5.away (HAw.out _ hgrw (Nat.le_of_lt hlt8)) hgrg
  have HN5 := Lib.hid hn5
  clear hn5
  have R6 := (R5.set_ 0 (.string key)).set_ 1 (.int .i64 (n : Int))
  have HR6 := Lib.hid R6
  have HC5 := Lib.hid hC5
  clear hH c0 c80 c81 K5 K6 R5c R5f B5 R5 hc5 R6 hC5 P3
  go_wp2
  refine bodyPost_ret (results_pt rfl rfl rfl HR6.out) rfl ?_
  have hC6 := HC5.out.kept (w2 := (w5.setCell ⟨gr, 0, none⟩ (.string key)).setCell ⟨gr, 1, none⟩ (.int .i64 (n : Int))) (Kept.setCell_.trans Kept.setCell_ (fun _ _ x => x)) (fun b e => ⟨by rw [e]; exact hgrw, fun x => ?_⟩)
  · refine ⟨n, p5, rfl, hn1, hn2, HTn.out, hC6.congr (fun j _ _ => ?_) (fun j _ => ?_)⟩
    · unfold frT updF updT
      by_cases e : j = n
      · rw [if_pos e, if_pos e]; rfl
      · rw [if_neg e, if_neg e]
    · unfold fsM updM updT
      by_cases e : j = n
      · rw [if_pos e, if_pos e]; rfl
      · rw [if_neg e, if_neg e]
  · subst e
    exact HN5.out x

set_option maxRecDepth 100000 in
set_option maxHeartbeats 4000000 in
theorem gone_any {w : World} {base N n : Nat} {p : TrS} {T : Nodes} {s : Nd} (h : TrM w base p N T) (hT : T n = some s) :
    Calls Try.prog 30 #[.pointer (some ⟨p.g, 0, none⟩), .int .i64 (n : Int)] w fun e w' => e = .returned (.tuple #[]) ∧ ∃ p', TCh w w' base p p' N (updT T n none) := by
  have hz3 := zeroUn
  obtain ⟨h1, h2, _⟩ := h.says n s hT
  have hN4 : 50 + N ≤ 4096 := by have := h.small; omega
  have hn64 : -9223372036854775808 ≤ (n : Int) ∧ (n : Int) ≤ 9223372036854775807 := by omega
  have lk := h.mp.look_ok (w' := w) hN4 h2 Try.underlying70 zeroUn rfl
  have e1 : fsM T n = some (.agg #[]) := by unfold fsM; rw [hT]; rfl
  rw [e1] at lk
  simp only [Option.getD_some, Option.isSome_some] at lk
  have c2 : w.cell? ⟨p.g, 2, none⟩ = some (.map (some p.F)) := h.blk.cell 2
  obtain ⟨gp, hgp⟩ : ∃ z, z = p.g := ⟨_, rfl⟩
  have HGp := Lib.hid hgp
  rw [← hgp] at c2
  rw [← hgp]
  have H := Lib.hid h
  have HT := Lib.hid hT
  clear h hT hgp e1
  go_enter Try.func30, Try.ntmps30
  go_upto_region 2 with fail
  have hal : Below w.heap.size w (w.alloc (.cells #[] 94)) := (Below.refl _ _).alloc (Nat.le_refl _) _
  refine wp_world (fun V => TCh w V base p p N T) ((TGh.init H.out).below hal (Nat.le_refl _)) ?_
  clear hal lk c2
  rintro V hC
  have c2 : V.cell? ⟨gp, 2, none⟩ = some (.map (some p.F)) := by rw [HGp.out]; exact hC.tr.blk.cell 2
  have HC := Lib.hid hC
  clear hC
  go_upto_region 3 with (refine wpList_mdel rfl (.tmp 19) (.tmp 20) 70 rfl Try.underlying70 rfl rfl HC.out.tr.mp hN4 hn64 ?_; intro w2 hm2 hg2)
  clear c2
  have hC2 := HC.out.trans (HC.out.tr.onF hm2 hg2)
  have c1 : w2.cell? ⟨gp, 1, none⟩ = some (.pointer (some ⟨p.a.m, 0, none⟩)) := by rw [HGp.out]; exact hC2.gblk.cell 1
  have B := Lib.hid (alback_any hC2.tr.al ⟨h1, h2⟩ (by unfold frT; rw [HT.out]; rfl) (Nat.le_trans hC2.tr.bases.2 (Nat.le_of_lt hC2.tr.blk.lt)))
  have HC2 := Lib.hid hC2
  clear hC2 hm2 hg2 HC
  go_upto_region 4 with ((with_reducible refine Calls.mono B.out ?_); rintro e w3 ⟨rfl, k', hac⟩)
  clear c1 B
  have hC3 := HC2.out.trans (HC2.out.tr.onA hac)
  have c0 : w3.cell? ⟨gp, 0, none⟩ = some (.pointer (some ⟨p.k.g, 0, none⟩)) := by rw [HGp.out]; exact hC3.gblk.cell 0
  have Fg0 := cforget_T hC3.tr h2
  rw [hC3.c.1] at Fg0
  have Fg := Lib.hid Fg0
  have HC3 := Lib.hid hC3
  clear hC3 hac HC2 Fg0
  go_wp2_with ((with_reducible refine Calls.mono Fg.out ?_); rintro e w4 ⟨rfl, p4, hc4⟩)
  have hC4 := HC3.out.trans hc4
  have hfin : ∃ p', TCh w w4 base p p' N (updT T n none) := by
    refine ⟨p4, hC4.congr (fun j _ _ => ?_) (fun j _ => ?_)⟩
    · unfold frT updF updT
      by_cases e : j = n
      · rw [if_pos e, if_pos e]; rfl
      · rw [if_neg e, if_neg e]
    · show (if (if j = n then none else T j).isSome = true then some (Value.agg #[]) else none) = (if (j : Int) = (n : Int) then none else (if (T j).isSome = true then some (Value.agg #[]) else none))
      by_cases e : j = n
      · subst e; simp
      · have e2 : ¬ (j : Int) = (n : Int) := by omega
        simp [e, e2]
  have HF := Lib.hid hfin
  clear hfin hC4 hc4 HC3 Fg c0
  go_end0
  exact ⟨rfl, HF.out⟩
end Go.Proofs.Ytdakohbfibcjeaa
