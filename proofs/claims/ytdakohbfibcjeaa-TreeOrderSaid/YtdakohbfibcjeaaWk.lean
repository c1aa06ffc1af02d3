/- tree.walk, as Scan asks it: its walk. No condition. -/
import Derived.Test.YtdakohbfibcjeaaScc
import Derived.OwnWalk
namespace Go.Proofs.Ytdakohbfibcjeaa
open Go.RowKit Go.Maps
set_option linter.unusedSimpArgs false
set_option linter.unusedVariables false

def cloV (a : ScA) : Value := .func (.func 21) #[] #[.pointer (some ⟨a.go, 0, none⟩), .pointer (some ⟨a.gm, 0, none⟩), .pointer (some ⟨a.gf, 0, none⟩), .pointer (some ⟨a.gt, 0, none⟩)]
def WkTo (w : World) (base : Nat) (p : TrS) (N : Nat) (T : Nodes) (a : ScA) (A : Option Addr) (es : List Ent) (S : Nat → Bool) (e : Ending) (w' : World) : Prop :=
  ∃ p' A' n' c', e = .returned (.tuple #[.bool true, .int .i64 0]) ∧ ScC w w' base p p' N T a A A' n' c' es S
/-- what a walk holds of its own -/
def WkI (w : World) (p : TrS) (A : Option Addr) (a : ScA) (g7 g12 lo : Nat) (s : Nd) (K : Option Addr) (nk ck : Nat) (V : Option Addr) (nv cv : Nat) (D : Option Addr) (nd cd : Nat) : Prop :=
  Blk w g7 72 [.string ⟨#[]⟩, .string ⟨#[]⟩, cloV a, .map (some a.gs)] ∧ Blk w g12 59 [.bool s.leaf, .slice K nk ck, .slice V nv cv, .slice D nd cd] ∧ NdO w lo s K nk ck V nv cv D nd cd ∧
  ∀ b, (b = g7 ∨ b = g12 ∨ ablk K = some b ∨ ablk V = some b ∨ ablk D = some b) → ¬ ScF p A a b
theorem WkI.step {w w' : World} {base N n' c' g7 g12 lo nk ck nv cv nd cd : Nat} {p p' : TrS} {T : Nodes} {a : ScA} {A A' K V D : Option Addr} {es' : List Ent} {S' : Nat → Bool} {s : Nd} (h : WkI w p A a g7 g12 lo s K nk ck V nv cv D nd cd) (q : ScC w w' base p p' N T a A A' n' c' es' S') :
    WkI w' p' A' a g7 g12 lo s K nk ck V nv cv D nd cd := by
  obtain ⟨h1, h2, h3, h4⟩ := h
  refine ⟨q.K.blk h1 (h4 _ (.inl rfl)), q.K.blk h2 (h4 _ (.inr (.inl rfl))), h3.kept q.K (fun b e => h4 b (.inr (.inr e))), fun b e => q.away (h4 b e) ?_⟩
  rcases e with rfl | rfl | e
  · exact h1.lt
  · exact h2.lt
  · exact (h3.blks b e).2
theorem WkI.below {w w' : World} {B g7 g12 lo nk ck nv cv nd cd : Nat} {p : TrS} {a : ScA} {A K V D : Option Addr} {s : Nd} (h : WkI w p A a g7 g12 lo s K nk ck V nv cv D nd cd) (hb : Below B w w') (hB : w.heap.size ≤ B) : WkI w' p A a g7 g12 lo s K nk ck V nv cv D nd cd := by
  obtain ⟨h1, h2, h3, h4⟩ := h
  exact ⟨h1.below hb (Nat.lt_of_lt_of_le h1.lt hB), h2.below hb (Nat.lt_of_lt_of_le h2.lt hB), h3.below hb hB, h4⟩
theorem sd_form {N : Nat} {T : Nodes} {h r : Nat} {lo : ByteArray} {es : List Ent} {bl : List Nat} (s : Sd N T h r lo es bl) : ∃ nd, T r = some nd ∧ (50 ≤ r ∧ r < 50 + N) ∧
    ((h = 0 ∧ nd = leafOf es ∧ bl = [r]) ∨ ∃ h' cs, h = h' + 1 ∧ nd = innerOf cs ∧ Row N T h' cs ∧ 2 ≤ cs.length ∧ es = cs.flatMap (·.es) ∧ bl = r :: cs.flatMap (·.bl)) := by
  cases h with
  | zero => obtain ⟨h0, h1, h2, h3, h4, e⟩ := s; exact ⟨_, h2, h0, .inl ⟨rfl, rfl, e⟩⟩
  | succ h => obtain ⟨h0, cs, h1, h2, h3, h4, h5, h6, h7, e⟩ := s; exact ⟨_, h1, h0, .inr ⟨h, cs, rfl, rfl, ⟨h4, h5⟩, h3, h7, e⟩⟩
theorem place_nil (s : Nd) (hp : s.keys.Pairwise ky) (k : Nat) (hk : k ≤ s.keys.length) : placeTo s ⟨#[]⟩ k = 0 := by
  rcases Nat.eq_zero_or_pos k with rfl | h
  · rfl
  · obtain ⟨s1, s2, s3⟩ := placeTo_spec s ⟨#[]⟩ k h
    rcases s3 with s3 | s3
    · exact s3
    · rcases Nat.eq_zero_or_pos (placeTo s ⟨#[]⟩ k) with e | e
      · exact e
      · exfalso
        have h1 := pw_rises hp (placeTo s ⟨#[]⟩ k) e (by omega)
        exact s3 (kye_ky (kye_nil _) h1)
theorem kid_nodup {cs : List Kd} {i r : Nat} {kd : Kd} (hk : cs[i]? = some kd) (h : (r :: cs.flatMap (·.bl)).Nodup) :
    kd.bl.Nodup ∧ r ∉ kd.bl ∧ (∀ j ∈ kd.bl, j ∉ (cs.take i).flatMap (·.bl)) ∧ cs.take (i + 1) = cs.take i ++ [kd] ∧ ((cs.take i).flatMap (·.es)).length + kd.es.length ≤ (cs.flatMap (·.es)).length := by
  obtain ⟨hi, hke⟩ := List.getElem?_eq_some_iff.1 hk
  have e : cs = cs.take i ++ kd :: cs.drop (i + 1) := by rw [← hke, ← List.drop_eq_getElem_cons hi, List.take_append_drop]
  have e1 : cs.take (i + 1) = cs.take i ++ [kd] := by rw [List.take_succ_eq_append_getElem hi, hke]
  obtain ⟨h1, h2⟩ := List.nodup_cons.1 h
  generalize cs.take (i + 1) = Z at *
  generalize cs.take i = X at *
  generalize cs.drop (i + 1) = Y at *
  rw [e, List.flatMap_append, List.flatMap_cons] at h1 h2
  obtain ⟨a1, a2, a3⟩ := List.nodup_append.1 h2
  obtain ⟨b1, b2, b3⟩ := List.nodup_append.1 a2
  refine ⟨b1, fun x => h1 (List.mem_append_right _ (List.mem_append_left _ x)), fun j hj x => a3 j x j (List.mem_append_left _ hj) rfl, e1, ?_⟩
  rw [e, List.flatMap_append, List.flatMap_cons, List.length_append, List.length_append]; omega
set_option maxRecDepth 100000 in
set_option maxHeartbeats 4000000 in
theorem walk_any (N : Nat) : ∀ (h : Nat) {w : World} {base root n c : Nat} {p : TrS} {T : Nodes} {a : ScA} {A : Option Addr} {es es2 : List Ent} {S : Nat → Bool} {lv : Int} {lo : ByteArray} {bl : List Nat}, Sc w base p N T a A n c es S → Sd N T h root lo es2 bl → bl.Nodup → (∀ j ∈ bl, S j = false) → es.length + es2.length ≤ 900 → 0 ≤ lv ∧ lv + h ≤ 16 →
    Calls Try.prog 20 #[.pointer (some ⟨p.g, 0, none⟩), .int .i64 (root : Int), .int .i64 lv, .agg #[.string ⟨#[]⟩, .string ⟨#[]⟩, cloV a, .map (some a.gs)]] w (WkTo w base p N T a A (es ++ es2) (fun j => S j || decide (j ∈ bl))) := by
  intro h
  induction h using Nat.strongRecOn with
  | _ h ih =>
  intro w base root n c p T a A es es2 S lv lo bl hS hsd hnd hun hlen hlv
  obtain ⟨nd, hT, hr, hform⟩ := sd_form hsd
  obtain ⟨gp, hgp⟩ : ∃ z, z = p.g := ⟨_, rfl⟩
  obtain ⟨g7, hg7⟩ : ∃ z, z = w.heap.size := ⟨_, rfl⟩
  have hrb : root ∈ bl := (sd_r hsd).2
  have hN4 : 50 + N ≤ 4096 := by have := hS.tr.small; omega
  have hal : Below w.heap.size w (w.alloc (.cells #[.string ⟨#[]⟩, .string ⟨#[]⟩, cloV a, .map (some a.gs)] 72)) := (Below.refl _ _).alloc (Nat.le_refl _) _
  have HS := Lib.hid hS
  have HT := Lib.hid hT
  have HForm := Lib.hid hform
  have HGp := Lib.hid hgp
  have HNd := Lib.hid hnd
  have HUn := Lib.hid hun
  have HLen := Lib.hid hlen
  have HLv := Lib.hid hlv
  have HRb := Lib.hid hrb
  have HR := Lib.hid hr
  have HN4 := Lib.hid hN4
  have IH := Lib.hid ih
  have hzn := zero26_
  rw [← hgp]
  clear ih hS hsd hT hform hgp hnd hun hlen hlv hrb hr hN4
  go_enter Try.func20, Try.ntmps20
  go_upto_region 1 with fail
  rw [← hg7]
  refine wp_world (fun U => ScC w U base p p N T a A A n c es S ∧ Blk U g7 72 [.string ⟨#[]⟩, .string ⟨#[]⟩, cloV a, .map (some a.gs)]) ⟨(ScC.init HS.out).below hal (Nat.le_refl _), Blk.new_at (cs := [.string ⟨#[]⟩, .string ⟨#[]⟩, cloV a, .map (some a.gs)]) hg7⟩ ?_
  clear hal
  rintro U ⟨hC, hB⟩
  have lk := hC.sc.seen.look_ok (w' := U) HN4.out HR.out.2 Try.underlying70 zeroUn rfl
  have e1 : setF S root = none := by unfold setF; rw [HUn.out root HRb.out]; rfl
  rw [e1] at lk
  simp only [Option.getD_none, Option.isSome_none] at lk
  have c3 : U.cell? ⟨g7, 3, none⟩ = some (.map (some a.gs)) := hB.cell 3
  have hal : Below U.heap.size U (U.alloc (.cells #[] 94)) := (Below.refl _ _).alloc (Nat.le_refl _) _
  have HC := Lib.hid (hC.below hal (Nat.le_refl _))
  have HB := Lib.hid (hB.alloc (.cells #[] 94))
  have HG7 := Lib.hid hg7
  have h7 : Hid (¬ ScF p A a g7) := Lib.hid (fun x => by have := HS.out.lt _ x; omega)
  have hz94 := zeroUn
  clear hC hB hal e1 hg7
  go_upto_region 2 with fail
  clear lk c3 hz94
  refine wp_world (fun U => ScC w U base p p N T a A A n c es S ∧ Blk U g7 72 [.string ⟨#[]⟩, .string ⟨#[]⟩, cloV a, .map (some a.gs)]) ⟨HC.out, HB.out⟩ ?_
  clear HC HB
  rintro U1 ⟨hC, hB⟩
  have c3 : U1.cell? ⟨g7, 3, none⟩ = some (.map (some a.gs)) := hB.cell 3
  have HC := Lib.hid hC
  have HB := Lib.hid hB
  have hN4 := HN4.out
  have hr2 := HR.out.2
  clear hC hB
  go_upto_region 5 with (refine wpList_mput rfl (.tmp 26) (.tmp 27) (.tmp 28) 70 rfl Try.underlying70 rfl rfl rfl HC.out.sc.seen hN4 hr2 ?_; intro w3 hm3 hg3)
  have hm4 : Mp w3 a.gs (50 + N) (updM (setF S) root (some (.agg #[]))) := hm3
  have hQ := HC.out.sc.onS (S' := fun j => S j || decide (j = root)) hm4 hg3 (fun j hj => by
    unfold updM setF
    by_cases e : j = root
    · subst e; simp
    · simp [e])
  have HB3 := Lib.hid (hQ.K.blk HB.out (h7.out))
  have HC3 := Lib.hid (HC.out.trans hQ)
  have L0 := load_any (lv := lv) HC3.out.sc.tr HT.out ⟨by have := HLv.out; omega, by have := HLv.out; omega⟩
  rw [← HGp.out] at L0
  have L := Lib.hid L0
  clear hm3 hm4 hg3 hQ c3 L0 HC HB
  go_upto_region 6 with ((with_reducible refine Calls.mono L.out ?_); rintro e w4 ⟨p4, lo4, K, nk, ck, V, nv, cv, D, ndd, cd, rfl, hc4, ho, hlo4, hf4⟩)
  have hq4 := HC3.out.sc.onT hc4
  obtain ⟨g12, hg12⟩ : ∃ z, z = w4.heap.size := ⟨_, rfl⟩
  have hlt4 : ∀ b, ScF p4 A a b → b < lo4 := fun b e => by
    rcases e with e | e
    · exact hf4 b e
    · exact Nat.lt_of_lt_of_le (HC3.out.sc.lt b (.inr e)) hlo4
  have hal4 : Below w4.heap.size w4 (w4.alloc (.cells #[.bool nd.leaf, .slice K nk ck, .slice V nv cv, .slice D ndd cd] 59)) := (Below.refl _ _).alloc (Nat.le_refl _) _
  have hI : WkI (w4.alloc (.cells #[.bool nd.leaf, .slice K nk ck, .slice V nv cv, .slice D ndd cd] 59)) p4 A a g7 g12 lo4 nd K nk ck V nv cv D ndd cd := by
    refine ⟨(hq4.K.blk HB3.out h7.out).alloc _, Blk.new_at hg12, ho.below hal4 (Nat.le_refl _), fun b e x => ?_⟩
    rcases e with rfl | rfl | e
    · exact hq4.away h7.out HB3.out.lt x
    · have := hq4.sc.lt _ x; omega
    · have h1 := (ho.blks b e).1; have h2 := hlt4 b x; omega
  have hlo4' : w.heap.size ≤ lo4 := Nat.le_trans HC3.out.K.size hlo4
  rw [← hg12]
  refine wp_world (fun U => ScC w U base p p4 N T a A A n c es (fun j => S j || decide (j = root)) ∧ WkI U p4 A a g7 g12 lo4 nd K nk ck V nv cv D ndd cd) ⟨(HC3.out.trans hq4).below hal4 (Nat.le_refl _), hI⟩ ?_
  have HLt4 := Lib.hid hlt4
  have HLo4 := Lib.hid hlo4'
  clear hq4 hlt4 hal4 hI hlo4' hg12 hlo4 hf4 ho hc4 L HC3 HB3 hN4 hr2
  rintro U5 ⟨hC5, hI5⟩
  obtain ⟨es0, hv0, hk0, hl0, hz0⟩ : ∃ es0 : List Ent, nd.vals = es0.map (·.2) ∧ (es0 = [] ∨ nd.keys = es0.map (·.1)) ∧ es.length + es0.length ≤ 900 ∧ ((nd.leaf = true ∧ es0 = es2) ∨ (nd.leaf = false ∧ es0 = [])) := by
    rcases HForm.out with ⟨_, rfl, _⟩ | ⟨h', cs, _, rfl, _⟩
    · exact ⟨es2, rfl, .inr rfl, HLen.out, .inl ⟨rfl, rfl⟩⟩
    · exact ⟨[], rfl, .inl rfl, by have := HLen.out; simp; omega, .inr ⟨rfl, rfl⟩⟩
  have Cl := Lib.hid (scc_any (at_ := (root : Int)) hC5.sc hI5.2.2.1 HLt4.out hv0 hk0 hl0)
  have hBc := hI5.2.1.cells
  have c2 : U5.cell? ⟨g7, 2, none⟩ = some (.func (.func 21) #[] #[.pointer (some ⟨a.go, 0, none⟩), .pointer (some ⟨a.gm, 0, none⟩), .pointer (some ⟨a.gf, 0, none⟩), .pointer (some ⟨a.gt, 0, none⟩)]) := hI5.1.cell 2
  have HC5 := Lib.hid hC5
  have HI5 := Lib.hid hI5
  have HZ0 := Lib.hid hz0
  clear hv0 hk0 hl0 hz0 hC5 hI5
  go_upto_region 10 with ((with_reducible refine Calls.mono Cl.out ?_); rintro e w6 ⟨A6, n6, c6, rfl, hc6⟩)
  have hI6 := HI5.out.step hc6
  have hC6 := HC5.out.trans hc6
  have hb0 : w6.cell? ⟨g12, 0, none⟩ = some (.bool nd.leaf) := hI6.2.1.cell 0
  have HC6 := Lib.hid hC6
  have HI6 := Lib.hid hI6
  clear hC6 hI6 hBc c2 Cl HC5 HI5 hc6
  rcases HForm.out with ⟨_, hnd, hbl⟩ | ⟨h', cs, hh, hnd, hrow, hcl, he2, hbl⟩
  · have hlf : nd.leaf = true := by rw [hnd]; rfl
    have hes : es0 = es2 := by
      rcases HZ0.out with x | x
      · exact x.2
      · rw [hlf] at x; cases x.1
    subst hes
    have HF : Hid (ScC w w6 base p p4 N T a A A6 n6 c6 (es ++ es0) (fun j => S j || decide (j ∈ bl))) := Lib.hid (by
      have e : (fun j => S j || decide (j ∈ bl)) = (fun j => S j || decide (j = root)) := by funext j; rw [hbl]; simp
      rw [e]; exact HC6.out)
    rw [hlf] at hb0
    clear hnd hbl hlf
    go_wp2
    go_ret2
    exact ⟨p4, A6, n6, c6, rfl, HF.out⟩
  · have hlf : nd.leaf = false := by rw [hnd]; rfl
    have hes : es0 = [] := by
      rcases HZ0.out with x | x
      · rw [hlf] at x; cases x.1
      · exact x.2
    subst hes
    have ho := HI6.out.2.2.1
    have a1 := ho.nk_eq
    have a2 := ho.nv_eq
    have a3 := ho.nd_eq
    have hkl : nd.keys.length = cs.length := by rw [hnd]; simp [innerOf]
    have hdl : nd.kids.length = cs.length := by rw [hnd]; simp [innerOf]
    have hsay := HC6.out.sc.tr.says _ _ HT.out
    have hl3 := may_len3 hsay.2.2.1 hsay.2.2.2.1
    have hn := ho.ndr (may_sm hsay.2.2.1) (by omega) (by omega) (by omega)
    have P0 := nplace_inner hlf ⟨#[]⟩ hn
    have hpl : placeTo nd ⟨#[]⟩ nk = 0 := place_nil nd (by rw [hnd]; exact List.pairwise_map.2 (kids_rise (fun d hd => (hrow.1 d hd).1) hrow.2)) nk (by omega)
    rw [hpl, hlf] at P0
    have P := Lib.hid P0
    obtain rfl : nk = ndd := by omega
    have hm240 : nk ≤ 240 := by have := hsay.2.2.2.1; omega
    have HCs : Hid (nk = cs.length) := Lib.hid (by omega)
    have hBc := HI6.out.2.1.cells
    rw [hlf] at hb0 hBc
    have c0 : w6.cell? ⟨g7, 0, none⟩ = some (.string ⟨#[]⟩) := HI6.out.1.cell 0
    have HNdE := Lib.hid hnd
    have HRow := Lib.hid hrow
    have HHh := Lib.hid hh
    have HE2 := Lib.hid he2
    have HBl := Lib.hid hbl
    have HLf := Lib.hid hlf
    have HHl3 := Lib.hid hl3
    clear ho a1 a2 a3 hkl hdl hsay hl3 hn P0 hpl hnd hrow hh he2 hbl hlf hcl
    go_wp2_with ((with_reducible refine Calls.mono P.out ?_); rintro e w7 ⟨rfl, hb7⟩)
    have HC7 := Lib.hid (HC6.out.below hb7 (Nat.le_refl _))
    have HI7 := Lib.hid (HI6.out.below hb7 (Nat.le_refl _))
    clear hb7 hb0 hBc c0 P HC6 HI6 hzn
    go_loopw [14] (fun s14 wr => ∃ i : Nat, i ≤ nk ∧ s14 = .int .i64 i ∧ ∃ p' A' n' c', ScC w wr base p p' N T a A A' n' c' (es ++ (cs.take i).flatMap (·.es)) (fun j => S j || decide (j = root) || decide (j ∈ (cs.take i).flatMap (·.bl))) ∧ WkI wr p' A' a g7 g12 lo4 nd K nk ck V nv cv D nk cd) (fun s14 _ => nk - (intOf s14).toNat)
    case atStart =>
      refine ⟨0, Nat.zero_le _, rfl, p4, A6, n6, c6, ?_, HI7.out⟩
      have e : (fun j => S j || decide (j = root) || decide (j ∈ (cs.take 0).flatMap (·.bl))) = (fun j => S j || decide (j = root)) := by funext j; simp
      rw [e, List.take_zero, List.flatMap_nil]
      exact HC7.out
    case round =>
      obtain ⟨i, hi, rfl, p', A', n', c', hC, hI⟩ := hrel
      have d0 : wr.cell? ⟨g7, 1, none⟩ = some (.string ⟨#[]⟩) := hI.1.cell 1
      have d3 : wr.cell? ⟨g12, 3, none⟩ = some (.slice D nk cd) := hI.2.1.cell 3
      have hnil := nil_eq
      have HC := Lib.hid hC
      have HI := Lib.hid hI
      by_cases hlt : i < nk
      · have hlt2 : i < cs.length := by have := HCs.out; omega
        obtain ⟨db, hDe, _, hdb2⟩ := hI.2.2.1.kids.head (by omega)
        subst hDe
        have cd0 : wr.cell? ⟨db, i, none⟩ = some (.int .i64 (cs[i].n : Int)) := by
          have := il_cell (own_ls hI.2.2.1.kids) i hlt
          rw [Nat.zero_add, HNdE.out] at this
          rw [this]
          unfold innerOf; rw [List.getD_eq_getElem?_getD, List.getElem?_map, List.getElem?_eq_getElem hlt2]; rfl
        have h1 : decide ((i : Int) < (nk : Int)) = true := decide_eq_true (by omega)
        have h1' : (i : Int) < (nk : Int) := by omega
        have hcm : cs[i] ∈ cs := List.getElem_mem hlt2
        obtain ⟨kd, hkd⟩ : ∃ z, z = cs[i] := ⟨_, rfl⟩
        have HKd : Hid (cs[i]? = some kd) := Lib.hid (by rw [hkd]; exact List.getElem?_eq_getElem hlt2)
        have HKm : Hid (kd ∈ cs) := Lib.hid (by rw [hkd]; exact hcm)
        rw [← hkd] at cd0
        have HLt2 := Lib.hid hlt2
        clear hC hI hkd hcm hlt2
        have HM := Lib.hid hm240
        have HI0 := Lib.hid hi
        have HLt := Lib.hid hlt
        clear hm240 hi hdb2 hlt h1
        rcases hbq : ((i : Int) == 0)
        all_goals
          go_wp2
          go_quiet (fail)
          have hbn : Below wr.heap.size wr (wr.drewN (nq + 1)) := below_drewN (Below.refl _ _) (nq + 1)
          have HC8 := Lib.hid (HC.out.below hbn (Nat.le_refl _))
          have HI8 := Lib.hid (HI.out.below hbn (Nat.le_refl _))
          obtain ⟨k1, k2, k3, k4, k5⟩ := kid_nodup HKd.out (by have := HNd.out; rw [HBl.out] at this; exact this)
          have R0 := IH.out h' (by have := HHh.out; omega) (lv := lv + 1) HC8.out.sc (HRow.out.1 kd HKm.out).1 k1
            (fun j hj => by
              have a1 := HUn.out j (by rw [HBl.out]; exact List.mem_cons_of_mem _ (List.mem_flatMap.2 ⟨kd, HKm.out, hj⟩))
              have a2 : j ≠ root := fun x => k2 (by rw [← x]; exact hj)
              simp [a1, a2, k3 j hj])
            (by have := HLen.out; rw [HE2.out] at this; rw [List.length_append]; omega) (by have a1 := HLv.out; have a2 := HHh.out; omega)
          rw [HC8.out.g, ← HGp.out] at R0
          have R := Lib.hid R0
          have hlvw : IntKind.i64.wrap (lv + 1) = lv + 1 := by rw [IntKind.wrap_i64]; have := HLv.out; omega
          have HK4 := Lib.hid k4
          clear R0 k1 k2 k3 k4 k5 hnil d0
          have b3 : (wr.drewN (nq + 1)).cell? ⟨g12, 3, none⟩ = some (.slice (some ⟨db, 0, none⟩) nk cd) := HI8.out.2.1.cell 3
          have bd : (wr.drewN (nq + 1)).cell? ⟨db, i, none⟩ = some (.int .i64 (kd.n : Int)) := cd0
          have b7 : ∀ j, (wr.drewN (nq + 1)).cell? ⟨g7, j, none⟩ = ([Value.string ⟨#[]⟩, .string ⟨#[]⟩, cloV a, .map (some a.gs)])[j]? := HI8.out.1.cells
          have hib : (0 : Int) ≤ (i : Int) ∧ (i : Int) < (nk : Int) := by have := HLt.out; omega
          have HX8 : Hid (¬ ScF p' A' a db) := Lib.hid (HI.out.2.2.2 db (.inr (.inr (.inr (.inr rfl)))))
          have HDl : Hid (db < (wr.drewN (nq + 1)).heap.size) := Lib.hid (block_lt_of_cell bd)
          clear hbq d3 cd0 h1' hbn
          go_upto_region 15 with fail
          go_region_held3 (fun w' => w'.cell? ⟨g12, 3, none⟩ = some (.slice (some ⟨db, 0, none⟩) nk cd) ∧ w'.cell? ⟨db, i, none⟩ = some (.int .i64 (kd.n : Int)) ∧ ∀ j, w'.cell? ⟨g7, j, none⟩ = ([Value.string ⟨#[]⟩, .string ⟨#[]⟩, cloV a, .map (some a.gs)])[j]?)
            (first | (exact ⟨b3, bd, b7⟩) | (exact ⟨e3, ed, e7⟩) | (exact hHeld))
            (first
              | ((with_reducible refine Calls.mono R.out ?_); rintro e w9 ⟨p9, A9, n9, c9, rfl, hc9⟩
                 have e3 : w9.cell? ⟨g12, 3, none⟩ = some (.slice (some ⟨db, 0, none⟩) nk cd) := (HI8.out.step hc9).2.1.cell 3
                 have ed : w9.cell? ⟨db, i, none⟩ = some (.int .i64 (kd.n : Int)) := (World.cell?_of_block (a := ⟨db, i, none⟩) (hc9.K.block db HDl.out HX8.out)).trans bd
                 have e7 : ∀ j, w9.cell? ⟨g7, j, none⟩ = ([Value.string ⟨#[]⟩, .string ⟨#[]⟩, cloV a, .map (some a.gs)])[j]? := (HI8.out.step hc9).1.cells))
          rename_i hH
          have HC9 := Lib.hid (HC8.out.trans hc9)
          have HI9 := Lib.hid (HI8.out.step hc9)
          have he9 : (es ++ (cs.take i).flatMap (·.es)) ++ kd.es = es ++ (cs.take (i + 1)).flatMap (·.es) := by rw [HK4.out, List.flatMap_append, List.flatMap_singleton, List.append_assoc]
          have hs9 : (fun j => (S j || decide (j = root) || decide (j ∈ (cs.take i).flatMap (·.bl))) || decide (j ∈ kd.bl)) = (fun j => S j || decide (j = root) || decide (j ∈ (cs.take (i + 1)).flatMap (·.bl))) := by
            funext j; rw [HK4.out, List.flatMap_append, List.flatMap_singleton]; simp [Bool.or_assoc, Bool.decide_or]
          have HC10 : Hid (ScC w w9 base p p9 N T a A A9 n9 c9 (es ++ (cs.take (i + 1)).flatMap (·.es)) (fun j => S j || decide (j = root) || decide (j ∈ (cs.take (i + 1)).flatMap (·.bl)))) := Lib.hid (by rw [← he9, ← hs9]; exact HC9.out)
          have hi1 : i + 1 ≤ nk := HLt.out
          have h240 : nk ≤ 240 := HM.out
          clear he9 hs9 hH e3 ed e7 b3 bd b7 hc9 HC9 R
          go_wp2
          go_roundw
          case rel => exact ⟨i + 1, hi1, by go_num, p9, A9, n9, c9, HC10.out, HI9.out⟩
          case measure => simp [intOf]; omega
      · obtain rfl : i = nk := by omega
        have h1' : ¬ (i : Int) < (i : Int) := by omega
        have HF : Hid (ScC w wr base p p' N T a A A' n' c' (es ++ es2) (fun j => S j || decide (j ∈ bl))) := Lib.hid (by
          have e1 : cs.take i = cs := List.take_of_length_le (by have := HCs.out; omega)
          have h := HC.out
          rw [e1, ← HE2.out] at h
          have e2 : (fun j => S j || decide (j ∈ bl)) = (fun j => S j || decide (j = root) || decide (j ∈ cs.flatMap (·.bl))) := by funext j; rw [HBl.out]; simp [Bool.or_assoc, Bool.decide_or]
          rw [e2]; exact h)
        clear hC hI hi hlt hm240
        go_wp2
        go_quiet (fail)
        go_wp2
        go_ret2
        exact ⟨p', A', n', c', rfl, HF.out.below (below_drewN (Below.refl _ _) _) (Nat.le_refl _)⟩
end Go.Proofs.Ytdakohbfibcjeaa
