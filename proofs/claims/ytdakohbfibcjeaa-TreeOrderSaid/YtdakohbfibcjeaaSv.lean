/- A tree's saves: a node is put into one new block, or into two. No condition. -/
import Derived.Test.YtdakohbfibcjeaaTrO
import Derived.Test.YtdakohbfibcjeaaTvI
namespace Go.Proofs.Ytdakohbfibcjeaa
open Go.RowKit Go.Maps
set_option linter.unusedSimpArgs false
set_option linter.unusedVariables false

theorem Ls.kept {F : Nat → Prop} {w w' : World} {lo n c : Nat} {A : Option Addr} {xs : List Value} (h : Ls w lo A n c xs) (K : Kept F w w') (hF : ∀ b, lo ≤ b → b < w.heap.size → ¬ F b) : Ls w' lo A n c xs :=
  ⟨h.1, h.2.1, h.2.2.1, h.2.2.2.kept K (fun hn b e => by
    obtain ⟨b', o, e2, h3, h4, _⟩ := h.2.2.2 hn
    rw [e2] at e; injection e with e; have e : b' = b := e
    subst e; exact hF _ h3 h4)⟩
theorem NdR.kept_lo {F : Nat → Prop} {w w' : World} {lo : Nat} {s : Nd} {K V D : Option Addr} {nk ck nv cv nd cd : Nat} (h : NdR w lo s K nk ck V nv cv D nd cd) (k : Kept F w w') (hF : ∀ b, lo ≤ b → b < w.heap.size → ¬ F b) : NdR w' lo s K nk ck V nv cv D nd cd :=
  ⟨h.keys.kept k hF, h.vals.kept k hF, h.kids.kept k hF, h.ksmall, h.vsmall, h.kroom, h.vroom, h.droom⟩
/-- so many blocks are free -/
def Room (N : Nat) (T : Nodes) (r : Nat) : Prop := ∃ F : List Nat, F.Nodup ∧ r ≤ F.length ∧ ∀ n ∈ F, 50 ≤ n ∧ n < 50 + N ∧ T n = none
theorem Room.save {N r n : Nat} {T : Nodes} {x : Option Nd} (h : Room N T (r + 1)) : Room N (updT T n x) r := by
  obtain ⟨F, h1, h2, h3⟩ := h
  refine ⟨F.erase n, h1.erase n, ?_, fun j hj => ?_⟩
  · rw [List.length_erase]; split <;> omega
  · have hne : j ≠ n := fun e => by subst e; exact (List.Nodup.not_mem_erase h1) hj
    obtain ⟨a, b, c⟩ := h3 j (List.mem_of_mem_erase hj)
    exact ⟨a, b, (if_neg hne).trans c⟩
theorem Room.some_ {N r : Nat} {T : Nodes} (h : Room N T (r + 1)) : ∃ n, (50 ≤ n ∧ n < 50 + N) ∧ T n = none := by
  obtain ⟨F, h1, h2, h3⟩ := h
  cases F with
  | nil => simp at h2
  | cons n F => obtain ⟨a, b, c⟩ := h3 n List.mem_cons_self; exact ⟨n, ⟨a, b⟩, c⟩
theorem Room.mono {N r r' : Nat} {T : Nodes} (h : Room N T r) (e : r' ≤ r) : Room N T r' := by
  obtain ⟨F, h1, h2, h3⟩ := h
  exact ⟨F, h1, Nat.le_trans e h2, h3⟩
theorem Room.gone {N r n : Nat} {T : Nodes} (h : Room N T r) (hn : 50 ≤ n ∧ n < 50 + N) (hT : (T n).isSome = true) : Room N (updT T n none) (r + 1) := by
  obtain ⟨F, h1, h2, h3⟩ := h
  refine ⟨n :: F, List.nodup_cons.2 ⟨fun hm => ?_, h1⟩, by simp; omega, fun j hj => ?_⟩
  · have := (h3 n hm).2.2; rw [this] at hT; cases hT
  · rcases List.mem_cons.1 hj with e | e
    · subst e; exact ⟨hn.1, hn.2, if_pos rfl⟩
    · obtain ⟨a, b, c⟩ := h3 j e
      refine ⟨a, b, ?_⟩
      show (if j = n then none else T j) = none
      split
      · rfl
      · exact c
/-- parts as cells -/
def ptC (l : List (ByteArray × Nat)) : List Value := l.flatMap fun x => [.string x.1, .int .i64 (x.2 : Int)]
/-- a node stands in one new block, or in two -/
def SavedN (N : Nat) (T : Nodes) (s : Nd) (key : ByteArray) (l : List (ByteArray × Nat)) (T' : Nodes) : Prop :=
  (szV (sizeN s) ≤ 240 ∧ ∃ n, 50 ≤ n ∧ n < 50 + N ∧ T n = none ∧ l = [(key, n)] ∧ T' = updT T n (some s)) ∨
  (240 < szV (sizeN s) ∧ ∃ a b n1 n2, SplitN s a b ∧ 50 ≤ n1 ∧ n1 < 50 + N ∧ 50 ≤ n2 ∧ n2 < 50 + N ∧ T n1 = none ∧ updT T n1 (some a) n2 = none ∧ l = [(key, n1), (kAt b 0, n2)] ∧ T' = updT (updT T n1 (some a)) n2 (some b))
def SavesTo (w : World) (base : Nat) (p : TrS) (N : Nat) (T : Nodes) (s : Nd) (key : ByteArray) (e : Ending) (w' : World) : Prop :=
  ∃ g p' l T', e = .returned (.tuple #[.slice (some ⟨g, 0, none⟩) l.length l.length, .int .i64 0]) ∧ Blk w' g 53 (ptC l) ∧ w.heap.size ≤ g ∧ ¬ p'.foot g ∧ TCh w w' base p p' N T' ∧ SavedN N T s key l T'
theorem szV_le {n : Nat} (h : n ≤ 1000000000) : szV n = (n : Int) := szV_small (by omega)
set_option maxRecDepth 100000 in
set_option maxHeartbeats 4000000 in
theorem saves_one {w : World} {base N : Nat} {p : TrS} {T : Nodes} {s : Nd} {key : ByteArray} {lo : Nat} {K Vl D : Option Addr} {nk ck nv cv nd cd : Nat} (h : TrM w base p N T) (hr : Room N T 1) (hz : szV (sizeN s) ≤ 240) (hm : mayN s) (hk : s.keys.length ≤ 240) (hN : NdR w lo s K nk ck Vl nv cv D nd cd) :
    Calls Try.prog 29 #[.pointer (some ⟨p.g, 0, none⟩), .agg #[.bool s.leaf, .slice K nk ck, .slice Vl nv cv, .slice D nd cd], .string key] w (SavesTo w base p N T s key) := by
  have hz2 := zeroPart
  have hal : Below w.heap.size w (w.alloc (.cells #[.bool s.leaf, .slice K nk ck, .slice Vl nv cv, .slice D nd cd] 59)) := (Below.refl _ _).alloc (Nat.le_refl _) _
  have hnk : 0 < nk := by rw [← hN.nk_eq]; exact hm.1.1
  have hnki : ¬ ((nk : Int) = 0) := by omega
  obtain ⟨Z, hZ⟩ : ∃ Z, Z = szV (sizeN s) := ⟨_, rfl⟩
  have hZb : -9223372036854775808 ≤ Z ∧ Z ≤ 9223372036854775807 := by rw [hZ]; exact szV_bd _
  have hZ2 : Z ≤ 240 := by rw [hZ]; exact hz
  obtain ⟨gp, hgp⟩ : ∃ z, z = p.g := ⟨_, rfl⟩
  have HGp := Lib.hid hgp
  rw [← hgp]
  have H := Lib.hid h
  have HM := Lib.hid hm
  have HK := Lib.hid hk
  have HR := Lib.hid hr
  have HN := Lib.hid hN
  have HZ := Lib.hid hZ
  have HZz := Lib.hid hz
  clear h hm hk hr hN hgp hZ hz
  go_enter Try.func29, Try.ntmps29
  go_upto_region 1 with fail
  obtain ⟨gb, hgb⟩ : ∃ z, z = w.heap.size := ⟨_, rfl⟩
  rw [← hgb]
  refine wp_world (fun V => TCh w V base p p N T ∧ Blk V gb 59 [.bool s.leaf, .slice K nk ck, .slice Vl nv cv, .slice D nd cd] ∧ NdR V lo s K nk ck Vl nv cv D nd cd)
    ⟨(TGh.init H.out).below hal (Nat.le_refl _), Blk.new_at (cs := [.bool s.leaf, .slice K nk ck, .slice Vl nv cv, .slice D nd cd]) hgb, HN.out.below hal (Nat.le_refl _)⟩ ?_
  clear hal HN hgb
  rintro V ⟨hC, hB, hN⟩
  have hBc := hB.cells
  have Sz0 := nsize_any s hN
  rw [← HZ.out] at Sz0
  have Sz := Lib.hid Sz0
  have HC := Lib.hid hC
  have HB := Lib.hid hB
  have HN := Lib.hid hN
  clear Sz0 hC hB hN
  go_upto_region 4 with ((with_reducible refine Calls.mono Sz.out ?_); rintro e w1 ⟨rfl, hb1⟩)
  clear Sz hBc
  have hC1 := HC.out.below hb1 (Nat.le_refl _)
  have hB1 := HB.out.below hb1 HB.out.lt
  have hN1 := HN.out.below hb1 (Nat.le_refl _)
  obtain ⟨n0, hn0, hT0⟩ := Room.some_ (r := 0) HR.out
  have S0 := save_any (key := key) hC1.tr hn0 hT0 HM.out HK.out hN1
  rw [← HGp.out] at S0
  have S := Lib.hid S0
  have HC1 := Lib.hid hC1
  have hB1c := hB1.cells
  clear S0 hC1 hB1 hN1 hT0 HC HB HN hb1
  go_upto_region 5 with ((with_reducible refine Calls.mono S.out ?_); rintro e w2 ⟨n, p2, rfl, hn1, hn2, hTn, hc2⟩)
  clear S hB1c
  have hC2 := HC1.out.trans hc2
  obtain ⟨g8, hg8⟩ : ∃ z, z = w2.heap.size := ⟨_, rfl⟩
  rw [← hg8]
  have hal2 : Below w2.heap.size w2 (w2.alloc (.cells #[.string key, .int .i64 (n : Int)] 53)) := (Below.refl _ _).alloc (Nat.le_refl _) _
  have hsz : w.heap.size ≤ w2.heap.size := hC2.K.size
  have hft : ∀ b, p2.foot b → b < g8 := fun b e => by rw [hg8]; exact (hC2.tr.foot_base b e).2
  refine wp_world (fun U => TCh w U base p p2 N (updT T n (some s)) ∧ Blk U g8 53 [.string key, .int .i64 (n : Int)]) ⟨hC2.below hal2 (Nat.le_refl _), Blk.new_at (cs := [.string key, .int .i64 (n : Int)]) hg8⟩ ?_
  have hg8w : w.heap.size ≤ g8 := by omega
  clear hal2 hsz hg8 hC2 hc2 HC1
  rintro U ⟨hC, hB⟩
  have hBc := hB.cells
  have hal3 : Below U.heap.size U (U.alloc (.cells #[.string key, .int .i64 (n : Int)] 53)) := (Below.refl _ _).alloc (Nat.le_refl _) _
  have fin : SavesTo w base p N T s key (.returned (.tuple #[.slice (some ⟨U.heap.size, 0, none⟩) 1 1, .int .i64 0])) (U.alloc (.cells #[.string key, .int .i64 (n : Int)] 53)) :=
    ⟨U.heap.size, p2, [(key, n)], _, rfl, Blk.new_at (cs := [.string key, .int .i64 (n : Int)]) rfl, Nat.le_trans hg8w (Nat.le_of_lt hB.lt), fun x => by have := hft _ x; have := hB.lt; omega, hC.below hal3 (Nat.le_refl _), .inl ⟨HZz.out, n, hn1, hn2, hTn, rfl, rfl⟩⟩
  have FIN := Lib.hid fin
  clear fin hal3 hC hB hft HZz hTn
  go_wp2
  go_ret2
  exact FIN.out
set_option maxRecDepth 100000 in
set_option maxHeartbeats 8000000 in
theorem saves_two {w : World} {base N : Nat} {p : TrS} {T : Nodes} {s : Nd} {key : ByteArray} {lo : Nat} {K Vl D : Option Addr} {nk ck nv cv nd cd : Nat} (h : TrM w base p N T) (hr : Room N T 2) (hz : 240 < szV (sizeN s)) (hm : ∀ a b, SplitN s a b → mayN a ∧ mayN b ∧ a.keys.length ≤ 240 ∧ b.keys.length ≤ 240) (hk : 2 ≤ s.keys.length) (hN : NdR w lo s K nk ck Vl nv cv D nd cd) :
    Calls Try.prog 29 #[.pointer (some ⟨p.g, 0, none⟩), .agg #[.bool s.leaf, .slice K nk ck, .slice Vl nv cv, .slice D nd cd], .string key] w (SavesTo w base p N T s key) := by
  have hz2 := zeroPart
  have hz3 := zero26_
  have hal : Below w.heap.size w (w.alloc (.cells #[.bool s.leaf, .slice K nk ck, .slice Vl nv cv, .slice D nd cd] 59)) := (Below.refl _ _).alloc (Nat.le_refl _) _
  have hnk : 0 < nk := by rw [← hN.nk_eq]; omega
  have hnki : ¬ ((nk : Int) = 0) := by omega
  obtain ⟨Z, hZ⟩ : ∃ Z, Z = szV (sizeN s) := ⟨_, rfl⟩
  have hZb : -9223372036854775808 ≤ Z ∧ Z ≤ 9223372036854775807 := by rw [hZ]; exact szV_bd _
  have hZ2 : ¬ Z ≤ 240 := by rw [hZ]; omega
  obtain ⟨gp, hgp⟩ : ∃ z, z = p.g := ⟨_, rfl⟩
  have HGp := Lib.hid hgp
  rw [← hgp]
  have H := Lib.hid h
  have HM := Lib.hid hm
  have HR := Lib.hid hr
  have HN := Lib.hid hN
  have HZ := Lib.hid hZ
  have HZz := Lib.hid hz
  clear h hm hk hr hN hgp hZ hz
  go_enter Try.func29, Try.ntmps29
  go_upto_region 1 with fail
  obtain ⟨gb, hgb⟩ : ∃ z, z = w.heap.size := ⟨_, rfl⟩
  rw [← hgb]
  refine wp_world (fun V => TCh w V base p p N T ∧ Blk V gb 59 [.bool s.leaf, .slice K nk ck, .slice Vl nv cv, .slice D nd cd] ∧ NdR V lo s K nk ck Vl nv cv D nd cd)
    ⟨(TGh.init H.out).below hal (Nat.le_refl _), Blk.new_at (cs := [.bool s.leaf, .slice K nk ck, .slice Vl nv cv, .slice D nd cd]) hgb, HN.out.below hal (Nat.le_refl _)⟩ ?_
  clear hal HN hgb
  rintro V ⟨hC, hB, hN⟩
  have hBc := hB.cells
  have Sz0 := nsize_any s hN
  rw [← HZ.out] at Sz0
  have Sz := Lib.hid Sz0
  have HC := Lib.hid hC
  have HB := Lib.hid hB
  have HN := Lib.hid hN
  clear Sz0 hC hB hN
  go_upto_region 6 with ((with_reducible refine Calls.mono Sz.out ?_); rintro e w1 ⟨rfl, hb1⟩)
  clear Sz hBc
  have hC1 := HC.out.below hb1 (Nat.le_refl _)
  have hB1 := HB.out.below hb1 HB.out.lt
  have hN1 := HN.out.below hb1 (Nat.le_refl _)
  have Sp := Lib.hid (split_any s hN1)
  have HC1 := Lib.hid hC1
  have hB1c := hB1.cells
  clear hC1 hB1 hN1 HC HB HN hb1
  go_upto_region 7 with ((with_reducible refine Calls.mono Sp.out ?_); rintro e w2 ⟨a, b, Ka, nka, cka, Va, nva, cva, Da, nda, cda, Kb, nkb, ckb, Vb, nvb, cvb, Db, ndb, cdb, rfl, hna, hnb, hsp, hb2⟩)
  clear Sp hB1c
  obtain ⟨ga, hga⟩ : ∃ z, z = w2.heap.size := ⟨_, rfl⟩
  rw [← hga]
  obtain ⟨gc, hgc⟩ : ∃ z, z = ga + 1 := ⟨_, rfl⟩
  rw [← hgc]
  have hft : ∀ b, p.foot b → b < w.heap.size := fun b e => (H.out.foot_base b e).2
  have hal2 : Below w2.heap.size w2 ((w2.alloc (.cells #[.bool a.leaf, .slice Ka nka cka, .slice Va nva cva, .slice Da nda cda] 59)).alloc (.cells #[.bool b.leaf, .slice Kb nkb ckb, .slice Vb nvb cvb, .slice Db ndb cdb] 59)) := ((Below.refl _ _).alloc (Nat.le_refl _) _).alloc (by simp) _
  have hsz1 : w.heap.size ≤ w1.heap.size := HC1.out.K.size
  have hgaw : w.heap.size ≤ ga := by rw [hga]; exact Nat.le_trans hsz1 hb2.size
  refine wp_world (fun U => TCh w U base p p N T ∧ Blk U ga 59 [.bool a.leaf, .slice Ka nka cka, .slice Va nva cva, .slice Da nda cda] ∧ Blk U gc 59 [.bool b.leaf, .slice Kb nkb ckb, .slice Vb nvb cvb, .slice Db ndb cdb] ∧ NdR U w.heap.size a Ka nka cka Va nva cva Da nda cda ∧ NdR U w.heap.size b Kb nkb ckb Vb nvb cvb Db ndb cdb)
    ⟨(HC1.out.below hb2 (Nat.le_refl _)).below hal2 (Nat.le_refl _), (Blk.new_at (cs := [.bool a.leaf, .slice Ka nka cka, .slice Va nva cva, .slice Da nda cda]) hga).alloc _, Blk.new_at (cs := [.bool b.leaf, .slice Kb nkb ckb, .slice Vb nvb cvb, .slice Db ndb cdb]) (by simp; omega), (hna.below hal2 (Nat.le_refl _)).weak hsz1, (hnb.below hal2 (Nat.le_refl _)).weak hsz1⟩ ?_
  have hgcw : w.heap.size ≤ gc := by omega
  clear hal2 hga hgc hna hnb hb2 HC1 hsz1
  rintro U ⟨hC, hA, hB, hna, hnb⟩
  obtain ⟨ma, mb, la, lb⟩ := HM.out a b hsp
  have hnkb : 0 < nkb := by rw [← hnb.nk_eq]; exact mb.1.1
  obtain ⟨kb, ko, rfl, hkb1, hkb2⟩ := hnb.keys.at_ hnkb
  obtain ⟨n0, hn0, hT0⟩ := Room.some_ (r := 1) HR.out
  have S0 := save_any (key := key) hC.tr hn0 hT0 ma la hna
  rw [← HGp.out] at S0
  have S := Lib.hid S0
  have hAc := hA.cells
  have HC := Lib.hid hC
  have HB := Lib.hid hB
  have HNb := Lib.hid hnb
  have HFt := Lib.hid hft
  have HMb : Hid (mayN b ∧ b.keys.length ≤ 240) := Lib.hid ⟨mb, lb⟩
  have HSp := Lib.hid hsp
  clear S0 hC hA hB hna hnb hT0 ma mb la lb hft hsp
  go_upto_region 8 with ((with_reducible refine Calls.mono S.out ?_); rintro e w3 ⟨n1, p3, rfl, hn11, hn12, hTn1, hc3⟩)
  clear S hAc
  have hC3 := HC.out.trans hc3
  have hB3 := hc3.K.blk HB.out (fun x => by have := HFt.out _ x; omega)
  have hnb3 := HNb.out.kept_lo hc3.K (fun b e _ x => by have := HFt.out _ x; omega)
  have haw3 : ∀ b, w.heap.size ≤ b → b < U.heap.size → ¬ p3.foot b := fun b e1 e2 => hc3.away (fun x => by have := HFt.out _ x; omega) e2
  have hgcU : gc < U.heap.size := HB.out.lt
  have hsz3 : w.heap.size ≤ w3.heap.size := hC3.K.size
  have hft3 : ∀ b, p3.foot b → b < w3.heap.size := fun b e => (hC3.tr.foot_base b e).2
  obtain ⟨g12, hg12⟩ : ∃ z, z = w3.heap.size := ⟨_, rfl⟩
  rw [← hg12]
  have hal3 : Below w3.heap.size w3 (w3.alloc (.cells #[.string key, .int .i64 (n1 : Int)] 53)) := (Below.refl _ _).alloc (Nat.le_refl _) _
  refine wp_world (fun W => TCh w W base p p3 N (updT T n1 (some a)) ∧ Blk W gc 59 [.bool b.leaf, .slice (some ⟨kb, ko, none⟩) nkb ckb, .slice Vb nvb cvb, .slice Db ndb cdb] ∧ NdR W w.heap.size b (some ⟨kb, ko, none⟩) nkb ckb Vb nvb cvb Db ndb cdb ∧ Blk W g12 53 [.string key, .int .i64 (n1 : Int)] ∧ w3.heap.size ≤ W.heap.size)
    ⟨hC3.below hal3 (Nat.le_refl _), hB3.alloc _, hnb3.below hal3 (Nat.le_refl _), Blk.new_at (cs := [.string key, .int .i64 (n1 : Int)]) hg12, hal3.size⟩ ?_
  have HNf12 : Hid (¬ p3.foot g12 ∧ w.heap.size ≤ g12) := Lib.hid ⟨fun x => by have := hft3 _ x; omega, by omega⟩
  have HAw3 : Hid (¬ p3.foot gc ∧ ¬ p3.foot kb) := Lib.hid ⟨haw3 _ hgcw hgcU, haw3 _ hkb1 hkb2⟩
  have HFt3 := Lib.hid hft3
  have HU3 : Hid (U.heap.size ≤ w3.heap.size) := Lib.hid hc3.K.size
  clear hal3 hg12 hC3 hB3 hnb3 haw3 hft3 hc3 HC HB HNb
  rintro W3 ⟨hC, hB, hnb, h12, hsW⟩
  have hr1 : Room N (updT T n1 (some a)) 1 := Room.save HR.out
  obtain ⟨n2', hn2', hT2'⟩ := Room.some_ (r := 0) hr1
  have hCd : TCh w W3.drew base p p3 N (updT T n1 (some a)) := hC.kept (F := fun _ => False) (kept_drew (Kept.refl _ _)) (fun _ x => x.elim)
  have hnbd : NdR W3.drew w.heap.size b (some ⟨kb, ko, none⟩) nkb ckb Vb nvb cvb Db ndb cdb := hnb.drewN 1
  have P0 := save_any (key := kAt b 0) hCd.tr hn2' hT2' HMb.out.1 HMb.out.2 hnbd
  rw [hCd.g, ← HGp.out] at P0
  have P3 := Lib.hid P0
  have hkc : W3.drew.cell? ⟨kb, ko, none⟩ = some (.string (kAt b 0)) := sl_cell hnbd.keys 0 hnkb
  have hBd : Blk W3.drew gc _ _ := hB
  have h12d : Blk W3.drew g12 _ _ := h12
  have c0 : W3.drew.cell? ⟨gc, 0, none⟩ = some (.bool b.leaf) := hBd.cell 0
  have c1 : W3.drew.cell? ⟨gc, 1, none⟩ = some (.slice (some ⟨kb, ko, none⟩) nkb ckb) := hBd.cell 1
  have c2 : W3.drew.cell? ⟨gc, 2, none⟩ = some (.slice Vb nvb cvb) := hBd.cell 2
  have c3 : W3.drew.cell? ⟨gc, 3, none⟩ = some (.slice Db ndb cdb) := hBd.cell 3
  obtain ⟨k0, hk0⟩ : ∃ z, z = kAt b 0 := ⟨_, rfl⟩
  obtain ⟨Wa, hWa⟩ : ∃ z, z = (W3.alloc (.cells #[.string .empty, .int .i64 0] 53)).drew := ⟨_, rfl⟩
  have hbWa : Below W3.heap.size W3.drew Wa := by
    rw [hWa]; show Below W3.drew.heap.size W3.drew (W3.drew.alloc _); exact (Below.refl W3.drew.heap.size W3.drew).alloc (Nat.le_refl _) _
  have hCa := hCd.below hbWa (Nat.le_refl _)
  have hnba := hnbd.below hbWa (Nat.le_refl _)
  have P1 := save_any (key := kAt b 0) hCa.tr hn2' hT2' HMb.out.1 HMb.out.2 hnba
  rw [hCa.g, ← HGp.out] at P1
  have hBa := hBd.below hbWa hB.lt
  have h12a := h12d.below hbWa h12.lt
  have h14a : Blk Wa W3.heap.size 53 [.string .empty, .int .i64 0] := by rw [hWa]; exact (Blk.new W3 53 [.string .empty, .int .i64 0]).drew
  have e0 : Wa.cell? ⟨gc, 0, none⟩ = some (.bool b.leaf) := hBa.cell 0
  have e1 : Wa.cell? ⟨gc, 1, none⟩ = some (.slice (some ⟨kb, ko, none⟩) nkb ckb) := hBa.cell 1
  have e2 : Wa.cell? ⟨gc, 2, none⟩ = some (.slice Vb nvb cvb) := hBa.cell 2
  have e3 : Wa.cell? ⟨gc, 3, none⟩ = some (.slice Db ndb cdb) := hBa.cell 3
  have hka : Wa.cell? ⟨kb, ko, none⟩ = some (.string (kAt b 0)) := sl_cell hnba.keys 0 hnkb
  rw [← hk0] at P0 P1 hkc hka
  rw [hWa] at P1 e0 e1 e2 e3 hka
  have P3 := Lib.hid P0
  have P3a := Lib.hid P1
  have HK0 := Lib.hid hk0
  have HCd := Lib.hid hCd
  have HBd := Lib.hid hBd
  have H12 := Lib.hid h12d
  have HCa := Lib.hid hCa
  have HBa := Lib.hid hBa
  have H12a := Lib.hid h12a
  have H14a := Lib.hid h14a
  rw [hWa] at HCa HBa H12a H14a
  have hgcW : gc < W3.heap.size := hB.lt
  have h12W : g12 < W3.heap.size := h12.lt
  have hkbW : kb < W3.heap.size := by have := HU3.out; omega
  have hnbi : (0 : Int) < (nkb : Int) := by omega
  have hgcn : ¬ W3.heap.size = gc := by omega
  have hkbn : ¬ W3.heap.size = kb := by omega
  have HF14 : Hid (¬ p3.foot W3.heap.size) := Lib.hid fun x => by have := HFt3.out _ x; omega
  clear hC hB hnb h12 hCd hnbd P0 P1 hBd h12d hk0 hr1 hT2' hCa hnba hBa h12a h14a hbWa hWa
  go_upto_region 10 with fail
  go_region_held3 (fun w' => w'.cell? ⟨gc, 0, none⟩ = some (.bool b.leaf) ∧ w'.cell? ⟨gc, 1, none⟩ = some (.slice (some ⟨kb, ko, none⟩) nkb ckb) ∧ w'.cell? ⟨gc, 2, none⟩ = some (.slice Vb nvb cvb) ∧ w'.cell? ⟨gc, 3, none⟩ = some (.slice Db ndb cdb) ∧ w'.cell? ⟨kb, ko, none⟩ = some (.string k0))
    (first | go_keep | (exact e0) | (exact e1) | (exact e2) | (exact e3) | (exact hka))
    (first
      | ((with_reducible refine Calls.mono P3.out ?_); rintro e w5 ⟨n2, p5, rfl, hn21, hn22, hTn2, hc5⟩
         have hC5 := HCd.out.trans hc5
         have B5 := hc5.K.blk HBd.out HAw3.out.1
         have B12 := hc5.K.blk H12.out HNf12.out.1
         have kc5 : w5.cell? ⟨kb, ko, none⟩ = some (.string k0) := (World.cell?_of_block (a := ⟨kb, ko, none⟩) (hc5.K.block kb hkbW HAw3.out.2)).trans hkc
         have hkb5 : kb < w5.heap.size := Nat.lt_of_lt_of_le hkbW hc5.K.size
         have d0 : w5.cell? ⟨gc, 0, none⟩ = some (.bool b.leaf) := B5.cell 0
         have d1 : w5.cell? ⟨gc, 1, none⟩ = some (.slice (some ⟨kb, ko, none⟩) nkb ckb) := B5.cell 1
         have d2 : w5.cell? ⟨gc, 2, none⟩ = some (.slice Vb nvb cvb) := B5.cell 2
         have d3 : w5.cell? ⟨gc, 3, none⟩ = some (.slice Db ndb cdb) := B5.cell 3
         have hgc5 : gc < w5.heap.size := B5.lt
         have hgcn5 : ¬ w5.heap.size = gc := by omega
         have hkbn5 : ¬ w5.heap.size = kb := by omega)
      | ((with_reducible refine Calls.mono P3a.out ?_); rintro e w5 ⟨n2, p5, rfl, hn21, hn22, hTn2, hc5⟩
         have hC5 := HCa.out.trans hc5
         have B5 := hc5.K.blk HBa.out HAw3.out.1
         have B12 := hc5.K.blk H12a.out HNf12.out.1
         have B14 := hc5.K.blk H14a.out HF14.out
         have kc5 : w5.cell? ⟨kb, ko, none⟩ = some (.string k0) := (World.cell?_of_block (a := ⟨kb, ko, none⟩) (hc5.K.block kb (by simp; omega) HAw3.out.2)).trans hka
         have d0 : w5.cell? ⟨gc, 0, none⟩ = some (.bool b.leaf) := B5.cell 0
         have d1 : w5.cell? ⟨gc, 1, none⟩ = some (.slice (some ⟨kb, ko, none⟩) nkb ckb) := B5.cell 1
         have d2 : w5.cell? ⟨gc, 2, none⟩ = some (.slice Vb nvb cvb) := B5.cell 2
         have d3 : w5.cell? ⟨gc, 3, none⟩ = some (.slice Db ndb cdb) := B5.cell 3
         have hgc5 : gc < w5.heap.size := B5.lt
         have B14c := B14.cells
         have B14f := B14.frees))
  · rename_i hH
    have HC5 := Lib.hid hC5
    have HB12 := Lib.hid B12
    clear hH c0 c1 c2 c3 hkc hka e0 e1 e2 e3 d0 d1 d2 d3 kc5 B5 P3 P3a hC5 B12 hc5 HCd HBd H12 HCa HBa H12a H14a
    go_upto_region 11 with fail
    obtain ⟨g14, hg14⟩ : ∃ z, z = w5.heap.size := ⟨_, rfl⟩
    rw [← hg14]
    have hal5 : Below w5.heap.size w5 (w5.alloc (.cells #[.string k0, .int .i64 (n2 : Int)] 53)) := (Below.refl _ _).alloc (Nat.le_refl _) _
    refine wp_world (fun U => TCh w U base p p5 N (updT (updT T n1 (some a)) n2 (some b)) ∧ Blk U g12 53 [.string key, .int .i64 (n1 : Int)] ∧ Blk U g14 53 [.string k0, .int .i64 (n2 : Int)])
      ⟨HC5.out.below hal5 (Nat.le_refl _), HB12.out.alloc _, Blk.new_at (cs := [.string k0, .int .i64 (n2 : Int)]) hg14⟩ ?_
    clear hal5 hg14 HB12 hgcn5 hkbn5 hgc5 hkb5 hgcn hkbn
    rintro U5 ⟨hC, hA, hB⟩
    have hAc := hA.cells
    have hBc := hB.cells
    have hal6 : Below U5.heap.size U5 (U5.alloc (.cells #[.string key, .int .i64 (n1 : Int), .string k0, .int .i64 (n2 : Int)] 53)) := (Below.refl _ _).alloc (Nat.le_refl _) _
    have fin : SavesTo w base p N T s key (.returned (.tuple #[.slice (some ⟨U5.heap.size, 0, none⟩) 2 2, .int .i64 0])) (U5.alloc (.cells #[.string key, .int .i64 (n1 : Int), .string k0, .int .i64 (n2 : Int)] 53)) :=
      ⟨U5.heap.size, p5, [(key, n1), (k0, n2)], _, rfl, Blk.new_at (cs := [.string key, .int .i64 (n1 : Int), .string k0, .int .i64 (n2 : Int)]) rfl, hC.K.size, fun x => by have := (hC.tr.foot_base _ x).2; omega, hC.below hal6 (Nat.le_refl _), .inr ⟨HZz.out, a, b, n1, n2, HSp.out, hn11, hn12, hn21, hn22, hTn1, hTn2, by rw [HK0.out], rfl⟩⟩
    have FIN := Lib.hid fin
    clear fin hal6 hC hA hB HC5 hTn1 hTn2 HSp HK0
    go_wp2
    go_ret2
    exact FIN.out
  · rename_i hH
    have hWw : w.heap.size ≤ W3.heap.size := by omega
    have hn14 : ¬ p5.foot W3.heap.size := hc5.away HF14.out (by simp)
    have HC5 := Lib.hid (hC5.kept (w2 := (w5.setCell ⟨W3.heap.size, 0, none⟩ (.string k0)).setCell ⟨W3.heap.size, 1, none⟩ (.int .i64 (n2 : Int))) (Kept.setCell_.trans Kept.setCell_ (fun _ _ x => x)) (fun b e => by subst e; exact ⟨hWw, hn14⟩))
    have HB14 := Lib.hid ((B14.set_ 0 (.string k0)).set_ 1 (.int .i64 (n2 : Int)))
    have K5 : Kept (fun b => b = W3.heap.size) w5 ((w5.setCell ⟨W3.heap.size, 0, none⟩ (.string k0)).setCell ⟨W3.heap.size, 1, none⟩ (.int .i64 (n2 : Int))) := Kept.setCell_.trans Kept.setCell_ (fun _ _ x => x)
    have HB12 := Lib.hid (K5.blk B12 (by omega))
    clear hH c0 c1 c2 c3 hkc hka e0 e1 e2 e3 d0 d1 d2 d3 kc5 B5 P3 P3a hC5 B12 hc5 HCd HBd H12 HCa HBa H12a H14a B14 B14c B14f K5 hn14
    go_upto_region 11 with fail
    obtain ⟨g14, hg14⟩ : ∃ z, z = W3.heap.size := ⟨_, rfl⟩
    rw [← hg14]
    rw [← hg14] at HB14 HC5 HB12
    refine wp_world (fun U => TCh w U base p p5 N (updT (updT T n1 (some a)) n2 (some b)) ∧ Blk U g12 53 [.string key, .int .i64 (n1 : Int)] ∧ Blk U g14 53 [.string k0, .int .i64 (n2 : Int)])
      ⟨HC5.out, HB12.out, HB14.out⟩ ?_
    clear hg14 HB12 HB14 HC5 hgc5 hgcn hkbn hgcW h12W hkbW
    rintro U5 ⟨hC, hA, hB⟩
    have hAc := hA.cells
    have hBc := hB.cells
    have hal6 : Below U5.heap.size U5 (U5.alloc (.cells #[.string key, .int .i64 (n1 : Int), .string k0, .int .i64 (n2 : Int)] 53)) := (Below.refl _ _).alloc (Nat.le_refl _) _
    have fin : SavesTo w base p N T s key (.returned (.tuple #[.slice (some ⟨U5.heap.size, 0, none⟩) 2 2, .int .i64 0])) (U5.alloc (.cells #[.string key, .int .i64 (n1 : Int), .string k0, .int .i64 (n2 : Int)] 53)) :=
      ⟨U5.heap.size, p5, [(key, n1), (k0, n2)], _, rfl, Blk.new_at (cs := [.string key, .int .i64 (n1 : Int), .string k0, .int .i64 (n2 : Int)]) rfl, hC.K.size, fun x => by have := (hC.tr.foot_base _ x).2; omega, hC.below hal6 (Nat.le_refl _), .inr ⟨HZz.out, a, b, n1, n2, HSp.out, hn11, hn12, hn21, hn22, hTn1, hTn2, by rw [HK0.out], rfl⟩⟩
    have FIN := Lib.hid fin
    clear fin hal6 hC hA hB hTn1 hTn2 HSp HK0
    go_wp2
    go_ret2
    exact FIN.out
end Go.Proofs.Ytdakohbfibcjeaa
