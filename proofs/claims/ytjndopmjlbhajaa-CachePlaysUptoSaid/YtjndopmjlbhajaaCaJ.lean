/- The cache's Flush. No condition beyond what is always so of a cache, and fewer than 2^38 versions of a sector. -/
import Derived.Test.YtjndopmjlbhajaaCaI
namespace Go.Proofs.Ytjndopmjlbhajaa
open Go.RowKit Go.Maps
set_option linter.unusedSimpArgs false
set_option linter.unusedVariables false

theorem cwrite_ch {w : World} {base : Nat} {d : Dw} {s : Dsk} (h : Dk w base d s) {k : Nat} (hk : k < s.n) (hv : (s.vers k).length < 549755813887) {lo b o c : Nat} {x : List UInt8} (hx : Bs w lo (some ⟨b, o, none⟩) 256 c x) (hf : ¬ d.foot b) :
    Calls Try.prog 29 #[.pointer (some ⟨d.g, 0, none⟩), .int .i64 k, .slice (some ⟨b, o, none⟩) 256 c] w fun e w' => e = .returned (.int .i64 0) ∧ ∃ d', Ch w w' base d d' (writeD s k x) :=
  (dwrite_ok h hk hv hx hf).mono fun e w' ⟨a, b⟩ => ⟨a, Ch.of b⟩
def secOf (s : Ca) (n : Nat) : List UInt8 := blkSector n ((s.blocks n).getD nilB).k ((s.blocks n).getD nilB).b
/-- the first i of some dirty blocks are written -/
def flushTo (t : Dsk) (s : Ca) (L : List Nat) : Nat → Dsk × Ca
  | 0 => (t, s)
  | i + 1 => (writeD (flushTo t s L i).1 (L.getD i 0) (secOf (flushTo t s L i).2 (L.getD i 0)), askedC (delD (flushTo t s L i).2 ((L.getD i 0 : Nat) : Int)) (L.getD i 0))
def flushC (t : Dsk) (s : Ca) : Dsk × Ca := flushTo t s (dirtyN t.n s) (dirtyN t.n s).length
theorem flushTo_n (t : Dsk) (s : Ca) (L : List Nat) : ∀ i, (flushTo t s L i).1.n = t.n
  | 0 => rfl
  | i + 1 => by rw [flushTo]; show (writeD _ _ _).n = _; rw [writeD_n, flushTo_n t s L i]
theorem writeD_len (t : Dsk) (k : Nat) (x : List UInt8) (j : Nat) : ((writeD t k x).vers j).length ≤ (t.vers j).length + 1 := by
  have e : ∀ u : Dsk, ((writeS u k x).vers j).length ≤ (u.vers j).length + 1 := fun u => by
    show (if j = k then u.vers k ++ [x] else u.vers j : List (List UInt8)).length ≤ _
    split
    · rename_i h; subst h; rw [List.length_append]; exact Nat.le_refl _
    · omega
  have e2 : (doneS t).vers = t.vers := (doneS_n t).2.2.1
  unfold writeD
  split
  · rw [← e2]; exact e _
  · rw [e2]; omega
theorem flushTo_len (t : Dsk) (s : Ca) (L : List Nat) (j : Nat) : ∀ i, ((flushTo t s L i).1.vers j).length ≤ (t.vers j).length + i
  | 0 => Nat.le_refl _
  | i + 1 => by
    rw [flushTo]
    exact Nat.le_trans (writeD_len _ _ _ _) (by have := flushTo_len t s L j i; omega)
theorem ask_flush {N n : Nat} {s : Ca} (h : CaOk N s) (hd : s.dirty n = true) : AskOk N (delD s (n : Int)) n := by
  refine ⟨h.room, h.blk, fun m hm => ?_, fun m hm => ?_, h.nodup, h.len, (h.cov n).2 (.inl hd), ?_⟩
  · show (s.blocks m).isSome = true ↔ (if (m : Int) = (n : Int) then false else s.dirty m) = true ∨ _
    rw [if_neg (by omega)]; exact h.cov m
  · have hm : (if (m : Int) = (n : Int) then false else s.dirty m) = true := hm
    split at hm
    · cases hm
    · exact h.apart m hm
  · show (if (n : Int) = (n : Int) then false else s.dirty n) = false
    rw [if_pos rfl]
theorem dirtyN_nodup (N : Nat) (s : Ca) {i j : Nat} (hi : i < (dirtyN N s).length) (hj : j < i) : (dirtyN N s).getD j 0 ≠ (dirtyN N s).getD i 0 := by
  have := List.pairwise_iff_getElem.1 (dirtyN_asc N s) j i (by omega) hi hj
  rw [List.getD_eq_getElem?_getD, List.getD_eq_getElem?_getD, List.getElem?_eq_getElem hi, List.getElem?_eq_getElem (by omega)]
  simp only [Option.getD_some]
  omega
theorem dirtyN_get {N : Nat} {s : Ca} {i : Nat} (hi : i < (dirtyN N s).length) : (dirtyN N s).getD i 0 < N ∧ s.dirty ((dirtyN N s).getD i 0) = true := by
  have : (dirtyN N s).getD i 0 ∈ dirtyN N s := by
    rw [List.getD_eq_getElem?_getD, List.getElem?_eq_getElem hi]
    exact List.getElem_mem _
  exact mem_dirtyN.1 this
theorem flushTo_ok {t : Dsk} {s : Ca} (h : CaOk t.n s) : ∀ i, i ≤ (dirtyN t.n s).length → CaOk t.n (flushTo t s (dirtyN t.n s) i).2 ∧ (∀ m, (∀ j, j < i → (dirtyN t.n s).getD j 0 ≠ m) → (flushTo t s (dirtyN t.n s) i).2.dirty m = s.dirty m) ∧ (∀ m, (∃ j, j < i ∧ (dirtyN t.n s).getD j 0 = m) → (flushTo t s (dirtyN t.n s) i).2.dirty m = false) ∧ (flushTo t s (dirtyN t.n s) i).2.room = s.room
  | 0, _ => ⟨h, fun _ _ => rfl, fun m ⟨j, hj, _⟩ => absurd hj (Nat.not_lt_zero _), rfl⟩
  | i + 1, hi => by
    obtain ⟨h1, h2, h3, h4⟩ := flushTo_ok h i (by omega)
    have hn := dirtyN_get (s := s) (N := t.n) (i := i) (by omega)
    have hd : (flushTo t s (dirtyN t.n s) i).2.dirty ((dirtyN t.n s).getD i 0) = true := by
      rw [h2 _ (fun j hj => dirtyN_nodup t.n s (by omega) hj)]; exact hn.2
    have ha := ask_flush h1 hd
    rw [flushTo]
    have hs := asked_same ha
    refine ⟨asked_ok ha, fun m hm => ?_, fun m hm => ?_, ?_⟩
    · show (askedC _ _).dirty m = _
      rw [hs.1]
      show (if (m : Int) = _ then false else _) = _
      rw [if_neg (by have := hm i (by omega); omega)]
      exact h2 m (fun j hj => hm j (by omega))
    · show (askedC _ _).dirty m = _
      rw [hs.1]
      show (if (m : Int) = _ then false else _) = false
      split
      · rfl
      · rename_i hne
        obtain ⟨j, hj, e⟩ := hm
        by_cases hji : j = i
        · subst hji; exact absurd (by rw [e]) hne
        · exact h3 m ⟨j, by omega, e⟩
    · show (askedC _ _).room = _
      rw [hs.2]; exact h4
theorem flushTo_dirty {t : Dsk} {s : Ca} (h : CaOk t.n s) {i : Nat} (hi : i < (dirtyN t.n s).length) : (flushTo t s (dirtyN t.n s) i).2.dirty ((dirtyN t.n s).getD i 0) = true := by
  obtain ⟨h1, h2, h3, h4⟩ := flushTo_ok h i (by omega)
  rw [h2 _ (fun j hj => dirtyN_nodup t.n s hi hj)]
  exact (dirtyN_get hi).2
theorem flushC_ok {t : Dsk} {s : Ca} (h : CaOk t.n s) : CaOk t.n (flushC t s).2 ∧ (flushC t s).1.n = t.n ∧ ∀ m, (flushC t s).2.dirty m = false ∨ t.n ≤ m := by
  obtain ⟨h1, h2, h3, h4⟩ := flushTo_ok h _ (Nat.le_refl (dirtyN t.n s).length)
  refine ⟨h1, flushTo_n _ _ _ _, fun m => ?_⟩
  by_cases hm : m < t.n
  · left
    by_cases hd : s.dirty m = true
    · obtain ⟨j, hj, e⟩ := List.getElem_of_mem (mem_dirtyN.2 ⟨hm, hd⟩)
      exact h3 m ⟨j, hj, by rw [List.getD_eq_getElem?_getD, List.getElem?_eq_getElem hj]; exact e⟩
    · have hdf : s.dirty m = false := by cases e : s.dirty m with | false => rfl | true => exact absurd e hd
      unfold flushC
      rw [h2 m (fun j hj e => by rw [← e] at hd; exact hd (dirtyN_get hj).2)]
      exact hdf
  · exact .inr (by omega)

set_option maxRecDepth 100000 in
set_option maxHeartbeats 8000000 in
theorem flush_any_c {w : World} {base : Nat} {d : Dw} {k : Cw} {t : Dsk} {s : Ca} (h : CD w base d k t s) (ok : CaOk t.n s) (hv : ∀ j, j < t.n → (t.vers j).length < 274877906944) :
    Calls Try.prog 12 #[.pointer (some ⟨k.g, 0, none⟩)] w fun e w' => e = .returned (.int .i64 0) ∧ ∃ d' k', CCh w w' base d d' k k' (flushC t s).1 (flushC t s).2 := by
  have hn4 : t.n ≤ 4096 := h.dk.small.2
  have D0 := cdirty_any h
  obtain ⟨kg, hkg⟩ : ∃ x, x = k.g := ⟨_, rfl⟩
  rw [← hkg] at D0
  obtain ⟨L, hL⟩ : ∃ L, L = dirtyN t.n s := ⟨_, rfl⟩
  rw [← hL] at D0
  have hLl : L.length ≤ 4096 := by rw [hL]; exact Nat.le_trans (List.length_filter_le _ _) (by rw [List.length_range]; exact hn4)
  have D := Lib.hid D0
  have HKg := Lib.hid hkg
  have H := Lib.hid h
  have HOk := Lib.hid ok
  have HV := Lib.hid hv
  have HL := Lib.hid hL
  rw [← hkg]
  clear D0 h ok hv hkg hL
  go_enter Try.func12, Try.ntmps12
  go_wp2_with ((with_reducible refine Calls.mono D.out ?_); rintro e w1 ⟨A, c, rfl, ho1, hb1⟩)
  obtain ⟨ln, hln⟩ : ∃ z, z = L.length := ⟨_, rfl⟩
  rw [← hln]
  rw [← hln] at ho1 hLl
  have hcd1 := H.out.below hb1 (Nat.le_refl _)
  have hAf : ∀ b, ablk A = some b → ¬ hardC d k b := fun b e y => by
    have h1 := (ho1.blk e).1
    have h2 := (H.out.foot_base b (hard_foot y)).2
    omega
  have HO1 := Lib.hid ho1
  have HCd1 := Lib.hid hcd1
  have HAf := Lib.hid hAf
  have HB1 := Lib.hid hb1
  have HLn := Lib.hid hln
  clear ho1 hcd1 hAf hb1 hln D
  go_loopw [10] (fun s10 wr => ∃ (i : Nat) (d1 : Dw) (k1 : Cw), i ≤ ln ∧ s10 = .int .i64 i ∧ CCh w1 wr base d d1 k k1 (flushTo t s L i).1 (flushTo t s L i).2) (fun s10 _ => ln - (intOf s10).toNat)
  case atStart => exact ⟨0, d, k, by omega, rfl, CCh.init HCd1.out⟩
  case round =>
    obtain ⟨i, d1, k1, hi, rfl, hC⟩ := hrel
    have hk1 : kg = k1.g := by rw [HKg.out]; exact hC.gk.symm
    have HC := Lib.hid hC
    have HK1 := Lib.hid hk1
    clear hC hk1
    by_cases hlt : i < ln
    · have hltI : (i : Int) < (ln : Int) := by omega
      have ho := own_kept HO1.out HC.out.K (fun b e => HAf.out b e)
      obtain ⟨ga, hA, hga, hgl, hce, _⟩ := ho.cell (k := i) (by rw [length_iv, ← HLn.out]; exact hlt)
      obtain ⟨n, hn⟩ : ∃ n, n = L.getD i 0 := ⟨_, rfl⟩
      have hce2 : wr.cell? ⟨ga, i, none⟩ = some (.int .i64 (n : Int)) := by
        rw [hce]
        simp only [iv, List.getElem_map]
        rw [hn, List.getD_eq_getElem?_getD, List.getElem?_eq_getElem (by rw [← HLn.out]; exact hlt)]
        rfl
      obtain ⟨p, hp⟩ : ∃ p, p = flushTo t s L i := ⟨_, rfl⟩
      have hpn : p.1.n = t.n := by rw [hp]; exact flushTo_n _ _ _ _
      have hpo := (flushTo_ok HOk.out i (by rw [← HL.out, ← HLn.out]; omega))
      rw [← HL.out, ← hp] at hpo
      have hpd := flushTo_dirty HOk.out (i := i) (by rw [← HL.out, ← HLn.out]; exact hlt)
      rw [← HL.out, ← hp, ← hn] at hpd
      have hnl : n < t.n := by rw [hn, HL.out]; exact (dirtyN_get (by rw [← HL.out, ← HLn.out]; exact hlt)).1
      have hC := HC.out
      rw [← hp] at hC
      obtain ⟨x, hx⟩ : ∃ x, p.2.blocks n = some x := by
        have := (hpo.1.cov n).2 (.inl hpd)
        cases hx : p.2.blocks n with
        | none => rw [hx] at this; cases this
        | some x => exact ⟨x, rfl⟩
      have hxk := hpo.1.blk n x hx
      have hpv : ∀ j, j < p.1.n → (p.1.vers j).length < 549755813887 := fun j hj => by
        have h1 := flushTo_len t s L j i
        rw [← hp] at h1
        have h2 := HV.out j (by rw [← hpn]; exact hj)
        omega
      have c2 : wr.cell? ⟨kg, 2, none⟩ = some (.map (some k1.B)) := by rw [HK1.out]; exact hC.cd.ck.blk.cell 2
      have hlk : (Instr.lookup 65 (.map (some k1.B)) (.int .i64 (n : Int)) false).run Try.prog wr = .ok (.agg #[.int .i64 (x.k : Int), .slice (k1.v n).A x.b.length (k1.v n).c]) wr := by
        have := hC.cd.ck.bm.look (by rw [hpn]; exact hn4) (by rw [hpn]; exact hnl) Try.underlying65 zeroBk (w' := wr) rfl
        rw [this]; unfold bkM; rw [hx]; rfl
      have hbd := (hC.cd.ck.bod n x hx).1
      have P := Lib.hid (put_ok n x.k hbd (by omega) (by omega) (by omega) (by omega))
      have HCi := Lib.hid hC
      have HPn := Lib.hid hpn
      have HPo := Lib.hid hpo.1
      have HPd := Lib.hid hpd
      have HPv := Lib.hid hpv
      have HX := Lib.hid hx
      have HN := Lib.hid hn
      have HP := Lib.hid hp
      have HNl := Lib.hid hnl
      rw [hA]
      have HA := Lib.hid hA
      clear ho hga hgl hce hn hp hpn hpo hpd hC hx hxk hpv hbd hA HC
      go_upto_region 5 with ((with_reducible refine Calls.mono P.out ?_); rintro e w3 ⟨rfl, hx3, hb3⟩)
      have hC3 := HCi.out.below hb3 (Nat.le_refl _)
      obtain ⟨gs, hgs⟩ : ∃ z, z = wr.heap.size + 1 := ⟨_, rfl⟩
      rw [← hgs] at hx3
      rw [← hgs]
      have W0 := cwrite_ch hC3.cd.dk (k := n) (by rw [HPn.out]; exact HNl.out) (HPv.out n (by rw [HPn.out]; exact HNl.out)) (hx3.bs0 0 256 256 (Nat.zero_le _) (Nat.le_refl _) (by omega) (by rw [length_blkSector _ _ _ (by have := HPo.out.blk n x HX.out; omega)])) (fun y => by
        have h1 := (HCi.out.cd.dk.foot_base gs y).2
        omega)
      have c0 : w3.cell? ⟨kg, 0, none⟩ = some (.pointer (some ⟨d1.g, 0, none⟩)) := by rw [HK1.out]; exact hC3.cd.ck.blk.cell 0
      have W := Lib.hid W0
      have HC3 := Lib.hid hC3
      clear W0 hC3 hb3 hx3 hgs P hlk c2 hce2
      go_upto_region 9 with ((with_reducible refine Calls.mono W.out ?_); rintro e w5 ⟨rfl, d5, hc5⟩)
      have h5 := HC3.out.cd.onD hc5 (writeD_n _ _ _)
      have hC5 := HC3.out.trans h5
      have c3 : w5.cell? ⟨kg, 3, none⟩ = some (.map (some k1.D)) := by rw [HK1.out]; exact hC5.cd.ck.blk.cell 3
      have hd5 := hC5.cd.ck.dm
      have HC5 := Lib.hid hC5
      have HD5 := Lib.hid hd5
      have hn5 : (writeD p.1 n (blkSector n x.k x.b)).n = t.n := by rw [writeD_n]; exact HPn.out
      have HN5 := Lib.hid hn5
      clear hc5 h5 hC5 hd5 hn5 W HC3 c0
      go_upto_region 10 with (refine wpList_mdel rfl (.tmp 40) (.tmp 41) 66 rfl Try.underlying66 rfl rfl HD5.out (by rw [HN5.out]; exact hn4) (by have := HNl.out; omega) ?_; intro w6 hm6 hg6)
      have h6 := HC5.out.cd.delD_ hm6 hg6
      have hC6 := HC5.out.trans h6
      have hak := ask_flush HPo.out HPd.out
      have A0 := asked_any hC6.cd (z := n) (by rw [HN5.out]; exact HNl.out) (by have := hak.len; have := hak.room; omega) (fun y hy => by rw [HN5.out]; exact hak.inN hy) hak.room
      rw [← HK1.out] at A0
      have AA := Lib.hid A0
      have HC6 := Lib.hid hC6
      clear hm6 hg6 h6 hC6 hak A0 c3 HC5 HD5
      go_wp2_with ((with_reducible refine Calls.mono AA.out ?_); rintro e w7 ⟨rfl, k7, hC7⟩)
      have hC8 := HC6.out.trans hC7
      have hstep : flushTo t s L (i + 1) = (writeD p.1 n (blkSector n x.k x.b), askedC (delD p.2 (n : Int)) n) := by
        rw [flushTo, ← HP.out, ← HN.out]
        unfold secOf
        rw [HX.out]
        rfl
      have hC9 : CCh w1 w7 base d d5 k k7 (flushTo t s L (i + 1)).1 (flushTo t s L (i + 1)).2 := by rw [hstep]; exact hC8
      have HC9 := Lib.hid hC9
      clear hC7 hC8 hstep hC9 HC6 AA
      go_roundw
      case rel => exact ⟨i + 1, d5, k7, by omega, by norm_cast, HC9.out⟩
      case measure => simp only [intOf]; omega
    · obtain rfl : i = ln := by omega
      clear hlt
      go_wp2
      go_ret
      have hC := HC.out
      rw [HLn.out, HL.out] at hC
      exact ⟨rfl, d1, k1, hC.pre HB1.out (Nat.le_refl _)⟩
end Go.Proofs.Ytjndopmjlbhajaa
