/- The statement SuperPlays: its walk. Condition: fewer than 2^38 deeds. -/
import Derived.Test.YtdbhagnnpjcpmaaSupDisk
import Derived.Test.YtdbhagnnpjcpmaaSup
import Derived.Test.YtdbhagnnpjcpmaaDkIf
import Derived.Test.YtdbhagnnpjcpmaaFactsSd
import Derived.Test.YtdbhagnnpjcpmaaRjOff
import Derived.Deep.CutBlock
namespace Go.Proofs.Ytdbhagnnpjcpmaa
open Go.RowKit Go.Maps
set_option linter.unusedSimpArgs false
set_option linter.unusedVariables false

theorem sizeDs : (Try.prog.info? 35).map (·.size) = some 7 := by kernel_rfl
theorem zeroDs (w : World) : (zeroValue 35).run Try.prog w = .ok (.agg #[.int .i64 0, .int .i64 0, .int .i64 0, .int .i64 0, .slice none 0 0, .int .i64 0, .slice none 0 0]) w := by kernel_rfl
theorem Rel.save {s t : Dsk} {c : Nat} (h : Rel s t c) (hc : c + 2 ≤ 1099511627776) (x : Sup) : Rel (saveD s x) (rsaveD t x) (c + 2) := by
  unfold saveD rsaveD
  rw [h.n_]
  split
  · exact (h.write (by omega) _ _).flush (by omega)
  · exact h.idle.idle
theorem saveD_n (t : Dsk) (s : Sup) : (saveD t s).n = t.n := by
  unfold saveD; split
  · rw [flushD_n, writeD_n]
  · rfl
theorem loadTo_congr {n : Nat} {f g : Nat → List UInt8} : ∀ i, (∀ k, k < i → f k = g k) → loadTo n f i = loadTo n g i
  | 0, _ => rfl
  | i + 1, h => by rw [loadTo, loadTo, loadTo_congr i (fun k hk => h k (by omega)), h i (by omega)]
theorem Rel.load {s t : Dsk} {c : Nat} (h : Rel s t c) (hn : 2 ≤ s.n) : loadS t.n (hasD t) = loadS s.n (hasD s) := by
  unfold loadS
  rw [h.n_]
  exact loadTo_congr 2 (fun k hk => h.has (by omega))
/-- what a round of the law holds -/
def SS (w wr : World) (br gd gr i : Nat) : Prop := ∃ (d : Dw) (r : Rw) (s t : Dsk) (c : Nat), Two wr w.heap.size br d r s t ∧ Rel s t c ∧ c ≤ 2 * i ∧ d.g = gd ∧ r.g = gr ∧ s.n = 128 ∧ Below w.heap.size w wr

theorem pick10_any (c : Int) (hc : -9223372036854775808 ≤ c ∧ c ≤ 9223372036854775807) {n : Nat} (hn : 0 < n) (hn2 : n ≤ 9223372036854775807) (w : World) :
    Calls Try.prog 12 #[.int .i64 c, .int .i64 n] w fun e w' => e = .returned (.int .i64 (pickN c n)) ∧ w = w' := by
  by_cases h : c < 0
  · obtain ⟨k, hk⟩ : ∃ k : Nat, c = -(k : Int) - 1 := ⟨(-(c + 1)).toNat, by omega⟩
    have hp : pickN c n = k % n := by unfold pickN; rw [if_pos h]; congr 1; omega
    have HP := Lib.hid hp
    have e1 : IntKind.i64.wrap (c + 1) = -(k : Int) := by rw [IntWalk.i64_in _ (by omega)]; omega
    have e2 : IntKind.i64.wrap (-(-(k : Int))) = (k : Int) := by rw [IntWalk.i64_in _ (by omega)]; omega
    have e2b : wrap64 (k : Int) = (k : Int) := by unfold wrap64; omega
    have e3 : Int.tmod (k : Int) (n : Int) = ((k % n : Nat) : Int) := rfl
    have e4 : ¬ (n : Int) = 0 := by omega
    clear hp hk
    go_enter Try.func12, Try.ntmps12
    go_wp2
    go_ret
    exact ⟨by rw [HP.out]; rfl, rfl⟩
  · obtain ⟨k, rfl⟩ : ∃ k : Nat, c = (k : Int) := ⟨c.toNat, by omega⟩
    have hp : pickN (k : Int) n = k % n := by unfold pickN; rw [if_neg h]; congr 1
    have HP := Lib.hid hp
    have e3 : Int.tmod (k : Int) (n : Int) = ((k % n : Nat) : Int) := rfl
    have e4 : ¬ (n : Int) = 0 := by omega
    clear hp
    go_enter Try.func12, Try.ntmps12
    go_wp2
    go_ret
    exact ⟨by rw [HP.out]; rfl, rfl⟩


set_option maxRecDepth 100000 in
set_option maxHeartbeats 8000000 in
theorem splays_any {A : Option Addr} {n c : Nat} {f : Nat → Ds} {w : World} (hd : Dss w A n f) (hn : n ≤ 1048576) :
    Calls Try.prog 3 #[.slice A n c] w fun e w' => e = .returned (.bool true) ∧ Below w.heap.size w w' := by
  have D0 := dnew_ok 128 (by omega) w
  push_cast at D0
  have D := Lib.hid D0
  have HDj := Lib.hid hd
  have hzd := zeroDs
  have hz := zero32
  clear D0 hd
  go_enter Try.func3, Try.ntmps3
  go_upto_region 2 with ((with_reducible refine Calls.mono D.out ?_); rintro e w1 ⟨d0, rfl, hd1, hb1⟩)
  have R0 := rnew_ok 128 (by omega) w1
  push_cast at R0
  have R := Lib.hid R0
  have HD1 := Lib.hid hd1
  have HB1 := Lib.hid hb1
  clear R0 hd1 hb1 D
  go_upto_region 3 with ((with_reducible refine Calls.mono R.out ?_); rintro e w2 ⟨r0, rfl, hr2, hb2⟩)
  obtain ⟨br, hbr⟩ : ∃ br, br = w1.heap.size := ⟨_, rfl⟩
  obtain ⟨gd, hgd⟩ : ∃ gd, gd = d0.g := ⟨_, rfl⟩
  obtain ⟨gr, hgr⟩ : ∃ gr, gr = r0.g := ⟨_, rfl⟩
  rw [← hbr] at hr2
  have hI0 : SS w w2 br gd gr 0 := ⟨d0, r0, _, _, 0, ⟨HD1.out.below hb2 (Nat.le_refl _), hr2, by rw [hbr]; exact HB1.out.size⟩, rel_new 128, by omega, hgd.symm, hgr.symm, rfl, HB1.out.trans (hb2.mono HB1.out.size)⟩
  rw [← hgd, ← hgr]
  have HI0 := Lib.hid hI0
  clear hI0 hr2 hb2 R HD1 HB1 hgd hgr hbr
  go_wp2
  go_loopw [7] (fun s7 wr => ∃ i : Nat, i ≤ n ∧ s7 = .int .i64 i ∧ SS w wr br gd gr i) (fun s7 _ => n - (intOf s7).toNat)
  case atStart => exact ⟨0, by omega, rfl, HI0.out⟩
  case round =>
    clear HI0
    obtain ⟨i, hi, rfl, d, r, s, t, cc, hT, hR, hcc, hgd, hgr, hsn, hB⟩ := hrel
    have HT := Lib.hid hT
    have HR := Lib.hid hR
    have HGd := Lib.hid hgd
    have HGr := Lib.hid hgr
    have HSn := Lib.hid hsn
    have HB := Lib.hid hB
    clear hT hR hgd hgr hsn hB
    by_cases hlt : i < n
    · obtain ⟨b, o, rfl, _, hbl, hrg⟩ := rd_elem (k := 7) HDj.out.rd (fun _ _ => rfl) (by omega) hlt
      have hok := HDj.out.ok i hlt
      obtain ⟨x, hx⟩ : ∃ x, x = f i := ⟨_, rfl⟩
      rw [← hx] at hrg hok
      have hrw := range_kept hrg (HB.out.block b hbl)
      have HRg := Lib.hid hrw
      have HOk := Lib.hid hok
      clear hrg hok hrw hx
      have HN : Hid (Blk (wr.alloc (.cells #[.int .i64 0, .int .i64 0, .int .i64 0, .int .i64 0, .slice none 0 0, .int .i64 0, .slice none 0 0] 35)) wr.heap.size 35 [.int .i64 0, .int .i64 0, .int .i64 0, .int .i64 0, .slice none 0 0, .int .i64 0, .slice none 0 0]) := Lib.hid (Blk.new wr _ [.int .i64 0, .int .i64 0, .int .i64 0, .int .i64 0, .slice none 0 0, .int .i64 0, .slice none 0 0])
      go_upto_region 9 with (first
        | (((with_reducible refine wpList_load_mid (op := ⟨some 41, _, _, _, _, _⟩) ?_ 35 (.tmp 40) ?_ b (o + i * 7) ?_ (dsc x) _ ?_ Try.underlying35 ?_ ?_ ?_); rfl; rfl; (first | rfl | (go_simp; rfl)); exact HRg.out; rfl; (rw [sizeDs]; rfl)))
        | (((with_reducible refine row_put (o := ⟨none, _, _, _, _, _⟩) ?_ ?_ 35 (.tmp 8) (.tmp 41) ?_ wr.heap.size ?_ (dsc x) ?_ 35 [.int .i64 0, .int .i64 0, .int .i64 0, .int .i64 0, .slice none 0 0, .int .i64 0, .slice none 0 0] ?_ ?_ ?_ ?_ ?_); rfl; rfl; rfl; rfl; rfl; exact HN.out; (rw [sizeDs]; rfl); rfl; (intro u hu; simp [dsc] at hu; rcases hu with rfl | rfl | rfl | rfl | rfl | rfl | rfl <;> rfl); (intro w9 X9 g9))))
      have hb9 : Below wr.heap.size wr w9 := ((Below.refl _ _).alloc (Nat.le_refl _) _).grown g9 (by simp) (by intro k hk; cases hk; exact Nat.le_refl _)
      obtain ⟨gx, hgx⟩ : ∃ gx, gx = wr.heap.size := ⟨_, rfl⟩
      have hxl : w.heap.size ≤ gx := by rw [hgx]; exact HB.out.size
      have X9b := X9.out
      rw [← hgx] at X9b
      rw [← hgx]
      have HT9 := Lib.hid (HT.out.below hb9)
      have HB9 := Lib.hid (HB.out.trans (hb9.mono HB.out.size))
      have HX := Lib.hid X9b
      have P0 := pick10_any x.K HOk.out.k (n := 5) (by omega) (by omega) w9
      have hkl := pickN_lt x.K (n := 5) (by omega)
      obtain ⟨kd, hkd⟩ : ∃ kd, kd = pickN x.K 5 := ⟨_, rfl⟩
      rw [← hkd] at P0 hkl
      push_cast at P0
      have HPk := Lib.hid P0
      have xc0 := X9b.cell 0
      have xc5 := X9b.cell 5
      have xc6 := X9b.cell 6
      simp only [dsc, List.getElem?_cons_zero, List.getElem?_cons_succ] at xc0 xc5 xc6
      have HV : Hid (∀ k, k < s.n → (s.vers k).length < 549755813887) := Lib.hid (fun k hk => by have := HR.out.cnt k hk; omega)
      have HVt : Hid (∀ k, k < t.n → (t.vers k).length < 549755813887) := Lib.hid (fun k hk => by rw [HR.out.n_] at hk; rw [HR.out.vers_ k hk]; exact HV.out k hk)
      have HTn : Hid (t.n = 128) := Lib.hid (by rw [HR.out.n_]; exact HSn.out)
      clear X9 X9b P0 hkd g9 hb9 HT HB HN HRg hgx hzd
      go_upto_block 2 with ((with_reducible refine Calls.mono HPk.out ?_); rintro e wa ⟨rfl, rfl⟩)
      clear HPk
      go_cut [44] (fun _ wx => SS w wx br gd gr (i + 1))
      case first =>
        obtain hkd | hkd | hkd | hkd | hkd : (kd : Int) = 0 ∨ (kd : Int) = 1 ∨ (kd : Int) = 2 ∨ (kd : Int) = 3 ∨ (kd : Int) = 4 := by omega
        all_goals rw [hkd]
        all_goals clear hkd hkl
        · have hS0 : ∀ W : World, Blk W gx 35 (dsc x) → W.cell? ⟨gx, 1, none⟩ = some (.int .i64 x.s.gen) ∧ W.cell? ⟨gx, 2, none⟩ = some (.int .i64 x.s.sec) ∧ W.cell? ⟨gx, 3, none⟩ = some (.int .i64 x.s.next) ∧ W.cell? ⟨gx, 4, none⟩ = some (.slice x.vA x.vn x.vc) := fun W h => ⟨h.cell 1, h.cell 2, h.cell 3, h.cell 4⟩
          have HS0 := Lib.hid hS0
          have HXd : Hid (Blk w9.drew gx 35 (dsc x)) := HX
          have HTd := Lib.hid (HT9.out.below (below_drewN (Below.refl w9.heap.size w9) 1))
          have HBd : Hid (Below w.heap.size w w9.drew) := Lib.hid (below_drewN HB9.out 1)
          have P0 : Calls Try.prog 13 #[.pointer (some ⟨d.g, 0, none⟩), .agg #[.int .i64 x.s.gen, .int .i64 x.s.sec, .int .i64 x.s.next, .slice x.vA x.vn x.vc]] w9.drew _ := ssave_any HTd.out.dk (by rw [HSn.out]; omega) HV.out x.s (HOk.out.v.below HBd.out (Nat.le_refl _))
          rw [HGd.out] at P0
          have P := Lib.hid P0
          clear P0 hS0 HT9 HB9 HX xc0 xc5 xc6
          go_upto_region 11 with fail
          refine wp_region_last (S := fun w' => w'.cell? ⟨gx, 1, none⟩ = some (.int .i64 x.s.gen) ∧ w'.cell? ⟨gx, 2, none⟩ = some (.int .i64 x.s.sec) ∧ w'.cell? ⟨gx, 3, none⟩ = some (.int .i64 x.s.next) ∧ w'.cell? ⟨gx, 4, none⟩ = some (.slice x.vA x.vn x.vc)) 8 (by kernel_rfl) rfl (by kernel_rfl) ?_ ?_
          · exact HS0.out _ HXd.out
          intro hHeld
          simp only [List.take_succ_cons, List.take_zero]
          refine wpAnyH_take (i := 0) (v := ?_) (by simp only [List.getElem?_toArray, List.getElem?_cons_succ, List.getElem?_cons_zero]; rfl) (by kernel_rfl) (by kernel_rfl) (by kernel_rfl) (fun _ _ _ h => h) (Or.inl ⟨by rfl, ?_⟩) hHeld ?_
          rotate_left
          · intro wz hSw; (try dsimp only at hSw); go_simp; try with_reducible rfl
          (try simp only [Act.put, List.setIfInBounds_toArray, List.set_cons_zero, List.set_cons_succ])
          refine wpAnyH_take (i := 1) (v := ?_) (by simp only [List.getElem?_toArray, List.getElem?_cons_succ, List.getElem?_cons_zero]; rfl) (by kernel_rfl) (by kernel_rfl) (by kernel_rfl) (fun _ _ _ h => h) (Or.inl ⟨by rfl, ?_⟩) hHeld ?_
          rotate_left
          · intro wz hSw; (try dsimp only at hSw); go_simp; try with_reducible rfl
          (try simp only [Act.put, List.setIfInBounds_toArray, List.set_cons_zero, List.set_cons_succ])
          refine wpAnyH_take (i := 2) (v := ?_) (by simp only [List.getElem?_toArray, List.getElem?_cons_succ, List.getElem?_cons_zero]; rfl) (by kernel_rfl) (by kernel_rfl) (by kernel_rfl) (fun _ _ _ h => h) (Or.inl ⟨by rfl, ?_⟩) hHeld ?_
          rotate_left
          · intro wz hSw; (try dsimp only at hSw); go_simp; try with_reducible rfl
          (try simp only [Act.put, List.setIfInBounds_toArray, List.set_cons_zero, List.set_cons_succ])
          refine wpAnyH_take (i := 4) (v := ?_) (by simp only [List.getElem?_toArray, List.getElem?_cons_succ, List.getElem?_cons_zero]; rfl) (by kernel_rfl) (by kernel_rfl) (by kernel_rfl) (fun _ _ _ h => h) (Or.inl ⟨by rfl, ?_⟩) hHeld ?_
          rotate_left
          · intro wz hSw; (try dsimp only at hSw); go_simp; try with_reducible rfl
          (try simp only [Act.put, List.setIfInBounds_toArray, List.set_cons_zero, List.set_cons_succ])
          refine wpAnyH_take (i := 5) (v := ?_) (by simp only [List.getElem?_toArray, List.getElem?_cons_succ, List.getElem?_cons_zero]; rfl) (by kernel_rfl) (by kernel_rfl) (by kernel_rfl) (fun _ _ _ h => h) (Or.inl ⟨by rfl, ?_⟩) hHeld ?_
          rotate_left
          · intro wz hSw; (try dsimp only at hSw); go_simp; try with_reducible rfl
          (try simp only [Act.put, List.setIfInBounds_toArray, List.set_cons_zero, List.set_cons_succ])
          refine wpAnyH_take (i := 6) (v := ?_) (by simp only [List.getElem?_toArray, List.getElem?_cons_succ, List.getElem?_cons_zero]; rfl) (by kernel_rfl) (by kernel_rfl) (by kernel_rfl) (fun _ _ _ h => h) (Or.inl ⟨by rfl, ?_⟩) hHeld ?_
          rotate_left
          · intro wz hSw; (try dsimp only at hSw); go_simp; try with_reducible rfl
          (try simp only [Act.put, List.setIfInBounds_toArray, List.set_cons_zero, List.set_cons_succ])
          refine wpAnyH_ready (rs := [3]) (by kernel_rfl) (by simp) ?_
          refine AllReadyH.cons (by simp only [List.getElem?_toArray, List.getElem?_cons_succ, List.getElem?_cons_zero]; rfl) (fun KK hK => ?_) AllReadyH.nil
          go_simp; ((with_reducible refine Calls.mono P.out ?_); rintro e w5 ⟨rfl, d5, hc5⟩); go_wp2_with fail
          refine hK.out _ _ ?_ (fun hHeld => ?_)
          · exact HS0.out _ (hc5.K.blk HXd.out (HTd.out.dk.offB HXd.out (by decide) (by decide)))
          clear hK KK
          (try simp only [Act.put, List.setIfInBounds_toArray, List.set_cons_zero, List.set_cons_succ])
          have HX5 := Lib.hid (hc5.K.blk HXd.out (HTd.out.dk.offB HXd.out (by decide) (by decide)))
          have HT5 := Lib.hid (HTd.out.onD hc5)
          have HB5 := Lib.hid (HBd.out.trans (HTd.out.belD hc5))
          have HG5 : Hid (d5.g = gd) := Lib.hid (hc5.g.trans HGd.out)
          have P0 : Calls Try.prog 14 #[.pointer (some ⟨r.g, 0, none⟩), .agg #[.int .i64 x.s.gen, .int .i64 x.s.sec, .int .i64 x.s.next, .slice x.vA x.vn x.vc]] w5 _ := rssave_any HT5.out.rk (by rw [HTn.out]; omega) HVt.out x.s (HOk.out.v.below HB5.out (Nat.le_refl _))
          rw [HGr.out, show t.n = s.n from HR.out.n_] at P0
          have P2 := Lib.hid P0
          clear P0 hc5 P
          refine wpAnyH_ready (rs := [7]) (by kernel_rfl) (by simp) ?_
          refine AllReadyH.cons (by simp only [List.getElem?_toArray, List.getElem?_cons_succ, List.getElem?_cons_zero]; rfl) (fun KK hK => ?_) AllReadyH.nil
          go_simp; ((with_reducible refine Calls.mono P2.out ?_); rintro e w6 ⟨rfl, r6, hc6⟩); go_wp2_with fail
          refine hK.out _ _ ?_ (fun hHeld => ?_)
          · exact HS0.out _ (hc6.K.blk HX5.out (by have := HT5.out.rk.offB HX5.out (by decide) (by decide) (by decide); rw [HR.out.n_] at this; exact this))
          clear hK KK
          (try simp only [Act.put, List.setIfInBounds_toArray, List.set_cons_zero, List.set_cons_succ])
          rw [← show t.n = s.n from HR.out.n_] at hc6
          have HT6 := Lib.hid (HT5.out.onR hc6)
          have HB6 := Lib.hid (HB5.out.trans (HT5.out.belR hc6))
          have HG6 : Hid (r6.g = gr) := Lib.hid (hc6.g.trans HGr.out)
          obtain ⟨zz, hzz⟩ : ∃ z, z = saveZ s.n x.s := ⟨_, rfl⟩
          rw [← hzz]
          have hzn : (zz != zz) = false := by simp
          clear hc6 P2 hzz hHeld
          refine wpAnyH_done (by kernel_rfl) ?_ _
          simp only [lastQ]
          go_simp
          go_wp2
          go_meet
          exact ⟨d5, r6, _, _, cc + 2, HT6.out, HR.out.save (by omega) x.s, by omega, HG5.out, HG6.out, by rw [saveD_n]; exact HSn.out, HB6.out⟩
        · have xc1 := HX.out.cell 1
          have xc2 := HX.out.cell 2
          have xc3 := HX.out.cell 3
          have xc4 := HX.out.cell 4
          simp only [dsc, List.getElem?_cons_zero, List.getElem?_cons_succ] at xc1 xc2 xc3 xc4
          have hvr := HOk.out.v.below HB9.out (Nat.le_refl _)
          by_cases hok : supOk x.s
          · have P0 := rsput_s x.s hvr hok
            have hvn : x.s.vs.length = x.vn := HOk.out.v.1
            have P := Lib.hid P0
            clear P0 hok hvr hvn
            go_upto_region 16 with ((with_reducible refine Calls.mono P.out ?_); rintro e w6 ⟨A6, p6, rfl, ho6, hb6⟩)
            obtain ⟨g6, rfl, hg6, -⟩ := ho6.head (by omega)
            have hT6 := HT9.out.below hb6
            have hx6 := HX.out.below hb6 HX.out.lt
            have xd5 := hx6.cell 5
            simp only [dsc, List.getElem?_cons_zero, List.getElem?_cons_succ] at xd5
            have W0 := dwr_any hT6.dk HV.out x.N (own_bs ho6) (HT9.out.newD hg6)
            rw [HGd.out] at W0
            have W := Lib.hid W0
            have HT6 := Lib.hid hT6
            have HO6 := Lib.hid ho6
            have HX6 := Lib.hid hx6
            have HB6 := Lib.hid (HB9.out.trans (hb6.mono HB9.out.size))
            have HR6 : Hid (¬ r.foot t.n g6) := Lib.hid (HT9.out.newR hg6)
            have HD6 : Hid (¬ d.foot g6) := Lib.hid (HT9.out.newD hg6)
            clear W0 hT6 ho6 hx6 hb6 hg6 P HT9 HX xc0 xc1 xc2 xc3 xc4 xc5 xc6
            go_upto_region 17 with ((with_reducible refine Calls.mono W.out ?_); rintro e w7 ⟨z7, d7, rfl, hc7⟩)
            have hT7 := HT6.out.onD hc7
            have hx7 := hc7.K.blk HX6.out (HT6.out.dk.offB HX6.out (by decide) (by decide))
            have xe5 := hx7.cell 5
            simp only [dsc, List.getElem?_cons_zero, List.getElem?_cons_succ] at xe5
            have ho7 := own_kept HO6.out hc7.K (fun b hb y => by injection hb with hb; rw [← hb] at y; exact HD6.out y)
            have W0 := rwr_any hT7.rk HVt.out x.N (own_bs ho7) (fun b hb y => by injection hb with hb; rw [← hb] at y; exact HR6.out y)
            rw [HGr.out] at W0
            have W2 := Lib.hid W0
            have HT7 := Lib.hid hT7
            have HB7 := Lib.hid (HB6.out.trans (HT6.out.belD hc7))
            have HG7 : Hid (d7.g = gd) := Lib.hid (hc7.g.trans HGd.out)
            clear W0 hT7 hx7 ho7 hc7 W HT6 HO6 HX6 HB6 HR6 HD6 xd5
            go_wp2_with ((with_reducible refine Calls.mono W2.out ?_); rintro e w8 ⟨z8, r8, rfl, hc8⟩)
            go_meet
            exact ⟨d7, r8, _, _, cc + 1, HT7.out.onR hc8, HR.out.wrIf_ (by omega) _ _, by omega, HG7.out, hc8.g.trans HGr.out, by rw [wrIf_n]; exact HSn.out, HB7.out.trans (HT7.out.belR hc8)⟩
          · have P0 := rsput_n x.s hvr hok
            have P := Lib.hid P0
            clear P0 hok hvr
            go_wp2_with ((with_reducible refine Calls.mono P.out ?_); rintro e w6 ⟨rfl, hb6⟩)
            go_meet
            exact ⟨d, r, s, t, cc, HT9.out.below hb6, HR.out, by omega, HGd.out, HGr.out, HSn.out, HB9.out.trans (hb6.mono HB9.out.size)⟩
        · have F0 : Calls Try.prog 18 #[.pointer (some ⟨d.g, 0, none⟩)] w9 fun e w' => e = .returned (.tuple #[]) ∧ ∃ d', Ch w9 w' w.heap.size d d' (flushD s) := (dflush_any HT9.out.dk).mono fun e w' ⟨a, b⟩ => ⟨a, Ch.of b⟩
          rw [HGd.out] at F0
          have F := Lib.hid F0
          clear F0
          go_upto_region 20 with ((with_reducible refine Calls.mono F.out ?_); rintro e w6 ⟨rfl, d6, hc6⟩)
          have hT6 := HT9.out.onD hc6
          have F0 := rflush_any hT6.rk
          rw [HGr.out] at F0
          have F2 := Lib.hid F0
          have HT6 := Lib.hid hT6
          have HB6 := Lib.hid (HB9.out.trans (HT9.out.belD hc6))
          have HG6 : Hid (d6.g = gd) := Lib.hid (hc6.g.trans HGd.out)
          clear F0 hT6 hc6 F HT9 HX xc0 xc5 xc6
          go_wp2_with ((with_reducible refine Calls.mono F2.out ?_); rintro e w7 ⟨rfl, r7, hc7⟩)
          go_meet
          exact ⟨d6, r7, _, _, cc + 1, HT6.out.onR hc7, HR.out.flush (by omega), by omega, HG6.out, hc7.g.trans HGr.out, by rw [flushD_n]; exact HSn.out, HB6.out.trans (HT6.out.belR hc7)⟩
        · have hpr := HOk.out.p.below HB9.out (Nat.le_refl _)
          have hpl : 0 < x.pn → ∀ b, ablk x.pA = some b → b < w.heap.size := fun h0 b e => rd_lt HOk.out.p HOk.out.pl h0 b e
          have W0 := dpower_any HT9.out.dk HV.out (c := x.pc) hpr HOk.out.pl (by have := HOk.out.pz; omega) (fun h0 b e => HT9.out.offD (hpl h0 b e))
          rw [HGd.out] at W0
          have W := Lib.hid W0
          clear W0 hpr
          go_upto_region 23 with ((with_reducible refine Calls.mono W.out ?_); rintro e w6 ⟨rfl, d6, hc6⟩)
          have hT6 := HT9.out.onD hc6
          have hB6 := HB9.out.trans (HT9.out.belD hc6)
          have hx6 := hc6.K.blk HX.out (HT9.out.dk.offB HX.out (by decide) (by decide))
          have xd6 := hx6.cell 6
          simp only [dsc, List.getElem?_cons_zero, List.getElem?_cons_succ] at xd6
          have W0 := rpower_any hT6.rk HVt.out (c := x.pc) (HOk.out.p.below hB6 (Nat.le_refl _)) HOk.out.pl (by have := HOk.out.pz; omega) (fun h0 b e => hT6.offR (hpl h0 b e))
          rw [HGr.out] at W0
          have W2 := Lib.hid W0
          have HT6 := Lib.hid hT6
          have HB6 := Lib.hid hB6
          have HG6 : Hid (d6.g = gd) := Lib.hid (hc6.g.trans HGd.out)
          clear W0 hT6 hB6 hc6 hx6 hpl W HT9 HX xc0 xc5 xc6
          go_wp2_with ((with_reducible refine Calls.mono W2.out ?_); rintro e w7 ⟨rfl, r7, hc7⟩)
          go_meet
          exact ⟨d6, r7, _, _, cc, HT6.out.onR hc7, HR.out.power _, by omega, HG6.out, hc7.g.trans HGr.out, by rw [(power_all s x.ps).1]; exact HSn.out, HB6.out.trans (HT6.out.belR hc7)⟩
        · have T0 : Calls Try.prog 22 #[.pointer (some ⟨d.g, 0, none⟩), .int .i64 x.N] w9 fun e w' => e = .returned (.int .i64 (rotZ s.n x.N)) ∧ ∃ d', Ch w9 w' w.heap.size d d' (sdoK s (d8of 3 x.N) 3) := d_rot HT9.out.dk HV.out (d8of 3 x.N)
          rw [HGd.out] at T0
          have T := Lib.hid T0
          clear T0
          go_upto_region 26 with ((with_reducible refine Calls.mono T.out ?_); rintro e w6 ⟨rfl, d6, hc6⟩)
          have hT6 := HT9.out.onD hc6
          have hx6 := hc6.K.blk HX.out (HT9.out.dk.offB HX.out (by decide) (by decide))
          have xd5 := hx6.cell 5
          simp only [dsc, List.getElem?_cons_zero, List.getElem?_cons_succ] at xd5
          have T0 : Calls Try.prog 23 #[.pointer (some ⟨r.g, 0, none⟩), .int .i64 x.N] w6 fun e w' => e = .returned (.int .i64 (rotZ t.n x.N)) ∧ ∃ r', Rch w6 w' br r r' t.n (tdoK t (d8of 3 x.N) 3) := r_rot hT6.rk HVt.out (d8of 3 x.N)
          rw [HGr.out] at T0
          have T2 := Lib.hid T0
          have HT6 := Lib.hid hT6
          have HB6 := Lib.hid (HB9.out.trans (HT9.out.belD hc6))
          have HG6 : Hid (d6.g = gd) := Lib.hid (hc6.g.trans HGd.out)
          clear T0 hT6 hc6 hx6 T HT9 HX xc0 xc5 xc6
          go_wp2_with ((with_reducible refine Calls.mono T2.out ?_); rintro e w7 ⟨rfl, r7, hc7⟩)
          go_meet
          exact ⟨d6, r7, _, _, cc + 1, HT6.out.onR hc7, HR.out.do_ (by omega) (d8of 3 x.N), by omega, HG6.out, hc7.g.trans HGr.out, by rw [← sdo_rot, sdo_n]; exact HSn.out, HB6.out.trans (HT6.out.belR hc7)⟩
      case rest =>
        clear HT9 HX xc0 xc5 xc6 HR HGd HGr HSn HV HVt HTn HOk hkl HB9
        rename World => wx
        obtain ⟨d, r, s, t, cc, hT, hR, hcc, hgd, hgr, hsn, hB⟩ := hcut
        have HJS : Hid (∀ w', Below wx.heap.size wx w' → SS w w' br gd gr (i + 1)) := Lib.hid fun w' hb => ⟨d, r, s, t, cc, hT.below hb, hR, hcc, hgd, hgr, hsn, hB.trans (hb.mono hB.size)⟩
        have L0 := sload_any hT.dk (by rw [hsn]; omega)
        rw [hgd] at L0
        obtain ⟨o2, ho⟩ : ∃ o, o = loadS s.n (hasD s) := ⟨_, rfl⟩
        rw [← ho] at L0
        have hlo := hR.load (by rw [hsn]; omega)
        rw [← ho] at hlo
        obtain ⟨sp, hsp⟩ : ∃ z, z = o2.getD Sup.nil := ⟨_, rfl⟩
        obtain ⟨zz, hzz⟩ : ∃ z : Int, z = if o2.isSome then 0 else 7 := ⟨_, rfl⟩
        have HSp := Lib.hid hsp
        have HZz := Lib.hid hzz
        have L := Lib.hid L0
        have HT := Lib.hid hT
        have HLo := Lib.hid hlo
        have HTn : Hid (2 ≤ t.n) := Lib.hid (by rw [hR.n_, hsn]; omega)
        have HGr := Lib.hid hgr
        clear L0 ho hlo hsp hzz hT hR hgd hgr hsn hB
        go_upto_region 28 with ((with_reducible refine Calls.mono L.out ?_); rintro e w6 hL; obtain ⟨A6, c6, rfl, hv6, hb6⟩ := hL; rw [← HSp.out] at hv6; rw [← HSp.out, ← HZz.out])
        have ha6 := (Below.refl w6.heap.size w6).alloc (Nat.le_refl _) (.cells (spc sp A6 c6).toArray 32)
        have hV6 := hv6.below ha6 (Nat.le_refl _)
        have hX6 : Blk (w6.alloc (.cells (spc sp A6 c6).toArray 32)) w6.heap.size 32 (spc sp A6 c6) := Blk.new _ _ _
        have hB6 := hb6.trans (ha6.mono hb6.size)
        obtain ⟨g6, hg6⟩ : ∃ g, g = w6.heap.size := ⟨_, rfl⟩
        rw [← hg6] at hX6
        rw [← hg6]
        clear hg6 ha6 hv6 hb6 L
        refine wp_world (fun U => Vr U wx.heap.size A6 sp.vs.length c6 sp.vs ∧ Blk U g6 32 (spc sp A6 c6) ∧ Below wx.heap.size wx U) ⟨hV6, hX6, hB6⟩ ?_
        clear hV6 hX6 hB6
        rintro U ⟨hV6, hX6, hB6⟩
        have L0 := rsload_any ((HT.out.below hB6).rk) HTn.out
        rw [HGr.out, HLo.out] at L0
        have L := Lib.hid L0
        have HV6 := Lib.hid hV6
        have HX6 := Lib.hid hX6
        have HB6 := Lib.hid hB6
        clear L0 hV6 hX6 hB6
        go_upto_region 29 with ((with_reducible refine Calls.mono L.out ?_); rintro e w7 hL; obtain ⟨A7, c7, rfl, hv7, hb7⟩ := hL; rw [← HSp.out] at hv7; rw [← HSp.out, ← HZz.out])
        have ha7 := (Below.refl w7.heap.size w7).alloc (Nat.le_refl _) (.cells (spc sp A7 c7).toArray 32)
        have hV7 := hv7.below ha7 (Nat.le_refl _)
        have hX7 : Blk (w7.alloc (.cells (spc sp A7 c7).toArray 32)) w7.heap.size 32 (spc sp A7 c7) := Blk.new _ _ _
        have hb77 := hb7.trans (ha7.mono hb7.size)
        have hB7 := HB6.out.trans (hb77.mono HB6.out.size)
        have hX67 := HX6.out.below hb77 HX6.out.lt
        have hV67 := HV6.out.below hb77 (Nat.le_refl _)
        obtain ⟨g7, hg7⟩ : ∃ g, g = w7.heap.size := ⟨_, rfl⟩
        rw [← hg7] at hX7
        rw [← hg7]
        clear hg7 ha7 hv7 hb7 hb77 L HV6 HX6 HB6
        refine wp_world (fun W => Vr W 0 A6 sp.vs.length c6 sp.vs ∧ Vr W 0 A7 sp.vs.length c7 sp.vs ∧ Blk W g6 32 (spc sp A6 c6) ∧ Blk W g7 32 (spc sp A7 c7) ∧ Below wx.heap.size wx W) ⟨hV67.weak (Nat.zero_le _), hV7.weak (Nat.zero_le _), hX67, hX7, hB7⟩ ?_
        clear hV67 hV7 hX67 hX7 hB7
        rintro U7 ⟨hV6, hV7, hX6, hX7, hB7⟩
        have S0 := ssame_any sp sp hV6 hV7
        rw [decide_eq_true rfl] at S0
        have Sm := Lib.hid S0
        have x6 := hX6.cells
        have x7 := hX7.cells
        simp only [spc] at x6 x7
        have HB7 := Lib.hid hB7
        have hzn : (zz != zz) = false := by simp
        clear S0 hV6 hV7 hX6 hX7 hB7
        go_upto_region 30 with ((with_reducible refine Calls.mono Sm.out ?_); rintro e w8 ⟨rfl, hb8⟩)
        have HB8 := Lib.hid (HB7.out.trans (hb8.mono HB7.out.size))
        clear x6 x7 Sm hb8 HB7
        go_wp2
        go_roundw
        case rel => exact ⟨i + 1, by omega, by norm_cast, HJS.out _ HB8.out⟩
        case measure => simp only [intOf]; omega
    · obtain rfl : i = n := by omega
      clear hlt HT HR HGd HGr HSn
      have N0 := Lib.hid (sload_nil wr)
      go_upto_region 33 with ((with_reducible refine Calls.mono N0.out ?_); rintro e w6 ⟨rfl, hb6⟩)
      have HB6 := Lib.hid ((HB.out.trans (hb6.mono HB.out.size)).alloc (Nat.le_trans HB.out.size hb6.size) (.cells #[.int .i64 0, .int .i64 0, .int .i64 0, .slice none 0 0] 32))
      clear N0 HB hb6
      refine wp_world (fun W => Below w.heap.size w W) HB6.out ?_
      clear HB6
      rintro W7 hB7
      have HB7 := Lib.hid hB7
      have O1 := Lib.hid (one_any W7)
      clear hB7
      go_wp2_with (first
        | ((with_reducible refine Calls.mono O1.out ?_); rintro e w8 ⟨g8, rfl, hv8, hb8⟩; have HB8 := Lib.hid (HB7.out.trans (hb8.mono HB7.out.size)); have N1 := Lib.hid (ssave_nil w8 _ (.int .i64 1) (.int .i64 128) (.int .i64 2) (.slice (some ⟨g8, 0, none⟩) 1 1) rfl); clear hv8 hb8)
        | ((with_reducible refine Calls.mono N1.out ?_); rintro e w9 ⟨rfl, hb9⟩; have HB9 := Lib.hid (HB8.out.trans (hb9.mono HB8.out.size)); have LV := Lib.hid (suplives_any w9); clear hb9)
        | ((with_reducible refine Calls.mono LV.out ?_); rintro e wa ⟨rfl, hba⟩))
      go_ret
      exact ⟨rfl, HB9.out.trans (hba.mono HB9.out.size)⟩
end Go.Proofs.Ytdbhagnnpjcpmaa
