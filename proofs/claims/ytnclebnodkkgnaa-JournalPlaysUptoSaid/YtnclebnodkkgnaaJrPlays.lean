/- The statement JournalPlays: its walk. Condition: fewer than 2^33 deeds. -/
import Derived.Test.YtnclebnodkkgnaaJrTwo
import Derived.Test.YtnclebnodkkgnaaJrSame
import Derived.Test.YtnclebnodkkgnaaFactsJ
import Derived.Deep.CutBlock
namespace Go.Proofs.Ytnclebnodkkgnaa
open Go.RowKit Go.Maps
set_option linter.unusedSimpArgs false
set_option linter.unusedVariables false

theorem size79p : (Try.prog.info? 79).map (·.size) = some 4 := by kernel_rfl
theorem zero79p (w : World) : (zeroValue 79).run Try.prog w = .ok (.agg #[.int .i64 0, .slice none 0 0, .int .i64 0, .slice none 0 0]) w := by kernel_rfl
theorem bs_ltp {w : World} {lo m c : Nat} {A : Option Addr} {l : List UInt8} (h : Bs w lo A m c l) (hm : 0 < m) : ∀ b, ablk A = some b → b < w.heap.size := fun b hb => by
  obtain ⟨b', o, e, _, hl⟩ := h.at_ hm
  rw [e] at hb
  injection hb with hb
  rw [← hb]; exact hl
theorem openGo_len (sec : Nat → List UInt8) (G : Nat) : ∀ (f p : Nat) (out : List (List UInt8)), (openGo sec G f p out).length ≤ out.length + f
  | 0, _, _ => Nat.le_refl _
  | f + 1, p, out => by
    rw [openGo]
    by_cases hp : p < 48
    · rw [if_pos hp]
      cases recAt sec G p (out.length + 1) with
      | none => exact Nat.le_add_right _ _
      | some b =>
        have := openGo_len sec G f (p + b.2) (out ++ [b.1])
        rw [List.length_append] at this
        simp only [List.length_cons, List.length_nil] at this
        show (openGo sec G f (p + b.2) (out ++ [b.1])).length ≤ _
        omega
    · rw [if_neg hp]; omega
theorem openS_len (sec : Nat → List UInt8) (G : Nat) : (openS sec G).length ≤ 48 := by
  have := openGo_len sec G 48 0 []
  simpa [openS] using this
/-- a deed of the disks, for its number alone -/
def d8of (k N : Int) : D8 := ⟨k, N, 0, 0, false, none, 0, 0, []⟩
theorem sdo_rot (s : Dsk) (N : Int) : sdo s (d8of 3 N) = sdoK s (d8of 3 N) 3 := rfl
theorem tdo_rot (s : Dsk) (N : Int) : tdo s (d8of 3 N) = tdoK s (d8of 3 N) 3 := rfl
/-- what a round of the law holds -/
def JS (w wr : World) (br gd gr i : Nat) (j q G used many : Nat) : Prop := ∃ (d : Dw) (r : Rw) (s t : Dsk) (c : Nat), JI w wr br d r s t j q G used many ∧ Rel s t c ∧ c ≤ 48 * i ∧ d.g = gd ∧ r.g = gr ∧ s.n = 60 ∧ (1 ≤ G ∧ G ≤ 4294967295) ∧ used ≤ 48 ∧ many ≤ used

set_option maxRecDepth 100000 in
set_option maxHeartbeats 8000000 in
theorem jplays_any {A : Option Addr} {n c : Nat} {f : Nat → Dj} {w : World} (hd : Djs w A n f) (hn : n ≤ 1048576) :
    Calls Try.prog 12 #[.slice A n c] w fun e w' => e = .returned (.bool true) ∧ Below w.heap.size w w' := by
  have D0 := dnew_ok 60 (by omega) w
  push_cast at D0
  have D := Lib.hid D0
  have HDj := Lib.hid hd
  have hz79 := zero79p
  clear D0 hd
  go_enter Try.func12, Try.ntmps12
  go_upto_region 2 with ((with_reducible refine Calls.mono D.out ?_); rintro e w1 ⟨d0, rfl, hd1, hb1⟩)
  have R0 := rnew_ok 60 (by omega) w1
  push_cast at R0
  have R := Lib.hid R0
  have HD1 := Lib.hid hd1
  have HB1 := Lib.hid hb1
  clear R0 hd1 hb1 D
  go_upto_region 6 with ((with_reducible refine Calls.mono R.out ?_); rintro e w2 ⟨r0, rfl, hr2, hb2⟩)
  have hd2 := HD1.out.below hb2 (Nat.le_refl _)
  have hB2 := HB1.out.trans (hb2.mono HB1.out.size)
  have J0 := jnew_ok hd2 (by show 50 ≤ 60; omega) (G := 1) (by omega)
  push_cast at J0
  have J := Lib.hid J0
  have HR2 := Lib.hid hr2
  have HB2 := Lib.hid hB2
  have HLe : Hid (w.heap.size ≤ w1.heap.size) := Lib.hid HB1.out.size
  clear J0 hd2 hB2 hb2 hr2 R HD1 HB1
  go_upto_region 7 with ((with_reducible refine Calls.mono J.out ?_); rintro e w3 ⟨rfl, hj3, hb3⟩)
  have hr3 := HR2.out.below hb3 (Nat.le_refl _)
  have Q0 := rjnew_ok hr3 (by show 50 ≤ 60; omega) (G := 1) (by omega)
  push_cast at Q0
  have Q := Lib.hid Q0
  have HR3 := Lib.hid hr3
  have HJ3 := Lib.hid hj3
  have HB3 := Lib.hid (HB2.out.trans (hb3.mono HB2.out.size))
  clear Q0 hr3 hj3 hb3 J HR2
  go_upto_region 8 with ((with_reducible refine Calls.mono Q.out ?_); rintro e w4 ⟨rfl, hq4, hb4⟩)
  obtain ⟨br, hbr⟩ : ∃ br, br = w1.heap.size := ⟨_, rfl⟩
  obtain ⟨gd, hgd⟩ : ∃ gd, gd = d0.g := ⟨_, rfl⟩
  obtain ⟨gr, hgr⟩ : ∃ gr, gr = r0.g := ⟨_, rfl⟩
  have hI0 : JS w w4 br gd gr 0 w2.heap.size w3.heap.size 1 0 0 :=
    ⟨d0, r0, _, _, 0, ⟨HJ3.out.below hb4 (Nat.le_refl _), by rw [hbr]; exact HR3.out.below hb4 (Nat.le_refl _), by rw [hbr]; exact HLe.out, hq4, HB3.out.trans (hb4.mono HB3.out.size), HB3.out.size⟩, rel_new 60, by omega, hgd.symm, hgr.symm, rfl, by omega, by omega, by omega⟩
  rw [← hgd, ← hgr]
  have HI0 := Lib.hid hI0
  clear hI0 hgd hgr hbr hq4 hb4 Q HR3 HJ3 HB3 HB2 HLe
  obtain ⟨j0, hj0⟩ : ∃ j, j = w2.heap.size := ⟨_, rfl⟩
  obtain ⟨q0, hq0⟩ : ∃ j, j = w3.heap.size := ⟨_, rfl⟩
  rw [← hj0, ← hq0] at HI0
  rw [← hj0, ← hq0]
  clear hj0 hq0
  go_wp2
  go_loopw [7, 8, 9, 11] (fun s7 s8 s9 s11 wr => ∃ (i j q G used many : Nat), i ≤ n ∧ s11 = .int .i64 i ∧ s7 = .int .i64 G ∧ s8 = .pointer (some ⟨j, 0, none⟩) ∧ s9 = .pointer (some ⟨q, 0, none⟩) ∧ JS w wr br gd gr i j q G used many) (fun _ _ _ s11 _ => n - (intOf s11).toNat)
  case atStart => exact ⟨0, j0, q0, 1, 0, 0, by omega, rfl, rfl, rfl, rfl, HI0.out⟩
  case round =>
    clear HI0
    obtain ⟨i, j, q, G, used, many, hi, rfl, rfl, rfl, rfl, d, r, s, t, cc, hI, hR, hcc, hgd, hgr, hsn, hG, hu, hm⟩ := hrel
    have HI := Lib.hid hI
    have HR := Lib.hid hR
    have HGd := Lib.hid hgd
    have HGr := Lib.hid hgr
    have HSn := Lib.hid hsn
    have HG := Lib.hid hG
    clear hI hR hgd hgr hsn hG
    by_cases hlt : i < n
    · obtain ⟨b, o, rfl, _, hbl, hrg⟩ := rd_elem (k := 4) HDj.out.rd (fun _ _ => rfl) (by omega) hlt
      have hok := HDj.out.ok i hlt
      obtain ⟨x, hx⟩ : ∃ x, x = f i := ⟨_, rfl⟩
      rw [← hx] at hrg hok
      have hrw := range_kept hrg (HI.out.b.block b hbl)
      have HRg := Lib.hid hrw
      have HOk := Lib.hid hok
      clear hrg hok hrw hx
      have HN : Hid (Blk (wr.alloc (.cells #[.int .i64 0, .slice none 0 0, .int .i64 0, .slice none 0 0] 79)) wr.heap.size 79 [.int .i64 0, .slice none 0 0, .int .i64 0, .slice none 0 0]) := Lib.hid (Blk.new wr _ [.int .i64 0, .slice none 0 0, .int .i64 0, .slice none 0 0])
      go_upto_region 14 with (first
        | (((with_reducible refine wpList_load_mid (op := ⟨some 63, _, _, _, _, _⟩) ?_ 79 (.tmp 62) ?_ b (o + i * 4) ?_ (djc x) _ ?_ Try.underlying79 ?_ ?_ ?_); rfl; rfl; (first | rfl | (go_simp; rfl)); exact HRg.out; rfl; (rw [size79p]; rfl)))
        | (((with_reducible refine row_put (o := ⟨none, _, _, _, _, _⟩) ?_ ?_ 79 (.tmp 12) (.tmp 63) ?_ wr.heap.size ?_ (djc x) ?_ 79 [.int .i64 0, .slice none 0 0, .int .i64 0, .slice none 0 0] ?_ ?_ ?_ ?_ ?_); rfl; rfl; rfl; rfl; rfl; exact HN.out; (rw [size79p]; rfl); rfl; (intro u hu; simp [djc] at hu; rcases hu with rfl | rfl | rfl | rfl <;> rfl); (intro w9 X9 g9))))
      have hb9 : Below wr.heap.size wr w9 := ((Below.refl _ _).alloc (Nat.le_refl _) _).grown g9 (by simp) (by intro k hk; cases hk; exact Nat.le_refl _)
      have hI9 := HI.out.below hb9
      obtain ⟨gx, hgx⟩ : ∃ gx, gx = wr.heap.size := ⟨_, rfl⟩
      have hxl : w.heap.size ≤ gx := by rw [hgx]; exact HI.out.b.size
      have X9b := X9.out
      rw [← hgx] at X9b
      rw [← hgx]
      have HI9 := Lib.hid hI9
      have HX := Lib.hid X9b
      have P0 := pick_any x.K HOk.out.k (n := 6) (by omega) (by omega) w9
      have hkl := pickN_lt x.K (n := 6) (by omega)
      obtain ⟨kd, hkd⟩ : ∃ kd, kd = pickN x.K 6 := ⟨_, rfl⟩
      rw [← hkd] at P0 hkl
      push_cast at P0
      have HPk := Lib.hid P0
      have xc0 := X9b.cell 0
      have xc1 := X9b.cell 1
      have xc2 := X9b.cell 2
      have xc3 := X9b.cell 3
      simp only [djc, List.getElem?_cons_zero, List.getElem?_cons_succ] at xc0 xc1 xc2 xc3
      have HV : Hid (∀ k, k < s.n → (s.vers k).length < 549755813887) := Lib.hid (fun k hk => by have := HR.out.cnt k hk; omega)
      have HVt : Hid (∀ k, k < t.n → (t.vers k).length < 549755813887) := Lib.hid (fun k hk => by rw [HR.out.n_] at hk; rw [HR.out.vers_ k hk]; exact HV.out k hk)
      have HTn : Hid (t.n = 60) := Lib.hid (by rw [HR.out.n_]; exact HSn.out)
      clear hI9 X9 X9b P0 hkd g9 hb9 HI HN HRg hgx hz79
      go_upto_block 2 with ((with_reducible refine Calls.mono HPk.out ?_); rintro e wa ⟨rfl, rfl⟩)
      clear HPk
      go_cut [7, 8, 9, 66] (fun s7 s8 s9 _ wx => ∃ (j q G used many : Nat), s7 = .int .i64 G ∧ s8 = .pointer (some ⟨j, 0, none⟩) ∧ s9 = .pointer (some ⟨q, 0, none⟩) ∧ JS w wx br gd gr (i + 1) j q G used many)
      case first =>
        obtain hkd | hkd | hkd | hkd | hkd | hkd : (kd : Int) = 0 ∨ (kd : Int) = 1 ∨ (kd : Int) = 2 ∨ (kd : Int) = 3 ∨ (kd : Int) = 4 ∨ (kd : Int) = 5 := by omega
        all_goals rw [hkd]
        all_goals clear hkd hkl
        · have HXd : Hid (Blk w9.drew gx 79 (djc x)) := HX
          have hId := HI9.out.below (below_drewN (Below.refl w9.heap.size w9) 1)
          have HId : Hid (JI w w9.drew br d r s t j q G used many) := Lib.hid hId
          have hdl : 0 < x.dm → ∀ b, ablk x.dA = some b → b < w.heap.size := fun h0 b e => bs_ltp HOk.out.d h0 b e
          have HDl := Lib.hid hdl
          have hS0 : ∀ W : World, Blk W gx 79 (djc x) → W.cell? ⟨gx, 1, none⟩ = some (.slice x.dA x.dm x.dc) := fun W h => h.cell 1
          have HS0 := Lib.hid hS0
          clear hId hdl hS0 HI9 HX xc0 xc1 xc2 xc3
          by_cases hp : used + pcsN x.dm ≤ 48
          · have C0 := append_ok (n := x.dm) HId.out.jn (by rw [HSn.out]; omega) HG.out (by omega) HV.out (HOk.out.d.below HId.out.b (Nat.le_refl _)) (fun h0 b e => by
              have h1 := HDl.out h0 b e
              refine ⟨fun y => ?_, fun y => ?_⟩
              · have := (HId.out.jn.base_le b (.inl y)).1; omega
              · have := (HId.out.jn.base_le b (.inr y)).1; omega) (by have := HOk.out.d.2.1; have := HOk.out.dz; omega) hp
            have C := Lib.hid C0
            clear C0
            go_upto_region 16 with fail
            refine wp_region_last (S := fun w' => w'.cell? ⟨gx, 1, none⟩ = some (.slice x.dA x.dm x.dc)) 8 (by kernel_rfl) rfl (by kernel_rfl) ?_ ?_
            · exact HS0.out _ HXd.out
            intro hHeld
            simp only [List.take_succ_cons, List.take_zero]
            refine wpAnyH_take (i := 0) (v := ?_) (by simp only [List.getElem?_toArray, List.getElem?_cons_succ, List.getElem?_cons_zero]; rfl) (by kernel_rfl) (by kernel_rfl) (by kernel_rfl) (fun _ _ _ h => h) (Or.inl ⟨by rfl, ?_⟩) hHeld ?_
            rotate_left
            · intro wz hSw; (try dsimp only at hSw); go_simp; try with_reducible rfl
            (try simp only [Act.put, List.setIfInBounds_toArray, List.set_cons_zero, List.set_cons_succ])
            refine wpAnyH_take (i := 1) (v := ?_) (by simp only [List.getElem?_toArray, List.getElem?_cons_succ, List.getElem?_cons_zero]; rfl) (by kernel_rfl) (by kernel_rfl) (by kernel_rfl) (fun _ _ _ h => h) (Or.inl ⟨by rfl, ?_⟩) hHeld ?_
            rotate_left
            · intro wz hSw; (try dsimp only at hSw); go_simp; try with_reducible rfl
            (try simp only [Act.put, List.setIfInBounds_toArray, List.set_cons_zero, List.set_cons_succ])
            refine wpAnyH_take (i := 2) (v := ?_) (by simp only [List.getElem?_toArray, List.getElem?_cons_succ, List.getElem?_cons_zero]; rfl) (by kernel_rfl) (by kernel_rfl) (by kernel_rfl) (fun _ _ _ h => h) (Or.inl ⟨by rfl, ?_⟩) hHeld ?_
            rotate_left
            · intro wz hSw; (try dsimp only at hSw); go_simp; try with_reducible rfl
            (try simp only [Act.put, List.setIfInBounds_toArray, List.set_cons_zero, List.set_cons_succ])
            refine wpAnyH_take (i := 4) (v := ?_) (by simp only [List.getElem?_toArray, List.getElem?_cons_succ, List.getElem?_cons_zero]; rfl) (by kernel_rfl) (by kernel_rfl) (by kernel_rfl) (fun _ _ _ h => h) (Or.inl ⟨by rfl, ?_⟩) hHeld ?_
            rotate_left
            · intro wz hSw; (try dsimp only at hSw); go_simp; try with_reducible rfl
            (try simp only [Act.put, List.setIfInBounds_toArray, List.set_cons_zero, List.set_cons_succ])
            refine wpAnyH_take (i := 5) (v := ?_) (by simp only [List.getElem?_toArray, List.getElem?_cons_succ, List.getElem?_cons_zero]; rfl) (by kernel_rfl) (by kernel_rfl) (by kernel_rfl) (fun _ _ _ h => h) (Or.inl ⟨by rfl, ?_⟩) hHeld ?_
            rotate_left
            · intro wz hSw; (try dsimp only at hSw); go_simp; try with_reducible rfl
            (try simp only [Act.put, List.setIfInBounds_toArray, List.set_cons_zero, List.set_cons_succ])
            refine wpAnyH_take (i := 6) (v := ?_) (by simp only [List.getElem?_toArray, List.getElem?_cons_succ, List.getElem?_cons_zero]; rfl) (by kernel_rfl) (by kernel_rfl) (by kernel_rfl) (fun _ _ _ h => h) (Or.inl ⟨by rfl, ?_⟩) hHeld ?_
            rotate_left
            · intro wz hSw; (try dsimp only at hSw); go_simp; try with_reducible rfl
            (try simp only [Act.put, List.setIfInBounds_toArray, List.set_cons_zero, List.set_cons_succ])
            refine wpAnyH_ready (rs := [3]) (by kernel_rfl) (by simp) ?_
            refine AllReadyH.cons (by simp only [List.getElem?_toArray, List.getElem?_cons_succ, List.getElem?_cons_zero]; rfl) (fun KK hK => ?_) AllReadyH.nil
            go_simp; ((with_reducible refine Calls.mono C.out ?_); rintro e w5 ⟨rfl, d5, ap5⟩); go_wp2_with fail
            refine hK.out _ _ ?_ (fun hHeld => ?_)
            · exact HS0.out _ (ap5.K.blk HXd.out (HId.out.offD HXd.out (by decide) (by decide) (by decide)))
            clear hK KK
            (try simp only [Act.put, List.setIfInBounds_toArray, List.set_cons_zero, List.set_cons_succ])
            have hXa := ap5.K.blk HXd.out (HId.out.offD HXd.out (by decide) (by decide) (by decide))
            have HX5 := Lib.hid hXa
            obtain ⟨hr5, hq5⟩ := HId.out.rk_app ap5
            have hb5 := HId.out.b.trans (ap5.bel HId.out.jn)
            have F0 := rappend_any hr5 hq5 (by rw [HTn.out]; omega) HG.out hu (by omega) HVt.out (HOk.out.d.below hb5 (Nat.le_refl _)) (fun h0 b e => ⟨fun y => by have h1 := HDl.out h0 b e; have h2 := (hr5.foot_base b y).1; have h3 := HId.out.le; omega, fun y => by have h1 := HDl.out h0 b e; have h2 := HId.out.ql; omega⟩) (by have := HOk.out.d.2.1; have := HOk.out.dz; omega)
            clear hXa
            have F := Lib.hid F0
            have HAp := Lib.hid ap5
            clear F0 ap5 hr5 hq5 hb5 C
            refine wpAnyH_ready (rs := [7]) (by kernel_rfl) (by simp) ?_
            refine AllReadyH.cons (by simp only [List.getElem?_toArray, List.getElem?_cons_succ, List.getElem?_cons_zero]; rfl) (fun KK hK => ?_) AllReadyH.nil
            go_simp; ((with_reducible refine Calls.mono F.out ?_); rintro e w6 hres; obtain ⟨rfl, r6, rp6⟩ := hres.1 hp); go_wp2_with fail
            refine hK.out _ _ ?_ (fun hHeld => ?_)
            · exact HS0.out _ (rp6.K.blk HX5.out (by rintro (y | y); exact (HId.out.rk_app HAp.out).1.offB HX5.out (by decide) (by decide) (by decide) y; exact blk_apart HX5.out (HId.out.rk_app HAp.out).2 (by decide) y))
            clear hK KK
            (try simp only [Act.put, List.setIfInBounds_toArray, List.set_cons_zero, List.set_cons_succ])
            refine wpAnyH_done (by kernel_rfl) ?_ _
            simp only [lastQ]
            go_simp
            have HB6 := Lib.hid (HId.out.both HAp.out rp6)
            have HG6 : Hid (r6.g = gr) := Lib.hid (rp6.g.trans HGr.out)
            have HG5 : Hid (d5.g = gd) := Lib.hid (HAp.out.g.trans HGd.out)
            clear rp6 hHeld HAp HId F HXd
            have hp1 := pcsN_pos x.dm
            go_wp2
            go_meet
            exact ⟨j, q, G, used + pcsN x.dm, many + 1, rfl, rfl, rfl, d5, r6, _, _, cc + pcsN x.dm, HB6.out, HR.out.laid _ (by omega), by omega, HG5.out, HG6.out, by rw [laidTo_n]; exact HSn.out, HG.out, by omega, by omega⟩
          · have C0 := append_no (A := x.dA) (c := x.dc) HId.out.jn hu (n := x.dm) (by have := HOk.out.d.2.1; have := HOk.out.dz; omega) (by omega)
            have C := Lib.hid C0
            clear C0
            go_upto_region 16 with fail
            refine wp_region_last (S := fun w' => w'.cell? ⟨gx, 1, none⟩ = some (.slice x.dA x.dm x.dc)) 8 (by kernel_rfl) rfl (by kernel_rfl) ?_ ?_
            · exact HS0.out _ HXd.out
            intro hHeld
            simp only [List.take_succ_cons, List.take_zero]
            refine wpAnyH_take (i := 0) (v := ?_) (by simp only [List.getElem?_toArray, List.getElem?_cons_succ, List.getElem?_cons_zero]; rfl) (by kernel_rfl) (by kernel_rfl) (by kernel_rfl) (fun _ _ _ h => h) (Or.inl ⟨by rfl, ?_⟩) hHeld ?_
            rotate_left
            · intro wz hSw; (try dsimp only at hSw); go_simp; try with_reducible rfl
            (try simp only [Act.put, List.setIfInBounds_toArray, List.set_cons_zero, List.set_cons_succ])
            refine wpAnyH_take (i := 1) (v := ?_) (by simp only [List.getElem?_toArray, List.getElem?_cons_succ, List.getElem?_cons_zero]; rfl) (by kernel_rfl) (by kernel_rfl) (by kernel_rfl) (fun _ _ _ h => h) (Or.inl ⟨by rfl, ?_⟩) hHeld ?_
            rotate_left
            · intro wz hSw; (try dsimp only at hSw); go_simp; try with_reducible rfl
            (try simp only [Act.put, List.setIfInBounds_toArray, List.set_cons_zero, List.set_cons_succ])
            refine wpAnyH_take (i := 2) (v := ?_) (by simp only [List.getElem?_toArray, List.getElem?_cons_succ, List.getElem?_cons_zero]; rfl) (by kernel_rfl) (by kernel_rfl) (by kernel_rfl) (fun _ _ _ h => h) (Or.inl ⟨by rfl, ?_⟩) hHeld ?_
            rotate_left
            · intro wz hSw; (try dsimp only at hSw); go_simp; try with_reducible rfl
            (try simp only [Act.put, List.setIfInBounds_toArray, List.set_cons_zero, List.set_cons_succ])
            refine wpAnyH_take (i := 4) (v := ?_) (by simp only [List.getElem?_toArray, List.getElem?_cons_succ, List.getElem?_cons_zero]; rfl) (by kernel_rfl) (by kernel_rfl) (by kernel_rfl) (fun _ _ _ h => h) (Or.inl ⟨by rfl, ?_⟩) hHeld ?_
            rotate_left
            · intro wz hSw; (try dsimp only at hSw); go_simp; try with_reducible rfl
            (try simp only [Act.put, List.setIfInBounds_toArray, List.set_cons_zero, List.set_cons_succ])
            refine wpAnyH_take (i := 5) (v := ?_) (by simp only [List.getElem?_toArray, List.getElem?_cons_succ, List.getElem?_cons_zero]; rfl) (by kernel_rfl) (by kernel_rfl) (by kernel_rfl) (fun _ _ _ h => h) (Or.inl ⟨by rfl, ?_⟩) hHeld ?_
            rotate_left
            · intro wz hSw; (try dsimp only at hSw); go_simp; try with_reducible rfl
            (try simp only [Act.put, List.setIfInBounds_toArray, List.set_cons_zero, List.set_cons_succ])
            refine wpAnyH_take (i := 6) (v := ?_) (by simp only [List.getElem?_toArray, List.getElem?_cons_succ, List.getElem?_cons_zero]; rfl) (by kernel_rfl) (by kernel_rfl) (by kernel_rfl) (fun _ _ _ h => h) (Or.inl ⟨by rfl, ?_⟩) hHeld ?_
            rotate_left
            · intro wz hSw; (try dsimp only at hSw); go_simp; try with_reducible rfl
            (try simp only [Act.put, List.setIfInBounds_toArray, List.set_cons_zero, List.set_cons_succ])
            refine wpAnyH_ready (rs := [3]) (by kernel_rfl) (by simp) ?_
            refine AllReadyH.cons (by simp only [List.getElem?_toArray, List.getElem?_cons_succ, List.getElem?_cons_zero]; rfl) (fun KK hK => ?_) AllReadyH.nil
            go_simp; ((with_reducible refine Calls.mono C.out ?_); rintro e wa ⟨rfl, hwa⟩; replace hwa := hwa.symm; subst hwa); go_wp2_with fail
            refine hK.out _ _ ?_ (fun hHeld => ?_)
            · exact HS0.out _ HXd.out
            clear hK KK
            (try simp only [Act.put, List.setIfInBounds_toArray, List.set_cons_zero, List.set_cons_succ])
            have F0 := rappend_any HId.out.rk HId.out.qb (by rw [HTn.out]; omega) HG.out hu (by omega) HVt.out (HOk.out.d.below HId.out.b (Nat.le_refl _)) (fun h0 b e => ⟨fun y => by have h1 := HDl.out h0 b e; have h2 := (HId.out.rk.foot_base b y).1; have h3 := HId.out.le; omega, fun y => by have h1 := HDl.out h0 b e; have h2 := HId.out.ql; omega⟩) (by have := HOk.out.d.2.1; have := HOk.out.dz; omega)
            have F := Lib.hid F0
            clear F0 C
            refine wpAnyH_ready (rs := [7]) (by kernel_rfl) (by simp) ?_
            refine AllReadyH.cons (by simp only [List.getElem?_toArray, List.getElem?_cons_succ, List.getElem?_cons_zero]; rfl) (fun KK hK => ?_) AllReadyH.nil
            go_simp; ((with_reducible refine Calls.mono F.out ?_); rintro e w6 hres; obtain ⟨rfl, hb6⟩ := hres.2 (by omega)); go_wp2_with fail
            refine hK.out _ _ ?_ (fun hHeld => ?_)
            · exact HS0.out _ (HXd.out.below hb6 HXd.out.lt)
            clear hK KK
            (try simp only [Act.put, List.setIfInBounds_toArray, List.set_cons_zero, List.set_cons_succ])
            refine wpAnyH_done (by kernel_rfl) ?_ _
            simp only [lastQ]
            go_simp
            have HI6 := Lib.hid (HId.out.below hb6)
            clear hb6 hHeld HId F HXd
            go_wp2
            go_meet
            exact ⟨j, q, G, used, many, rfl, rfl, rfl, d, r, s, t, cc, HI6.out, HR.out, by omega, HGd.out, HGr.out, HSn.out, HG.out, hu, hm⟩
        · have F0 : Calls Try.prog 18 #[.pointer (some ⟨d.g, 0, none⟩)] w9 fun e w' => e = .returned (.tuple #[]) ∧ ∃ d', Ch w9 w' w.heap.size d d' (flushD s) := (dflush_any HI9.out.jn.dk).mono fun e w' ⟨a, b⟩ => ⟨a, Ch.of b⟩
          rw [HGd.out] at F0
          have F := Lib.hid F0
          clear F0
          go_upto_region 20 with ((with_reducible refine Calls.mono F.out ?_); rintro e w6 ⟨rfl, d6, hc6⟩)
          have hI6 := HI9.out.onD hc6
          have F0 := rflush_any hI6.rk
          rw [HGr.out] at F0
          have F2 := Lib.hid F0
          have HI6 := Lib.hid hI6
          have HG6 : Hid (d6.g = gd) := Lib.hid (hc6.g.trans HGd.out)
          clear F0 hI6 hc6 F HI9 HX xc0 xc1 xc2 xc3
          go_wp2_with ((with_reducible refine Calls.mono F2.out ?_); rintro e w7 ⟨rfl, r7, hc7⟩)
          go_meet
          exact ⟨j, q, G, used, many, rfl, rfl, rfl, d6, r7, _, _, cc + 1, HI6.out.onR hc7, HR.out.flush (by omega), by omega, HG6.out, hc7.g.trans HGr.out, by rw [flushD_n]; exact HSn.out, HG.out, hu, hm⟩
        · have hpr := HOk.out.p.below HI9.out.b (Nat.le_refl _)
          have hpl : 0 < x.pn → ∀ b, ablk x.pA = some b → b < w.heap.size := fun h0 b e => rd_lt HOk.out.p HOk.out.pl h0 b e
          have W0 := dpower_any HI9.out.jn.dk HV.out (c := x.pc) hpr HOk.out.pl (by have := HOk.out.pz; omega) (fun h0 b e y => by
            have h1 := hpl h0 b e
            have h2 := (HI9.out.jn.dk.foot_base b y).1
            omega)
          rw [HGd.out] at W0
          have W := Lib.hid W0
          clear W0 hpr
          go_upto_region 23 with ((with_reducible refine Calls.mono W.out ?_); rintro e w6 ⟨rfl, d6, hc6⟩)
          have hI6 := HI9.out.onD hc6
          have hx6 := hc6.K.blk HX.out (HI9.out.jn.dk.offB HX.out (by decide) (by decide))
          have xd3 := hx6.cell 3
          simp only [djc, List.getElem?_cons_zero, List.getElem?_cons_succ] at xd3
          have W0 := rpower_any hI6.rk HVt.out (c := x.pc) (HOk.out.p.below hI6.b (Nat.le_refl _)) HOk.out.pl (by have := HOk.out.pz; omega) (fun h0 b e y => by
            have h1 := hpl h0 b e
            have h2 := (hI6.rk.foot_base b y).1
            have h3 := hI6.le
            omega)
          rw [HGr.out] at W0
          have W2 := Lib.hid W0
          have HI6 := Lib.hid hI6
          have HG6 : Hid (d6.g = gd) := Lib.hid (hc6.g.trans HGd.out)
          clear W0 hI6 hc6 hx6 hpl W HI9 HX xc0 xc1 xc2 xc3
          go_wp2_with ((with_reducible refine Calls.mono W2.out ?_); rintro e w7 ⟨rfl, r7, hc7⟩)
          go_meet
          exact ⟨j, q, G, used, many, rfl, rfl, rfl, d6, r7, _, _, cc, HI6.out.onR hc7, HR.out.power _, by omega, HG6.out, hc7.g.trans HGr.out, by rw [(power_all s x.ps).1]; exact HSn.out, HG.out, hu, hm⟩
        · by_cases hN : 1 ≤ x.N ∧ x.N ≤ 4294967295
          · obtain ⟨g2, hg2⟩ : ∃ g2 : Nat, x.N = (g2 : Int) := ⟨x.N.toNat, by omega⟩
            rw [hg2] at xc2
            have hg2b : 1 ≤ g2 ∧ g2 ≤ 4294967295 := by omega
            have J0 := jnew_ok HI9.out.jn.dk (by rw [HSn.out]; omega) hg2b
            rw [HGd.out] at J0
            have J := Lib.hid J0
            have HG2b := Lib.hid hg2b
            clear J0 hg2 hg2b hN
            go_upto_region 26 with ((with_reducible refine Calls.mono J.out ?_); rintro e w6 ⟨rfl, hj6, hb6⟩)
            have hI6 := HI9.out.below hb6
            have xd2 := (hb6.cell (p := ⟨gx, 2, none⟩) HX.out.lt).trans xc2
            have Q0 := rjnew_ok hI6.rk (by rw [HTn.out]; omega) HG2b.out
            rw [HGr.out] at Q0
            have Q := Lib.hid Q0
            have HI6 := Lib.hid hI6
            have HJ6 := Lib.hid hj6
            have hgx6 : gx < w6.heap.size := Nat.lt_of_lt_of_le HX.out.lt hb6.size
            clear Q0 hI6 hj6 hb6 J
            clear HI9 HX xc0 xc1 xc2 xc3
            go_wp2_with ((with_reducible refine Calls.mono Q.out ?_); rintro e w7 ⟨rfl, hq7, hb7⟩; have xe2 := (hb7.cell (p := ⟨gx, 2, none⟩) hgx6).trans xd2)
            go_meet
            have hI7 := HI6.out.below hb7
            refine ⟨w9.heap.size, w6.heap.size, g2, 0, 0, rfl, rfl, rfl, d, r, s, t, cc, ⟨HJ6.out.below hb7 (Nat.le_refl _), hI7.rk, hI7.le, ?_, hI7.b, HI6.out.b.size⟩, HR.out, by omega, HGd.out, HGr.out, HSn.out, HG2b.out, by omega, by omega⟩
            rw [HGr.out]
            exact hq7
          · have J0 := jnew_bad HI9.out.jn.dk (by rw [HSn.out]; omega) (G := x.N) (by omega)
            rw [HGd.out] at J0
            have J := Lib.hid J0
            have Q0 := rjnew_bad HI9.out.rk (by rw [HTn.out]; omega) (G := x.N) (by omega)
            rw [HGr.out] at Q0
            have Q := Lib.hid Q0
            clear J0 Q0 hN
            go_wp2_with (first | ((with_reducible refine Calls.mono J.out ?_); rintro e w6 ⟨rfl, hw6⟩; replace hw6 := hw6.symm; subst hw6) | ((with_reducible refine Calls.mono Q.out ?_); rintro e w6 ⟨rfl, hw6⟩; replace hw6 := hw6.symm; subst hw6))
            go_meet
            exact ⟨j, q, G, used, many, rfl, rfl, rfl, d, r, s, t, cc, HI9.out, HR.out, by omega, HGd.out, HGr.out, HSn.out, HG.out, hu, hm⟩
        · have hS0 : ∀ W : World, Blk W gx 79 (djc x) → W.cell? ⟨gx, 1, none⟩ = some (.slice x.dA x.dm x.dc) ∧ W.cell? ⟨gx, 2, none⟩ = some (.int .i64 x.N) := fun W h => ⟨h.cell 1, h.cell 2⟩
          have HS0 := Lib.hid hS0
          have PK0 := fun W => pick_any x.N HOk.out.n (n := 3) (by omega) (by omega) W
          have hpk := pickN_lt x.N (n := 3) (by omega)
          obtain ⟨pk, hpk2⟩ : ∃ z, z = pickN x.N 3 := ⟨_, rfl⟩
          rw [← hpk2] at PK0 hpk
          push_cast at PK0
          have PK := Lib.hid PK0
          have hwp : IntKind.i64.wrap (1 + (pk : Int)) = 1 + (pk : Int) := IntWalk.i64_in _ (by omega)
          obtain ⟨mm, hmm⟩ : ∃ mm, mm = min x.dm 232 := ⟨_, rfl⟩
          have hmm1 : mm ≤ x.dm ∧ mm ≤ 232 := by omega
          have hmI : min (x.dm : Int) 232 = (mm : Int) := by omega
          have hdc := HOk.out.d.2.1
          have hto : ∀ W : World, (Instr.slice 33 (.slice x.dA x.dm x.dc) none (some (.int .i64 (mm : Int))) none).run Try.prog W = .ok (.slice (partA x.dA x.dc 0) mm x.dc) W := fun W => run_to (w := W) mm (by omega)
          have hda := HOk.out.d.part 0 mm (by omega) hmm1.1
          rw [Nat.sub_zero, Nat.sub_zero] at hda
          have HDa := Lib.hid hda
          obtain ⟨pb, hpb⟩ : ∃ pb, pb = pieceB G (1 + pk) 0 1 ((x.data.drop 0).take mm) := ⟨_, rfl⟩
          have hIw := HI9.out.below (below_drewN (Below.refl w9.heap.size w9) 1)
          have HIw : Hid (JI w w9.drew br d r s t j q G used many) := Lib.hid hIw
          have C0 := rpiece_any G (1 + pk) 0 1 (w := w9.drew) (HDa.out.below HIw.out.b (Nat.le_refl _)) hmm1.2 HG.out.2 (by omega) (by omega) (by omega)
          rw [← hpb] at C0
          push_cast at C0
          have C := Lib.hid C0
          have HPb := Lib.hid hpb
          have HXd : Hid (Blk w9.drew gx 79 (djc x)) := HX
          clear hS0 PK0 hpk2 hmm hda hpb hIw C0 HI9 HX xc0 xc1 xc2 xc3
          go_upto_region 34 with fail
          refine wp_region_last (S := fun w' => w'.cell? ⟨gx, 1, none⟩ = some (.slice x.dA x.dm x.dc) ∧ w'.cell? ⟨gx, 2, none⟩ = some (.int .i64 x.N)) 16 (by kernel_rfl) rfl (by kernel_rfl) ?_ ?_
          · exact HS0.out _ HXd.out
          intro hHeld
          simp only [List.take_succ_cons, List.take_zero]
          refine wpAnyH_take (i := 0) (v := ?_) (by simp only [List.getElem?_toArray, List.getElem?_cons_succ, List.getElem?_cons_zero]; rfl) (by kernel_rfl) (by kernel_rfl) (by kernel_rfl) (fun _ _ _ h => h) (Or.inl ⟨by rfl, ?_⟩) hHeld ?_
          rotate_left
          · intro wz hSw; (try dsimp only at hSw); go_simp; try with_reducible rfl
          (try simp only [Act.put, List.setIfInBounds_toArray, List.set_cons_zero, List.set_cons_succ])
          refine wpAnyH_take (i := 1) (v := ?_) (by simp only [List.getElem?_toArray, List.getElem?_cons_succ, List.getElem?_cons_zero]; rfl) (by kernel_rfl) (by kernel_rfl) (by kernel_rfl) (fun _ _ _ h => h) (Or.inl ⟨by rfl, ?_⟩) hHeld ?_
          rotate_left
          · intro wz hSw; (try dsimp only at hSw); go_simp; try with_reducible rfl
          (try simp only [Act.put, List.setIfInBounds_toArray, List.set_cons_zero, List.set_cons_succ])
          refine wpAnyH_take (i := 2) (v := ?_) (by simp only [List.getElem?_toArray, List.getElem?_cons_succ, List.getElem?_cons_zero]; rfl) (by kernel_rfl) (by kernel_rfl) (by kernel_rfl) (fun _ _ _ h => h) (Or.inl ⟨by rfl, ?_⟩) hHeld ?_
          rotate_left
          · intro wz hSw; (try dsimp only at hSw); go_simp; try with_reducible rfl
          (try simp only [Act.put, List.setIfInBounds_toArray, List.set_cons_zero, List.set_cons_succ])
          refine wpAnyH_take (i := 3) (v := ?_) (by simp only [List.getElem?_toArray, List.getElem?_cons_succ, List.getElem?_cons_zero]; rfl) (by kernel_rfl) (by kernel_rfl) (by kernel_rfl) (fun _ _ _ h => h) (Or.inl ⟨by rfl, ?_⟩) hHeld ?_
          rotate_left
          · intro wz hSw; (try dsimp only at hSw); go_simp; try with_reducible rfl
          (try simp only [Act.put, List.setIfInBounds_toArray, List.set_cons_zero, List.set_cons_succ])
          refine wpAnyH_take (i := 4) (v := ?_) (by simp only [List.getElem?_toArray, List.getElem?_cons_succ, List.getElem?_cons_zero]; rfl) (by kernel_rfl) (by kernel_rfl) (by kernel_rfl) (fun _ _ _ h => h) (Or.inl ⟨by rfl, ?_⟩) hHeld ?_
          rotate_left
          · intro wz hSw; (try dsimp only at hSw); go_simp; try with_reducible rfl
          (try simp only [Act.put, List.setIfInBounds_toArray, List.set_cons_zero, List.set_cons_succ])
          refine wpAnyH_take (i := 5) (v := ?_) (by simp only [List.getElem?_toArray, List.getElem?_cons_succ, List.getElem?_cons_zero]; rfl) (by kernel_rfl) (by kernel_rfl) (by kernel_rfl) (fun _ _ _ h => h) (Or.inl ⟨by rfl, ?_⟩) hHeld ?_
          rotate_left
          · intro wz hSw; (try dsimp only at hSw); go_simp; try with_reducible rfl
          (try simp only [Act.put, List.setIfInBounds_toArray, List.set_cons_zero, List.set_cons_succ])
          refine wpAnyH_take (i := 8) (v := ?_) (by simp only [List.getElem?_toArray, List.getElem?_cons_succ, List.getElem?_cons_zero]; rfl) (by kernel_rfl) (by kernel_rfl) (by kernel_rfl) (fun _ _ _ h => h) (Or.inl ⟨by rfl, ?_⟩) hHeld ?_
          rotate_left
          · intro wz hSw; (try dsimp only at hSw); go_simp; try with_reducible rfl
          (try simp only [Act.put, List.setIfInBounds_toArray, List.set_cons_zero, List.set_cons_succ])
          refine wpAnyH_take (i := 9) (v := ?_) (by simp only [List.getElem?_toArray, List.getElem?_cons_succ, List.getElem?_cons_zero]; rfl) (by kernel_rfl) (by kernel_rfl) (by kernel_rfl) (fun _ _ _ h => h) (Or.inl ⟨by rfl, ?_⟩) hHeld ?_
          rotate_left
          · intro wz hSw; (try dsimp only at hSw); go_simp; try with_reducible rfl
          (try simp only [Act.put, List.setIfInBounds_toArray, List.set_cons_zero, List.set_cons_succ])
          refine wpAnyH_take (i := 10) (v := ?_) (by simp only [List.getElem?_toArray, List.getElem?_cons_succ, List.getElem?_cons_zero]; rfl) (by kernel_rfl) (by kernel_rfl) (by kernel_rfl) (fun _ _ _ h => h) (Or.inl ⟨by rfl, ?_⟩) hHeld ?_
          rotate_left
          · intro wz hSw; (try dsimp only at hSw); go_simp; try with_reducible rfl
          (try simp only [Act.put, List.setIfInBounds_toArray, List.set_cons_zero, List.set_cons_succ])
          refine wpAnyH_take (i := 11) (v := ?_) (by simp only [List.getElem?_toArray, List.getElem?_cons_succ, List.getElem?_cons_zero]; rfl) (by kernel_rfl) (by kernel_rfl) (by kernel_rfl) (fun _ _ _ h => h) (Or.inl ⟨by rfl, ?_⟩) hHeld ?_
          rotate_left
          · intro wz hSw; (try dsimp only at hSw); go_simp; try with_reducible rfl
          (try simp only [Act.put, List.setIfInBounds_toArray, List.set_cons_zero, List.set_cons_succ])
          refine wpAnyH_take (i := 12) (v := ?_) (by simp only [List.getElem?_toArray, List.getElem?_cons_succ, List.getElem?_cons_zero]; rfl) (by kernel_rfl) (by kernel_rfl) (by kernel_rfl) (fun _ _ _ h => h) (Or.inl ⟨by rfl, ?_⟩) hHeld ?_
          rotate_left
          · intro wz hSw; (try dsimp only at hSw); go_simp; try with_reducible rfl
          (try simp only [Act.put, List.setIfInBounds_toArray, List.set_cons_zero, List.set_cons_succ])
          refine wpAnyH_take (i := 13) (v := ?_) (by simp only [List.getElem?_toArray, List.getElem?_cons_succ, List.getElem?_cons_zero]; rfl) (by kernel_rfl) (by kernel_rfl) (by kernel_rfl) (fun _ _ _ h => h) (Or.inl ⟨by rfl, ?_⟩) hHeld ?_
          rotate_left
          · intro wz hSw; (try dsimp only at hSw); go_simp; try with_reducible rfl
          (try simp only [Act.put, List.setIfInBounds_toArray, List.set_cons_zero, List.set_cons_succ])
          refine wpAnyH_take (i := 14) (v := ?_) (by simp only [List.getElem?_toArray, List.getElem?_cons_succ, List.getElem?_cons_zero]; rfl) (by kernel_rfl) (by kernel_rfl) (by kernel_rfl) (fun _ _ _ h => h) (Or.inl ⟨by rfl, ?_⟩) hHeld ?_
          rotate_left
          · intro wz hSw; (try dsimp only at hSw); go_simp; try with_reducible rfl
          (try simp only [Act.put, List.setIfInBounds_toArray, List.set_cons_zero, List.set_cons_succ])
          refine wpAnyH_ready (rs := [6]) (by kernel_rfl) (by simp) ?_
          refine AllReadyH.cons (by simp only [List.getElem?_toArray, List.getElem?_cons_succ, List.getElem?_cons_zero]; rfl) (fun KK hK => ?_) AllReadyH.nil
          go_simp; ((with_reducible refine Calls.mono (PK.out _) ?_); rintro e wa ⟨rfl, rfl⟩); go_wp2_with fail
          refine hK.out _ _ ?_ (fun hHeld => ?_)
          · exact HS0.out _ HXd.out
          clear hK KK
          (try simp only [Act.put, List.setIfInBounds_toArray, List.set_cons_zero, List.set_cons_succ])
          refine wpAnyH_take (i := 7) (v := ?_) (by simp only [List.getElem?_toArray, List.getElem?_cons_succ, List.getElem?_cons_zero]; rfl) (by kernel_rfl) (by kernel_rfl) (by kernel_rfl) (fun _ _ _ h => h) (Or.inl ⟨by rfl, ?_⟩) hHeld ?_
          rotate_left
          · intro wz hSw; (try dsimp only at hSw); go_simp; try with_reducible rfl
          (try simp only [Act.put, List.setIfInBounds_toArray, List.set_cons_zero, List.set_cons_succ])
          refine wpAnyH_ready (rs := [15]) (by kernel_rfl) (by simp) ?_
          refine AllReadyH.cons (by simp only [List.getElem?_toArray, List.getElem?_cons_succ, List.getElem?_cons_zero]; rfl) (fun KK hK => ?_) AllReadyH.nil
          go_simp; ((with_reducible refine Calls.mono C.out ?_); rintro e w5 ⟨A5, c5, rfl, ho5, hb5⟩); go_wp2_with fail
          refine hK.out _ _ ?_ (fun hHeld => ?_)
          · exact HS0.out _ (HXd.out.below hb5 HXd.out.lt)
          clear hK KK
          (try simp only [Act.put, List.setIfInBounds_toArray, List.set_cons_zero, List.set_cons_succ])
          have hI5 := HIw.out.below hb5
          obtain ⟨g5, rfl, hg5, -⟩ := ho5.head (by omega)
          have W0 := dwr_any hI5.jn.dk HV.out x.N (own_bs ho5) (fun y => by
            have h1 := (HIw.out.jn.dk.foot_base g5 y).2
            omega)
          rw [HGd.out] at W0
          have W := Lib.hid W0
          have HI5 := Lib.hid hI5
          have HX5 := Lib.hid (HXd.out.below hb5 HXd.out.lt)
          clear W0 hI5 ho5 hb5 hg5 hHeld C HXd HIw
          refine wpAnyH_done (by kernel_rfl) ?_ _
          simp only [lastQ]
          go_upto_region 35 with ((with_reducible refine Calls.mono W.out ?_); rintro e w6 ⟨z6, d6, rfl, hc6⟩)
          have hX6 := hc6.K.blk HX5.out (HI5.out.jn.dk.offB HX5.out (by decide) (by decide))
          have hI6 := HI5.out.onD hc6
          have hIw := hI6.below (below_drewN (Below.refl w6.heap.size w6) 1)
          have HIw : Hid (JI w w6.drew br d6 r (wrIf s x.N pb) t j q G used many) := Lib.hid hIw
          have HXd : Hid (Blk w6.drew gx 79 (djc x)) := Lib.hid hX6
          have HG6 : Hid (d6.g = gd) := Lib.hid (hc6.g.trans HGd.out)
          have C0 := rpiece_any G (1 + pk) 0 1 (w := w6.drew) (HDa.out.below HIw.out.b (Nat.le_refl _)) hmm1.2 HG.out.2 (by omega) (by omega) (by omega)
          rw [← HPb.out] at C0
          push_cast at C0
          have C := Lib.hid C0
          clear C0 hIw hI6 hX6 hc6 W HI5 HX5
          refine wp_region_last (S := fun w' => w'.cell? ⟨gx, 1, none⟩ = some (.slice x.dA x.dm x.dc) ∧ w'.cell? ⟨gx, 2, none⟩ = some (.int .i64 x.N)) 16 (by kernel_rfl) rfl (by kernel_rfl) ?_ ?_
          · exact HS0.out _ HXd.out
          intro hHeld
          simp only [List.take_succ_cons, List.take_zero]
          refine wpAnyH_take (i := 0) (v := ?_) (by simp only [List.getElem?_toArray, List.getElem?_cons_succ, List.getElem?_cons_zero]; rfl) (by kernel_rfl) (by kernel_rfl) (by kernel_rfl) (fun _ _ _ h => h) (Or.inl ⟨by rfl, ?_⟩) hHeld ?_
          rotate_left
          · intro wz hSw; (try dsimp only at hSw); go_simp; try with_reducible rfl
          (try simp only [Act.put, List.setIfInBounds_toArray, List.set_cons_zero, List.set_cons_succ])
          refine wpAnyH_take (i := 1) (v := ?_) (by simp only [List.getElem?_toArray, List.getElem?_cons_succ, List.getElem?_cons_zero]; rfl) (by kernel_rfl) (by kernel_rfl) (by kernel_rfl) (fun _ _ _ h => h) (Or.inl ⟨by rfl, ?_⟩) hHeld ?_
          rotate_left
          · intro wz hSw; (try dsimp only at hSw); go_simp; try with_reducible rfl
          (try simp only [Act.put, List.setIfInBounds_toArray, List.set_cons_zero, List.set_cons_succ])
          refine wpAnyH_take (i := 2) (v := ?_) (by simp only [List.getElem?_toArray, List.getElem?_cons_succ, List.getElem?_cons_zero]; rfl) (by kernel_rfl) (by kernel_rfl) (by kernel_rfl) (fun _ _ _ h => h) (Or.inl ⟨by rfl, ?_⟩) hHeld ?_
          rotate_left
          · intro wz hSw; (try dsimp only at hSw); go_simp; try with_reducible rfl
          (try simp only [Act.put, List.setIfInBounds_toArray, List.set_cons_zero, List.set_cons_succ])
          refine wpAnyH_take (i := 3) (v := ?_) (by simp only [List.getElem?_toArray, List.getElem?_cons_succ, List.getElem?_cons_zero]; rfl) (by kernel_rfl) (by kernel_rfl) (by kernel_rfl) (fun _ _ _ h => h) (Or.inl ⟨by rfl, ?_⟩) hHeld ?_
          rotate_left
          · intro wz hSw; (try dsimp only at hSw); go_simp; try with_reducible rfl
          (try simp only [Act.put, List.setIfInBounds_toArray, List.set_cons_zero, List.set_cons_succ])
          refine wpAnyH_take (i := 4) (v := ?_) (by simp only [List.getElem?_toArray, List.getElem?_cons_succ, List.getElem?_cons_zero]; rfl) (by kernel_rfl) (by kernel_rfl) (by kernel_rfl) (fun _ _ _ h => h) (Or.inl ⟨by rfl, ?_⟩) hHeld ?_
          rotate_left
          · intro wz hSw; (try dsimp only at hSw); go_simp; try with_reducible rfl
          (try simp only [Act.put, List.setIfInBounds_toArray, List.set_cons_zero, List.set_cons_succ])
          refine wpAnyH_take (i := 5) (v := ?_) (by simp only [List.getElem?_toArray, List.getElem?_cons_succ, List.getElem?_cons_zero]; rfl) (by kernel_rfl) (by kernel_rfl) (by kernel_rfl) (fun _ _ _ h => h) (Or.inl ⟨by rfl, ?_⟩) hHeld ?_
          rotate_left
          · intro wz hSw; (try dsimp only at hSw); go_simp; try with_reducible rfl
          (try simp only [Act.put, List.setIfInBounds_toArray, List.set_cons_zero, List.set_cons_succ])
          refine wpAnyH_take (i := 8) (v := ?_) (by simp only [List.getElem?_toArray, List.getElem?_cons_succ, List.getElem?_cons_zero]; rfl) (by kernel_rfl) (by kernel_rfl) (by kernel_rfl) (fun _ _ _ h => h) (Or.inl ⟨by rfl, ?_⟩) hHeld ?_
          rotate_left
          · intro wz hSw; (try dsimp only at hSw); go_simp; try with_reducible rfl
          (try simp only [Act.put, List.setIfInBounds_toArray, List.set_cons_zero, List.set_cons_succ])
          refine wpAnyH_take (i := 9) (v := ?_) (by simp only [List.getElem?_toArray, List.getElem?_cons_succ, List.getElem?_cons_zero]; rfl) (by kernel_rfl) (by kernel_rfl) (by kernel_rfl) (fun _ _ _ h => h) (Or.inl ⟨by rfl, ?_⟩) hHeld ?_
          rotate_left
          · intro wz hSw; (try dsimp only at hSw); go_simp; try with_reducible rfl
          (try simp only [Act.put, List.setIfInBounds_toArray, List.set_cons_zero, List.set_cons_succ])
          refine wpAnyH_take (i := 10) (v := ?_) (by simp only [List.getElem?_toArray, List.getElem?_cons_succ, List.getElem?_cons_zero]; rfl) (by kernel_rfl) (by kernel_rfl) (by kernel_rfl) (fun _ _ _ h => h) (Or.inl ⟨by rfl, ?_⟩) hHeld ?_
          rotate_left
          · intro wz hSw; (try dsimp only at hSw); go_simp; try with_reducible rfl
          (try simp only [Act.put, List.setIfInBounds_toArray, List.set_cons_zero, List.set_cons_succ])
          refine wpAnyH_take (i := 11) (v := ?_) (by simp only [List.getElem?_toArray, List.getElem?_cons_succ, List.getElem?_cons_zero]; rfl) (by kernel_rfl) (by kernel_rfl) (by kernel_rfl) (fun _ _ _ h => h) (Or.inl ⟨by rfl, ?_⟩) hHeld ?_
          rotate_left
          · intro wz hSw; (try dsimp only at hSw); go_simp; try with_reducible rfl
          (try simp only [Act.put, List.setIfInBounds_toArray, List.set_cons_zero, List.set_cons_succ])
          refine wpAnyH_take (i := 12) (v := ?_) (by simp only [List.getElem?_toArray, List.getElem?_cons_succ, List.getElem?_cons_zero]; rfl) (by kernel_rfl) (by kernel_rfl) (by kernel_rfl) (fun _ _ _ h => h) (Or.inl ⟨by rfl, ?_⟩) hHeld ?_
          rotate_left
          · intro wz hSw; (try dsimp only at hSw); go_simp; try with_reducible rfl
          (try simp only [Act.put, List.setIfInBounds_toArray, List.set_cons_zero, List.set_cons_succ])
          refine wpAnyH_take (i := 13) (v := ?_) (by simp only [List.getElem?_toArray, List.getElem?_cons_succ, List.getElem?_cons_zero]; rfl) (by kernel_rfl) (by kernel_rfl) (by kernel_rfl) (fun _ _ _ h => h) (Or.inl ⟨by rfl, ?_⟩) hHeld ?_
          rotate_left
          · intro wz hSw; (try dsimp only at hSw); go_simp; try with_reducible rfl
          (try simp only [Act.put, List.setIfInBounds_toArray, List.set_cons_zero, List.set_cons_succ])
          refine wpAnyH_take (i := 14) (v := ?_) (by simp only [List.getElem?_toArray, List.getElem?_cons_succ, List.getElem?_cons_zero]; rfl) (by kernel_rfl) (by kernel_rfl) (by kernel_rfl) (fun _ _ _ h => h) (Or.inl ⟨by rfl, ?_⟩) hHeld ?_
          rotate_left
          · intro wz hSw; (try dsimp only at hSw); go_simp; try with_reducible rfl
          (try simp only [Act.put, List.setIfInBounds_toArray, List.set_cons_zero, List.set_cons_succ])
          refine wpAnyH_ready (rs := [6]) (by kernel_rfl) (by simp) ?_
          refine AllReadyH.cons (by simp only [List.getElem?_toArray, List.getElem?_cons_succ, List.getElem?_cons_zero]; rfl) (fun KK hK => ?_) AllReadyH.nil
          go_simp; ((with_reducible refine Calls.mono (PK.out _) ?_); rintro e wa ⟨rfl, rfl⟩); go_wp2_with fail
          refine hK.out _ _ ?_ (fun hHeld => ?_)
          · exact HS0.out _ HXd.out
          clear hK KK
          (try simp only [Act.put, List.setIfInBounds_toArray, List.set_cons_zero, List.set_cons_succ])
          refine wpAnyH_take (i := 7) (v := ?_) (by simp only [List.getElem?_toArray, List.getElem?_cons_succ, List.getElem?_cons_zero]; rfl) (by kernel_rfl) (by kernel_rfl) (by kernel_rfl) (fun _ _ _ h => h) (Or.inl ⟨by rfl, ?_⟩) hHeld ?_
          rotate_left
          · intro wz hSw; (try dsimp only at hSw); go_simp; try with_reducible rfl
          (try simp only [Act.put, List.setIfInBounds_toArray, List.set_cons_zero, List.set_cons_succ])
          refine wpAnyH_ready (rs := [15]) (by kernel_rfl) (by simp) ?_
          refine AllReadyH.cons (by simp only [List.getElem?_toArray, List.getElem?_cons_succ, List.getElem?_cons_zero]; rfl) (fun KK hK => ?_) AllReadyH.nil
          go_simp; ((with_reducible refine Calls.mono C.out ?_); rintro e w5 ⟨A5, c5, rfl, ho5, hb5⟩); go_wp2_with fail
          refine hK.out _ _ ?_ (fun hHeld => ?_)
          · exact HS0.out _ (HXd.out.below hb5 HXd.out.lt)
          clear hK KK
          (try simp only [Act.put, List.setIfInBounds_toArray, List.set_cons_zero, List.set_cons_succ])
          have hI5 := HIw.out.below hb5
          have W0 := rwr_any hI5.rk HVt.out x.N (own_bs ho5) (fun b hb y => by
            have h1 := (HIw.out.rk.foot_base b y).2
            have h2 := (ho5.blk hb).1
            omega)
          rw [HGr.out] at W0
          have W2 := Lib.hid W0
          have HI5 := Lib.hid hI5
          clear W0 hI5 ho5 hb5 hHeld C HXd HIw
          refine wpAnyH_done (by kernel_rfl) ?_ _
          simp only [lastQ]
          go_wp2_with ((with_reducible refine Calls.mono W2.out ?_); rintro e w7 ⟨z7, r7, rfl, hc7⟩)
          go_meet
          exact ⟨j, q, G, used, many, rfl, rfl, rfl, d6, r7, _, _, cc + 1, HI5.out.onR hc7, HR.out.wrIf_ (by omega) _ _, by omega, HG6.out, hc7.g.trans HGr.out, by rw [wrIf_n]; exact HSn.out, HG.out, hu, hm⟩
        · have T0 : Calls Try.prog 21 #[.pointer (some ⟨d.g, 0, none⟩), .int .i64 x.N] w9 fun e w' => e = .returned (.int .i64 (rotZ s.n x.N)) ∧ ∃ d', Ch w9 w' w.heap.size d d' (sdoK s (d8of 3 x.N) 3) := d_rot HI9.out.jn.dk HV.out (d8of 3 x.N)
          rw [HGd.out] at T0
          have T := Lib.hid T0
          clear T0
          go_upto_region 38 with ((with_reducible refine Calls.mono T.out ?_); rintro e w6 ⟨rfl, d6, hc6⟩)
          have hI6 := HI9.out.onD hc6
          have hx6 := hc6.K.blk HX.out (HI9.out.jn.dk.offB HX.out (by decide) (by decide))
          have xd2 := hx6.cell 2
          simp only [djc, List.getElem?_cons_zero, List.getElem?_cons_succ] at xd2
          have T0 : Calls Try.prog 48 #[.pointer (some ⟨r.g, 0, none⟩), .int .i64 x.N] w6 fun e w' => e = .returned (.int .i64 (rotZ t.n x.N)) ∧ ∃ r', Rch w6 w' br r r' t.n (tdoK t (d8of 3 x.N) 3) := r_rot hI6.rk HVt.out (d8of 3 x.N)
          rw [HGr.out] at T0
          have T2 := Lib.hid T0
          have HI6 := Lib.hid hI6
          have HG6 : Hid (d6.g = gd) := Lib.hid (hc6.g.trans HGd.out)
          clear T0 hI6 hc6 hx6 T HI9 HX xc0 xc1 xc2 xc3
          go_wp2_with ((with_reducible refine Calls.mono T2.out ?_); rintro e w7 ⟨rfl, r7, hc7⟩)
          go_meet
          exact ⟨j, q, G, used, many, rfl, rfl, rfl, d6, r7, _, _, cc + 1, HI6.out.onR hc7, HR.out.do_ (by omega) (d8of 3 x.N), by omega, HG6.out, hc7.g.trans HGr.out, by rw [← sdo_rot, sdo_n]; exact HSn.out, HG.out, hu, hm⟩
      case rest =>
        clear HI9 HX xc0 xc1 xc2 xc3 HR HGd HGr HSn HG hu hm HV HVt HTn HOk
        clear hkl
        rename World => wx
        obtain ⟨j, q, G, used, many, rfl, rfl, rfl, d, r, s, t, cc, hI, hR, hcc, hgd, hgr, hsn, hG, hu, hm⟩ := hcut
        have HJS : Hid (∀ w', Below wx.heap.size wx w' → JS w w' br gd gr (i + 1) j q G used many) := Lib.hid fun w' hb => ⟨d, r, s, t, cc, hI.below hb, hR, hcc, hgd, hgr, hsn, hG, hu, hm⟩
        have HOp := Lib.hid (hR.opens (by rw [hsn]; omega) G)
        have O0 := open_ok hI.jn.dk (by rw [hsn]; omega) hG
        rw [hgd] at O0
        have O := Lib.hid O0
        have HI := Lib.hid hI
        have HTn : Hid (t.n = 60) := Lib.hid (by rw [hR.n_]; exact hsn)
        have HGr := Lib.hid hgr
        have HG := Lib.hid hG
        clear O0 hI hR hgd hgr hsn hG
        go_upto_region 40 with ((with_reducible refine Calls.mono O.out ?_); rintro e w6 ⟨A6, n6, c6, v6, rfl, ho6, hs6, hb6⟩)
        have hI6 := HI.out.below hb6
        have O0 := ropen_ok hI6.rk (by rw [HTn.out]; omega) HG.out
        rw [HGr.out, HOp.out] at O0
        have O2 := Lib.hid O0
        have HO6 := Lib.hid ho6
        have HS6 := Lib.hid hs6
        have HB6 := Lib.hid hb6
        clear O0 hI6 ho6 hs6 hb6 O
        go_upto_region 41 with ((with_reducible refine Calls.mono O2.out ?_); rintro e w7 ⟨A7, n7, c7, v7, rfl, ho7, hs7, hb7⟩)
        have ho6 := HO6.out.below hb7 (Nat.le_refl _)
        have hs6 := (HS6.out.below hb7 (Nat.le_refl _)).sl
        have hn6 : n6 ≤ 4611686018427387904 := by
          have h1 := all2_len hs6
          have h2 := ho6.len1
          have h3 := openS_len (secs s) G
          omega
        have S0 := same11_any ho6.rd hs6 ho6.len1 (c1 := c6) (c2 := c7) ho7.rd hs7.sl ho7.len1 hn6
        rw [decide_eq_true rfl] at S0
        have S := Lib.hid S0
        have HB7 := Lib.hid (HB6.out.trans (hb7.mono HB6.out.size))
        clear S0 ho6 hs6 ho7 hs7 hb7 hn6 O2 HO6 HS6 HB6
        go_upto_region 42 with ((with_reducible refine Calls.mono S.out ?_); rintro e w8 ⟨rfl, q8, hw8⟩)
        subst hw8
        have HB8 := Lib.hid (below_drewN HB7.out q8)
        clear HB7 S
        generalize w7.drewN q8 = w8 at *
        have hI8 := HI.out.below HB8.out
        have hq1 : ∀ n : Nat, Calls Try.prog 16 #[.pointer (some ⟨j, 0, none⟩)] (w8.drewN n) fun e w'' => e = .returned (.int .i64 ((48 - used : Nat) : Int)) ∧ ∃ m, w'' = w8.drewN m := fun n =>
          (room_any (hI8.jn.below (below_drewN (Below.refl _ _) n) (Nat.le_refl _)) hu).mono fun e w' ⟨a, b⟩ => ⟨a, n, b⟩
        have hq2 : ∀ n : Nat, Calls Try.prog 42 #[.pointer (some ⟨j, 0, none⟩)] (w8.drewN n) fun e w'' => e = .returned (.int .i64 many) ∧ ∃ m, w'' = w8.drewN m := fun n =>
          (many_any (hI8.jn.below (below_drewN (Below.refl _ _) n) (Nat.le_refl _))).mono fun e w' ⟨a, b⟩ => ⟨a, n, b⟩
        have HQ1 := Lib.hid hq1
        have HQ2 := Lib.hid hq2
        have bc2 := hI8.qb.cell 2
        have bc3 := hI8.qb.cell 3
        simp only [rjc, List.getElem?_cons_zero, List.getElem?_cons_succ] at bc2 bc3
        have hw1 : IntKind.i64.wrap (48 - (used : Int)) = ((48 - used : Nat) : Int) := by rw [IntWalk.i64_in _ (by omega)]; omega
        have hw2 : (48 : Int) - (used : Int) = ((48 - used : Nat) : Int) := by omega
        clear hq1 hq2 hI8 HI
        go_quiet (first | (go_at_call 16; exact HQ1.out _) | (go_at_call 42; exact HQ2.out _))
        go_wp2
        go_roundw
        case rel => exact ⟨i + 1, j, q, G, used, many, by omega, by norm_cast, rfl, rfl, rfl, HJS.out _ (below_drewN HB8.out _)⟩
        case measure => simp only [intOf]; omega
    · have HLv := Lib.hid jlives_any
      obtain rfl : i = n := by omega
      clear hlt
      go_wp2_with ((with_reducible refine Calls.mono (HLv.out _) ?_); rintro e w6 ⟨rfl, hb6⟩)
      go_ret
      exact ⟨rfl, HI.out.b.trans (hb6.mono HI.out.b.size)⟩
end Go.Proofs.Ytnclebnodkkgnaa
