/- The statement JournalPrefix: its walk. -/
import Derived.Test.YtnclebnodkkgnaaJrPre
import Derived.Test.YtnclebnodkkgnaaFactsJ
namespace Go.Proofs.Ytnclebnodkkgnaa
open Go.RowKit
set_option linter.unusedSimpArgs false
set_option linter.unusedVariables false

theorem size79 : (Try.prog.info? 79).map (·.size) = some 4 := by kernel_rfl
theorem zero79 (w : World) : (zeroValue 79).run Try.prog w = .ok (.agg #[.int .i64 0, .slice none 0 0, .int .i64 0, .slice none 0 0]) w := by kernel_rfl

set_option maxRecDepth 100000 in
set_option maxHeartbeats 8000000 in
theorem jprefix_any {A : Option Addr} {n c : Nat} {f : Nat → Dj} {w : World} (hd : Djs w A n f) (hn : n ≤ 4611686018427387904) :
    Calls Try.prog 13 #[.slice A n c] w fun e w' => e = .returned (.bool true) ∧ Below w.heap.size w w' := by
  have D0 := dnew_ok 60 (by omega) w
  push_cast at D0
  have D := Lib.hid D0
  have HDj := Lib.hid hd
  have hz79 := zero79
  clear D0 hd
  go_enter Try.func13, Try.ntmps13
  go_upto_region 4 with ((with_reducible refine Calls.mono D.out ?_); rintro e w1 ⟨d0, rfl, hd1, hb1⟩)
  have J0 := jnew_ok hd1 (by show 50 ≤ 60; omega) (G := 1) (by omega)
  push_cast at J0
  have J := Lib.hid J0
  have HB := Lib.hid hb1
  clear J0 hd1 hb1 D
  go_upto_region 6 with ((with_reducible refine Calls.mono J.out ?_); rintro e w2 ⟨rfl, hj, hb2⟩)
  obtain ⟨j0, hjj⟩ : ∃ j, j = w1.heap.size := ⟨_, rfl⟩
  rw [← hjj] at hj
  rw [← hjj]
  have W0 := wipe_any hj.dk (by show 50 ≤ 60; omega) (fun k hk => by show 0 < _; omega)
  have Wp := Lib.hid W0
  have HJ := Lib.hid hj
  have HB2 := Lib.hid (HB.out.trans (hb2.mono HB.out.size))
  clear W0 hj hjj J hb2
  go_upto_region 8 with ((with_reducible refine Calls.mono Wp.out ?_); rintro e w3 ⟨rfl, d3, hc3⟩)
  obtain ⟨gd, hgd⟩ : ∃ gd, gd = d0.g := ⟨_, rfl⟩
  rw [← hgd]
  have hI0 : LawI w w3 gd j0 1 (usedOf []) ([] : List (List UInt8)).length d3 (wipeD (newD 60)) none 0 0 [] :=
    ⟨HJ.out.disk hc3.dk hc3.g hc3.K hc3.foot, hc3.g.trans hgd.symm, Own.nil_ _ _ _ _, (fun b e => by cases e), HB2.out.trans (hc3.bel HJ.out.dk)⟩
  have HI0 := Lib.hid hI0
  clear hI0 hgd hc3 Wp HJ HB HB2
  go_wp2
  go_loopw [5, 6, 7, 8, 9] (fun s5 s6 s7 s8 s9 wr => ∃ (i g : Nat) (rs : List (List UInt8)) (fl : Nat) (d : Dw) (s : Dsk) (P : Nat → List UInt8) (Aa : Option Addr) (ca : Nat) (va : List Value) (j : Nat),
      i ≤ n ∧ i ≤ 1000 ∧ 1 ≤ g ∧ g ≤ i + 1 ∧ s9 = .int .i64 i ∧ s5 = .int .i64 g ∧ s6 = .pointer (some ⟨j, 0, none⟩) ∧ s7 = .slice Aa rs.length ca ∧ s8 = .int .i64 fl ∧
      LawI w wr gd j g (usedOf rs) rs.length d s Aa rs.length ca va ∧ Pre s g rs fl P i ∧ Sl w 0 va rs) (fun _ _ _ _ s9 _ => n - (intOf s9).toNat)
  case atStart => exact ⟨0, 1, [], 0, d3, wipeD (newD 60), _, none, 0, [], j0, by omega, by omega, by omega, by omega, rfl, rfl, rfl, rfl, rfl, HI0.out, pre_wiped, .nil⟩
  case round =>
    clear HI0
    obtain ⟨i, g, rs, fl, d, s, P, Aa, ca, va, j, hi, hi2, hg1, hg2, rfl, rfl, rfl, rfl, rfl, hI, hP, hS⟩ := hrel
    have HI := Lib.hid hI
    have HP := Lib.hid hP
    have HS := Lib.hid hS
    have hU := hP.used_
    have hL := len_used rs
    have hfl := hP.fl_
    clear hI hP hS
    by_cases hlt : i < n ∧ i < 1000
    · obtain ⟨hlt, hlt2⟩ := hlt
      have hlt2i : (i : Int) < 1000 := by omega
      obtain ⟨b, o, rfl, _, hbl, hrg⟩ := rd_elem (k := 4) HDj.out.rd (fun _ _ => rfl) (by omega) hlt
      have hok := HDj.out.ok i hlt
      obtain ⟨x, hx⟩ : ∃ x, x = f i := ⟨_, rfl⟩
      rw [← hx] at hrg hok
      have hrw := range_kept hrg (HI.out.b.block b hbl)
      have HRg := Lib.hid hrw
      have HOk := Lib.hid hok
      clear hrg hok hrw hx
      have HN : Hid (Blk (wr.alloc (.cells #[.int .i64 0, .slice none 0 0, .int .i64 0, .slice none 0 0] 79)) wr.heap.size 79 [.int .i64 0, .slice none 0 0, .int .i64 0, .slice none 0 0]) := Lib.hid (Blk.new wr _ [.int .i64 0, .slice none 0 0, .int .i64 0, .slice none 0 0])
      go_upto_region 14 with (first
        | (((with_reducible refine wpList_load_mid (op := ⟨some 54, _, _, _, _, _⟩) ?_ 79 (.tmp 53) ?_ b (o + i * 4) ?_ (djc x) _ ?_ Try.underlying79 ?_ ?_ ?_); rfl; rfl; (first | rfl | (go_simp; rfl)); exact HRg.out; rfl; (rw [size79]; rfl)))
        | (((with_reducible refine row_put (o := ⟨none, _, _, _, _, _⟩) ?_ ?_ 79 (.tmp 10) (.tmp 54) ?_ wr.heap.size ?_ (djc x) ?_ 79 [.int .i64 0, .slice none 0 0, .int .i64 0, .slice none 0 0] ?_ ?_ ?_ ?_ ?_); rfl; rfl; rfl; rfl; rfl; exact HN.out; (rw [size79]; rfl); rfl; (intro u hu; simp [djc] at hu; rcases hu with rfl | rfl | rfl | rfl <;> rfl); (intro w9 X9 g9))))
      have hb9 : Below wr.heap.size wr w9 := ((Below.refl _ _).alloc (Nat.le_refl _) _).grown g9 (by simp) (by intro k hk; cases hk; exact Nat.le_refl _)
      have hI9 := HI.out.sub hb9
      obtain ⟨gx, hgx⟩ : ∃ gx, gx = wr.heap.size := ⟨_, rfl⟩
      have hxF : ¬ d.foot gx ∧ gx ≠ j := by
        refine ⟨fun e => ?_, fun e => ?_⟩
        · have := (HI.out.jn.base_le _ (.inl e)).2; omega
        · have := (HI.out.jn.base_le _ (.inr e)).2; omega
      have hxA : some gx ≠ ablk Aa := fun e => by have := (HI.out.all.blk e.symm).2; omega
      have X9b := X9.out
      rw [← hgx] at X9b
      rw [← hgx]
      have HI9 := Lib.hid hI9
      have HX := Lib.hid X9b
      have HXF := Lib.hid hxF
      have HXA := Lib.hid hxA
      have P0 := pick_any x.K HOk.out.k (n := 4) (by omega) (by omega) w9
      have hkl := pickN_lt x.K (n := 4) (by omega)
      obtain ⟨kd, hkd⟩ : ∃ kd, kd = pickN x.K 4 := ⟨_, rfl⟩
      rw [← hkd] at P0 hkl
      push_cast at P0
      have HPk := Lib.hid P0
      have xc0 := X9b.cell 0
      have xc1 := X9b.cell 1
      have xc3 := X9b.cell 3
      simp only [djc, List.getElem?_cons_zero, List.getElem?_cons_succ] at xc0 xc1 xc3
      have HG2 : Hid (g + 1 ≤ 1001) := Lib.hid (by omega)
      have hgI : (g : Int) ≤ 1001 := by omega
      clear hI9 X9 X9b hxF hxA P0 hkd g9 hb9 HI HN HRg hgx hz79
      obtain rfl | rfl | rfl | rfl : kd = 0 ∨ kd = 1 ∨ kd = 2 ∨ kd = 3 := by omega
      · -- a record
        by_cases hp : usedOf rs + pcsN x.dm ≤ 48
        · have C0 := append_ok (n := x.dm) HI9.out.jn (by rw [HP.out.n_]; omega) (by omega) (by omega) (fun k hk => by have := HP.out.cnt k hk; omega) (HOk.out.d.below HI9.out.b (Nat.le_refl _)) (fun h0 b e => by
            have h1 := bs_lt HOk.out.d h0 b e
            refine ⟨fun y => ?_, fun y => ?_⟩
            · have := (HI9.out.jn.base_le b (.inl y)).1; omega
            · have := (HI9.out.jn.base_le b (.inr y)).1; omega) (by have := HOk.out.d.2.1; have := HOk.out.dz; omega) hp
          have C := Lib.hid C0
          obtain ⟨P2, hP2⟩ := HP.out.more (r := x.data) (by rw [HOk.out.d.1]; exact hp)
          rw [HOk.out.d.1] at hP2
          have hu2 : usedOf rs + pcsN x.dm = usedOf (rs ++ [x.data]) := by rw [used_snoc, HOk.out.d.1]
          have hl2 : rs.length + 1 = (rs ++ [x.data]).length := by simp
          rw [hl2] at hP2
          have HP2 := Lib.hid hP2
          have HU2 := Lib.hid hu2
          have HL2 := Lib.hid hl2
          clear C0 hP2 hu2 hl2 HP
          go_upto_region 17 with (first | ((with_reducible refine Calls.mono HPk.out ?_); rintro e wa ⟨rfl, rfl⟩) | ((with_reducible refine Calls.mono C.out ?_); rintro e w6 ⟨rfl, d6, ap6⟩))
          obtain ⟨hI6, hK6, hF6⟩ := HI9.out.disk ap6
          have hx6 := ap6.K.blk HX.out (fun e => by rcases e with e | e; exact HXF.out.1 e; exact HXF.out.2 e)
          have xd1 := hx6.cell 1
          simp only [djc, List.getElem?_cons_zero, List.getElem?_cons_succ] at xd1
          have hI7 := hI6.sub ((Below.refl _ _).alloc (Nat.le_refl _) (.cells #[.slice x.dA x.dm x.dc] 33))
          have HI7 := Lib.hid hI7
          have hz7 := hI7.b.size
          clear hI6 hK6 hF6 hI7 ap6 hx6 C HI9 HX HXF HXA xc0 xc1 xc3 HPk
          go_upto_region 38 with (at_builtin; refine wpList_app rfl (.tmp 65) (.tmp 68) 22 rfl 33 1 Try.underlying22 info33 rfl (by omega) rfl HI7.out.all rfl (rd_one (.slice x.dA x.dm x.dc) 33 rfl) rfl (one_slice _ rfl) (by omega) (by omega) hz7 ?_; intro A8 c8 w8 ho8 hg8 hf8)
          obtain ⟨hI8, -, -⟩ := HI7.out.put ho8 hg8 hf8
          rw [HU2.out, HL2.out] at hI8
          have HI8 := Lib.hid hI8
          have HS8 : Hid (Sl w 0 (va ++ [.slice x.dA x.dm x.dc]) (rs ++ [x.data])) := Lib.hid (all2_append (All2.cons ⟨_, _, _, rfl, HOk.out.d⟩ All2.nil) HS.out)
          clear hI8 ho8 hg8 hf8 HI7 hz7 xd1
          go_wp2
          go_roundw
          case rel => exact ⟨i + 1, g, rs ++ [x.data], fl, d6, _, P2, A8, c8, _, j, by omega, by omega, by omega, by omega, by norm_cast, rfl, rfl, by rw [HL2.out], rfl, HI8.out, HP2.out, HS8.out⟩
          case measure => simp only [intOf]; omega
        · have C0 := append_no (A := x.dA) (c := x.dc) HI9.out.jn hU (n := x.dm) (by have := HOk.out.d.2.1; have := HOk.out.dz; omega) (by omega)
          have C := Lib.hid C0
          clear C0
          go_wp2_with (first | ((with_reducible refine Calls.mono HPk.out ?_); rintro e wa ⟨rfl, rfl⟩) | ((with_reducible refine Calls.mono C.out ?_); rintro e wa ⟨rfl, rfl⟩))
          go_roundw
          case rel => exact ⟨i + 1, g, rs, fl, d, s, P, Aa, ca, va, j, by omega, by omega, by omega, by omega, by norm_cast, rfl, rfl, rfl, rfl, HI9.out, HP.out.cnt_up (by omega), HS.out⟩
          case measure => simp only [intOf]; omega
      · -- a flush
        have F0 := dflush_any HI9.out.jn.dk
        rw [HI9.out.g] at F0
        have F := Lib.hid F0
        clear F0
        go_upto_region 38 with (first | ((with_reducible refine Calls.mono HPk.out ?_); rintro e wa ⟨rfl, rfl⟩) | ((with_reducible refine Calls.mono F.out ?_); rintro e w6 ⟨rfl, d6, hd6, hg6, hk6, hf6⟩))
        obtain ⟨hI6, -, -⟩ := HI9.out.ch (d' := d6) ⟨hd6, hg6.trans HI9.out.g.symm, hk6, hf6⟩
        have HI6 := Lib.hid hI6
        clear hI6 hd6 hg6 hk6 hf6 HI9 F
        go_wp2
        go_roundw
        case rel => exact ⟨i + 1, g, rs, rs.length, d6, flushD s, P, Aa, ca, va, j, by omega, by omega, by omega, by omega, by norm_cast, rfl, rfl, rfl, rfl, HI6.out, HP.out.flush.cnt_up (by omega), HS.out⟩
        case measure => simp only [intOf]; omega
      · -- the power goes
        have hpr := HOk.out.p.below HI9.out.b (Nat.le_refl _)
        have W0 := dpower_any HI9.out.jn.dk (fun k hk => by have := HP.out.cnt k hk; omega) (c := x.pc) hpr HOk.out.pl (by have := HOk.out.pz; omega) (fun h0 b e => by
          have hlt : b < w.heap.size := by
            obtain ⟨b', o', e', _, h2, _⟩ := HOk.out.p (by rw [length_iz, HOk.out.pl]; exact h0)
            rw [e'] at e
            injection e with e
            rw [← e]
            exact h2
          intro y
          have := (HI9.out.jn.dk.foot_base b y).1
          omega)
        rw [HI9.out.g] at W0
        have W := Lib.hid W0
        obtain ⟨⟨jj, j1, j2, ho⟩, hP6⟩ := HP.out.power (by have := HG2.out; omega) x.ps
        have HOp := Lib.hid ho
        have HP6 := Lib.hid hP6
        clear W0 hpr ho hP6 HP
        go_upto_region 23 with (first | ((with_reducible refine Calls.mono HPk.out ?_); rintro e wa ⟨rfl, rfl⟩) | ((with_reducible refine Calls.mono W.out ?_); rintro e w6 ⟨rfl, d6, hc6⟩))
        obtain ⟨hI6, -, -⟩ := HI9.out.ch hc6
        have O0 := open_ok hI6.jn.dk (by rw [HP6.out.n_]; omega) (G := g) (by omega)
        rw [HOp.out, hI6.g] at O0
        have O := Lib.hid O0
        have HI6 := Lib.hid hI6
        clear O0 hI6 hc6 W HI9 HPk
        go_upto_region 24 with ((with_reducible refine Calls.mono O.out ?_); rintro e w7 ⟨A7, n7, c7, v7, rfl, ho7, hs7, hb7⟩)
        have hn7 : n7 = jj := by
          have h1 := all2_len hs7
          have h2 := ho7.len1
          rw [List.length_take] at h1
          omega
        subst hn7
        have hI7 := HI6.out.sub hb7
        have hta := hI7.all.take (k := n7) (by omega)
        rw [Nat.mul_one] at hta
        have hS7 : Sl w7 0 (va.take n7) (rs.take n7) := all2_take n7 (HS.out.below hI7.b (Nat.le_refl _))
        have S0 := same11_any ho7.rd hs7.sl ho7.len1 hta.rd hS7 hta.len1 (c1 := c7) (c2 := ca) (by omega)
        rw [decide_eq_true rfl] at S0
        have hca := hI7.all.cap
        have S := Lib.hid S0
        have HI7 := Lib.hid hI7
        have q1 : ¬ (n7 : Int) < (fl : Int) := by omega
        have q2 : ¬ (rs.length : Int) < (n7 : Int) := by omega
        clear S0 hS7 hta ho7 hs7 hb7 hI7 HI6 O
        go_upto_region 27 with ((with_reducible refine Calls.mono S.out ?_); rintro e w8 ⟨rfl, q8, hw8⟩)
        subst hw8
        have hI8 := HI7.out.sub (below_drewN (Below.refl w7.heap.size w7) q8)
        have J0 := jnew_ok hI8.jn.dk (by rw [HP6.out.n_]; omega) (G := g + 1) (by omega)
        rw [hI8.g] at J0
        push_cast at J0
        have J := Lib.hid J0
        have HI8 := Lib.hid hI8
        clear J0 hI8 HI7 S
        go_upto_region 38 with ((with_reducible refine Calls.mono J.out ?_); rintro e w9 ⟨rfl, hj9, hb9⟩)
        have hI9 : LawI w w9 gd (w7.drewN q8).heap.size (g + 1) (usedOf []) ([] : List (List UInt8)).length d6 (powerD s x.ps) none 0 0 [] := ⟨hj9, HI8.out.g, Own.nil_ _ _ _ _, (fun b e => by cases e), HI8.out.b.trans (hb9.mono HI8.out.b.size)⟩
        have HI9 := Lib.hid hI9
        clear hI9 hj9 hb9 J
        go_wp2
        go_roundw
        case rel => exact ⟨i + 1, g + 1, [], 0, d6, _, P, none, 0, [], _, by omega, by omega, by omega, by omega, by norm_cast, by norm_cast, rfl, rfl, rfl, HI9.out, HP6.out.cnt_up (by omega), .nil⟩
        case measure => simp only [intOf]; omega
      · -- a journal begins
        have J0 := jnew_ok HI9.out.jn.dk (by rw [HP.out.n_]; omega) (G := g + 1) (by omega)
        rw [HI9.out.g] at J0
        push_cast at J0
        have J := Lib.hid J0
        clear J0
        go_upto_region 38 with (first | ((with_reducible refine Calls.mono HPk.out ?_); rintro e wa ⟨rfl, rfl⟩) | ((with_reducible refine Calls.mono J.out ?_); rintro e w6 ⟨rfl, hj6, hb6⟩))
        have hI6 : LawI w w6 gd w9.heap.size (g + 1) (usedOf []) ([] : List (List UInt8)).length d s none 0 0 [] := ⟨hj6, HI9.out.g, Own.nil_ _ _ _ _, (fun b e => by cases e), HI9.out.b.trans (hb6.mono HI9.out.b.size)⟩
        have HI6 := Lib.hid hI6
        clear hI6 hj6 hb6 J
        go_wp2
        go_roundw
        case rel => exact ⟨i + 1, g + 1, [], 0, d, s, P, none, 0, [], _, by omega, by omega, by omega, by omega, by norm_cast, by norm_cast, rfl, rfl, rfl, HI6.out, HP.out.next.cnt_up (by omega), .nil⟩
        case measure => simp only [intOf]; omega
    · have HLv := Lib.hid jlives_any
      by_cases hn1 : i < n
      · have hn2 : ¬ (i : Int) < 1000 := by omega
        clear hlt
        go_wp2_with ((with_reducible refine Calls.mono (HLv.out _) ?_); rintro e w6 ⟨rfl, hb6⟩)
        go_ret
        exact ⟨rfl, HI.out.b.trans (hb6.mono HI.out.b.size)⟩
      · clear hlt
        go_wp2_with ((with_reducible refine Calls.mono (HLv.out _) ?_); rintro e w6 ⟨rfl, hb6⟩)
        go_ret
        exact ⟨rfl, HI.out.b.trans (hb6.mono HI.out.b.size)⟩
end Go.Proofs.Ytnclebnodkkgnaa
