/- The statement JournalForged: its walk. -/
import Derived.Test.YtnclebnodkkgnaaJrLaw
namespace Go.Proofs.Ytnclebnodkkgnaa
open Go.RowKit
set_option linter.unusedSimpArgs false
set_option linter.unusedVariables false

theorem nil_own (w : World) (base : Nat) : Own w base 33 1 none 0 0 [] := Own.nil_ _ _ _ _

set_option maxRecDepth 100000 in
set_option maxHeartbeats 8000000 in
theorem jforged_any {A : Option Addr} {n0 c lo : Nat} {l0 : List UInt8} {w : World} (hd : Bs w lo A n0 c l0) (ahead gen number : Int)
    (ha : -9223372036854775808 ≤ ahead ∧ ahead ≤ 9223372036854775807) (hg : -9223372036854775808 ≤ gen ∧ gen ≤ 9223372036854775807) (hm : -9223372036854775808 ≤ number ∧ number ≤ 9223372036854775807) :
    Calls Try.prog 4 #[.slice A n0 c, .int .i64 ahead, .int .i64 gen, .int .i64 number] w fun e w' => e = .returned (.bool true) ∧ Below w.heap.size w w' := by
  have D0 := dnew_ok 60 (by omega) w
  push_cast at D0
  have D := Lib.hid D0
  have HD := Lib.hid hd
  have hc1 := hd.2.1
  have hc2 := hd.2.2.1
  have PA := fun W : World => pick_any ahead ha (n := 256) (by omega) (by omega) W
  have PG := fun W : World => pick_any gen hg (n := 4) (by omega) (by omega) W
  have PN := fun W : World => pick_any number hm (n := 4) (by omega) (by omega) W
  have la := pickN_lt ahead (n := 256) (by omega)
  have lg := pickN_lt gen (n := 4) (by omega)
  have ln := pickN_lt number (n := 4) (by omega)
  obtain ⟨a, haa⟩ : ∃ a, a = pickN ahead 256 := ⟨_, rfl⟩
  obtain ⟨g, hgg⟩ : ∃ g, g = pickN gen 4 := ⟨_, rfl⟩
  obtain ⟨nu, hnn⟩ : ∃ nu, nu = pickN number 4 := ⟨_, rfl⟩
  rw [← haa] at PA la
  rw [← hgg] at PG lg
  rw [← hnn] at PN ln
  push_cast at PA PG PN
  have HPA := Lib.hid PA
  have HPG := Lib.hid PG
  have HPN := Lib.hid PN
  clear D0 hd ha hg hm haa hgg hnn PA PG PN
  by_cases hlong : (232 : Int) < (n0 : Int)
  all_goals
    go_enter Try.func4, Try.ntmps4
    go_upto_region 2 with ((with_reducible refine Calls.mono D.out ?_); rintro e w1 ⟨d0, rfl, hd1, hb1⟩)
    have W0 := wipe_any hd1 (by show 50 ≤ 60; omega) (fun k hk => by show 0 < _; omega)
    have Wp := Lib.hid W0
    have HD1 := Lib.hid hd1
    have HB1 := Lib.hid hb1
    clear W0 hd1 hb1 D
    go_upto_if 45 with ((with_reducible refine Calls.mono Wp.out ?_); rintro e w2 ⟨rfl, d2, hc2⟩)
    have hb2 : Below w.heap.size w w2 := HB1.out.trans (hc2.bel HD1.out)
    have HC2 := Lib.hid hc2
    have HB2 := Lib.hid hb2
    clear hb2 hc2 HB1 Wp
    go_cut [0] (fun s0 wx => (∃ (n : Nat) (l : List UInt8), n ≤ 232 ∧ n ≤ c ∧ s0 = .slice A n c ∧ Bs w lo A n c l) ∧ wx = w2)
  · go_wp2
    go_meet
    exact ⟨⟨232, l0.take 232, by omega, by omega, rfl, HD.out.take 232 (by omega)⟩, rfl⟩
  rotate_left
  · go_wp2
    go_meet
    exact ⟨⟨n0, l0, by omega, by omega, rfl, HD.out⟩, rfl⟩
  all_goals
    obtain ⟨⟨n, l, hn, hnc, rfl, hd⟩, rfl⟩ := hcut
    clear hlong HD
    have HD := Lib.hid hd
    clear hd
    go_wp2
    go_loopw [11, 12] (fun s11 s12 wr => ∃ (k : Nat) (Af : Option Addr) (cf : Nat) (lf : List UInt8), k ≤ 3 ∧ s12 = .int .i64 k ∧ s11 = .slice Af (256 * k) cf ∧ Own wr wc.heap.size 5 1 Af (256 * k) cf (bvs lf) ∧ Below wc.heap.size wc wr) (fun _ s12 _ => 3 - (intOf s12).toNat)
    case atStart => exact ⟨0, none, 0, [], by omega, rfl, rfl, Own.nil_ _ _ _ _, Below.refl _ _⟩
    case round =>
      obtain ⟨k, Af, cf, lf, hk, rfl, rfl, ho, hb⟩ := hrel
      have HO := Lib.hid ho
      have HB := Lib.hid hb
      clear ho hb
      by_cases hlt : k < 3
      · have hdr := HD.out.below (HB2.out.trans (HB.out.mono HB2.out.size)) (Nat.le_refl _)
        have P0 := rpiece_any (1 + g) (1 + nu) k 3 hdr hn (by omega) (by omega) (by omega) (by omega)
        push_cast at P0
        have P := Lib.hid P0
        have hzr := HB.out.size
        clear P0 hdr
        go_wp2_with (first
          | ((with_reducible refine Calls.mono (HPG.out _) ?_); rintro e wa ⟨rfl, rfl⟩)
          | ((with_reducible refine Calls.mono (HPN.out _) ?_); rintro e wa ⟨rfl, rfl⟩)
          | ((with_reducible refine Calls.mono P.out ?_); rintro e w5 ⟨A5, c5, rfl, ho5, hb5⟩; have HO5 := Lib.hid ho5; have HB5 := Lib.hid hb5; have hz5 := hb5.size; clear ho5 hb5)
          | (at_builtin; refine wpList_app rfl (.tmp 52) (.tmp 61) 33 rfl 5 1 Try.underlying33 info5 rfl (by omega) rfl (HO.out.below HB5.out (Nat.le_refl _)) rfl HO5.out.rd HO5.out.len (bvs_oneCell _) (by omega) (by omega) (by omega) ?_; intro A6 c6 w6 ho6 hg6 _))
        have hb6 : Below wc.heap.size wc w6 := below_own (HB.out.trans (HB5.out.mono hzr)) (HO.out.below HB5.out (Nat.le_refl _)) hg6 (Nat.le_refl _) (by omega)
        rw [← bvs_append] at ho6
        have HO6 := Lib.hid ho6
        have HB6 := Lib.hid hb6
        clear ho6 hb6 hg6 HO5 HB5 hz5 hzr HO HB
        go_roundw
        case rel => exact ⟨k + 1, A6, c6, _, by omega, by norm_cast, by rw [show 256 * (k + 1) = 256 * k + 256 by omega], by rw [show 256 * (k + 1) = 256 * k + 256 by omega]; exact HO6.out, HB6.out⟩
        case measure => simp only [intOf]; omega
      · obtain rfl : k = 3 := by omega
        have J0 := jnew_ok (HC2.out.below HB.out (Nat.le_refl _)).dk (by obtain ⟨h, -⟩ := wipe_all (s := newD 60) rfl (fun _ _ => rfl) (by show 50 ≤ 60; omega); rw [h]; show 50 ≤ 60; omega) (G := 1) (by omega)
        rw [HC2.out.g] at J0
        push_cast at J0
        have J := Lib.hid J0
        have HBw := Lib.hid (HB2.out.trans (HB.out.mono HB2.out.size))
        have HGd := Lib.hid HC2.out.g
        clear J0
        go_upto_region 15 with ((with_reducible refine Calls.mono J.out ?_); rintro e w4 ⟨rfl, hj, hb4⟩)
        obtain ⟨j, hjj⟩ : ∃ j, j = wr.heap.size := ⟨_, rfl⟩
        rw [← hjj] at hj
        rw [← hjj]
        have hI0 : LawI w w4 d0.g j 1 (usedOf []) ([] : List (List UInt8)).length d2 (wipeD (newD 60)) none 0 0 [] := ⟨hj, HGd.out, Own.nil_ _ _ _ _, (fun b e => by cases e), HBw.out.trans (hb4.mono HBw.out.size)⟩
        have hBf0 : Bs w4 0 Af 768 cf lf := ((own_bs HO.out).below hb4 (Nat.le_refl _)).weak (Nat.zero_le _)
        have hOf0 : Off w4 (lawF d2 j none) Af := fun b e => by
          obtain ⟨h1, h2⟩ := HO.out.blk e
          refine ⟨fun x => ?_, by have := hb4.size; omega⟩
          rcases x with x | x | x
          · have := (HC2.out.dk.foot_base b x).2; omega
          · omega
          · cases x
        have HI0 := Lib.hid hI0
        have HBf0 := Lib.hid hBf0
        have HOf0 := Lib.hid hOf0
        have HBs := Lib.hid HO.out.cap
        clear hI0 hBf0 hOf0 hj hjj hb4 J HO HB HGd HC2 HBw
        go_wp2
        go_loopw [13, 16] (fun s13 s16 wr => ∃ (k : Nat) (rs : List (List UInt8)) (d : Dw) (s : Dsk) (Aa : Option Addr) (ca : Nat) (va : List Value), k ≤ 4 ∧ s16 = .int .i64 k ∧ s13 = .slice Aa rs.length ca ∧
            LawI w wr d0.g j 1 (usedOf rs) rs.length d s Aa rs.length ca va ∧ Jrn s 60 1 (fun _ => z256) rs ∧ SlF wr (lawF d j Aa) va rs ∧ Bs wr 0 Af 768 cf lf ∧ Off wr (lawF d j Aa) Af) (fun _ s16 _ => 4 - (intOf s16).toNat)
        case atStart => exact ⟨0, [], d2, wipeD (newD 60), none, 0, [], by omega, rfl, rfl, HI0.out, jrn_wiped (by omega), .nil, HBf0.out, HOf0.out⟩
        case round =>
          clear HI0 HBf0 HOf0
          obtain ⟨k, rs, d, s, Aa, ca, va, hk, rfl, rfl, hI, hJ, hS, hBf, hOf⟩ := hrel
          have HI := Lib.hid hI
          have HJ := Lib.hid hJ
          have HS := Lib.hid hS
          have HBf := Lib.hid hBf
          have HOf := Lib.hid hOf
          have hU := hJ.used_
          have hL := len_used rs
          clear hI hJ hS hBf hOf
          by_cases hlt : k < 4
          · have hmk := make_by a (by omega)
            have hw1 : Below wr.heap.size wr (wr.alloc (.cells (bvs (List.replicate a 0)).toArray 5)) := (Below.refl _ _).alloc (Nat.le_refl _) _
            have ho1 : Own (wr.alloc (.cells (bvs (List.replicate a 0)).toArray 5)) wr.heap.size 5 1 (some ⟨wr.heap.size, 0, none⟩) a a (bvs (List.replicate a 0)) := Own.lit wr 5 _ (by omega) (by simp) (Nat.le_refl _) rfl
            have hf1 := HBf.out.below hw1 (Nat.le_refl _)
            have HW1 := Lib.hid hw1
            have HO1 := Lib.hid ho1
            have HF1 := Lib.hid hf1
            have hz1 := hw1.size
            clear hw1 ho1 hf1
            obtain ⟨z, hz⟩ : ∃ z, z = List.replicate a (0 : UInt8) := ⟨_, rfl⟩
            rw [← hz] at hmk HW1 HO1 HF1 hz1
            clear hz
            go_upto_region 20 with (first
              | ((with_reducible refine Calls.mono (HPA.out _) ?_); rintro e wa ⟨rfl, rfl⟩)
              | (at_builtin; refine wpList_app rfl (.tmp 81) (.tmp 82) 33 rfl 5 1 Try.underlying33 info5 rfl (by omega) rfl HO1.out rfl HF1.out.2.2.2 (by simpa using HF1.out.1) (bvs_oneCell _) (by omega) (by omega) hz1 ?_; intro A5 c5 w5 ho5 hg5 _))
            have hb5 := below_own HW1.out HO1.out hg5 (Nat.le_refl _) hz1
            rw [← bvs_append] at ho5
            obtain ⟨x, hx⟩ : ∃ x, x = z ++ lf := ⟨_, rfl⟩
            rw [← hx] at ho5
            have hI5 := HI.out.sub hb5
            have hof5 := off_new (F := lawF d j Aa) (fun b hb => (HI.out.f_lt b hb).2) ho5
            have HI5 := Lib.hid hI5
            have HO5 := Lib.hid ho5
            have HB5 := Lib.hid hb5
            have HOF5 := Lib.hid hof5
            have HS5 := Lib.hid (HS.out.step (Kept.of_below (F := lawF d j Aa) hb5 (Nat.le_refl _)) (F' := lawF d j Aa) (fun _ h => .inl h))
            have HBf5 := Lib.hid (HBf.out.below hb5 (Nat.le_refl _))
            have HOf5 := Lib.hid (HOf.out.step (F' := lawF d j Aa) hb5.size (fun _ h => .inl h))
            clear hI5 ho5 hb5 hof5 hg5 hx HW1 HO1 HF1 hz1 HI HS HBf HOf hmk
            by_cases hp : usedOf rs + pcsN (a + 768) ≤ 48
            · have C0 := jl_app HI5.out.jn HJ.out (by omega) (by omega) (own_bs HO5.out) (fun _ b e => ⟨fun y => (HOF5.out b e).1 (.inl y), fun y => (HOF5.out b e).1 (.inr (.inl y))⟩) (by omega) hp
              have C := Lib.hid C0
              clear C0
              go_upto_region 21 with ((with_reducible refine Calls.mono C.out ?_); rintro e w6 ⟨rfl, d6, s6, ap6, jr6⟩)
              obtain ⟨hI6, hK6, hF6⟩ := HI5.out.disk ap6
              have hb6a : Below w6.heap.size w6 (w6.alloc (.cells #[.slice A5 (a + 768) c5] 33)) := (Below.refl _ _).alloc (Nat.le_refl _) _
              have hI7 := hI6.sub hb6a
              have HI7 := Lib.hid hI7
              have hz7 := hI7.b.size
              have HJ6 := Lib.hid jr6
              have hS7 := (HS5.out.step hK6 hF6).snoc ((own_bs HO5.out).kept hK6 (fun _ b e => (HOF5.out b e).1) |>.weak (Nat.zero_le _)) (fun _ => HOF5.out.step hK6.size hF6)
              have hBf7 := HBf5.out.kept hK6 (fun _ b e => (HOf5.out b e).1)
              have hOf7 := HOf5.out.step hK6.size hF6
              have HS7 := Lib.hid (hS7.step (Kept.of_below (F := lawF d6 j Aa) hb6a (Nat.le_refl _)) (F' := lawF d6 j Aa) (fun _ h => .inl h))
              have HBf7 := Lib.hid (hBf7.below hb6a (Nat.le_refl _))
              have HOf7 := Lib.hid (hOf7.step (F' := lawF d6 j Aa) hb6a.size (fun _ h => .inl h))
              clear hI6 hK6 hF6 hI7 ap6 jr6 hS7 hBf7 hOf7 hb6a HI5 HS5 HBf5 HOf5 C HOF5 HB5 HJ HO5
              go_upto_region 17 with (at_builtin; refine wpList_app rfl (.tmp 88) (.tmp 90) 22 rfl 33 1 Try.underlying22 info33 rfl (by omega) rfl HI7.out.all rfl (rd_one (.slice A5 (a + 768) c5) 33 rfl) rfl (one_slice _ rfl) (by omega) (by omega) hz7 ?_; intro A8 c8 w8 ho8 hg8 hf8)
              obtain ⟨hI8, hK8, hF8⟩ := HI7.out.put ho8 hg8 hf8
              have hL1 : rs.length + 1 = (rs ++ [x]).length := by simp
              rw [hL1] at hI8
              have HL1 := Lib.hid hL1
              have HI8 := Lib.hid hI8
              have HS8 := Lib.hid (HS7.out.step hK8 hF8)
              have HBf8 := Lib.hid (HBf7.out.kept hK8 (fun _ b e => (HOf7.out b e).1))
              have HOf8 := Lib.hid (HOf7.out.step hK8.size hF8)
              clear hI8 hL1 hK8 hF8 ho8 hg8 hf8 HI7 HS7 HBf7 HOf7 hz7
              go_wp2
              go_roundw
              case rel => exact ⟨k + 1, rs ++ [x], d6, s6, A8, c8, _, by omega, by norm_cast, by rw [← HL1.out], HI8.out, HJ6.out, HS8.out, HBf8.out, HOf8.out⟩
              case measure => simp only [intOf]; omega
            · have C0 := append_no (A := A5) (c := c5) HI5.out.jn HJ.out.used_ (n := a + 768) (by omega) (by omega)
              have C := Lib.hid C0
              clear C0
              go_wp2_with ((with_reducible refine Calls.mono C.out ?_); rintro e wa ⟨rfl, rfl⟩)
              go_roundw
              case rel => exact ⟨k + 1, rs, d, s, Aa, ca, va, by omega, by norm_cast, rfl, HI5.out, HJ.out, HS5.out, HBf5.out, HOf5.out⟩
              case measure => simp only [intOf]; omega
          · have F0 := dflush_any HI.out.jn.dk
            rw [HI.out.g] at F0
            have F := Lib.hid F0
            obtain ⟨q1, q2, q3, q4⟩ := HJ.out.flush (by omega)
            have hsec : secs (flushD s) = secs s := funext fun k => q4 (2 + k)
            have ho1 : openS (secs (flushD s)) 1 = rs := by rw [hsec]; exact own_open HJ.out (fun _ => rfl)
            have ho2 : openS (secs (flushD s)) 2 = [] := by rw [hsec]; exact other_open HJ.out (fun _ => rfl) (by omega) (by omega) (by omega)
            have jr2 := jrn_begin (s := flushD s) 2 q1 q2 q3
            have hno : ∀ m dt, secs (flushD s) (usedOf ([] ++ [l])) ≠ pieceB 2 (([] ++ [l]).length + 1) 0 m dt := fun m dt => by rw [hsec]; exact other_gen HJ.out (fun _ => rfl) (by omega) (by omega) (by omega) _ _ _ _ _
            have HQ1 := Lib.hid q1
            have HO1 := Lib.hid ho1
            have HO2 := Lib.hid ho2
            have HJ2 := Lib.hid jr2
            have HNO := Lib.hid hno
            clear F0 q1 q2 q3 q4 hsec ho1 ho2 jr2 hno HPA HPG HPN HBf HOf HBs
            go_upto_region 23 with ((with_reducible refine Calls.mono F.out ?_); rintro e w5 ⟨rfl, d5, hd5, hg5, hk5, hf5⟩)
            obtain ⟨hI5, hK5, hF5⟩ := HI.out.ch (d' := d5) ⟨hd5, hg5.trans HI.out.g.symm, hk5, hf5⟩
            have hS5 := HS.out.step hK5 hF5
            have O0 := open_ok hI5.jn.dk (by rw [HQ1.out]; omega) (G := 1) (by omega)
            rw [HO1.out, hI5.g] at O0
            push_cast at O0
            have O := Lib.hid O0
            have HI5 := Lib.hid hI5
            have HS5 := Lib.hid hS5
            clear O0 hI5 hS5 hK5 hF5 hd5 hg5 hk5 hf5 HI HS F HJ HO1
            go_upto_region 24 with ((with_reducible refine Calls.mono O.out ?_); rintro e w6 ⟨A6, n6, c6, v6, rfl, ho6, hs6, hb6⟩)
            have hI6 := HI5.out.sub hb6
            have hS6 := HS5.out.sl.below hb6 (Nat.le_refl _)
            have S0 := same11_any ho6.rd hs6.sl ho6.len1 hI6.all.rd hS6 hI6.all.len1 (c1 := c6) (c2 := ca) (by have := all2_len hs6; have := ho6.len1; omega)
            rw [decide_eq_true rfl] at S0
            have S := Lib.hid S0
            have HI6 := Lib.hid hI6
            clear S0 hI6 hS6 ho6 hs6 hb6 O HI5 HS5
            go_upto_region 25 with ((with_reducible refine Calls.mono S.out ?_); rintro e w7 ⟨rfl, q7, hw7⟩)
            subst hw7
            have hI7 := HI6.out.sub (below_drewN (Below.refl w6.heap.size w6) q7)
            have O0 := open_ok hI7.jn.dk (by rw [HQ1.out]; omega) (G := 2) (by omega)
            rw [HO2.out, hI7.g] at O0
            push_cast at O0
            have O := Lib.hid O0
            have HI7 := Lib.hid hI7
            clear O0 hI7 HI6 S HO2
            go_upto_region 26 with ((with_reducible refine Calls.mono O.out ?_); rintro e w8 ⟨A8, n8, c8, v8, rfl, ho8, hs8, hb8⟩)
            cases hs8
            obtain rfl : n8 = 0 := by have := ho8.len1; simpa using this.symm
            have hI8 := HI7.out.sub hb8
            have J0 := jnew_ok hI8.jn.dk (by rw [HQ1.out]; omega) (G := 2) (by omega)
            rw [hI8.g] at J0
            push_cast at J0
            have J := Lib.hid J0
            have HI8 := Lib.hid hI8
            clear J0 hI8 HI7 O ho8 hb8
            go_upto_region 29 with (first
              | ((with_reducible refine Calls.mono J.out ?_); rintro e w9 ⟨rfl, hj9, hb9⟩; obtain ⟨j9, hjj9⟩ : ∃ j9, j9 = w8.heap.size := ⟨_, rfl⟩; rw [← hjj9] at hj9; rw [← hjj9]; have hB9 := HI8.out.b.trans (hb9.mono HI8.out.b.size); have hd9 := HD.out.below hB9 (Nat.le_refl _); have C0 := jl_app (rs := []) (l := l) hj9 HJ2.out (by omega) (by omega) hd9 (fun h0 b e => by
                  have h1 := bs_lt HD.out h0 b e
                  refine ⟨fun y => ?_, fun y => ?_⟩
                  · have := (hj9.base_le b (.inl y)).1; omega
                  · have := (hj9.base_le b (.inr y)).1; omega) (by omega) (by have : pcsN n = 1 := (by unfold pcsN; omega); rw [this]; decide); have C := Lib.hid C0; have HJ9 := Lib.hid hj9; have HB9 := Lib.hid hB9; clear C0 hj9 hB9 hd9 hb9 hjj9)
              | ((with_reducible refine Calls.mono C.out ?_); rintro e w10 ⟨rfl, d10, s10, ap10, jr10⟩))
            have hB10 := HB9.out.trans (ap10.bel HJ9.out)
            have ho10 : openS (secs s10) 2 = [] ++ [l] := jr10.opens (fun _ => recAt_first fun m dt _ => by
              have := jr10.rest (usedOf ([] ++ [l])) (Nat.le_refl _)
              show hasD s10 (2 + usedOf ([] ++ [l])) ≠ _
              rw [this]
              exact HNO.out m dt)
            have O0 := open_ok ap10.jn.dk (by rw [jr10.n_]; omega) (G := 2) (by omega)
            rw [ho10, ap10.g, HI8.out.g] at O0
            push_cast at O0
            have O := Lib.hid O0
            have HB10 := Lib.hid hB10
            clear O0 hB10 ap10 jr10 ho10 HJ9 HB9 HNO HJ2 HI8 C J HQ1
            go_upto_region 30 with ((with_reducible refine Calls.mono O.out ?_); rintro e w11 ⟨A11, n11, c11, v11, rfl, ho11, hs11, hb11⟩)
            cases hs11 with
            | cons hx hr => cases hr with
              | nil =>
                obtain ⟨Ax, nx, cx, rfl, hox⟩ := hx
                obtain ⟨g11, rfl, _, _, hc11, _⟩ := ho11.cell (k := 0) (by simp)
                obtain rfl : n11 = 1 := by have := ho11.len1; simpa using this.symm
                have hB11 := HB10.out.trans (hb11.mono HB10.out.size)
                have hd11 := HD.out.below hB11 (Nat.le_refl _)
                have S0 := same_any (own_bs hox) hd11
                rw [decide_eq_true rfl] at S0
                have S := Lib.hid S0
                have hc0 : w11.cell? ⟨g11, 0, none⟩ = some (.slice Ax nx cx) := hc11
                have HB11 := Lib.hid hB11
                have HLv := Lib.hid jlives_any
                clear S0 hox hc11 ho11 hb11 hB11 hd11 HB10 O
                go_upto_region 31 with ((with_reducible refine Calls.mono S.out ?_); rintro e w12 ⟨rfl, q12, hw12⟩; subst hw12; have hb12 := below_drewN HB11.out q12)
                have HB12 := Lib.hid hb12
                clear hb12 S HB11 hc0
                go_wp2_with ((with_reducible refine Calls.mono (HLv.out _) ?_); rintro e w13 ⟨rfl, hb13⟩)
                go_ret
                exact ⟨rfl, HB12.out.trans (hb13.mono HB12.out.size)⟩
end Go.Proofs.Ytnclebnodkkgnaa
