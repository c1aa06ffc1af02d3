/- The statement JournalRoom: its walk. -/
import Derived.Test.YtnclebnodkkgnaaJrLaw
import Derived.Test.YtnclebnodkkgnaaDkDirty
namespace Go.Proofs.Ytnclebnodkkgnaa
open Go.RowKit
set_option linter.unusedSimpArgs false
set_option linter.unusedVariables false

theorem count_mid (a b : Nat) : ∀ n, b ≤ n → a ≤ b → ((List.range n).filter fun k => decide (a ≤ k ∧ k < b)).length = b - a := by
  intro n hn hab
  induction n generalizing b with
  | zero => simp; omega
  | succ n ih =>
    rw [List.range_succ, List.filter_append, List.length_append]
    by_cases e : b = n + 1
    · subst e
      by_cases ea : a = n + 1
      · subst ea
        have h1 : ((List.range n).filter fun k => decide (n + 1 ≤ k ∧ k < n + 1)) = [] := by
          rw [List.filter_eq_nil_iff]; intro k hk; simp only [decide_eq_true_eq]; omega
        have h2 : ([n].filter fun k => decide (n + 1 ≤ k ∧ k < n + 1)) = [] := by simp
        rw [h1, h2]; simp
      · have h1 : ((List.range n).filter fun k => decide (a ≤ k ∧ k < n + 1)) = (List.range n).filter fun k => decide (a ≤ k ∧ k < n) := by
          refine List.filter_congr fun k hk => ?_
          have := List.mem_range.1 hk
          rw [decide_eq_decide]; omega
        have h2 : ([n].filter fun k => decide (a ≤ k ∧ k < n + 1)) = [n] := by simp; omega
        rw [h1, h2, ih n (Nat.le_refl _) (by omega)]; simp; omega
    · have h2 : ([n].filter fun k => decide (a ≤ k ∧ k < b)) = [] := by simp; omega
      rw [h2, ih b (by omega) hab]; simp
theorem Jrn.dirty {s : Dsk} {n G : Nat} {had : Nat → List UInt8} {rs : List (List UInt8)} (k : Jrn s n G had rs) (hn : 50 ≤ n) : (dirtyL s).length = usedOf rs := by
  have h1 : dirtyL s = (List.range s.n).filter fun k => decide (2 ≤ k ∧ k < 2 + usedOf rs) := by
    refine List.filter_congr fun i hi => ?_
    have := k.vers_ i
    by_cases e : 2 ≤ i ∧ i < 2 + usedOf rs
    · rw [if_pos e] at this
      rw [decide_eq_true e]
      cases hv : s.vers i with
      | nil => rw [hv] at this; simp at this
      | cons => rfl
    · rw [if_neg e] at this
      rw [decide_eq_false e, List.eq_nil_of_length_eq_zero this]
      rfl
  have := k.used_
  rw [h1, count_mid _ _ _ (by rw [k.n_]; omega) (by omega)]
  omega

set_option maxRecDepth 100000 in
set_option maxHeartbeats 8000000 in
theorem jroom_any {A : Option Addr} {n c k0 : Nat} {vs : List Value} {ls : List (List UInt8)} {w : World} (hr : Rd w k0 A vs) (hv : vs.length = n) (hs : Sl w 0 vs ls) (hn : n ≤ 4611686018427387904) (hm : ∀ x ∈ ls, x.length ≤ 4611686018427387) :
    Calls Try.prog 11 #[.slice A n c] w fun e w' => e = .returned (.bool true) ∧ Below w.heap.size w w' := by
  have D0 := dnew_ok 60 (by omega) w
  push_cast at D0
  have D := Lib.hid D0
  have HR := Lib.hid hr
  have HS := Lib.hid hs
  have HV := Lib.hid hv
  have HM := Lib.hid hm
  have HLL := Lib.hid ((all2_len hs).symm.trans hv)
  clear D0 hr hs hv hm
  go_enter Try.func11, Try.ntmps11
  go_upto_region 4 with ((with_reducible refine Calls.mono D.out ?_); rintro e w1 ⟨d, rfl, hd, hb⟩)
  have J0 := jnew_ok hd (by show 50 ≤ 60; omega) (G := 9) (by omega)
  push_cast at J0
  have J := Lib.hid J0
  have HB := Lib.hid hb
  clear J0 hd hb D
  go_upto_region 7 with ((with_reducible refine Calls.mono J.out ?_); rintro e w2 ⟨rfl, hj, hb2⟩)
  obtain ⟨j, hjj⟩ : ∃ j, j = w1.heap.size := ⟨_, rfl⟩
  rw [← hjj] at hj
  rw [← hjj]
  obtain ⟨gd, hgd⟩ : ∃ gd, gd = d.g := ⟨_, rfl⟩
  rw [← hgd]
  have hI0 : LawI w w2 gd j 9 (usedOf []) ([] : List (List UInt8)).length d (newD 60) none 0 0 [] :=
    ⟨hj, hgd.symm, Own.nil_ _ _ _ _, (fun b e => by cases e), HB.out.trans (hb2.mono HB.out.size)⟩
  have HI0 := Lib.hid hI0
  clear J HB hb2 hj hjj hgd hI0
  go_wp2
  go_loopw [7, 8, 9] (fun s7 s8 s9 wr => ∃ (i : Nat) (rs : List (List UInt8)) (d : Dw) (s : Dsk), i ≤ n ∧ s9 = .int .i64 i ∧ s7 = .int .i64 ((48 - usedOf rs : Nat) : Int) ∧ s8 = .int .i64 (rs.length : Int) ∧
      LawI w wr gd j 9 (usedOf rs) rs.length d s none 0 0 [] ∧ Jrn s 60 9 zer rs) (fun _ _ s9 _ => n - (intOf s9).toNat)
  case atStart => exact ⟨0, [], d, newD 60, by omega, rfl, rfl, rfl, HI0.out, jrn_new 9 60⟩
  case round =>
    clear HI0
    obtain ⟨i, rs, d1, s1, hi, rfl, rfl, rfl, hI, hJ⟩ := hrel
    have hU48 := hJ.used_
    have hL48 := len_used rs
    have HI := Lib.hid hI
    have HJ := Lib.hid hJ
    clear hI hJ
    obtain ⟨U, hUe⟩ : ∃ U, U = usedOf rs := ⟨_, rfl⟩
    obtain ⟨L, hLe⟩ : ∃ L, L = rs.length := ⟨_, rfl⟩
    obtain ⟨R, hRe⟩ : ∃ R, R = 48 - U := ⟨_, rfl⟩
    have hRU : R + U = 48 := by omega
    rw [← hUe, ← hRe, ← hLe]
    rw [← hUe] at hU48 hL48
    rw [← hLe] at hL48
    have HUe := Lib.hid hUe
    have HLe := Lib.hid hLe
    have HRe := Lib.hid hRe
    clear hUe hLe hRe
    by_cases hlt : i < n
    · obtain ⟨b1, o1, rfl, _, hb1, hc1⟩ := HR.out (by rw [HV.out]; omega)
      obtain ⟨Ax, m, cx, ex, hx⟩ := all2_get HS.out (by rw [HV.out]; exact hlt) (by rw [HLL.out]; exact hlt)
      have hcx := hc1 i (by rw [HV.out]; exact hlt)
      obtain ⟨x, hxx⟩ : ∃ x, x = ls[i]'(by rw [HLL.out]; exact hlt) := ⟨_, rfl⟩
      have hmx := HM.out x (by rw [hxx]; exact List.getElem_mem _)
      rw [← hxx] at hx
      have hxl := hx.1
      rw [ex] at hcx
      have hc0 : wr.cell? ⟨b1, o1 + i, none⟩ = some (.slice Ax m cx) := (HI.out.b.cell (p := ⟨b1, o1 + i, none⟩) hb1).trans hcx
      have hxw := hx.below HI.out.b (Nat.le_refl _)
      have hxa : 0 < m → ∀ b, ablk Ax = some b → ¬ d1.foot b ∧ b ≠ j := fun h0 b hb => by
        have h1 := bs_lt hx h0 b hb
        refine ⟨fun e => ?_, fun e => ?_⟩
        · have := (HI.out.jn.base_le _ (.inl e)).1; omega
        · have := (HI.out.jn.base_le _ (.inr e)).1; omega
      have HX := Lib.hid hxw
      have HXA := Lib.hid hxa
      have HXL := Lib.hid hxl
      have hm2 : m ≤ 4611686018427387 := by omega
      clear hx hxw hxa hxl hxx hmx hcx ex hc1
      obtain ⟨M, hMe⟩ : ∃ M, M = pcsN m := ⟨_, rfl⟩
      have hM1 : 1 ≤ M := by rw [hMe]; exact pcsN_pos m
      have e1 : IntKind.i64.wrap ((m : Int) + 231) = (m : Int) + 231 := IntWalk.i64_in _ (by omega)
      have e2 : Int.tdiv ((m : Int) + 231) 232 = (((m + 231) / 232 : Nat) : Int) := by rw [Int.tdiv_eq_ediv_of_nonneg (by omega)]; omega
      have hq : (m = 0 ∧ M = 1 ∧ (m + 231) / 232 = 0) ∨ (0 < m ∧ M = (m + 231) / 232) := by rw [hMe]; unfold pcsN; omega
      have HMe := Lib.hid hMe
      clear hMe
      obtain ⟨q, hqe⟩ : ∃ q, q = (m + 231) / 232 := ⟨_, rfl⟩
      rw [← hqe] at e2 hq
      have e3 : ((m : Int) + 231) / 232 = (q : Int) := by rw [hqe]; omega
      clear hqe
      go_upto_if 47 with fail
      go_cut [10] (fun s10 wx => s10 = .int .i64 (M : Int) ∧ wx = wr)
      case first =>
        rcases hq with ⟨rfl, rfl, rfl⟩ | ⟨h0, rfl⟩
        · go_wp2
          go_meet
          exact ⟨rfl, rfl⟩
        · have hM0 : ¬ (M : Int) = 0 := by omega
          go_wp2
          go_meet
          exact ⟨rfl, rfl⟩
      case rest =>
        obtain ⟨rfl, rfl⟩ := hcut
        clear hq e1 e2 e3
        by_cases hp : U + M ≤ 48
        · have C0 := jl_app HI.out.jn HJ.out (by omega) (by omega) HX.out HXA.out (by omega) (by rw [← HUe.out, ← HMe.out]; exact hp)
          have C := Lib.hid C0
          have hu2 : usedOf (rs ++ [x]) = U + M := by rw [used_snoc, HXL.out, ← HUe.out, ← HMe.out]
          have hl2 : (rs ++ [x]).length = L + 1 := by rw [List.length_append, ← HLe.out]; rfl
          have HU2 := Lib.hid hu2
          have HL2 := Lib.hid hl2
          have hMR : (M : Int) ≤ (R : Int) := by omega
          obtain ⟨R2, hR2⟩ : ∃ R2, R2 = R - M := ⟨_, rfl⟩
          have e4 : IntKind.i64.wrap ((R : Int) - (M : Int)) = (R2 : Int) := by rw [IntWalk.i64_in _ (by omega)]; omega
          have e5 : IntKind.i64.wrap (48 - (R2 : Int)) = ((U + M : Nat) : Int) := by rw [IntWalk.i64_in _ (by omega)]; omega
          have HR2 : Hid (48 - (U + M) = R2) := Lib.hid (by omega)
          have e4b : (R : Int) - (M : Int) = (R2 : Int) := by omega
          have e5b : 48 - (R2 : Int) = ((U + M : Nat) : Int) := by omega
          clear C0 hu2 hl2 HX HXA hR2
          go_upto_region 16 with ((with_reducible refine Calls.mono C.out ?_); rintro e w3 ⟨rfl, d3, s3, ap3, jr3⟩)
          obtain ⟨hI3, -, -⟩ := HI.out.disk ap3
          have R30 := room_any hI3.jn jr3.used_
          have M30 := many_any hI3.jn
          have Y30 := dirty_any hI3.jn.dk
          rw [jr3.dirty (by omega), HU2.out, hI3.g] at Y30
          rw [HU2.out, HR2.out] at R30
          rw [HL2.out] at M30
          push_cast at M30
          have R3 := Lib.hid R30
          have M3 := Lib.hid M30
          have Y3 := Lib.hid Y30
          have HI3 := Lib.hid hI3
          have HJ3 := Lib.hid jr3
          clear hI3 jr3 ap3 R30 M30 Y30 C HI HJ
          go_wp2_with (first
            | ((with_reducible refine Calls.mono R3.out ?_); rintro e wa ⟨rfl, rfl⟩)
            | ((with_reducible refine Calls.mono M3.out ?_); rintro e wa ⟨rfl, rfl⟩)
            | ((with_reducible refine Calls.mono Y3.out ?_); rintro e w5 ⟨A5, c5, rfl, ho5, hb5⟩; have HB5 := Lib.hid hb5; clear ho5 hb5))
          have hI5 := HI3.out.sub HB5.out
          have HI5 := Lib.hid hI5
          clear hI5 HB5 R3 M3 Y3 HI3
          go_roundw
          case rel => exact ⟨i + 1, rs ++ [x], d3, s3, by omega, by norm_cast, by rw [HU2.out, HR2.out], by rw [HL2.out]; norm_cast, HI5.out, HJ3.out⟩
          case measure => simp only [intOf]; omega
        · have C0 := append_no (A := Ax) (c := cx) HI.out.jn HJ.out.used_ (n := m) (by omega) (by rw [← HUe.out, ← HMe.out]; omega)
          have R0 := room_any HI.out.jn HJ.out.used_
          have M0 := many_any HI.out.jn
          have Y0 := dirty_any HI.out.jn.dk
          rw [HJ.out.dirty (by omega), ← HUe.out, HI.out.g] at Y0
          rw [← HUe.out, ← HRe.out] at R0
          rw [← HLe.out] at M0
          have C := Lib.hid C0
          have R3 := Lib.hid R0
          have M3 := Lib.hid M0
          have Y3 := Lib.hid Y0
          have hMR : ¬ (M : Int) ≤ (R : Int) := by omega
          have e5 : IntKind.i64.wrap (48 - (R : Int)) = (U : Int) := by rw [IntWalk.i64_in _ (by omega)]; omega
          have e5b : 48 - (R : Int) = (U : Int) := by omega
          clear C0 R0 M0 Y0 HX HXA
          go_wp2_with (first
            | ((with_reducible refine Calls.mono C.out ?_); rintro e wa ⟨rfl, rfl⟩)
            | ((with_reducible refine Calls.mono R3.out ?_); rintro e wa ⟨rfl, rfl⟩)
            | ((with_reducible refine Calls.mono M3.out ?_); rintro e wa ⟨rfl, rfl⟩)
            | ((with_reducible refine Calls.mono Y3.out ?_); rintro e w5 ⟨A5, c5, rfl, ho5, hb5⟩; have HB5 := Lib.hid hb5; clear ho5 hb5))
          have hI5 := HI.out.sub HB5.out
          have HI5 := Lib.hid hI5
          clear hI5 HB5 R3 M3 Y3 C HI
          go_roundw
          case rel => exact ⟨i + 1, rs, d1, s1, by omega, by norm_cast, by rw [HRe.out, HUe.out], by rw [HLe.out], HI5.out, HJ.out⟩
          case measure => simp only [intOf]; omega
    · have HLv := Lib.hid jlives_any
      go_wp2_with ((with_reducible refine Calls.mono (HLv.out _) ?_); rintro e w6 ⟨rfl, hb6⟩)
      go_ret
      exact ⟨rfl, HI.out.b.trans (hb6.mono HI.out.b.size)⟩
end Go.Proofs.Ytnclebnodkkgnaa
