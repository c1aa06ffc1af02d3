/- The statement JournalRots: its walk. -/
import Derived.Test.YtnclebnodkkgnaaJrL
import Derived.Test.YtnclebnodkkgnaaInts
namespace Go.Proofs.Ytnclebnodkkgnaa
open Go.RowKit
set_option linter.unusedSimpArgs false
set_option linter.unusedVariables false

theorem one_slice (v : Value) {A : Option Addr} {n c : Nat} (e : v = .slice A n c) : ∀ u ∈ [v], u.oneCell' = true := by
  intro u hu
  rw [List.mem_singleton] at hu
  rw [hu, e]
  rfl
structure RotI (w wr : World) (gd j G used many : Nat) (d : Dw) (s : Dsk) (Aa : Option Addr) (na ca : Nat) (va : List Value) (Ao : Option Addr) (no co : Nat) (ow : List Nat) : Prop where
  jn : Jn wr w.heap.size j d s G used many
  g : d.g = gd
  all : Own wr w.heap.size 33 1 Aa na ca va
  own : Own wr w.heap.size 3 1 Ao no co (iv ow)
  aa : ∀ b, ablk Aa = some b → ¬ d.foot b ∧ b ≠ j
  ao : ∀ b, ablk Ao = some b → ¬ d.foot b ∧ b ≠ j
  b : Below w.heap.size w wr
section
variable {w wr w' : World} {gd j G used many na ca no co used' many' : Nat} {d d' : Dw} {s s' : Dsk} {Aa Ao A' : Option Addr} {va : List Value} {ow : List Nat}
theorem Jn.grown {base c : Nat} {A : Option Addr} (h : Jn wr base j d s G used many) (hg : wr.grownBy w' (ablk A)) (ha : ∀ b, ablk A = some b → ¬ d.foot b ∧ b ≠ j) : Jn w' base j d s G used many := by
  have K : Kept (fun b => ablk A = some b) wr w' := Kept.of_grown hg (fun b e => e)
  exact ⟨h.dk.kept K (fun b hb e => (ha b e).1 hb), K.blk h.blk (fun e => (ha j e).2 rfl), h.away, h.jb⟩
theorem RotI.sub (h : RotI w wr gd j G used many d s Aa na ca va Ao no co ow) (hb : Below wr.heap.size wr w') : RotI w w' gd j G used many d s Aa na ca va Ao no co ow :=
  ⟨h.jn.below hb (Nat.le_refl _), h.g, h.all.below hb (Nat.le_refl _), h.own.below hb (Nat.le_refl _), h.aa, h.ao, h.b.trans (hb.mono h.b.size)⟩
theorem RotI.disk (h : RotI w wr gd j G used many d s Aa na ca va Ao no co ow) (k : Ap wr w' w.heap.size j d d' s' G used' many') : RotI w w' gd j G used' many' d' s' Aa na ca va Ao no co ow :=
  ⟨k.jn, k.g.trans h.g, own_kept h.all k.K (fun b e x => by obtain ⟨p, q⟩ := h.aa b e; rcases x with x | x; exact p x; exact q x), own_kept h.own k.K (fun b e x => by obtain ⟨p, q⟩ := h.ao b e; rcases x with x | x; exact p x; exact q x),
    away_step h.aa (fun b e => (h.all.blk e).2) k.foot, away_step h.ao (fun b e => (h.own.blk e).2) k.foot, h.b.trans (k.bel h.jn)⟩
theorem RotI.putOwn (h : RotI w wr gd j G used many d s Aa na ca va Ao no co ow) {n' c' : Nat} {ow' : List Nat} (ho : Own w' w.heap.size 3 1 A' n' c' (iv ow')) (hg : wr.grownBy w' (ablk Ao)) (hf : ablk A' = ablk Ao ∨ ablk A' = some wr.heap.size) : RotI w w' gd j G used many d s Aa na ca va A' n' c' ow' :=
  ⟨h.jn.grown (c := 0) hg h.ao, h.g, h.all.keep hg (own_types h.all h.own (by decide)), ho, h.aa, away_new h.ao h.jn hf, below_own h.b h.own hg (Nat.le_refl _) h.b.size⟩
theorem RotI.putAll (h : RotI w wr gd j G used many d s Aa na ca va Ao no co ow) {n' c' : Nat} {va' : List Value} (ho : Own w' w.heap.size 33 1 A' n' c' va') (hg : wr.grownBy w' (ablk Aa)) (hf : ablk A' = ablk Aa ∨ ablk A' = some wr.heap.size) : RotI w w' gd j G used many d s A' n' c' va' Ao no co ow :=
  ⟨h.jn.grown (c := 0) hg h.aa, h.g, ho, h.own.keep hg (own_types h.own h.all (by decide)), away_new h.aa h.jn hf, h.ao, below_own h.b h.all hg (Nat.le_refl _) h.b.size⟩
end

def zer : Nat → List UInt8 := fun _ => List.replicate 256 0

theorem flush_secs {s : Dsk} (hc : s.cut = false) (hv : ∀ k, s.n ≤ k → s.vers k = []) (k : Nat) : hasD (flushD s) k = hasD s k ∧ (flushD s).lies k = hasD s k ∧ (flushD s).vers k = [] := by
  by_cases hk : k < s.n
  · obtain ⟨h1, h2⟩ := flush_has hc hk
    refine ⟨h1, ?_, h2⟩
    rw [← h1, hasD_none (s := flushD s) (by rw [h2]; rfl)]
  · have h2 : (flushD s).vers k = [] := by unfold flushD doneOk doneS; rw [hc]; simp [clearD]
    have h3 : (flushD s).lies k = s.lies k := by unfold flushD doneOk doneS; rw [hc]; simp [clearD, hk]
    have h4 : hasD s k = s.lies k := hasD_none (by rw [hv k (by omega)]; rfl)
    refine ⟨?_, by rw [h3, h4], h2⟩
    rw [hasD_none (s := flushD s) (by rw [h2]; rfl), h3, h4]
theorem vers_nil {s : Dsk} {n G : Nat} {had : Nat → List UInt8} {rs : List (List UInt8)} (k : Jrn s n G had rs) (hn : 50 ≤ n) : ∀ i, s.n ≤ i → s.vers i = [] := fun i hi => by
  have := k.vers_ i
  rw [if_neg (by have := k.used_; have := k.n_; omega)] at this
  exact List.eq_nil_of_length_eq_zero this
theorem rots_open {s : Dsk} {n G : Nat} {had : Nat → List UInt8} {rs : List (List UInt8)} (k : Jrn s n G had rs) (hn : 50 ≤ n) {a b : Nat} (ha : a < usedOf rs) (hb : b < 2048) :
    openS (secs (layD (flushD s) (2 + a) (flip ((flushD s).lies (2 + a)) b))) G = rs.take ((ownersOf 0 rs).getD a 0) := by
  have hf := flush_secs k.cut_ (vers_nil k hn)
  have hl : ∀ x j, hasD (layD (flushD s) (2 + a) x) j = if j = 2 + a then x else hasD s j := fun x j => by
    rw [hasD_none (by show ((flushD s).vers j).length = 0; rw [(hf j).2.2]; rfl)]
    show (if j = 2 + a then x else (flushD s).lies j) = _
    rw [(hf j).2.1]
  refine openS_rot k.recs k.used_ ha hb ?_ (fun i hi => ?_)
  · show hasD _ _ = _
    rw [hl, if_pos rfl, (hf _).2.1]
  · show hasD _ _ = _
    rw [hl, if_neg (by omega)]

set_option maxRecDepth 100000 in
set_option maxHeartbeats 8000000 in
theorem jrots_any {A : Option Addr} {n c k0 : Nat} {vs : List Value} {ls : List (List UInt8)} {w : World} (hr : Rd w k0 A vs) (hv : vs.length = n) (hs : Sl w 0 vs ls) (hn : n ≤ 4611686018427387904) (hm : ∀ x ∈ ls, x.length ≤ 4611686018427387904)
    (which bit : Int) (hw : -9223372036854775808 ≤ which ∧ which ≤ 9223372036854775807) (hbt : -9223372036854775808 ≤ bit ∧ bit ≤ 9223372036854775807) :
    Calls Try.prog 3 #[.slice A n c, .int .i64 which, .int .i64 bit] w fun e w' => e = .returned (.bool true) ∧ Below w.heap.size w w' := by
  have D0 := dnew_ok 60 (by omega) w
  push_cast at D0
  have D := Lib.hid D0
  have HR := Lib.hid hr
  have HS := Lib.hid hs
  have HV := Lib.hid hv
  have HM := Lib.hid hm
  have HW := Lib.hid hw
  have HBT := Lib.hid hbt
  have HLL := Lib.hid ((all2_len hs).symm.trans hv)
  clear D0 hr hs hv hm hw hbt
  go_enter Try.func3, Try.ntmps3
  go_upto_region 4 with ((with_reducible refine Calls.mono D.out ?_); rintro e w1 ⟨d, rfl, hd, hb⟩)
  have J0 := jnew_ok hd (by show 50 ≤ 60; omega) (G := 3) (by omega)
  push_cast at J0
  have J := Lib.hid J0
  have HB := Lib.hid hb
  clear J0 hd hb D
  go_upto_region 7 with ((with_reducible refine Calls.mono J.out ?_); rintro e w2 ⟨rfl, hj, hb2⟩)
  obtain ⟨j, hjj⟩ : ∃ j, j = w1.heap.size := ⟨_, rfl⟩
  rw [← hjj] at hj
  rw [← hjj]
  obtain ⟨gd, hgd⟩ : ∃ gd, gd = d.g := ⟨_, rfl⟩
  rw [← hgd]
  have hI0 : RotI w w2 gd j 3 (usedOf []) ([] : List (List UInt8)).length d (newD 60) none 0 0 [] none 0 0 [] :=
    ⟨hj, hgd.symm, Own.nil_ _ _ _ _, Own.nil_ _ _ _ _, (fun b e => by cases e), (fun b e => by cases e), HB.out.trans (hb2.mono HB.out.size)⟩
  have HI0 := Lib.hid hI0
  clear J HB hb2 hj hjj hgd hI0
  go_wp2
  go_loopw [11, 12, 13] (fun s11 s12 s13 wr => ∃ (i : Nat) (rs : List (List UInt8)) (d : Dw) (s : Dsk) (Aa : Option Addr) (ca : Nat) (va : List Value) (Ao : Option Addr) (co : Nat), i ≤ n ∧ s13 = .int .i64 i ∧ s11 = .slice Aa rs.length ca ∧ s12 = .slice Ao (usedOf rs) co ∧
      RotI w wr gd j 3 (usedOf rs) rs.length d s Aa rs.length ca va Ao (usedOf rs) co (ownersOf 0 rs) ∧ Jrn s 60 3 zer rs ∧ Sl w 0 va rs) (fun _ _ s13 _ => n - (intOf s13).toNat)
  case atStart => exact ⟨0, [], d, newD 60, none, 0, [], none, 0, by omega, rfl, rfl, rfl, HI0.out, jrn_new 3 60, .nil⟩
  case round =>
    clear HI0
    obtain ⟨i, rs, d1, s1, Aa, ca, va, Ao, co, hi, rfl, rfl, rfl, hI, hJ, hSl⟩ := hrel
    have hU48 := hJ.used_
    have hL48 := len_used rs
    have HI := Lib.hid hI
    have HJ := Lib.hid hJ
    have HSl := Lib.hid hSl
    clear hI hJ hSl
    by_cases hlt : i < n
    · obtain ⟨b1, o1, rfl, _, hb1, hc1⟩ := HR.out (by rw [HV.out]; omega)
      obtain ⟨Ax, m, cx, ex, hx⟩ := all2_get HS.out (by rw [HV.out]; exact hlt) (by rw [HLL.out]; exact hlt)
      have hcx := hc1 i (by rw [HV.out]; exact hlt)
      obtain ⟨x, hxx⟩ : ∃ x, x = ls[i]'(by rw [HLL.out]; exact hlt) := ⟨_, rfl⟩
      have hmx := HM.out x (by rw [hxx]; exact List.getElem_mem _)
      rw [← hxx] at hx
      have hxl := hx.1
      rw [ex] at hcx
      have hbel := HI.out.b
      have hc0 : wr.cell? ⟨b1, o1 + i, none⟩ = some (.slice Ax m cx) := (hbel.cell (p := ⟨b1, o1 + i, none⟩) hb1).trans hcx
      have hxw := hx.below hbel (Nat.le_refl _)
      have hxa : 0 < m → ∀ b, ablk Ax = some b → ¬ d1.foot b ∧ b ≠ j := fun h0 b hb => by
        obtain ⟨b', o', rfl, _, hlt'⟩ := hx.at_ h0
        injection hb with hb
        subst hb
        refine ⟨fun e => ?_, fun e => ?_⟩
        · exact absurd hlt' (Nat.not_lt.2 (HI.out.jn.base_le _ (.inl e)).1)
        · exact absurd hlt' (Nat.not_lt.2 (HI.out.jn.base_le _ (.inr e)).1)
      have R1 := Lib.hid (room_any HI.out.jn HJ.out.used_)
      have HX := Lib.hid hx
      have HCX := Lib.hid hcx
      have HXL := Lib.hid hxl
      have HXX := Lib.hid hxx
      by_cases hp : usedOf rs + pcsN m ≤ 48
      · have C0 := jl_app HI.out.jn HJ.out (by omega) (by omega) hxw hxa (by omega) hp
        have C := Lib.hid C0
        have hu2 : usedOf (rs ++ [x]) = usedOf rs + pcsN m := by rw [used_snoc, hxl]
        have HU2 := Lib.hid hu2
        have how2 := owners_snoc (rs := rs) 0 x
        rw [hxl, Nat.zero_add] at how2
        have HOW := Lib.hid how2
        obtain ⟨ow, hoe⟩ : ∃ ow, ow = ownersOf 0 rs := ⟨_, rfl⟩
        have hI2 := HI.out
        rw [← hoe] at hI2
        rw [← hoe] at HOW
        obtain ⟨U, hUe⟩ : ∃ U, U = usedOf rs := ⟨_, rfl⟩
        rw [← hUe] at R1 hU48 hp HU2 hL48 hI2
        rw [← hUe]
        obtain ⟨M, hMe⟩ : ∃ M, M = pcsN m := ⟨_, rfl⟩
        rw [← hMe] at hp HU2 HOW
        obtain ⟨R, hRe⟩ : ∃ R, R = 48 - U := ⟨_, rfl⟩
        rw [← hRe] at R1
        have HRe := Lib.hid hRe
        have HI2 := Lib.hid hI2
        have HUe := Lib.hid hUe
        have HOe := Lib.hid hoe
        clear C0 hu2 how2 hx hxl hxx hxw hxa hmx hcx hbel hc1 ex hI2 hUe hMe hoe HI HJ hRe
        obtain ⟨L, hLe⟩ : ∃ L, L = rs.length := ⟨_, rfl⟩
        rw [← hLe] at HOW HI2 hL48
        rw [← hLe]
        have HLe := Lib.hid hLe
        clear hLe
        go_upto_region 13 with ((with_reducible refine Calls.mono R1.out ?_); rintro e wa ⟨rfl, rfl⟩)
        go_upto_region 14 with ((with_reducible refine Calls.mono C.out ?_); rintro e w3 ⟨rfl, d3, s3, ap3, jr3⟩)
        have hI3 := HI2.out.disk ap3
        have R30 := room_any hI3.jn jr3.used_
        rw [HU2.out] at R30
        obtain ⟨R', hRe'⟩ : ∃ R', R' = 48 - (U + M) := ⟨_, rfl⟩
        rw [← hRe'] at R30
        have hRR : R = R' + M := by have := HRe.out; omega
        have hR48 : R ≤ 48 := by have := HRe.out; omega
        have R3 := Lib.hid R30
        have HI3 := Lib.hid hI3
        have HJ3 := Lib.hid jr3
        clear hI3 jr3 ap3 R30 C HI2 R1 HRe hRe'
        go_upto_region 15 with ((with_reducible refine Calls.mono R3.out ?_); rintro e wa ⟨rfl, rfl⟩)
        subst hRR
        go_loopw [12, 15] (fun s12 s15 wr => ∃ (t : Nat) (Ao : Option Addr) (co : Nat), t ≤ M ∧ s15 = .int .i64 ((R' + t : Nat) : Int) ∧ s12 = .slice Ao (U + t) co ∧
            RotI w wr gd j 3 (usedOf (rs ++ [x])) (rs ++ [x]).length d3 s3 Aa L ca va Ao (U + t) co (ow ++ List.replicate t L)) (fun _ s15 _ => R' + M - (intOf s15).toNat)
        case atStart => exact ⟨0, Ao, co, by omega, rfl, rfl, by simpa using HI3.out⟩
        case round =>
          clear HI3
          obtain ⟨t, Ao, co, ht, rfl, rfl, hI⟩ := hrel
          have HI := Lib.hid hI
          clear hI
          by_cases htm : t < M
          · have hlt2 : ((R' + t : Nat) : Int) < ((R' + M : Nat) : Int) := by omega
            have hIa := HI.out.sub ((Below.refl _ _).alloc (Nat.le_refl _) (.cells #[.int .i64 (L : Int)] 3))
            have HIa := Lib.hid hIa
            have hza := hIa.b.size
            clear hIa
            go_wp2_with (at_builtin; refine wpList_app rfl (.tmp 63) (.tmp 66) 30 rfl 3 1 Try.underlying30 info3v rfl (by omega) rfl HIa.out.own rfl (rd_one _ _ rfl) rfl (one_int _ _) (by omega) (by omega) hza ?_; intro A5 c5 w5 ho5 hg5 hf5)
            rw [iv_snoc] at ho5
            have h5 := HIa.out.putOwn ho5 hg5 hf5
            have H5 := Lib.hid h5
            clear ho5 hg5 hf5 h5 hza HIa
            go_roundw
            case rel => exact ⟨t + 1, A5, c5, by omega, by norm_cast, by norm_cast, by rw [List.replicate_succ', ← List.append_assoc]; exact H5.out⟩
            case measure => simp only [intOf]; omega
          · obtain rfl : t = M := by omega
            have hlt2 : ¬ ((R' + t : Nat) : Int) < ((R' + t : Nat) : Int) := by omega
            have hI := HI.out
            have hIa := hI.sub ((Below.refl _ _).alloc (Nat.le_refl _) (.cells #[.slice Ax m cx] 33))
            have HIa := Lib.hid hIa
            have hza := hIa.b.size
            have hc0 : wr.cell? ⟨b1, o1 + i, none⟩ = some (.slice Ax m cx) := (hI.b.cell (p := ⟨b1, o1 + i, none⟩) hb1).trans HCX.out
            clear hI hIa
            go_upto_region 11 with (at_builtin; refine wpList_app rfl (.tmp 68) (.tmp 73) 22 rfl 33 1 Try.underlying22 info33 rfl (by omega) rfl HIa.out.all rfl (rd_one (.slice Ax m cx) 33 rfl) rfl (one_slice _ rfl) (by omega) (by omega) hza ?_; intro A5 c5 w5 ho5 hg5 hf5)
            have h5 := HIa.out.putAll ho5 hg5 hf5
            have hL1 : L + 1 = (rs ++ [x]).length := by rw [HLe.out]; simp
            rw [← HOW.out, ← HU2.out, hL1] at h5
            have H5 := Lib.hid h5
            have HL1 := Lib.hid hL1
            have HSl2 : Hid (Sl w 0 (va ++ [.slice Ax m cx]) (rs ++ [x])) := Lib.hid (all2_append (All2.cons ⟨Ax, m, cx, rfl, HX.out⟩ All2.nil) HSl.out)
            clear h5 hL1 ho5 hg5 hf5 hc0 HIa HI hza R3
            go_wp2
            go_roundw
            case rel => exact ⟨i + 1, rs ++ [x], d3, s3, A5, c5, va ++ [.slice Ax m cx], Ao, co, by omega, by norm_cast, by rw [← HL1.out], by rw [HU2.out], H5.out, HJ3.out, HSl2.out⟩
            case measure => simp only [intOf]; omega
      · have C0 := append_no (A := Ax) (c := cx) HI.out.jn HJ.out.used_ (n := m) (by omega) (by omega)
        have C := Lib.hid C0
        clear C0 hx hxl hxx hxw hxa hmx hcx hbel hc1 ex
        go_wp2_with (first | ((with_reducible refine Calls.mono R1.out ?_); rintro e wa ⟨rfl, rfl⟩) | ((with_reducible refine Calls.mono C.out ?_); rintro e wa ⟨rfl, rfl⟩))
        go_roundw
        case rel => exact ⟨i + 1, rs, d1, s1, Aa, ca, va, Ao, co, by omega, by norm_cast, rfl, rfl, HI.out, HJ.out, HSl.out⟩
        case measure => simp only [intOf]; omega
    · have F0 := dflush_any HI.out.jn.dk
      rw [HI.out.g] at F0
      have F := Lib.hid F0
      clear F0
      obtain ⟨U, hUe⟩ : ∃ U, U = usedOf rs := ⟨_, rfl⟩
      rw [← hUe] at hU48 hL48
      rw [← hUe]
      have hI2 := HI.out
      rw [← hUe] at hI2
      have HI2 := Lib.hid hI2
      have HUe := Lib.hid hUe
      clear hUe hI2 HI
      rcases Nat.eq_zero_or_pos U with h0 | h0
      · have HLv := Lib.hid jlives_any
        subst h0
        go_wp2_with (first | ((with_reducible refine Calls.mono F.out ?_); rintro e w5 ⟨rfl, d5, hd5, hg5, hk5, hf5⟩; have hb5 := hk5.below (B := w.heap.size) HI2.out.b.size (fun b hb => (HI2.out.jn.dk.foot_base b hb).1)) | ((with_reducible refine Calls.mono (HLv.out _) ?_); rintro e w6 ⟨rfl, hb6⟩))
        go_ret
        exact ⟨rfl, (HI2.out.b.trans hb5).trans (hb6.mono (HI2.out.b.trans hb5).size)⟩
      · have hk5F : ∀ b, d1.foot b → w.heap.size ≤ b := fun b hb => (HI2.out.jn.dk.foot_base b hb).1
        have HF5 := Lib.hid hk5F
        have HO := Lib.hid (owners_len (rs := rs) 0)
        have HN := Lib.hid HJ.out.n_
        clear hk5F
        go_upto_region 20 with ((with_reducible refine Calls.mono F.out ?_); rintro e w5 ⟨rfl, d5, hd5, hg5, hk5, hf5⟩)
        have hb5 : Below w.heap.size w w5 := HI2.out.b.trans (hk5.below HI2.out.b.size HF5.out)
        have ha5 := own_kept HI2.out.all hk5 (fun b e x => (HI2.out.aa b e).1 x)
        have ho5 := own_kept HI2.out.own hk5 (fun b e x => (HI2.out.ao b e).1 x)
        obtain ⟨a, haa⟩ : ∃ a, a = pickN which U := ⟨_, rfl⟩
        have haU : a < U := haa ▸ pickN_lt which h0
        obtain ⟨b, hbb⟩ : ∃ b, b = pickN bit 2048 := ⟨_, rfl⟩
        have hbU : b < 2048 := hbb ▸ pickN_lt bit (by omega)
        have P1a := pick_any which HW.out (n := U) h0 (by omega) w5
        have P2a := pick_any bit HBT.out (n := 2048) (by omega) (by omega) w5
        rw [← haa] at P1a
        rw [← hbb] at P2a
        push_cast at P2a
        have hv5 := (flush_secs HJ.out.cut_ (vers_nil HJ.out (by omega)) (2 + a)).2.2
        have R0 := drot_flat hd5 (k := 2 + a) (i := b) (by rw [(flush_cut HJ.out.cut_).2, HN.out]; omega) hbU hv5
        rw [hg5, show (((2 + a) * 2048 + b : Nat) : Int) = 2048 * (2 + (a : Int)) + (b : Int) by push_cast; omega] at R0
        have hopen := rots_open HJ.out (by omega) (a := a) (b := b) (by rw [← HUe.out]; exact haU) hbU
        obtain ⟨t, htt⟩ : ∃ t, t = (ownersOf 0 rs).getD a 0 := ⟨_, rfl⟩
        rw [← htt] at hopen
        have htl : t < rs.length := by
          have hlt : a < (ownersOf 0 rs).length := by rw [HO.out, ← HUe.out]; exact haU
          have := owners_le (rs := rs) (k := 0) t (by rw [htt, List.getD_eq_getElem?_getD, List.getElem?_eq_getElem hlt]; exact List.getElem_mem _)
          omega
        have P1 := Lib.hid P1a
        have P2 := Lib.hid P2a
        have R := Lib.hid R0
        have HOp := Lib.hid hopen
        have HA5 := Lib.hid ha5
        have HO5 := Lib.hid ho5
        have HB5 := Lib.hid hb5
        have HD5 := Lib.hid hd5
        have HG5 := Lib.hid hg5
        have HTT := Lib.hid htt
        have HF5' := Lib.hid hf5
        clear P1a P2a R0 haa hbb hopen ha5 ho5 hb5 hd5 hg5 hk5 hf5 htt hv5 F
        go_upto_region 23 with ((with_reducible refine Calls.mono P1.out ?_); rintro e wa ⟨rfl, rfl⟩)
        go_upto_region 24 with (first | ((with_reducible refine Calls.mono P2.out ?_); rintro e wa ⟨rfl, rfl⟩) | ((with_reducible refine Calls.mono R.out ?_); rintro e w6 ⟨rfl, hd6, hk6⟩))
        have hL : ∀ A : Option Addr, (∀ b, ablk A = some b → ¬ d1.foot b ∧ b ≠ j) → (∀ b, ablk A = some b → b < wr.heap.size) → ∀ b, ablk A = some b → ¬ b = d5.L := fun A h1 h2 b e x => by
          rcases HF5'.out b (.inr (.inl x)) with y | y
          · exact (h1 b e).1 y
          · exact absurd (h2 b e) (by omega)
        have ha6 := own_kept HA5.out hk6 (hL Aa HI2.out.aa (fun b e => (HI2.out.all.blk e).2))
        have ho6 := own_kept HO5.out hk6 (hL Ao HI2.out.ao (fun b e => (HI2.out.own.blk e).2))
        have hb6 : Below w.heap.size w w6 := HB5.out.trans (hk6.below HB5.out.size (fun b hb => by rw [hb]; exact HD5.out.bases.2.1))
        have O0 := open_ok hd6 (by show 50 ≤ (flushD s1).n; rw [(flush_cut HJ.out.cut_).2, HN.out]; omega) (G := 3) (by omega)
        push_cast at O0
        rw [HOp.out, HG5.out] at O0
        have O := Lib.hid O0
        have HA6 := Lib.hid ha6
        have HO6 := Lib.hid ho6
        have HB6 := Lib.hid hb6
        clear O0 ha6 ho6 hb6 hd6 hk6 HA5 HO5 HB5 HD5 HG5 HF5' hL P1 P2 R
        go_upto_region 25 with ((with_reducible refine Calls.mono O.out ?_); rintro e w7 ⟨A7, n7, c7, v7, rfl, ho7, hs7, hb7⟩)
        have HA7 := Lib.hid (HA6.out.below hb7 (Nat.le_refl _))
        obtain ⟨g, rfl, hgl, hcg⟩ := own_iv (HO6.out.below hb7 (Nat.le_refl _)) (k := a) (by rw [HO.out, ← HUe.out]; exact haU)
        rw [← HTT.out] at hcg
        have hS7 : Sl w7 0 (va.take t) (rs.take t) := all2_take t (HSl.out.below (HB6.out.trans (hb7.mono HB6.out.size)) (Nat.le_refl _))
        have hbe7 : Below w.heap.size w w7 := HB6.out.trans (hb7.mono HB6.out.size)
        have hta := HA7.out.take (k := t) (by omega)
        rw [Nat.mul_one] at hta
        have htl2 := hta.len1
        have S0 := same11_any ho7.rd hs7.sl ho7.len1 hta.rd hS7 htl2 (c1 := c7) (c2 := ca) (by have := all2_len hs7; have := ho7.len1; rw [List.length_take] at *; omega)
        rw [decide_eq_true rfl] at S0
        have hca := HA7.out.cap
        have S := Lib.hid S0
        have HB7 := Lib.hid hbe7
        clear S0 hS7 hta htl2 ho7 hs7 hb7 hbe7 HO6 HA6 O
        go_upto_region 26 with ((with_reducible refine Calls.mono S.out ?_); rintro e w8 ⟨rfl, q8, hw8⟩)
        subst hw8
        have HLv := Lib.hid jlives_any
        have HB8 := Lib.hid (below_drewN HB7.out q8)
        go_wp2_with ((with_reducible refine Calls.mono (HLv.out _) ?_); rintro e w9 ⟨rfl, hb9⟩)
        go_ret
        exact ⟨rfl, HB8.out.trans (hb9.mono HB8.out.size)⟩
end Go.Proofs.Ytnclebnodkkgnaa
