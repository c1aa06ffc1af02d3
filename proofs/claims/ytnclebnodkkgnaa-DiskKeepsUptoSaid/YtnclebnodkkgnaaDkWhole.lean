/- kistlaw08.whole, alone, numbers; the disks that are not made. Conditions as the lemmas say. -/
import Derived.Test.YtnclebnodkkgnaaDkDoes
namespace Go.Proofs.Ytnclebnodkkgnaa
open Go.RowKit Go.Maps
set_option linter.unusedSimpArgs false
set_option linter.unusedVariables false

theorem dnew_bad {n : Int} (hn : n < 1 ∨ 4096 < n) (w : World) :
    Calls Try.prog 14 #[.int .i64 n] w fun e w' => e = .returned (.tuple #[.pointer none, .int .i64 1]) ∧ w' = w := by
  by_cases h : n < 1
  · go_enter Try.func14, Try.ntmps14
    go_wp2
    go_ret2
    exact ⟨rfl, rfl⟩
  · have h2 : 4096 < n := by omega
    go_enter Try.func14, Try.ntmps14
    go_wp2
    go_ret2
    exact ⟨rfl, rfl⟩
theorem rnew_bad {n : Int} (hn : n < 1 ∨ 4096 < n) (w : World) :
    Calls Try.prog 35 #[.int .i64 n] w fun e w' => e = .returned (.tuple #[.pointer none, .int .i64 1]) ∧ w' = w := by
  by_cases h : n < 1
  · go_enter Try.func35, Try.ntmps35
    go_wp2
    go_ret2
    exact ⟨rfl, rfl⟩
  · have h2 : 4096 < n := by omega
    go_enter Try.func35, Try.ntmps35
    go_wp2
    go_ret2
    exact ⟨rfl, rfl⟩

set_option maxRecDepth 100000 in
set_option maxHeartbeats 4000000 in
theorem whole_any {w : World} {bd br c : Nat} {d : Dw} {r : Rw} {s t : Dsk} (h : Two w bd br d r s t) (hR : Rel s t c) :
    Calls Try.prog 39 #[.pointer (some ⟨d.g, 0, none⟩), .pointer (some ⟨r.g, 0, none⟩)] w fun e w' => e = .returned (.bool true) ∧ Below w.heap.size w w' := by
  have H := Lib.hid h
  have HR := Lib.hid hR
  have hsm := h.rk.small
  rw [hR.n_] at hsm
  clear h hR
  obtain ⟨gd, hgd⟩ : ∃ gd, gd = d.g := ⟨_, rfl⟩
  obtain ⟨gr, hgr⟩ : ∃ gr, gr = r.g := ⟨_, rfl⟩
  rw [← hgd, ← hgr]
  have HGd := Lib.hid hgd
  have HGr := Lib.hid hgr
  clear hgd hgr
  obtain ⟨n, hn⟩ : ∃ n, n = s.n := ⟨_, rfl⟩
  rw [← hn] at hsm
  have HN := Lib.hid hn
  clear hn
  go_enter Try.func39, Try.ntmps39
  go_wp2
  go_loopw [5, 6, 7, 8, 9, 10] (fun s5 _ _ _ _ _ wr => ∃ i : Nat, i ≤ n ∧ s5 = .int .i64 i ∧ Below w.heap.size w wr) (fun s5 _ _ _ _ _ _ => n - (intOf s5).toNat)
  case atStart => exact ⟨0, by omega, rfl, Below.refl _ _⟩
  case round =>
    obtain ⟨i, hi, rfl, hB⟩ := hrel
    have hT := H.out.below hB
    have rc := hT.rk.blk.cell 0
    rw [← HGr.out, HR.out.n_, ← HN.out] at rc
    replace rc : wr.cell? ⟨gr, 0, none⟩ = some (.slice r.A n r.c) := rc
    by_cases hlt : i < n
    · have hin : i < s.n := by rw [← HN.out]; exact hlt
      have hiI : (i : Int) < (n : Int) := by omega
      have R0 := dread_ok hT.dk hin
      rw [← HGd.out] at R0
      have R := Lib.hid R0
      have HT := Lib.hid hT
      have HB := Lib.hid hB
      clear R0 hT hB
      go_upto_region 5 with ((with_reducible refine Calls.mono R.out ?_); rintro e w8 ⟨g8, rfl, hx8, hg8, hb8⟩)
      have hT8 := HT.out.below hb8
      have R0 := rread_ok hT8.rk (k := i) (by rw [HR.out.n_]; exact hin)
      rw [← HGr.out, HR.out.has hin] at R0
      have R2 := Lib.hid R0
      have HL8 := Lib.hid (hasD_len hT8.dk hin)
      have HX8 := Lib.hid hx8
      have hglt := hx8.lt
      have HB8 := Lib.hid (HB.out.trans (hb8.mono HB.out.size))
      clear R0 R hT8 hx8 hg8 hb8 HT HB rc
      go_upto_region 6 with ((with_reducible refine Calls.mono R2.out ?_); rintro e w9 ⟨A9, c9, rfl, ho9, hb9⟩)
      have S0 := same_any ((HX8.out.below hb9 hglt).bs0 0 256 256 (Nat.zero_le _) (Nat.le_refl _) (by omega) HL8.out) (own_bs ho9)
      rw [decide_eq_true rfl] at S0
      have S := Lib.hid S0
      have HB9 := Lib.hid (HB8.out.trans (hb9.mono HB8.out.size))
      clear S0 ho9 hb9 HB8 HX8 R2
      go_upto_region 3 with ((with_reducible refine Calls.mono S.out ?_); rintro e wa ⟨rfl, qa, hwa⟩)
      subst hwa
      have HBa := Lib.hid (below_drewN HB9.out qa)
      clear HB9 S
      go_wp2
      go_roundw
      case rel => exact ⟨i + 1, by omega, by norm_cast, HBa.out⟩
      case measure => simp only [intOf]; omega
    · obtain rfl : i = n := by omega
      have hiI : ¬ (i : Int) < (i : Int) := by omega
      have hq : ∀ n : Nat, Calls Try.prog 60 #[.pointer (some ⟨gd, 0, none⟩)] (wr.drewN n) fun e w'' => e = .returned (.int .i64 i) ∧ ∃ m, w'' = wr.drewN m := fun n => by
        have h := dsize_any (hT.dk.drewN n)
        rw [← HGd.out, ← HN.out] at h
        exact h.mono fun e w' ⟨a, b⟩ => ⟨a, n, b⟩
      have HQ := Lib.hid hq
      have HB := Lib.hid hB
      clear hq hT hB hlt
      go_upto_region 9 with fail
      go_quiet ((go_at_call 60; exact HQ.out _))
      go_wp2
      go_ret
      exact ⟨rfl, below_drewN HB.out _⟩

set_option maxRecDepth 100000 in
set_option maxHeartbeats 4000000 in
theorem numbers_any {w : World} {A1 A2 : Option Addr} {m c1 c2 lo1 lo2 : Nat} {l : List Nat} (h1 : Own w lo1 3 1 A1 m c1 (iv l)) (h2 : Own w lo2 3 1 A2 m c2 (iv l)) (hl : l.length = m) (hm : m ≤ 4611686018427387904) :
    Calls Try.prog 37 #[.slice A1 m c1, .slice A2 m c2] w fun e w' => e = .returned (.bool true) ∧ ∃ q, w' = w.drewN q := by
  have H1 := Lib.hid h1
  have H2 := Lib.hid h2
  have HL := Lib.hid hl
  clear h1 h2 hl
  go_enter Try.func37, Try.ntmps37
  go_wp2
  go_loopw [5] (fun s5 wr => ∃ i q : Nat, i ≤ m ∧ s5 = .int .i64 i ∧ wr = w.drewN q) (fun s5 _ => m - (intOf s5).toNat)
  case atStart => exact ⟨0, 0, by omega, rfl, rfl⟩
  case round =>
    obtain ⟨i, q, hi, rfl, hw⟩ := hrel
    by_cases hlt : i < m
    · obtain ⟨b1, rfl, hb1, hc1⟩ := own_iv (H1.out.drewN q) (by rw [HL.out]; exact hlt)
      obtain ⟨b2, rfl, hb2, hc2⟩ := own_iv (H2.out.drewN q) (by rw [HL.out]; exact hlt)
      rw [← hw] at hc1 hc2
      have hiI : (i : Int) < (m : Int) := by omega
      have HW := Lib.hid hw
      clear hw hb1 hb2
      go_wp2
      go_quiet (fail)
      go_wp2
      go_roundw
      case rel => exact ⟨i + 1, q + nq, by omega, by norm_cast, by rw [HW.out, World.drewN_drewN]⟩
      case measure => simp only [intOf]; omega
    · obtain rfl : i = m := by omega
      clear hlt
      go_wp2
      go_ret
      exact ⟨rfl, q, by first | rfl | exact hw⟩
def sfo (s : Dsk) (f : Nat → D8) : Nat → Dsk
  | 0 => s
  | i + 1 => sdo (sfo s f i) (f i)
def tfo (t : Dsk) (f : Nat → D8) : Nat → Dsk
  | 0 => t
  | i + 1 => tdo (tfo t f i) (f i)
theorem rel_fo {s t : Dsk} {c : Nat} (h : Rel s t c) (f : Nat → D8) : ∀ i, c + i ≤ 1099511627776 → Rel (sfo s f i) (tfo t f i) (c + i)
  | 0, _ => h
  | i + 1, hi => (rel_fo h f i (by omega)).do_ (by omega) (f i)
theorem sfo_n (s : Dsk) (f : Nat → D8) : ∀ i, (sfo s f i).n = s.n
  | 0 => rfl
  | i + 1 => by rw [sfo, sdo_n, sfo_n]
end Go.Proofs.Ytnclebnodkkgnaa
