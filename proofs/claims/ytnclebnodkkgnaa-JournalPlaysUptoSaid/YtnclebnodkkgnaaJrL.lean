/- Journals of records; the laws' own example (kistlaw11.lives). No condition. -/
import Derived.Test.YtnclebnodkkgnaaJrApp
import Derived.Test.YtnclebnodkkgnaaJrOpen
import Derived.Test.YtnclebnodkkgnaaJrP
import Derived.Test.YtnclebnodkkgnaaJrSame
import Derived.Test.YtnclebnodkkgnaaDkRots
namespace Go.Proofs.Ytnclebnodkkgnaa
open Go.RowKit
set_option linter.unusedSimpArgs false
set_option linter.unusedVariables false

section
variable {w w' : World} {base j n G : Nat} {d d' : Dw} {s s' : Dsk} {had : Nat → List UInt8} {rs : List (List UInt8)} {used many used' many' : Nat}
theorem Jn.base_le (h : Jn w base j d s G used many) : ∀ b, (d.foot b ∨ b = j) → base ≤ b ∧ b < w.heap.size := fun b hb => by
  rcases hb with hb | rfl
  · exact h.dk.foot_base b hb
  · exact ⟨h.jb, h.blk.lt⟩
theorem Ap.bel (h : Ap w w' base j d d' s' G used' many') (h0 : Jn w base j d s G used many) : Below base w w' :=
  h.K.below (by have := h0.base_le d.g (.inl (.inl rfl)); omega) (fun b hb => (h0.base_le b hb).1)
/-- what is away from a disk stays away, behind a change of the disk -/
theorem away_step {A : Option Addr} (h : ∀ b, ablk A = some b → ¬ d.foot b ∧ b ≠ j) (hl : ∀ b, ablk A = some b → b < w.heap.size) (hf : ∀ b, d'.foot b → d.foot b ∨ w.heap.size ≤ b) : ∀ b, ablk A = some b → ¬ d'.foot b ∧ b ≠ j := fun b hb =>
  ⟨fun x => by rcases hf b x with y | y; exact (h b hb).1 y; have := hl b hb; omega, (h b hb).2⟩
theorem away_new {A A' : Option Addr} (h : ∀ b, ablk A = some b → ¬ d.foot b ∧ b ≠ j) (hj : Jn w base j d s G used many) (hf : ablk A' = ablk A ∨ ablk A' = some w.heap.size) : ∀ b, ablk A' = some b → ¬ d.foot b ∧ b ≠ j := fun b hb => by
  rcases hf with e | e
  · rw [e] at hb; exact h b hb
  · rw [e] at hb
    injection hb with hb
    subst hb
    refine ⟨fun x => ?_, fun x => ?_⟩
    · have := hj.base_le _ (.inl x); omega
    · have := hj.base_le _ (.inr x); omega
theorem jl_app (h : Jn w base j d s G (usedOf rs) rs.length) (k : Jrn s n G had rs) (hn : 50 ≤ n) (hG : 1 ≤ G ∧ G ≤ 4294967295) {lo m c : Nat} {A : Option Addr} {l : List UInt8} (hd : Bs w lo A m c l) (hA : 0 < m → ∀ b, ablk A = some b → ¬ d.foot b ∧ b ≠ j) (hm : m ≤ 4611686018427387904) (hp : usedOf rs + pcsN m ≤ 48) :
    Calls Try.prog 17 #[.pointer (some ⟨j, 0, none⟩), .slice A m c] w fun e w' => e = .returned (.int .i64 0) ∧ ∃ d' s', Ap w w' base j d d' s' G (usedOf (rs ++ [l])) (rs ++ [l]).length ∧ Jrn s' n G had (rs ++ [l]) := by
  have hl := hd.1
  have := len_used rs
  have hu := k.used_
  refine (append_ok h (by rw [k.n_]; exact hn) hG (by omega) (fun i _ => by rw [k.vers_]; split <;> omega) hd hA hm hp).mono ?_
  rintro e w' ⟨rfl, d', hap⟩
  refine ⟨rfl, d', _, ?_, k.more (r := l) (by rw [hl]; exact hp)⟩
  rw [used_snoc, List.length_append, hl]
  exact hap
theorem jrn_new (G n : Nat) : Jrn (newD n) n G (fun _ => List.replicate 256 0) [] := ⟨rfl, rfl, Nat.zero_le _, trivial, fun _ _ => rfl, fun k => by rw [if_neg (by show ¬ (2 ≤ k ∧ k < 2 + 0); omega)]; rfl⟩
theorem jrn_open (k : Jrn s n G had rs) (hz : usedOf rs < 48 → ((had (usedOf rs)).getD 2 0) = 0) : openS (secs s) G = rs :=
  k.opens (fun hu => recAt_zero (by rw [k.rest _ (Nat.le_refl _)]; exact hz hu))
end

def l300 : List UInt8 := List.replicate 300 0
theorem l300_len : l300.length = 300 := List.length_replicate
theorem make_300 (w : World) : (Instr.makeSlice 33 (.int .i64 300) (.int .i64 300)).run Try.prog w = .ok (.slice (some ⟨w.heap.size, 0, none⟩) 300 300) (w.alloc (.cells (bvs l300).toArray 5)) := make_by 300 (by omega) w
theorem open_six {s : Dsk} (k : Jrn s 128 5 (fun _ => List.replicate 256 0) [l300, []]) : openS (secs s) 6 = [] := by
  refine openS_all (rs := []) trivial (by simp [usedOf]) (.inr (recAt_first fun j' dt hd e => ?_))
  have h0 := k.recs.1 0 (by have := pcsN_pos l300.length; omega)
  have h1 : secs s (usedOf []) = secs s (0 + 0) := rfl
  rw [h1, show secs s (0 + 0) = hasD s (2 + (0 + 0)) from rfl] at e
  replace h0 : hasD s (2 + (0 + 0)) = _ := h0
  rw [h0] at e
  exact absurd (piece_G (by omega) (by omega) e) (by omega)
set_option maxRecDepth 100000 in
set_option maxHeartbeats 4000000 in
theorem jlives_any (w : World) : Calls Try.prog 19 #[] w fun e w' => e = .returned (.bool true) ∧ Below w.heap.size w w' := by
  have D0 := dnew_ok 128 (by omega) w
  push_cast at D0
  have D := Lib.hid D0
  clear D0
  go_enter Try.func19, Try.ntmps19
  go_upto_region 4 with ((with_reducible refine Calls.mono D.out ?_); rintro e w1 ⟨d, rfl, hd, hb⟩)
  have J0 := jnew_ok hd (by show 50 ≤ 128; omega) (G := 5) (by omega)
  push_cast at J0
  have J := Lib.hid J0
  have HB := Lib.hid hb
  clear J0 hd hb D
  go_upto_region 7 with ((with_reducible refine Calls.mono J.out ?_); rintro e w2 ⟨rfl, hj, hb2⟩)
  obtain ⟨j, hjj⟩ : ∃ j, j = w1.heap.size := ⟨_, rfl⟩
  rw [← hjj] at hj
  rw [← hjj]
  have hB2 := HB.out.trans (hb2.mono HB.out.size)
  have HB2 := Lib.hid hB2
  have hj3 := hj.below ((Below.refl w2.heap.size w2).alloc (Nat.le_refl _) (.cells (bvs l300).toArray 5)) (Nat.le_refl _)
  have hB3 := (Blk.new w2 5 (bvs l300)).bs0 0 300 300 (Nat.zero_le _) (Nat.le_refl _) (by omega) l300_len
  have A0 := jl_app (rs := []) (n := 128) hj3 (jrn_new 5 128) (by omega) (by omega) hB3 (fun _ b e => by
    injection e with e
    subst e
    refine ⟨fun x => ?_, fun x => ?_⟩
    · have := hj.base_le _ (.inl x); exact absurd this.2 (Nat.lt_irrefl _)
    · have := hj.base_le _ (.inr x); exact absurd this.2 (Nat.lt_irrefl _)) (by omega) (by decide)
  have hmk0 := make_300
  have HJ3 := Lib.hid hj3
  have HA := Lib.hid A0
  clear A0 J hb2 HB hB2 hj hj3 hB3 hjj
  go_upto_region 8 with ((with_reducible refine Calls.mono HA.out ?_); rintro e w3 ⟨rfl, d3, s3, ap3, k3⟩)
  have hB3 : Below w.heap.size w w3 := ((HB2.out.alloc HB2.out.size _).trans (ap3.bel HJ3.out))
  have R0 := room_any ap3.jn (by decide)
  have R := Lib.hid R0
  have A0 := jl_app (rs := [] ++ [l300]) (n := 128) ap3.jn k3 (by omega) (by omega) (Bs.nil_ w3 0) (fun _ b e => by cases e) (by omega) (by decide)
  have HA2 := Lib.hid A0
  have HB3 := Lib.hid hB3
  have HJ4 := Lib.hid ap3.jn
  have hg3 := ap3.g
  have HG3 := Lib.hid hg3
  clear R0 A0 k3 HA HJ3 HB2 hmk0 ap3 hB3 hg3
  go_upto_region 9 with ((with_reducible refine Calls.mono R.out ?_); rintro e w3 ⟨rfl, rfl⟩)
  go_upto_region 10 with ((with_reducible refine Calls.mono HA2.out ?_); rintro e w4 ⟨rfl, d4, s4, ap4, k4⟩)
  have hB4 : Below w.heap.size w w4 := HB3.out.trans (ap4.bel HJ4.out)
  have hg4 : d4.g = d.g := ap4.g.trans HG3.out
  have O0 := open_ok ap4.jn.dk (by rw [k4.n_]; omega) (G := 5) (by omega)
  push_cast at O0
  rw [hg4] at O0
  have O := Lib.hid O0
  have HK4 := Lib.hid k4
  have HB4 := Lib.hid hB4
  have HJ5 := Lib.hid ap4.jn
  have HG4 := Lib.hid hg4
  clear O0 k4 hB4 ap4 HJ4 HB3 HA2 R hg4 HG3
  go_upto_region 11 with ((with_reducible refine Calls.mono O.out ?_); rintro e w5 ⟨A5, n5, c5, vs5, rfl, ho5, hs5, hb5⟩)
  have hj6 := HJ5.out.below hb5 (Nat.le_refl _)
  have e5 : openS (secs s4) 5 = [l300, []] := jrn_open HK4.out (fun _ => rfl)
  have e6 : openS (secs s4) 6 = [] := open_six HK4.out
  have O0 := open_ok hj6.dk (by rw [HK4.out.n_]; omega) (G := 6) (by omega)
  push_cast at O0
  rw [HG4.out, e6] at O0
  have O2 := Lib.hid O0
  have M0 := many_any hj6
  have HJ6 := Lib.hid hj6
  rw [e5] at hs5
  cases hs5 with
  | cons ha hr => cases hr with
    | cons hb hr => cases hr with
      | nil =>
        obtain ⟨Aa, na, ca, rfl, hoa⟩ := ha
        obtain rfl : na = 300 := (own_bs hoa).1.symm
        obtain ⟨g5, rfl, _, _, hc5, _⟩ := ho5.cell (k := 0) (by simp)
        obtain rfl : n5 = 2 := by have := ho5.len1; simpa using this.symm
        have hg5l : g5 < w5.heap.size := by have := ho5.blk rfl; omega
        have hB5 := HB4.out.trans (hb5.mono HB4.out.size)
        have HB5 := Lib.hid hB5
        have HC5 := Lib.hid hc5
        clear ho5 hoa hb hB5 hc5 hb5 O0 M0 hj6 e5 e6 O HB4 HJ5 HG4 HK4
        go_upto_region 12 with ((with_reducible refine Calls.mono O2.out ?_); rintro e w6 ⟨A6, n6, c6, vs6, rfl, ho6, hs6, hb6⟩)
        cases hs6
        obtain rfl : n6 = 0 := by have := ho6.len1; simpa using this.symm
        have M0 := many_any (HJ6.out.below hb6 (Nat.le_refl _))
        push_cast at M0
        have M := Lib.hid M0
        have hc6 : w6.cell? ⟨g5, 0, none⟩ = some (.slice Aa 300 ca) := (hb6.cell (p := ⟨g5, 0, none⟩) hg5l).trans HC5.out
        have HB6 := Lib.hid (HB5.out.trans (hb6.mono HB5.out.size))
        clear M0 ho6 hb6 HB5 HC5 O2 HJ6
        go_wp2_with ((with_reducible refine Calls.mono M.out ?_); rintro e w7 ⟨rfl, rfl⟩)
        go_ret
        exact ⟨rfl, HB6.out⟩
end Go.Proofs.Ytnclebnodkkgnaa
