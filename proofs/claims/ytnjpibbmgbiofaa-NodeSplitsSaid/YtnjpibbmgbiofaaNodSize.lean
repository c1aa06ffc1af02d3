/- How many bytes a node has: node.each, node.Size, kistref14.Size. Condition: each text is at most 2^47 bytes long. -/
import Derived.Test.YtnjpibbmgbiofaaNodM
import Derived.Deep.DeepCutAuto
namespace Go.Proofs.Ytnjpibbmgbiofaa
open Go.RowKit

/-- the node's three lists lie in memory; its texts are no longer than memory -/
structure NdR (w : World) (lo : Nat) (s : Nd) (K : Option Addr) (nk ck : Nat) (V : Option Addr) (nv cv : Nat) (D : Option Addr) (nd cd : Nat) : Prop where
  keys : Ls w lo K nk ck (sl s.keys)
  vals : Ls w lo V nv cv (sl s.vals)
  kids : Ls w lo D nd cd (il s.kids)
  ksmall : ∀ i, (kAt s i).size ≤ 140737488355328
  vsmall : ∀ i, (vAt s i).size ≤ 140737488355328
  kroom : nk ≤ 8796093022208
  vroom : nv ≤ 8796093022208
  droom : nd ≤ 17592186044416
section
variable {w w' : World} {lo lo' B : Nat} {s : Nd} {K : Option Addr} {nk ck : Nat} {V : Option Addr} {nv cv : Nat} {D : Option Addr} {nd cd : Nat}
theorem NdR.below (h : NdR w lo s K nk ck V nv cv D nd cd) (hb : Below B w w') (hB : w.heap.size ≤ B) : NdR w' lo s K nk ck V nv cv D nd cd := ⟨h.keys.below hb hB, h.vals.below hb hB, h.kids.below hb hB, h.ksmall, h.vsmall, h.kroom, h.vroom, h.droom⟩
theorem NdR.drewN (h : NdR w lo s K nk ck V nv cv D nd cd) (k : Nat) : NdR (w.drewN k) lo s K nk ck V nv cv D nd cd := ⟨h.keys, h.vals, h.kids, h.ksmall, h.vsmall, h.kroom, h.vroom, h.droom⟩
theorem NdR.weak (h : NdR w lo s K nk ck V nv cv D nd cd) (hl : lo' ≤ lo) : NdR w lo' s K nk ck V nv cv D nd cd := ⟨h.keys.weak hl, h.vals.weak hl, h.kids.weak hl, h.ksmall, h.vsmall, h.kroom, h.vroom, h.droom⟩
theorem NdR.nk_eq (h : NdR w lo s K nk ck V nv cv D nd cd) : s.keys.length = nk := by have := h.keys.1; rwa [length_sl] at this
theorem NdR.nv_eq (h : NdR w lo s K nk ck V nv cv D nd cd) : s.vals.length = nv := by have := h.vals.1; rwa [length_sl] at this
theorem NdR.nd_eq (h : NdR w lo s K nk ck V nv cv D nd cd) : s.kids.length = nd := by have := h.kids.1; rwa [length_il] at this
end
theorem eachN_le {w : World} {lo : Nat} {s : Nd} {K V D : Option Addr} {nk ck nv cv nd cd : Nat} (h : NdR w lo s K nk ck V nv cv D nd cd) (i : Nat) : eachN s i ≤ 281474976710666 := by
  have h1 := h.ksmall i
  have h2 := h.vsmall i
  unfold eachN
  split
  · split <;> omega
  · split <;> omega

set_option maxHeartbeats 1000000 in
theorem each_any (s : Nd) (i : Nat) {w : World} {lo : Nat} {K V D : Option Addr} {nk ck nv cv nd cd : Nat} (h : NdR w lo s K nk ck V nv cv D nd cd) (hi : i < nk) :
    Calls Try.prog 27 #[.agg #[.bool s.leaf, .slice K nk ck, .slice V nv cv, .slice D nd cd], .int .i64 i] w fun e w' => e = .returned (.int .i64 (eachN s i : Nat)) ∧ Below w.heap.size w w' := by
  have hb : Below w.heap.size w (w.alloc (.cells #[.bool s.leaf, .slice K nk ck, .slice V nv cv, .slice D nd cd] 26)) := (Below.refl _ _).alloc (Nat.le_refl _) _
  have k1 := h.ksmall i
  have v1 := h.vsmall i
  obtain ⟨bk, ok, rfl, _, hbk⟩ := h.keys.at_ (by omega)
  have ck := sl_cell h.keys i hi
  have hv : Hid (∀ hv : i < nv, ∃ b o, V = some ⟨b, o, none⟩ ∧ b < w.heap.size ∧ w.cell? ⟨b, o + i, none⟩ = some (.string (vAt s i))) := fun hv => by
    obtain ⟨b, o, rfl, _, hb⟩ := h.vals.at_ (by omega)
    exact ⟨b, o, rfl, hb, sl_cell h.vals i hv⟩
  have E1 : Hid (s.leaf = true → i < nv → eachN s i = 2 + (kAt s i).size + (vAt s i).size) := fun h1 h2 => by
    unfold eachN; rw [if_pos h1, if_pos (by rw [h.nv_eq]; exact h2)]
  have E2 : Hid (s.leaf = true → ¬ i < nv → eachN s i = 2 + (kAt s i).size) := fun h1 h2 => by
    unfold eachN; rw [if_pos h1, if_neg (by rw [h.nv_eq]; exact h2)]; rfl
  have E3 : Hid (s.leaf = false → i < nd → eachN s i = 3 + (kAt s i).size) := fun h1 h2 => by
    unfold eachN; rw [if_neg (by rw [h1]; simp), if_pos (by rw [h.nd_eq]; exact h2)]
  have E4 : Hid (s.leaf = false → ¬ i < nd → eachN s i = 1 + (kAt s i).size) := fun h1 h2 => by
    unfold eachN; rw [if_neg (by rw [h1]; simp), if_neg (by rw [h.nd_eq]; exact h2)]
  have hck : Hid (w.cell? ⟨bk, ok + i, none⟩ = some (.string (kAt s i))) := ck
  clear ck h
  generalize kAt s i = kk at *
  generalize vAt s i = vv at *
  generalize s.leaf = lf at *
  have ckk := hck.out
  cases lf with
  | true =>
    by_cases hvi : i < nv
    · obtain ⟨b, o, rfl, hb2, cvv⟩ := hv.out hvi
      go_enter Try.func27, Try.ntmps27
      go_wp2
      go_ret
      refine ⟨?_, hb⟩
      rw [E1.out (by trivial) hvi]
      show Ending.returned (.int .i64 _) = _
      congr 2
    · go_enter Try.func27, Try.ntmps27
      go_wp2
      go_ret
      refine ⟨?_, hb⟩
      rw [E2.out (by trivial) hvi]
      show Ending.returned (.int .i64 _) = _
      congr 2
  | false =>
    by_cases hdi : i < nd
    · go_enter Try.func27, Try.ntmps27
      go_wp2
      go_ret
      refine ⟨?_, hb⟩
      rw [E3.out (by trivial) hdi]
      show Ending.returned (.int .i64 _) = _
      congr 2
    · go_enter Try.func27, Try.ntmps27
      go_wp2
      go_ret
      refine ⟨?_, hb⟩
      rw [E4.out (by trivial) hdi]
      show Ending.returned (.int .i64 _) = _
      congr 2

/-- a sum as the machine holds it -/
def szV (n : Nat) : Int := IntKind.i64.wrap (n : Int)
theorem szV_bd (n : Nat) : -9223372036854775808 ≤ szV n ∧ szV n ≤ 9223372036854775807 := by
  unfold szV
  rw [IntKind.wrap_i64]
  omega
theorem szV_add (a b : Nat) : IntKind.i64.wrap (szV a + (b : Int)) = szV (a + b) := by
  unfold szV
  rw [IntKind.wrap_i64, IntKind.wrap_i64, IntKind.wrap_i64]
  omega
theorem szV_one : szV 1 = 1 := rfl

set_option maxHeartbeats 1000000 in
theorem nsize_any (s : Nd) {w : World} {lo : Nat} {K V D : Option Addr} {nk ck nv cv nd cd : Nat} (h : NdR w lo s K nk ck V nv cv D nd cd) :
    Calls Try.prog 12 #[.agg #[.bool s.leaf, .slice K nk ck, .slice V nv cv, .slice D nd cd]] w fun e w' => e = .returned (.int .i64 (szV (sizeN s))) ∧ Below w.heap.size w w' := by
  have HR := Lib.hid h
  have hc1 := h.keys.2.1
  have hc2 := h.keys.2.2.1
  have HS : Hid (sizeN s = sizeTo s nk) := by show _ = _; rw [← h.nk_eq]; rfl
  clear h
  go_enter Try.func12, Try.ntmps12
  go_wp2
  go_loopw [3, 4, 8] (fun s3 s4 s8 wr => ∃ j : Nat, j ≤ nk ∧ s8 = .int .i64 j ∧ s3 = .int .i64 (szV (sizeTo s j)) ∧ Blk wr w.heap.size 26 [.bool s.leaf, .slice K nk ck, .slice V nv cv, .slice D nd cd] ∧ Below w.heap.size w wr)
    (fun _ _ s8 _ => nk - (intOf s8).toNat)
  case atStart => exact ⟨0, Nat.zero_le _, rfl, rfl, Blk.new_at (cs := [.bool s.leaf, .slice K nk ck, .slice V nv cv, .slice D nd cd]) rfl, (Below.refl _ _).alloc (Nat.le_refl _) _⟩
  case round =>
    obtain ⟨j, hj, rfl, rfl, hB, hV⟩ := hrel
    have hBc := hB.cells
    by_cases hlt : j < nk
    · have E1 := Lib.hid (each_any s j (HR.out.below hV (Nat.le_refl _)) hlt)
      have hle := eachN_le HR.out j
      have HX : Hid (szV (sizeTo s (j + 1)) = wrap64 (szV (sizeTo s j) + (eachN s j : Nat))) := by show _ = _; rw [← IntWalk.i64_left, szV_add]; rfl
      have hbd := szV_bd (sizeTo s j)
      generalize szV (sizeTo s j) = X at *
      generalize eachN s j = ee at *
      have HB := Lib.hid hB
      clear hB
      go_wp2_with ((with_reducible refine Calls.mono E1.out ?_); rintro e w1 ⟨rfl, hb1⟩)
      go_roundw
      case rel => exact ⟨j + 1, by omega, by go_num, by rw [HX.out], HB.out.below hb1 HB.out.lt, hV.trans (hb1.mono hV.size)⟩
      case measure => simp [intOf]; omega
    · obtain rfl : j = nk := by omega
      rw [← HS.out]
      go_wp2
      go_ret
      exact ⟨rfl, hV⟩

theorem w64_bd (x : Int) : -9223372036854775808 ≤ wrap64 x ∧ wrap64 x ≤ 9223372036854775807 := by unfold wrap64; omega
theorem w64_w64 (x y : Int) : wrap64 (wrap64 x + y) = wrap64 (x + y) := by unfold wrap64; omega

set_option maxHeartbeats 2000000 in
theorem rsize_any (s : Nd) {w : World} {lo : Nat} {K V D : Option Addr} {nk ck nv cv nd cd : Nat} (h : NdR w lo s K nk ck V nv cv D nd cd) :
    Calls Try.prog 10 #[.agg #[.bool s.leaf, .slice K nk ck, .slice V nv cv, .slice D nd cd]] w fun e w' => e = .returned (.int .i64 (szV (sizeN s))) ∧ Below w.heap.size w w' := by
  have HR := Lib.hid h
  have hc1 := h.keys.2.1
  have hc2 := h.keys.2.2.1
  have hc3 := h.vals.2.1
  have hc4 := h.vals.2.2.1
  have HS : Hid (sizeN s = sizeTo s nk) := by show _ = _; rw [← h.nk_eq]; rfl
  have E1 : Hid (∀ i, s.leaf = true → i < nv → eachN s i = 2 + (kAt s i).size + (vAt s i).size) := fun i h1 h2 => by
    unfold eachN; rw [if_pos h1, if_pos (by rw [h.nv_eq]; exact h2)]
  have E2 : Hid (∀ i, s.leaf = true → ¬ i < nv → eachN s i = 2 + (kAt s i).size) := fun i h1 h2 => by
    unfold eachN; rw [if_pos h1, if_neg (by rw [h.nv_eq]; exact h2)]; rfl
  have E3 : Hid (∀ i, s.leaf = false → i < nd → eachN s i = 3 + (kAt s i).size) := fun i h1 h2 => by
    unfold eachN; rw [if_neg (by rw [h1]; simp), if_pos (by rw [h.nd_eq]; exact h2)]
  have E4 : Hid (∀ i, s.leaf = false → ¬ i < nd → eachN s i = 1 + (kAt s i).size) := fun i h1 h2 => by
    unfold eachN; rw [if_neg (by rw [h1]; simp), if_neg (by rw [h.nd_eq]; exact h2)]
  clear h
  go_enter Try.func10, Try.ntmps10
  go_wp2
  go_loopw [3, 4] (fun s3 s4 wr => ∃ j : Nat, j ≤ nk ∧ s4 = .int .i64 j ∧ s3 = .int .i64 (szV (sizeTo s j)) ∧ wr = w.alloc (.cells #[.bool s.leaf, .slice K nk ck, .slice V nv cv, .slice D nd cd] 25))
    (fun _ s4 _ => nk - (intOf s4).toNat)
  case atStart => exact ⟨0, Nat.zero_le _, rfl, rfl, rfl⟩
  case round =>
    obtain ⟨j, hj, rfl, rfl, rfl⟩ := hrel
    by_cases hlt : j < nk
    · have k1 := HR.out.ksmall j
      have v1 := HR.out.vsmall j
      obtain ⟨bk, ok, rfl, _, hbk⟩ := HR.out.keys.at_ (by omega)
      have ckk : w.cell? ⟨bk, ok + j, none⟩ = some (.string (kAt s j)) := sl_cell HR.out.keys j hlt
      have HX : Hid (szV (sizeTo s (j + 1)) = wrap64 (szV (sizeTo s j) + (eachN s j : Nat))) := by show _ = _; rw [← IntWalk.i64_left, szV_add]; rfl
      have hbd := szV_bd (sizeTo s j)
      have F1 := Lib.hid (E1.out j)
      have F2 := Lib.hid (E2.out j)
      have F3 := Lib.hid (E3.out j)
      have F4 := Lib.hid (E4.out j)
      generalize szV (sizeTo s j) = X at *
      generalize eachN s j = ee at *
      by_cases hlf : s.leaf = true
      · by_cases hvi : j < nv
        · obtain ⟨b, o, rfl, _, hb2⟩ := HR.out.vals.at_ (by omega)
          have cvv : w.cell? ⟨b, o + j, none⟩ = some (.string (vAt s j)) := sl_cell HR.out.vals j hvi
          have he := F1.out hlf hvi
          clear F1 F2 F3 F4 E1 E2 E3 E4
          generalize kAt s j = kk at *
          generalize vAt s j = vv at *
          rw [hlf]
          go_wp2
          go_roundw
          case rel =>
            refine ⟨j + 1, by omega, by go_num, ?_, trivial⟩
            rw [HX.out, he]
            simp only [w64_w64]
            congr 2
            omega
          case measure => simp [intOf]; omega
        · have he := F2.out hlf hvi
          clear F1 F2 F3 F4 E1 E2 E3 E4
          generalize kAt s j = kk at *
          rw [hlf]
          go_wp2
          go_roundw
          case rel =>
            refine ⟨j + 1, by omega, by go_num, ?_, trivial⟩
            rw [HX.out, he]
            simp only [w64_w64]
            congr 2
            omega
          case measure => simp [intOf]; omega
      · have hlf : s.leaf = false := by simpa using hlf
        by_cases hdi : j < nd
        · have he := F3.out hlf hdi
          clear F1 F2 F3 F4 E1 E2 E3 E4
          generalize kAt s j = kk at *
          rw [hlf]
          go_wp2
          go_roundw
          case rel =>
            refine ⟨j + 1, by omega, by go_num, ?_, trivial⟩
            rw [HX.out, he]
            simp only [w64_w64]
            congr 2
            omega
          case measure => simp [intOf]; omega
        · have he := F4.out hlf hdi
          clear F1 F2 F3 F4 E1 E2 E3 E4
          generalize kAt s j = kk at *
          rw [hlf]
          go_wp2
          go_roundw
          case rel =>
            refine ⟨j + 1, by omega, by go_num, ?_, trivial⟩
            rw [HX.out, he]
            simp only [w64_w64]
            congr 2
            omega
          case measure => simp [intOf]; omega
    · obtain rfl : j = nk := by omega
      rw [← HS.out]
      go_wp2
      go_ret
      exact ⟨rfl, (Below.refl _ _).alloc (Nat.le_refl _) _⟩
end Go.Proofs.Ytnjpibbmgbiofaa
