/- tree.Get of a tree of one entry; kistlaw15.lives: their walks. No condition. -/
import Derived.Test.YtdakohbfibcjeaaBeg
import Derived.Test.YtdakohbfibcjeaaPut
namespace Go.Proofs.Ytdakohbfibcjeaa
open Go.RowKit Go.Maps
set_option linter.unusedSimpArgs false
set_option linter.unusedVariables false

def oneA : Nd := oneLeaf ⟨#[97]⟩ ⟨#[49]⟩
theorem oneA_may : mayN oneA := by decide +kernel
theorem oneA_pa : placeL oneA ⟨#[97]⟩ 1 = 0 := by decide +kernel
theorem oneA_pb : placeL oneA ⟨#[98]⟩ 1 = 1 := by decide +kernel
set_option maxRecDepth 100000 in
set_option maxHeartbeats 4000000 in
theorem tget_a {w : World} {base N root : Nat} {p : TrS} {T : Nodes} (h : TrM w base p N T) (hT : T root = some oneA) (h0 : 0 < root) :
    Calls Try.prog 22 #[.pointer (some ⟨p.g, 0, none⟩), .int .i64 (root : Int), .string ⟨#[97]⟩] w fun e w' => e = .returned (.tuple #[.string ⟨#[49]⟩, .bool true, .int .i64 0]) ∧ ∃ p', TCh w w' base p p' N T := by
  have L0 := load_any (lv := 1) h hT (by omega)
  obtain ⟨gp, hgp⟩ : ∃ z, z = p.g := ⟨_, rfl⟩
  rw [← hgp] at L0
  rw [← hgp]
  have hr0 : ¬ (root : Int) = 0 := by omega
  have L := Lib.hid L0
  have hzn := zero26_
  clear L0 h hT hgp h0
  go_enter Try.func22, Try.ntmps22
  go_wp2
  go_loopw [1, 9] (fun s1 s9 wr => s1 = .int .i64 (root : Int) ∧ s9 = .int .i64 1 ∧ wr = w) (fun _ _ _ => 0)
  case atStart => exact ⟨rfl, rfl, rfl⟩
  case round =>
    obtain ⟨rfl, rfl, rfl⟩ := hrel
    go_upto_region 5 with ((with_reducible refine Calls.mono L.out ?_); rintro e w1 ⟨p1, lo1, K, nk, ck, V, nv, cv, D, ndd, cd, rfl, hc1, ho, hlo, hf1⟩)
    have hal : Below w1.heap.size w1 (w1.alloc (.cells #[.bool oneA.leaf, .slice K nk ck, .slice V nv cv, .slice D ndd cd] 59)) := (Below.refl _ _).alloc (Nat.le_refl _) _
    obtain ⟨g7, hg7⟩ : ∃ z, z = w1.heap.size := ⟨_, rfl⟩
    rw [← hg7]
    have hB := Blk.new_at (w := w1) (t := 59) (cs := [.bool oneA.leaf, .slice K nk ck, .slice V nv cv, .slice D ndd cd]) hg7
    have hC := hc1.below hal (Nat.le_refl _)
    have hO := ho.below hal (Nat.le_refl _)
    obtain rfl : 1 = nk := ho.nk_eq
    obtain rfl : 1 = nv := ho.nv_eq
    obtain rfl : 0 = ndd := ho.nd_eq
    clear hal hg7 hc1 ho hlo hf1 L
    generalize (w1.alloc (.cells #[.bool oneA.leaf, .slice K 1 ck, .slice V 1 cv, .slice D 0 cd] 59)) = U at *
    have hn := hO.ndr (may_sm oneA_may) (by omega) (by omega) (by omega)
    have P0 := nplace_leaf (s := oneA) rfl ⟨#[97]⟩ hn
    rw [oneA_pa] at P0
    rw [show oneA.leaf = true from rfl] at P0
    have P := Lib.hid P0
    have b0 : ∀ i, U.cell? ⟨g7, i, none⟩ = ([Value.bool true, .slice K 1 ck, .slice V 1 cv, .slice D 0 cd])[i]? := hB.cells
    have HC := Lib.hid hC
    have HB : Hid (Blk U g7 59 [.bool true, .slice K 1 ck, .slice V 1 cv, .slice D 0 cd]) := Lib.hid hB
    have HO := Lib.hid hO
    clear hB hC hO hn P0
    go_upto_region 8 with ((with_reducible refine Calls.mono P.out ?_); rintro e w2 ⟨rfl, hb2⟩)
    have HC2 := Lib.hid (HC.out.below hb2 (Nat.le_refl _))
    have hO2 := HO.out.below hb2 (Nat.le_refl _)
    obtain ⟨kb, rfl, _, _⟩ := hO2.keys.head (by omega)
    obtain ⟨vb, rfl, _, _⟩ := hO2.vals.head (by omega)
    have k0 : w2.cell? ⟨kb, 0, none⟩ = some (.string ⟨#[97]⟩) := by
      have := sl_cell (own_ls hO2.keys) 0 (by omega)
      rwa [Nat.zero_add] at this
    have v0 : w2.cell? ⟨vb, 0, none⟩ = some (.string ⟨#[49]⟩) := by
      have := sl_cell (own_ls hO2.vals) 0 (by omega)
      rwa [Nat.zero_add] at this
    have b2 : ∀ i, w2.cell? ⟨g7, i, none⟩ = ([Value.bool true, .slice (some ⟨kb, 0, none⟩) 1 ck, .slice (some ⟨vb, 0, none⟩) 1 cv, .slice D 0 cd])[i]? := (HB.out.below hb2 HB.out.lt).cells
    have e0 := b2 0
    have e1 := b2 1
    have e2 := b2 2
    simp only [List.getElem?_cons_zero, List.getElem?_cons_succ] at e0 e1 e2
    clear hO2 hb2 b0 b2 P HC HB HO
    go_wp2
    go_ret3
    exact ⟨rfl, p1, HC2.out⟩
set_option maxRecDepth 100000 in
set_option maxHeartbeats 4000000 in
theorem tget_b {w : World} {base N root : Nat} {p : TrS} {T : Nodes} (h : TrM w base p N T) (hT : T root = some oneA) (h0 : 0 < root) :
    Calls Try.prog 22 #[.pointer (some ⟨p.g, 0, none⟩), .int .i64 (root : Int), .string ⟨#[98]⟩] w fun e w' => e = .returned (.tuple #[.string ⟨#[]⟩, .bool false, .int .i64 0]) ∧ ∃ p', TCh w w' base p p' N T := by
  have L0 := load_any (lv := 1) h hT (by omega)
  obtain ⟨gp, hgp⟩ : ∃ z, z = p.g := ⟨_, rfl⟩
  rw [← hgp] at L0
  rw [← hgp]
  have hr0 : ¬ (root : Int) = 0 := by omega
  have L := Lib.hid L0
  have hzn := zero26_
  clear L0 h hT hgp h0
  go_enter Try.func22, Try.ntmps22
  go_wp2
  go_loopw [1, 9] (fun s1 s9 wr => s1 = .int .i64 (root : Int) ∧ s9 = .int .i64 1 ∧ wr = w) (fun _ _ _ => 0)
  case atStart => exact ⟨rfl, rfl, rfl⟩
  case round =>
    obtain ⟨rfl, rfl, rfl⟩ := hrel
    go_upto_region 5 with ((with_reducible refine Calls.mono L.out ?_); rintro e w1 ⟨p1, lo1, K, nk, ck, V, nv, cv, D, ndd, cd, rfl, hc1, ho, hlo, hf1⟩)
    have hal : Below w1.heap.size w1 (w1.alloc (.cells #[.bool oneA.leaf, .slice K nk ck, .slice V nv cv, .slice D ndd cd] 59)) := (Below.refl _ _).alloc (Nat.le_refl _) _
    obtain ⟨g7, hg7⟩ : ∃ z, z = w1.heap.size := ⟨_, rfl⟩
    rw [← hg7]
    have hB := Blk.new_at (w := w1) (t := 59) (cs := [.bool oneA.leaf, .slice K nk ck, .slice V nv cv, .slice D ndd cd]) hg7
    have hC := hc1.below hal (Nat.le_refl _)
    have hO := ho.below hal (Nat.le_refl _)
    obtain rfl : 1 = nk := ho.nk_eq
    obtain rfl : 1 = nv := ho.nv_eq
    obtain rfl : 0 = ndd := ho.nd_eq
    clear hal hg7 hc1 ho hlo hf1 L
    generalize (w1.alloc (.cells #[.bool oneA.leaf, .slice K 1 ck, .slice V 1 cv, .slice D 0 cd] 59)) = U at *
    have hn := hO.ndr (may_sm oneA_may) (by omega) (by omega) (by omega)
    have P0 := nplace_leaf (s := oneA) rfl ⟨#[98]⟩ hn
    rw [oneA_pb] at P0
    rw [show oneA.leaf = true from rfl] at P0
    have P := Lib.hid P0
    have b0 : ∀ i, U.cell? ⟨g7, i, none⟩ = ([Value.bool true, .slice K 1 ck, .slice V 1 cv, .slice D 0 cd])[i]? := hB.cells
    have HC := Lib.hid hC
    have HB : Hid (Blk U g7 59 [.bool true, .slice K 1 ck, .slice V 1 cv, .slice D 0 cd]) := Lib.hid hB
    have HO := Lib.hid hO
    clear hB hC hO hn P0
    go_upto_region 8 with ((with_reducible refine Calls.mono P.out ?_); rintro e w2 ⟨rfl, hb2⟩)
    have HC2 := Lib.hid (HC.out.below hb2 (Nat.le_refl _))
    have hO2 := HO.out.below hb2 (Nat.le_refl _)
    obtain ⟨kb, rfl, _, _⟩ := hO2.keys.head (by omega)
    obtain ⟨vb, rfl, _, _⟩ := hO2.vals.head (by omega)
    have k0 : w2.cell? ⟨kb, 0, none⟩ = some (.string ⟨#[97]⟩) := by
      have := sl_cell (own_ls hO2.keys) 0 (by omega)
      rwa [Nat.zero_add] at this
    have v0 : w2.cell? ⟨vb, 0, none⟩ = some (.string ⟨#[49]⟩) := by
      have := sl_cell (own_ls hO2.vals) 0 (by omega)
      rwa [Nat.zero_add] at this
    have b2 : ∀ i, w2.cell? ⟨g7, i, none⟩ = ([Value.bool true, .slice (some ⟨kb, 0, none⟩) 1 ck, .slice (some ⟨vb, 0, none⟩) 1 cv, .slice D 0 cd])[i]? := (HB.out.below hb2 HB.out.lt).cells
    have e0 := b2 0
    have e1 := b2 1
    have e2 := b2 2
    simp only [List.getElem?_cons_zero, List.getElem?_cons_succ] at e0 e1 e2
    clear hO2 hb2 b0 b2 P HC HB HO
    go_wp2
    go_ret3
    exact ⟨rfl, p1, HC2.out⟩
end Go.Proofs.Ytdakohbfibcjeaa
namespace Go.Proofs.Ytdakohbfibcjeaa
open Go.RowKit Go.Maps
set_option linter.unusedSimpArgs false
set_option linter.unusedVariables false

theorem room_new (N : Nat) : Room N (fun _ => none) N :=
  ⟨(List.range N).map (50 + ·), by
    refine List.Pairwise.map _ (fun a b h => ?_) List.nodup_range
    omega, by simp, fun n hn => by
    obtain ⟨i, hi, rfl⟩ := List.mem_map.1 hn
    have := List.mem_range.1 hi
    exact ⟨by omega, by omega, rfl⟩⟩
set_option maxRecDepth 100000 in
set_option maxHeartbeats 4000000 in
theorem lives15_any (w : World) : Calls Try.prog 10 #[] w fun e w' => e = .returned (.bool true) ∧ Below w.heap.size w w' := by
  have B := Lib.hid (begin_any w (N := 30) (by omega))
  go_enter Try.func10, Try.ntmps10
  go_upto_region 2 with ((with_reducible refine Calls.mono B.out ?_); rintro e w1 ⟨p, gw, rfl, hT, hB, hgw, hgf, hbel⟩)
  have c3 : w1.cell? ⟨gw, 3, none⟩ = some (.pointer (some ⟨p.g, 0, none⟩)) := hB.cell 3
  have P0 := put_new (key := ⟨#[97]⟩) (val := ⟨#[49]⟩) hT ((room_new 30).mono (by omega)) (by decide) (by decide) oneA_may
  obtain ⟨gp, hgp⟩ : ∃ z, z = p.g := ⟨_, rfl⟩
  rw [← hgp] at P0 c3
  have P := Lib.hid P0
  have HGp := Lib.hid hgp
  have HT := Lib.hid hT
  have HB := Lib.hid hB
  have HGf := Lib.hid hgf
  have HBel := Lib.hid hbel
  clear P0 hT hB hgw hgf hbel hgp B
  go_upto_region 5 with ((with_reducible refine Calls.mono P.out ?_); rintro e w2 ⟨n, p2, rfl, hn1, hn2, _, hc2⟩)
  have HB2 := Lib.hid (hc2.K.blk HB.out HGf.out)
  have HF2 := Lib.hid (hc2.away HGf.out HB.out.lt)
  have c3 : w2.cell? ⟨gw, 3, none⟩ = some (.pointer (some ⟨gp, 0, none⟩)) := by rw [HGp.out]; exact HB2.out.cell 3
  have G0 := tget_a hc2.tr (show updT (fun _ => none) n (some (oneLeaf ⟨#[97]⟩ ⟨#[49]⟩)) n = some oneA from if_pos rfl) (by omega)
  rw [hc2.g, ← HGp.out] at G0
  have G := Lib.hid G0
  have HC2 := Lib.hid hc2
  have h50 : (50 : Int) ≤ (n : Int) := by omega
  clear G0 hc2 P HB hn1 hn2
  go_upto_region 6 with ((with_reducible refine Calls.mono G.out ?_); rintro e w3 ⟨rfl, p3, hc3⟩)
  have HB3 := Lib.hid (hc3.K.blk HB2.out HF2.out)
  have HF3 := Lib.hid (hc3.away HF2.out HB2.out.lt)
  have HC3 := Lib.hid (HC2.out.trans hc3)
  have c3 : w3.cell? ⟨gw, 3, none⟩ = some (.pointer (some ⟨gp, 0, none⟩)) := by rw [HGp.out]; exact HB3.out.cell 3
  have G0 := tget_b HC3.out.tr (show updT (fun _ => none) n (some (oneLeaf ⟨#[97]⟩ ⟨#[49]⟩)) n = some oneA from if_pos rfl) (by omega)
  rw [HC3.out.g, ← HGp.out] at G0
  have G2 := Lib.hid G0
  clear G0 hc3 G HB2 HF2
  go_upto_region 7 with ((with_reducible refine Calls.mono G2.out ?_); rintro e w4 ⟨rfl, p4, hc4⟩)
  have HBel4 := Lib.hid (HBel.out.trans ((HC3.out.trans hc4).bel HT.out))
  have hq : ((⟨#[49]⟩ : ByteArray).toList == (⟨#[49]⟩ : ByteArray).toList) = true := beq_self_eq_true _
  clear G2 c3 HC3 HB3 hc4 HC2 HT
  go_wp2
  go_ret
  exact ⟨rfl, HBel4.out⟩
end Go.Proofs.Ytdakohbfibcjeaa
