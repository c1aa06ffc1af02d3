/- The statements of layer 13: their own example. No condition. -/
import Derived.Test.YtjndopmjlbhajaaCaJ
import Derived.Test.YtjndopmjlbhajaaDkLaws
namespace Go.Proofs.Ytjndopmjlbhajaa
open Go.RowKit Go.Maps
set_option linter.unusedSimpArgs false
set_option linter.unusedVariables false

theorem gBlk_own {n k : Nat} {l : List UInt8} (hn : n ≤ 65535) (h1 : 1 ≤ k) (h2 : k ≤ 4) (hl : l.length ≤ 240) : gBlk (n : Int) (blkSector n k l) = (0, k, l) := by
  unfold gBlk
  rw [if_neg (by rw [length_blkSector _ _ _ (by omega)]; omega), if_pos (drop_sector n k l (by omega)), blkLen_sector n k l (by omega), if_neg (by omega), blkKind_sector n k l (by omega), blkBody_sector n k l (by omega), if_pos ⟨by unfold blkMay; omega, by simp⟩]
theorem gBlk_zero (n : Int) : gBlk n (List.replicate 256 0) = (6, 0, []) := by
  unfold gBlk
  rw [if_neg (by rw [List.length_replicate]; omega), if_neg (by decide +kernel)]
theorem readB_new {N n : Nat} : readB (newD N) n = (6, 0, []) := gBlk_zero _
theorem hasD_write {t : Dsk} (hc : t.cut = false) (k : Nat) (x : List UInt8) : hasD (writeD t k x) k = x := by
  rw [write_new hc]
  unfold hasD
  rw [show (writeS t k x).vers k = t.vers k ++ [x] from if_pos rfl]
  simp
theorem dirtyN_put {N n : Nat} {s : Ca} {x : Bk} (hd : ∀ m, s.dirty m = false) (hn : n < N) : dirtyN N (putC s n x) = [n] := by
  have e : ∀ m, (putC s n x).dirty m = decide (m = n) := fun m => by
    show (if m = n then true else (if (m : Int) = (n : Int) then false else s.dirty m)) = _
    by_cases em : m = n
    · rw [if_pos em]; simp [em]
    · rw [if_neg em, if_neg (by omega), hd m]; simp [em]
  have hp : (dirtyN N (putC s n x)).Perm [n] := by
    refine (List.perm_ext_iff_of_nodup ?_ (by simp)).2 fun m => ?_
    · exact (dirtyN_asc N _).imp (fun h => by omega)
    · rw [mem_dirtyN, e m]
      simp
      intro h; rw [h]; exact hn
  exact List.perm_singleton.1 hp
theorem dirtyN_none {N : Nat} {s : Ca} (hd : ∀ m, m < N → s.dirty m = false) : dirtyN N s = [] := by
  unfold dirtyN
  rw [List.filter_eq_nil_iff]
  intro m hm
  rw [hd m (List.mem_range.1 hm)]
  simp
/-- one block is put, all is flushed: what the disk has -/
theorem flush_one {t : Dsk} (hc : t.cut = false) {s : Ca} (hd : ∀ m, s.dirty m = false) {n : Nat} (hn : n < t.n) {x : Bk} : (flushC t (putC s n x)).1 = writeD t n (blkSector n x.k x.b) := by
  unfold flushC
  rw [dirtyN_put hd hn]
  show writeD t ([n].getD 0 0) (secOf (putC s n x) ([n].getD 0 0)) = _
  show writeD t n (secOf (putC s n x) n) = _
  unfold secOf
  have e : (putC s n x).blocks n = some x := by
    show (if n = n then some x else _) = _
    exact if_pos rfl
  rw [e]
  rfl
theorem flush_none {t : Dsk} {s : Ca} (hd : ∀ m, m < t.n → s.dirty m = false) : flushC t s = (t, s) := by
  unfold flushC
  rw [dirtyN_none hd]
  rfl
def xa : Bk := ⟨3, [97]⟩
def sa : Ca := putC (newC 2) 52 xa
theorem sa_ok : CaOk 60 sa := put_c_ok (new_ok ⟨by omega, by omega⟩) (by omega) (by omega) ⟨by decide, by decide, by decide⟩
theorem sa_put : putR (newD 60) (newC 2) 52 3 [97] = (0, sa) := rfl
theorem sa_get : getC (newD 60) sa 52 = (0, xa, sa) := rfl
theorem sa_flush : (flushC (newD 60) sa).1 = writeD (newD 60) 52 (blkSector 52 3 [97]) := flush_one rfl (fun _ => rfl) (by show 52 < 60; omega)

set_option maxRecDepth 100000 in
set_option maxHeartbeats 4000000 in
theorem lives13_any (w : World) : Calls Try.prog 15 #[] w fun e w' => e = .returned (.bool true) ∧ Below w.heap.size w w' := by
  have D0 := dnew_ok 60 (by omega) w
  push_cast at D0
  have D := Lib.hid D0
  clear D0
  go_enter Try.func15, Try.ntmps15
  go_upto_region 4 with ((with_reducible refine Calls.mono D.out ?_); rintro e w1 ⟨d, rfl, hd1, hb1⟩)
  have N0 := cnew_ok hd1 hb1.size (room := 2) (by omega) (by omega)
  push_cast at N0
  have N := Lib.hid N0
  have HB1 := Lib.hid hb1
  clear N0 hd1 hb1 D
  go_upto_region 7 with ((with_reducible refine Calls.mono N.out ?_); rintro e w2 ⟨k, rfl, hcd2, hb2⟩)
  have HC2 := Lib.hid hcd2
  have HB2 := Lib.hid (HB1.out.trans (hb2.mono HB1.out.size))
  clear hcd2 hb2 N HB1
  have kc := Lib.run_convert_bytes_const (P := Try.prog) w2 31 5 #[.int .u8 97] 1 1 Try.underlying31 Try.underlying5
  go_upto_region 8 with fail
  have hal : Below w2.heap.size w2 ((w2.alloc (.cells #[.int .u8 97] 5 (1, 2))).alloc (.cells #[.int .i64 3, .slice (some ⟨w2.heap.size, 0, none⟩) 1 1] 33)) := ((Below.refl _ _).alloc (Nat.le_refl _) _).alloc (by simp) _
  have hbs : Bs ((w2.alloc (.cells #[.int .u8 97] 5 (1, 2))).alloc (.cells #[.int .i64 3, .slice (some ⟨w2.heap.size, 0, none⟩) 1 1] 33)) 0 (some ⟨w2.heap.size, 0, none⟩) 1 1 [97] := (bs_const (w := w2) 5 [97] (1, 2) (m := 1) rfl (by omega)).below ((Below.refl _ _).alloc (Nat.le_refl _) _) (Nat.le_refl _)
  have hblk : Blk ((w2.alloc (.cells #[.int .u8 97] 5 (1, 2))).alloc (.cells #[.int .i64 3, .slice (some ⟨w2.heap.size, 0, none⟩) 1 1] 33)) (w2.heap.size + 1) 33 [.int .i64 3, .slice (some ⟨w2.heap.size, 0, none⟩) 1 1] := Blk.new_at (cs := [.int .i64 3, .slice (some ⟨w2.heap.size, 0, none⟩) 1 1]) (by simp)
  have hnf : ¬ footC d k w2.heap.size := fun y => by have := (HC2.out.foot_base _ y).2; omega
  have hcd3 := HC2.out.below hal (Nat.le_refl _)
  have hB3 := HB2.out.trans (hal.mono HB2.out.size)
  refine wp_world (fun U => CD U w.heap.size d k (newD 60) (newC 2) ∧ Blk U (w2.heap.size + 1) 33 [.int .i64 3, .slice (some ⟨w2.heap.size, 0, none⟩) 1 1] ∧ Bs U 0 (some ⟨w2.heap.size, 0, none⟩) 1 1 [97] ∧ Below w.heap.size w U) ⟨hcd3, hblk, hbs, hB3⟩ ?_
  clear kc hal hbs hblk hcd3 hB3 HC2 HB2
  generalize w2.heap.size + 1 = g5
  generalize w2.heap.size = g0 at hnf ⊢
  rintro U ⟨hcd, hblk, hbs, hB⟩
  have P0 := put_any_c hcd (new_ok ⟨by omega, by omega⟩) (z := 52) (kd := 3) ⟨by omega, by omega⟩ hbs (fun _ b e y => by injection e with e; have e : g0 = b := e; rw [← e] at y; exact hnf (hard_foot y))
  rw [sa_put] at P0
  have P := Lib.hid P0
  obtain ⟨kg, hkg⟩ : ∃ z, z = k.g := ⟨_, rfl⟩
  obtain ⟨gd, hgd⟩ : ∃ z, z = d.g := ⟨_, rfl⟩
  rw [← hkg] at P
  rw [← hkg, ← hgd]
  have x5 := hblk.cells
  have HKg := Lib.hid hkg
  have HGd := Lib.hid hgd
  have HCd := Lib.hid hcd
  have HB := Lib.hid hB
  clear P0 hkg hgd hcd hblk hbs hB
  go_upto_region 9 with ((with_reducible refine Calls.mono P.out ?_); rintro e w3 ⟨rfl, k3, hc3⟩)
  have hc3b : CCh U w3 w.heap.size d d k k3 (newD 60) sa := hc3
  have G0 := get_any_c hc3b.cd sa_ok (z := 52)
  rw [sa_get, hc3b.gk, ← HKg.out] at G0
  have G := Lib.hid G0
  have HC3 := Lib.hid hc3b
  have HB3 := Lib.hid (HB.out.trans (hc3b.bel HCd.out))
  clear G0 hc3 hc3b P x5 HB
  go_upto_region 10 with ((with_reducible refine Calls.mono G.out ?_); rintro e w4 hG; obtain ⟨k4, A4, c4, he, hc4, ho4, hf4⟩ := hG; obtain rfl : e = .returned (.tuple #[.agg #[.int .i64 3, .slice A4 1 c4], .int .i64 0]) := he)
  have hal : Below w4.heap.size w4 (w4.alloc (.cells #[.int .i64 3, .slice A4 1 c4] 33)) := (Below.refl _ _).alloc (Nat.le_refl _) _
  have hC4 := hc4.cd.below hal (Nat.le_refl _)
  have hbs4 : Bs w4 w3.heap.size A4 1 c4 [97] := own_bs ho4
  have hblk4 : Blk (w4.alloc (.cells #[.int .i64 3, .slice A4 1 c4] 33)) w4.heap.size 33 [.int .i64 3, .slice A4 1 c4] := Blk.new _ _ _
  have hB4 := (HB3.out.trans (hc4.bel HC3.out.cd)).trans (hal.mono (Nat.le_trans HB3.out.size hc4.K.size))
  have hn4 : ¬ footC d k4 w4.heap.size := fun y => by have := (hc4.cd.foot_base _ y).2; omega
  have hk4 : kg = k4.g := by rw [HKg.out, ← HC3.out.gk]; exact hc4.gk.symm
  refine wp_world (fun U => CD U w.heap.size d k4 (newD 60) sa ∧ Blk U w4.heap.size 33 [.int .i64 3, .slice A4 1 c4] ∧ Bs U 0 A4 1 c4 [97] ∧ Below w.heap.size w U) ⟨hC4, hblk4, (hbs4.below hal (Nat.le_refl _)).weak (Nat.zero_le _), hB4⟩ ?_
  clear hal hC4 hbs4 hblk4 hB4 hc4 ho4 HC3 HB3 HCd G HKg
  generalize w4.heap.size = g7 at hn4 ⊢
  rintro U4 ⟨hcd, hblk, hbs, hB⟩
  have F0 := flush_any_c hcd sa_ok (fun j hj => by show 0 < _; omega)
  rw [← hk4] at F0
  have F := Lib.hid F0
  have HN4 := Lib.hid hn4
  have HF4 := Lib.hid hf4
  have HCd := Lib.hid hcd
  have HBlk := Lib.hid hblk
  have HBs := Lib.hid hbs
  have HB := Lib.hid hB
  clear F0 hcd hblk hbs hB hk4 hn4 hf4
  go_upto_region 11 with ((with_reducible refine Calls.mono F.out ?_); rintro e w5 ⟨rfl, d5, k5, hc5⟩)
  have hbs5 := Bs.off hc5 HBs.out (fun _ b e y => HF4.out b e (hard_foot y))
  have hblk5 := hc5.K.blk HBlk.out (fun y => HN4.out (hard_foot y))
  have ht5 : (flushC (newD 60) sa).1 = writeD (newD 60) 52 (blkSector 52 3 [97]) := sa_flush
  have R0 := dread_ok hc5.cd.dk (k := 52) (by rw [ht5]; show 52 < 60; omega)
  rw [ht5, hasD_write rfl, hc5.gd, ← HGd.out] at R0
  push_cast at R0
  have R := Lib.hid R0
  have HB5 := Lib.hid (HB.out.trans (hc5.bel HCd.out))
  have HBs5 := Lib.hid hbs5
  have HBlk5 := Lib.hid hblk5
  clear R0 hc5 hbs5 hblk5 ht5 F HCd HBlk HBs HB
  go_upto_region 12 with ((with_reducible refine Calls.mono R.out ?_); rintro e w6 ⟨gr, rfl, hx6, hg6, hb6⟩)
  have G0 := rget_u (52 : Nat) (hx6.bs0 0 256 256 (Nat.zero_le _) (Nat.le_refl _) (by omega) (length_blkSector _ _ _ (by decide)))
  rw [gBlk_own (by omega) (by omega) (by omega) (by decide)] at G0
  push_cast at G0
  have G := Lib.hid G0
  have HB6 := Lib.hid (HB5.out.trans (hb6.mono HB5.out.size))
  have HBs6 := Lib.hid (HBs5.out.below hb6 (Nat.le_refl _))
  have HBlk6 := Lib.hid (HBlk5.out.below hb6 HBlk5.out.lt)
  clear G0 hx6 hg6 hb6 R HB5 HBs5 HBlk5
  go_upto_region 13 with ((with_reducible refine Calls.mono G.out ?_); rintro e w7 hG; obtain ⟨A7, c7, he, hbs7, hb7⟩ := hG; obtain rfl : e = .returned (.tuple #[.agg #[.int .i64 3, .slice A7 1 c7], .int .i64 0]) := he)
  have hal : Below w7.heap.size w7 (w7.alloc (.cells #[.int .i64 3, .slice A7 1 c7] 33)) := (Below.refl _ _).alloc (Nat.le_refl _) _
  have hl6 := HBlk6.out.lt
  have hbs7' : Bs w7 w6.heap.size A7 1 c7 [97] := hbs7
  refine wp_world (fun U => Blk U g7 33 [.int .i64 3, .slice A4 1 c4] ∧ Blk U w7.heap.size 33 [.int .i64 3, .slice A7 1 c7] ∧ Bs U 0 A4 1 c4 [97] ∧ Bs U w6.heap.size A7 1 c7 [97] ∧ Below w.heap.size w U) ⟨(HBlk6.out.below hb7 hl6).below hal (by have := hb7.size; omega), Blk.new _ _ _, (HBs6.out.below hb7 (Nat.le_refl _)).below hal (Nat.le_refl _), hbs7'.below hal (Nat.le_refl _), (HB6.out.trans (hb7.mono HB6.out.size)).trans (hal.mono (Nat.le_trans HB6.out.size hb7.size))⟩ ?_
  generalize w7.heap.size = g12
  clear hal hbs7 hbs7' hb7 HBlk6 HBs6 HB6 G hl6
  rintro U7 ⟨h1, h2, h3, h4, h5⟩
  have x1 := h1.cells
  have x2 := h2.cells
  have v1 := conv_bs (P := Try.prog) 31 5 9 Try.underlying31 Try.underlying5 Try.underlying9 h3
  have v2 := conv_bs (P := Try.prog) 31 5 9 Try.underlying31 Try.underlying5 Try.underlying9 h4
  have H5 := Lib.hid h5
  clear h1 h2 h3 h4 h5
  go_wp2
  go_ret
  exact ⟨rfl, H5.out⟩
end Go.Proofs.Ytjndopmjlbhajaa
