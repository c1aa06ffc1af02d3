/- The program's Get of a block. -/
import Derived.Test.YtjndopmjlbhajaaBlk
import Derived.Test.YtjndopmjlbhajaaLibEq
import Derived.Test.YtjndopmjlbhajaaLibCl
import Derived.Deep.DeepCutAuto
import Derived.Deep.DeepMust
namespace Go.Proofs.Ytjndopmjlbhajaa
open Go.RowKit

theorem zero24 (w : World) : (zeroValue 33).run Try.prog w = .ok (.agg #[.int .i64 0, .slice none 0 0]) w := by kernel_rfl

theorem size24 : (Try.prog.info? 33).map (·.size) = some 2 := by kernel_rfl
theorem results_blk {fn : Func} {p t : Tmp} (h : fn.results = #[.cell p 33, .tmp t]) {tmps : Array Value} {w : World} {g : Nat} {v0 v1 x : Value}
    (hp : tmps.getD p undef = .pointer (some ⟨g, 0, none⟩)) (hx : tmps.getD t undef = x) (hB : Blk w g 33 [v0, v1]) : (results fn tmps).run Try.prog w = .ok (.tuple #[.agg #[v0, v1], x]) w := by
  have hr := run_loadVar_row (P := Try.prog) w g 33 33 #[v0, v1] (0, 0) _ hB Try.underlying33 rfl size24
  have hp' : tmps[p]?.getD undef = .pointer (some ⟨g, 0, none⟩) := by simpa using hp
  have hx' : tmps[t]?.getD undef = x := by simpa using hx
  simp [results, h, hp', hx', asAddr, hr]

/-- what Get answers beside an error -/
def noBlk (x : Nat) : Ending := .returned (.tuple #[.agg #[.int .i64 0, .slice none 0 0], .int .i64 x])

set_option maxHeartbeats 400000 in
theorem get_len (n : Int) {A : Option Addr} {m c : Nat} {w : World} (hm : m ≠ 256) :
    Calls Try.prog 32 #[.int .i64 n, .slice A m c] w fun e w' => e = noBlk 1 ∧ Below w.heap.size w w' := by
  have h1 : ((m : Int) != 256) = true := by rw [bne_iff_ne]; omega
  have hz := zero24
  go_enter Try.func32, Try.ntmps32
  go_wp2
  refine bodyPost_ret (v := .tuple #[.agg #[.int .i64 0, .slice none 0 0], .int .i64 1]) (by simp [results, Try.results32, go_sem]) rfl ⟨rfl, ?_⟩
  exact (Below.refl _ _).alloc (Nat.le_refl _) _

set_option maxHeartbeats 400000 in
theorem get_sum (n : Int) {A : Option Addr} {c lo : Nat} {l : List UInt8} {w : World} (hb : Bs w lo A 256 c l) (hs : ¬ l.drop 252 = le4 (crc (l.take 252))) :
    Calls Try.prog 32 #[.int .i64 n, .slice A 256 c] w fun e w' => e = noBlk 6 ∧ Below w.heap.size w w' := by
  have hz := zero24
  have HS := Lib.hid (show decide (l.drop 252 = le4 (crc (l.take 252))) = false from by simp [hs])
  clear hs
  obtain ⟨b, o, rfl, _, hbs⟩ := hb.at_ (by omega)
  have hc : (252 : Int) ≤ (c : Int) := by have := hb.2.1; omega
  have hd : 256 ≤ c := hb.2.1
  have hx := hb.2.2.1
  have hb1 : Bs (w.alloc (Obj.cells #[Value.int IntKind.i64 0, Value.slice none 0 0] 33)).drew lo (some ⟨b, o, none⟩) 256 c l := (hb.below (B := w.heap.size) (((Below.refl _ _).alloc (Nat.le_refl _) _).drew) (Nat.le_refl _))
  have q1 := hb1.take 252 (by omega)
  have q2 := hb1.cut 252 256 (by omega) (by omega)
  rw [List.take_of_length_le (by have := hb.1; simp; omega)] at q2
  have Q1 := Lib.hid q1
  have Q2 := Lib.hid q2
  clear q1 q2 hb1
  clear hb
  go_enter Try.func32, Try.ntmps32
  go_wp2
  go_region_held3 (fun w' => True) (first | trivial)
    (first | (go_at_call 53; refine (sum_any Q1.out).mono ?_; rintro e w3 ⟨rfl, rfl⟩) | (go_at_call 58; refine (equal_b (Q2.out.below (B := w.heap.size + 1) ((Below.refl _ _).alloc (by simp) _) (by simp)) ((le4_new _ (by simp))) HS.out).mono ?_; rintro e w3 ⟨rfl, rfl⟩))
  go_wp2
  refine bodyPost_ret (v := .tuple #[.agg #[.int .i64 0, .slice none 0 0], .int .i64 6]) (by simp [results, Try.results32, go_sem]) rfl ⟨rfl, ?_⟩
  exact (((Below.refl _ _).alloc (Nat.le_refl _) _).alloc (by simp) _).drew

set_option maxHeartbeats 400000 in
theorem get_big (n : Int) {A : Option Addr} {c lo : Nat} {l : List UInt8} {w : World} (hb : Bs w lo A 256 c l) (hs : l.drop 252 = le4 (crc (l.take 252))) (hk : 240 < blkLen l) :
    Calls Try.prog 32 #[.int .i64 n, .slice A 256 c] w fun e w' => e = noBlk 7 ∧ Below w.heap.size w w' := by
  have hz := zero24
  have HS := Lib.hid (show decide (l.drop 252 = le4 (crc (l.take 252))) = true from by simp [hs])
  clear hs
  obtain ⟨b, o, rfl, _, hbs⟩ := hb.at_ (by omega)
  have hc : (252 : Int) ≤ (c : Int) := by have := hb.2.1; omega
  have hd : 256 ≤ c := hb.2.1
  have hx := hb.2.2.1
  have hb1 : Bs (w.alloc (Obj.cells #[Value.int IntKind.i64 0, Value.slice none 0 0] 33)).drew lo (some ⟨b, o, none⟩) 256 c l := (hb.below (B := w.heap.size) (((Below.refl _ _).alloc (Nat.le_refl _) _).drew) (Nat.le_refl _))
  have q1 := hb1.take 252 (by omega)
  have q2 := hb1.cut 252 256 (by omega) (by omega)
  rw [List.take_of_length_le (by have := hb.1; simp; omega)] at q2
  have Q1 := Lib.hid q1
  have Q2 := Lib.hid q2
  clear q1 q2 hb1
  have c1 : w.cell? ⟨b, o + 1, none⟩ = some (.int .u8 (blkLen l : Nat)) := hb.cell 1 (by omega)
  have hk2 : blkLen l < 256 := (l.getD 1 0).toNat_lt
  generalize blkLen l = k at *
  clear hb
  go_enter Try.func32, Try.ntmps32
  go_wp2
  go_region_held3 (fun w' => True) (first | trivial)
    (first | (go_at_call 53; refine (sum_any Q1.out).mono ?_; rintro e w3 ⟨rfl, rfl⟩) | (go_at_call 58; refine (equal_b (Q2.out.below (B := w.heap.size + 1) ((Below.refl _ _).alloc (by simp) _) (by simp)) ((le4_new _ (by simp))) HS.out).mono ?_; rintro e w3 ⟨rfl, rfl⟩))
  go_wp2
  refine bodyPost_ret (v := .tuple #[.agg #[.int .i64 0, .slice none 0 0], .int .i64 7]) (by simp [results, Try.results32, go_sem]) rfl ⟨rfl, ?_⟩
  exact (((Below.refl _ _).alloc (Nat.le_refl _) _).alloc (by simp) _).drew

/-- a block that was read: its kind, and its bytes in memory of their own -/
def GetT (w : World) (n : Int) (kd k : Nat) (bd l : List UInt8) (e : Ending) (w' : World) : Prop :=
  if blkMay n kd k ∧ blkSector n.toNat kd bd = l then ∃ A' c', e = .returned (.tuple #[.agg #[.int .i64 kd, .slice A' k c'], .int .i64 0]) ∧ Own w' w.heap.size 5 1 A' k c' (bvs bd) ∧ Below w.heap.size w w'
  else e = noBlk 7 ∧ Below w.heap.size w w'
def GetTail (w : World) (n : Int) (l : List UInt8) (e : Ending) (w' : World) : Prop := GetT w n (blkKind l) (blkLen l) (blkBody l) l e w'

set_option maxHeartbeats 1000000 in
theorem get_tail (n : Int) {A : Option Addr} {c lo : Nat} {l : List UInt8} {w : World} (hb : Bs w lo A 256 c l) (hs : l.drop 252 = le4 (crc (l.take 252))) (hk : blkLen l ≤ 240) :
    Calls Try.prog 32 #[.int .i64 n, .slice A 256 c] w fun e w' => GetTail w n l e w' := by
  have hz := zero24
  have HS := Lib.hid (show decide (l.drop 252 = le4 (crc (l.take 252))) = true from by simp [hs])
  clear hs
  obtain ⟨b, o, rfl, _, hbs⟩ := hb.at_ (by omega)
  have hc : (252 : Int) ≤ (c : Int) := by have := hb.2.1; omega
  have hd : 256 ≤ c := hb.2.1
  have hx := hb.2.2.1
  have hb1 : Bs (w.alloc (Obj.cells #[Value.int IntKind.i64 0, Value.slice none 0 0] 33)).drew lo (some ⟨b, o, none⟩) 256 c l := (hb.below (B := w.heap.size) (((Below.refl _ _).alloc (Nat.le_refl _) _).drew) (Nat.le_refl _))
  have q1 := hb1.take 252 (by omega)
  have q2 := hb1.cut 252 256 (by omega) (by omega)
  rw [List.take_of_length_le (by have := hb.1; simp; omega)] at q2
  have Q1 := Lib.hid q1
  have Q2 := Lib.hid q2
  clear q1 q2 hb1
  have c0 : w.cell? ⟨b, o, none⟩ = some (.int .u8 (blkKind l : Nat)) := hb.cell 0 (by omega)
  have c1 : w.cell? ⟨b, o + 1, none⟩ = some (.int .u8 (blkLen l : Nat)) := hb.cell 1 (by omega)
  have hk2 : blkKind l < 256 := (l.getD 0 0).toNat_lt
  have q3 := hb.cut 8 (8 + blkLen l) (by omega) (by omega)
  rw [Nat.add_sub_cancel_left] at q3
  have Q3 := Lib.hid q3
  clear q3
  have hbl := length_blkBody l hb.1 hk
  have HB : Hid (GetTail w n l = GetT w n (blkKind l) (blkLen l) (blkBody l) l) := rfl
  have Q3' : Hid (Bs w lo (some ⟨b, o + 8, none⟩) (blkLen l) (c - 8) (blkBody l)) := Q3
  clear Q3
  have Q0 := Lib.hid hb
  generalize blkLen l = k at *
  generalize blkKind l = kd at *
  generalize blkBody l = bd at *
  clear hb
  go_enter Try.func32, Try.ntmps32
  go_wp2
  go_region_held3 (fun w' => True) (first | trivial)
    (first | (go_at_call 53; refine (sum_any Q1.out).mono ?_; rintro e w3 ⟨rfl, rfl⟩) | (go_at_call 58; refine (equal_b (Q2.out.below (B := w.heap.size + 1) ((Below.refl _ _).alloc (by simp) _) (by simp)) ((le4_new _ (by simp))) HS.out).mono ?_; rintro e w3 ⟨rfl, rfl⟩))
  go_wp2
  refine wp_world (fun W => Below w.heap.size w W ∧ w.heap.size < W.heap.size ∧ Blk W w.heap.size 33 [.int .i64 0, .slice none 0 0]) ⟨(((Below.refl _ _).alloc (Nat.le_refl _) _).alloc (by simp) _).drew, by show _ < (World.alloc _ _).heap.size; simp; omega, ((Blk.new_at (cs := [.int .i64 0, .slice none 0 0]) rfl).alloc _).drew⟩ ?_
  rintro W ⟨hbW, hzW, hD⟩
  clear HS Q1 Q2
  go_cut [7] (fun s7 wx => ∃ g A' c', s7 = .pointer (some ⟨g, 0, none⟩) ∧ w.heap.size < g ∧ Blk wx g 33 [.int .i64 kd, .slice A' k c'] ∧ Own wx (w.heap.size + 1) 5 1 A' k c' (bvs bd) ∧ Blk wx w.heap.size 33 [.int .i64 0, .slice none 0 0] ∧ Below w.heap.size w wx)
  case first =>
    have s1 : IntKind.i64.wrap (8 + (k : Int)) = 8 + (k : Int) := IntWalk.i64_in _ (by omega)
    have s2 : (8 + (k : Int)).toNat = 8 + k := by omega
    have s3 : (8 : Int) + (k : Int) ≤ (c : Int) := by omega
    have s4 : (8 : Int) ≤ 8 + (k : Int) := by omega
    have s5 : ¬ c = 8 := by omega
    have c0 : W.cell? ⟨b, o, none⟩ = some (.int .u8 kd) := (hbW.cell (p := ⟨b, o, none⟩) hbs).trans c0
    have hbs : b < W.heap.size := by omega
    have hbs2 : b < W.heap.size + 1 := by omega
    have hne : ¬ b = W.heap.size := by omega
    have hne' : ¬ W.heap.size = b := by omega
    go_region_held3 (fun w' => w'.cell? ⟨b, o, none⟩ = some (.int .u8 kd)) (first | go_keep)
      (first
        | (go_at_call 59; refine (clone_any (Q3'.out.below hbW.drew (Nat.le_refl _)) (by omega)).mono ?_; rintro e w3 ⟨A1, c3, rfl, ho1, hb1⟩; have hk0 : w3.cell? ⟨b, o, none⟩ = some (.int .u8 kd) := (hb1.cell (p := ⟨b, o, none⟩) hbs).trans c0; have hk1 : b < w3.heap.size := Nat.lt_of_lt_of_le hbs hb1.size)
        | (go_at_call 59; refine (clone_any (Q3'.out.below ((hbW.alloc hbW.size _).drew) (Nat.le_refl _)) (by omega)).mono ?_; rintro e w3 ⟨A1, c3, rfl, ho1, hb1⟩; have hk0 : w3.cell? ⟨b, o, none⟩ = some (.int .u8 kd) := (hb1.cell (p := ⟨b, o, none⟩) (by simp; omega)).trans (by go_simp); have hk3 : Blk w3 W.heap.size 33 [.int .i64 0, .slice none 0 0] := (Blk.new_at (w := W) (cs := [.int .i64 0, .slice none 0 0]) rfl).drew.below hb1 (by simp); have hk4 := hk3.cells; have hk5 := hk3.frees))
    all_goals go_wp2_with fail
    all_goals go_meet
    · have hw : W.heap.size ≤ w3.heap.size := hb1.size
      have hb2 : Below w.heap.size w w3 := hbW.drew.trans (hb1.mono hbW.size)
      exact ⟨_, A1, c3, rfl, by omega, by rw [IntWalk.i64_in (kd : Int) (by omega)]; exact Blk.new_at (cs := [.int .i64 kd, .slice A1 k c3]) rfl, (ho1.alloc _).weak hzW, (hD.drew.below hb1 hzW).alloc _, hb2.alloc hb2.size _⟩
    · have hb2 : Below w.heap.size w w3 := ((hbW.alloc hbW.size _).drew).trans (hb1.mono (by have := hbW.size; simp; omega))
      refine ⟨_, A1, c3, rfl, hzW, ?_, ((ho1.far (by simp) _).far (by simp) _).weak (by simp; omega), ((((hD.alloc _).drew.below hb1 (by simp; omega)).far (by simp; omega) _).far (by simp; omega) _), (hb2.setCell (by simp; exact hbW.size) _).setCell (by simp; exact hbW.size) _⟩
      rw [IntWalk.i64_in (kd : Int) (by omega)]
      exact (hk3.set_ 0 _).set_ 1 _
  case rest =>
    obtain ⟨g, A1, c2, rfl, hgz, hg, ho, hD1, hb1⟩ := hcut
    clear hD hbW hzW
    have hgc := hg.cells
    have hz1 := hb1.size
    have hzD := hD1.lt
    by_cases hm : blkMay n kd k
    · obtain ⟨n', rfl⟩ := Int.eq_ofNat_of_zero_le hm.1
      have hm' := hm
      unfold blkMay at hm'
      go_upto_region 10 with (go_at_call 27; refine (put_ok n' kd (own_bs ho) (by omega) (by omega) (by omega) (by omega)).mono ?_; rintro e w3 ⟨rfl, hs, hb3⟩)
      have r1 := Lib.hid (hs.bs0 0 256 256 (Nat.zero_le _) (by omega) (by omega) (length_blkSector n' kd bd (by omega)))
      have r2 := Lib.hid (Q0.out.below (hb1.trans (hb3.mono hz1)) (Nat.le_refl _))
      have D3 := hD1.below hb3 hzD
      have D3c := D3.cells
      have D3f := D3.frees
      have G3 := hg.below hb3 hg.lt
      have G3c := G3.cells
      have O3 := ho.below hb3 (Nat.le_refl _)
      have HM := Lib.hid hm
      have hb5 := hb1.trans (hb3.mono hz1)
      clear hm hgc hs hb3
      by_cases he : blkSector n' kd bd = l
      · have HE := Lib.hid he
        have ht := Lib.hid (show decide (blkSector n' kd bd = l) = true by simp [he])
        clear he
        go_wp2_with (go_at_call 58; refine (equal_b r1.out r2.out ht.out).mono ?_; rintro e w4 ⟨rfl, rfl⟩)
        refine bodyPost_ret (results_blk rfl rfl rfl ((D3.set_ 0 _).set_ 1 _)) rfl ?_
        rw [HB.out, GetT, if_pos ⟨HM.out, HE.out⟩]
        exact ⟨A1, c2, rfl, ((O3.far (by simp) _).far (by simp) _).weak (by omega), (hb5.setCell (Nat.le_refl _) _).setCell (Nat.le_refl _) _⟩
      · have HE := Lib.hid he
        have ht := Lib.hid (show decide (blkSector n' kd bd = l) = false by simp [he])
        clear he
        go_wp2_with (go_at_call 58; refine (equal_b r1.out r2.out ht.out).mono ?_; rintro e w4 ⟨rfl, rfl⟩)
        refine bodyPost_ret (results_blk rfl rfl rfl ((D3.set_ 0 _).set_ 1 _)) rfl ?_
        rw [HB.out, GetT, if_neg (fun h => HE.out h.2)]
        exact ⟨rfl, (hb5.setCell (Nat.le_refl _) _).setCell (Nat.le_refl _) _⟩
    · go_upto_region 10 with (go_at_call 27; refine (put_no _ _ (by unfold blkMay at hm; omega)).mono ?_; rintro e w3 ⟨rfl, hb3⟩)
      have D3 := hD1.below hb3 hzD
      have D3c := D3.cells
      have D3f := D3.frees
      have HM := Lib.hid hm
      clear hm hgc
      go_wp2_with fail
      refine bodyPost_ret (results_blk rfl rfl rfl ((D3.set_ 0 _).set_ 1 _)) rfl ?_
      rw [HB.out, GetT, if_neg (fun h => HM.out h.1)]
      exact ⟨rfl, ((hb1.trans (hb3.mono hz1)).setCell (Nat.le_refl _) _).setCell (Nat.le_refl _) _⟩
end Go.Proofs.Ytjndopmjlbhajaa
