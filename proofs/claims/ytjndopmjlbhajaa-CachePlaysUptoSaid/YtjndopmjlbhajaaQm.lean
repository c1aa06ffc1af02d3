/- The reference's cache (layer 13): lists of blocks with their numbers; find, without, Numbers. No condition beyond fewer than a million blocks. -/
import Derived.Test.YtjndopmjlbhajaaCaQ
import Derived.Test.YtjndopmjlbhajaaDkDeeds
import Derived.Test.YtjndopmjlbhajaaCaCo
namespace Go.Proofs.Ytjndopmjlbhajaa
open Go.RowKit Go.Maps
set_option linter.unusedSimpArgs false
set_option linter.unusedVariables false

/-- a block with its number -/
structure Hd where
  N : Nat
  k : Nat
  A : Option Addr
  c : Nat
  b : List UInt8
def hz : Hd := ⟨0, 0, none, 0, []⟩
def hc (x : Hd) : List Value := [.int .i64 x.N, .int .i64 x.k, .slice x.A x.b.length x.c]
def Hs (L : List Hd) : List Value := L.flatMap hc
theorem hs_len (L : List Hd) : (Hs L).length = L.length * 3 := by
  induction L with
  | nil => rfl
  | cons x L ih =>
    show (hc x ++ Hs L).length = _
    rw [List.length_append, ih]
    show 3 + _ = (L.length + 1) * 3
    omega
theorem hs_snoc (L : List Hd) (x : Hd) : Hs L ++ hc x = Hs (L ++ [x]) := by unfold Hs; rw [List.flatMap_append]; simp
theorem hs_range (L : List Hd) : Hs L = (List.range L.length).flatMap fun i => hc (L.getD i hz) := by
  have e : L = (List.range L.length).map fun i => L.getD i hz := by
    apply List.ext_getElem
    · simp
    · intro i h1 h2
      simp [List.getElem?_eq_getElem h1]
  unfold Hs
  conv => lhs; rw [e]
  rw [List.flatMap_map]
theorem hc_one (x : Hd) : ∀ u ∈ hc x, u.oneCell' = true := by
  intro u hu
  simp [hc] at hu
  rcases hu with rfl | rfl | rfl <;> rfl
theorem hs_one (L : List Hd) : ∀ u ∈ Hs L, u.oneCell' = true := by
  intro u hu
  obtain ⟨x, _, hx⟩ := List.mem_flatMap.1 hu
  exact hc_one x u hx
theorem infoHd : (Try.prog.info? 95).map (fun i => (i.zero, i.size, i.bytes)) = some (some (.agg #[.int .i64 0, .int .i64 0, .slice none 0 0]), 3, 40) := by kernel_rfl
theorem sizeHd : (Try.prog.info? 95).map (·.size) = some 3 := by kernel_rfl
theorem fillHd (x y z : Value) (cells : Array Value) (hc : cells.size = 3) : Instr.fill (fun i => some (i * 3, 3)) cells [(0, .agg #[x, y, z])] = some #[x, y, z] := by
  have h := Great.fill_whole (s := 3) (by omega) [.agg #[x, y, z]] cells (by intro v hv; simp at hv; subst hv; simp [Value.cells]) (by simp [hc])
  simpa [Value.cells] using h
theorem run_builtHd (x y z : Value) (w : World) : (Instr.buildSlice 56 1 #[(0, .agg #[x, y, z])]).run Try.prog w = .ok (.slice (some ⟨w.heap.size, 0, none⟩) 1 1) (w.alloc (.cells #[x, y, z] 95)) := by
  obtain ⟨i, hi, hz, hsz, _⟩ := info_parts infoHd
  have h := fun cells hc => fillHd x y z cells hc
  have hs : (Value.agg #[.int .i64 0, .int .i64 0, .slice none 0 0]).cells.size = 3 := rfl
  simp [Instr.buildSlice, run_underlying Try.underlying56, sizeOf, typeInfo, zeroValue, hi, hz, hsz, newRow]
  rw [h _ (by simp)]
  simp
section
variable {w w' : World} {lo c : Nat} {A : Option Addr} {L : List Hd}
/-- one of a list's blocks -/
theorem hs_elem (h : Rd w lo A (Hs L)) {i : Nat} (hi : i < L.length) : ∃ b o, A = some ⟨b, o, none⟩ ∧ lo ≤ b ∧ b < w.heap.size ∧ w.rangeAt b (o + i * 3) (hc (L.getD i hz)) := by
  rw [hs_range] at h
  exact rd_elem (k := 3) h (fun _ _ => rfl) (by omega) hi
def FindR (L : List Hd) (z r : Int) : Prop := (∃ i, i < L.length ∧ r = (i : Int) ∧ ((L.getD i hz).N : Int) = z ∧ ∀ j, j < i → ¬ ((L.getD j hz).N : Int) = z) ∨ (r = -1 ∧ ∀ j, j < L.length → ¬ ((L.getD j hz).N : Int) = z)

set_option maxRecDepth 100000 in
set_option maxHeartbeats 2000000 in
theorem rfind_any (h : Rd w lo A (Hs L)) (hl : L.length ≤ 1000000) {z : Int} :
    Calls Try.prog 66 #[.slice A L.length c, .int .i64 z] w fun e w' => (∃ r, e = .returned (.int .i64 r) ∧ FindR L z r) ∧ w = w' := by
  have H := Lib.hid h
  clear h
  obtain ⟨n, hn⟩ : ∃ n, n = L.length := ⟨_, rfl⟩
  rw [← hn] at hl ⊢
  have HN := Lib.hid hn
  clear hn
  go_enter Try.func66, Try.ntmps66
  go_wp2
  go_loopw [5] (fun s5 wr => ∃ i : Nat, i ≤ n ∧ s5 = .int .i64 i ∧ (∀ j, j < i → ¬ ((L.getD j hz).N : Int) = z) ∧ w = wr) (fun s5 _ => n - (intOf s5).toNat)
  case atStart => exact ⟨0, by omega, rfl, fun j hj => absurd hj (by omega), rfl⟩
  case round =>
    obtain ⟨i, hi, rfl, hno, rfl⟩ := hrel
    have HNo := Lib.hid hno
    clear hno
    by_cases hlt : i < n
    · obtain ⟨b, o, rfl, _, hbl, hrg⟩ := hs_elem H.out (i := i) (by rw [← HN.out]; exact hlt)
      obtain ⟨x, hx⟩ : ∃ x, x = L.getD i hz := ⟨_, rfl⟩
      rw [← hx] at hrg
      have c0 : w.cell? ⟨b, o + i * 3, none⟩ = some (.int .i64 (x.N : Int)) := hrg 0 _ rfl
      have HX := Lib.hid hx
      clear hrg hx
      have hin : (i : Int) < (n : Int) := by omega
      by_cases e : (x.N : Int) = z
      · have HE := Lib.hid e
        have e2 : ((x.N : Int) == z) = true := beq_iff_eq.2 e
        clear e
        go_wp2
        go_ret
        exact ⟨⟨_, rfl, .inl ⟨i, by rw [← HN.out]; exact hlt, rfl, by rw [← HX.out]; exact HE.out, HNo.out⟩⟩, rfl⟩
      · have HE := Lib.hid e
        have e2 : ((x.N : Int) == z) = false := beq_eq_false_iff_ne.2 e
        clear e
        go_wp2
        go_roundw
        case rel =>
          refine ⟨i + 1, by omega, by norm_cast, fun j hj => ?_, trivial⟩
          by_cases ej : j = i
          · rw [ej, ← HX.out]; exact HE.out
          · exact HNo.out j (by omega)
        case measure => simp only [intOf]; omega
    · obtain rfl : i = n := by omega
      go_wp2
      go_ret
      exact ⟨⟨_, rfl, .inr ⟨rfl, fun j hj => HNo.out j (by rw [HN.out]; exact hj)⟩⟩, rfl⟩

/-- blocks but for one -/
def outH (L : List Hd) (z : Int) : List Hd := L.filter fun x => !((x.N : Int) == z)
theorem take_succ_getD (L : List Hd) {i : Nat} (hi : i < L.length) : L.take (i + 1) = L.take i ++ [L.getD i hz] := by
  rw [List.take_succ_eq_append_getElem hi]
  congr 2
  simp [List.getElem?_eq_getElem hi]
theorem outH_snoc (L : List Hd) (x : Hd) (z : Int) : outH (L ++ [x]) z = outH L z ++ (if (x.N : Int) = z then [] else [x]) := by
  unfold outH
  rw [List.filter_append]
  by_cases e : (x.N : Int) = z
  · simp [e]
  · simp [e]

set_option maxRecDepth 100000 in
set_option maxHeartbeats 2000000 in
theorem rwithout_any (h : Rd w lo A (Hs L)) (hl : L.length ≤ 1000000) {z : Int} :
    Calls Try.prog 69 #[.slice A L.length c, .int .i64 z] w fun e w' => ∃ A' c', e = .returned (.slice A' (outH L z).length c') ∧ Own w' w.heap.size 95 3 A' (outH L z).length c' (Hs (outH L z)) ∧ Below w.heap.size w w' := by
  have H := Lib.hid h
  clear h
  obtain ⟨n, hn⟩ : ∃ n, n = L.length := ⟨_, rfl⟩
  rw [← hn] at hl ⊢
  have HN := Lib.hid hn
  clear hn
  go_enter Try.func69, Try.ntmps69
  go_wp2
  go_loopw [5, 6] (fun s5 s6 wr => ∃ (i : Nat) (A' : Option Addr) (c' : Nat) (l : List Hd), i ≤ n ∧ s6 = .int .i64 i ∧ s5 = .slice A' l.length c' ∧ l = outH (L.take i) z ∧ l.length ≤ i ∧ Own wr w.heap.size 95 3 A' l.length c' (Hs l) ∧ Below w.heap.size w wr) (fun _ s6 _ => n - (intOf s6).toNat)
  case atStart => exact ⟨0, none, 0, [], by omega, rfl, rfl, rfl, Nat.le_refl _, Own.nil_ _ _ _ _, Below.refl _ _⟩
  case round =>
    obtain ⟨i, A', c', l, hi, rfl, rfl, hlo, hll, ho, hb⟩ := hrel
    have HLo := Lib.hid hlo
    have HO := Lib.hid ho
    have HB := Lib.hid hb
    have hzb := hb.size
    clear hlo ho hb
    by_cases hlt : i < n
    · have hlL : i < L.length := by rw [← HN.out]; exact hlt
      obtain ⟨b, o, rfl, _, hbl, hrg⟩ := hs_elem H.out hlL
      have hst := outH_snoc (L.take i) (L.getD i hz) z
      rw [← take_succ_getD L hlL, ← HLo.out] at hst
      obtain ⟨x, hx⟩ : ∃ x, x = L.getD i hz := ⟨_, rfl⟩
      rw [← hx] at hrg hst
      have hrw := range_kept hrg (HB.out.block b hbl)
      have c0 : wr.cell? ⟨b, o + i * 3, none⟩ = some (.int .i64 (x.N : Int)) := hrw 0 _ rfl
      have c1 : wr.cell? ⟨b, o + i * 3 + 1, none⟩ = some (.int .i64 (x.k : Int)) := hrw 1 _ rfl
      have c2 : wr.cell? ⟨b, o + i * 3 + 2, none⟩ = some (.slice x.A x.b.length x.c) := hrw 2 _ rfl
      have HSt := Lib.hid hst
      clear hrg hx hrw hst
      have hin : (i : Int) < (n : Int) := by omega
      by_cases e : (x.N : Int) = z
      · have e2 : ((x.N : Int) == z) = true := beq_iff_eq.2 e
        have e3 : ((x.N : Int) != z) = false := bne_eq_false_iff_eq.2 e
        have HS2 : Hid (l = outH (L.take (i + 1)) z) := Lib.hid (by rw [HSt.out, if_pos e, List.append_nil])
        clear e HSt
        go_wp2
        go_roundw
        case rel => exact ⟨i + 1, A', c', l, by omega, by norm_cast, rfl, HS2.out, by omega, HO.out, HB.out⟩
        case measure => simp only [intOf]; omega
      · have e2 : ((x.N : Int) == z) = false := beq_eq_false_iff_ne.2 e
        have e3 : ((x.N : Int) != z) = true := bne_iff_ne.2 e
        have HS2 : Hid (l ++ [x] = outH (L.take (i + 1)) z) := Lib.hid (by rw [HSt.out, if_neg e])
        have hbu := run_builtHd (.int .i64 (x.N : Int)) (.int .i64 (x.k : Int)) (.slice x.A x.b.length x.c)
        clear e HSt
        go_wp2_with (at_builtin; refine wpList_app rfl (.tmp 20) (.tmp 25) 56 rfl 95 3 Try.underlying56 infoHd (by simp [Value.cells]) (by omega) rfl (HO.out.alloc (.cells (hc x).toArray 95)) rfl ((Blk.new wr 95 (hc x)).rd0 (Nat.zero_le _)) rfl (hc_one x) (by omega) (by omega) (by simp; omega) ?_; intro A5 c5 w5 ho5 hg5 _)
        rw [hs_snoc] at ho5
        have hb5 := below_own (HB.out.alloc hzb _) (HO.out.alloc (.cells (hc x).toArray 95)) hg5 (Nat.le_refl _) (by simp; omega)
        have hl1 : l.length + 1 = (l ++ [x]).length := by simp
        rw [hl1] at ho5
        have HO5 := Lib.hid ho5
        have HB5 := Lib.hid hb5
        have HL1 := Lib.hid hl1
        clear ho5 hb5 hg5 hl1 hzb HO HB
        go_roundw
        case rel => exact ⟨i + 1, A5, c5, l ++ [x], by omega, by norm_cast, by rw [HL1.out], HS2.out, by simp; omega, HO5.out, HB5.out⟩
        case measure => simp only [intOf]; omega
    · obtain rfl : i = n := by omega
      have HD : Hid (outH L z = l) := Lib.hid (by rw [HLo.out, HN.out, List.take_length])
      go_wp2
      go_ret
      exact ⟨A', c', by rw [HD.out]; rfl, by rw [HD.out]; exact HO.out, HB.out⟩

set_option maxRecDepth 100000 in
set_option maxHeartbeats 2000000 in
theorem rnumbers_any (h : Rd w lo A (Hs L)) (hl : L.length ≤ 1000000) :
    Calls Try.prog 24 #[.slice A L.length c] w fun e w' => ∃ A' c', e = .returned (.slice A' (L.map Hd.N).length c') ∧ Own w' w.heap.size 3 1 A' (L.map Hd.N).length c' (iv (L.map Hd.N)) ∧ Below w.heap.size w w' := by
  have H := Lib.hid h
  clear h
  obtain ⟨n, hn⟩ : ∃ n, n = L.length := ⟨_, rfl⟩
  rw [← hn] at hl ⊢
  have HN := Lib.hid hn
  clear hn
  go_enter Try.func24, Try.ntmps24
  go_wp2
  go_loopw [3, 4] (fun s3 s4 wr => ∃ (i : Nat) (A' : Option Addr) (c' : Nat) (l : List Nat), i ≤ n ∧ s4 = .int .i64 i ∧ s3 = .slice A' l.length c' ∧ l = (L.take i).map Hd.N ∧ l.length ≤ i ∧ Own wr w.heap.size 3 1 A' l.length c' (iv l) ∧ Below w.heap.size w wr) (fun _ s4 _ => n - (intOf s4).toNat)
  case atStart => exact ⟨0, none, 0, [], by omega, rfl, rfl, rfl, Nat.le_refl _, Own.nil_ _ _ _ _, Below.refl _ _⟩
  case round =>
    obtain ⟨i, A', c', l, hi, rfl, rfl, hlo, hll, ho, hb⟩ := hrel
    have HLo := Lib.hid hlo
    have HO := Lib.hid ho
    have HB := Lib.hid hb
    have hzb := hb.size
    clear hlo ho hb
    by_cases hlt : i < n
    · have hlL : i < L.length := by rw [← HN.out]; exact hlt
      obtain ⟨b, o, rfl, _, hbl, hrg⟩ := hs_elem H.out hlL
      have hst : (L.take (i + 1)).map Hd.N = l ++ [(L.getD i hz).N] := by rw [take_succ_getD L hlL, List.map_append, ← HLo.out]; rfl
      obtain ⟨x, hx⟩ : ∃ x, x = L.getD i hz := ⟨_, rfl⟩
      rw [← hx] at hrg hst
      have hrw := range_kept hrg (HB.out.block b hbl)
      have c0 : wr.cell? ⟨b, o + i * 3, none⟩ = some (.int .i64 (x.N : Int)) := hrw 0 _ rfl
      have HSt := Lib.hid hst
      clear hrg hx hrw hst
      have hin : (i : Int) < (n : Int) := by omega
      go_wp2_with (at_builtin; refine wpList_app rfl (.tmp 11) (.tmp 17) 35 rfl 3 1 Try.underlying35 infoInt rfl (by omega) rfl (HO.out.alloc _) rfl (rd_one _ _ rfl) rfl (one_int _ _) (by omega) (by omega) (by simp; omega) ?_; intro A5 c5 w5 ho5 hg5 _)
      rw [iv_snoc] at ho5
      have hb5 := below_own (HB.out.alloc hzb _) (HO.out.alloc (.cells #[.int .i64 (x.N : Int)] 3)) hg5 (Nat.le_refl _) (by simp; omega)
      have hl1 : l.length + 1 = (l ++ [x.N]).length := by simp
      rw [hl1] at ho5
      have HO5 := Lib.hid ho5
      have HB5 := Lib.hid hb5
      have HL1 := Lib.hid hl1
      clear ho5 hb5 hg5 hl1 hzb HO HB
      go_roundw
      case rel => exact ⟨i + 1, A5, c5, l ++ [x.N], by omega, by norm_cast, by rw [HL1.out], HSt.out.symm, by simp; omega, HO5.out, HB5.out⟩
      case measure => simp only [intOf]; omega
    · obtain rfl : i = n := by omega
      have HD : Hid (L.map Hd.N = l) := Lib.hid (by rw [HLo.out, HN.out, List.take_length])
      go_wp2
      go_ret
      exact ⟨A', c', by rw [HD.out]; rfl, by rw [HD.out]; exact HO.out, HB.out⟩
end
end Go.Proofs.Ytjndopmjlbhajaa
namespace Go.Proofs.Ytjndopmjlbhajaa
open Go.RowKit Go.Maps
set_option linter.unusedSimpArgs false
set_option linter.unusedVariables false

/-- where the reference's cache lies -/
structure Qw where
  g : Nat
  dA : Option Addr
  dc : Nat
  cA : Option Addr
  cc : Nat
def Qw.foot (q : Qw) (D C : List Hd) : Nat → Prop := fun b => b = q.g ∨ ablk q.dA = some b ∨ ablk q.cA = some b ∨ ∃ x, (x ∈ D ∨ x ∈ C) ∧ ablk x.A = some b
structure Qk (w : World) (base : Nat) (q : Qw) (rg room : Nat) (D C : List Hd) : Prop where
  blk : Blk w q.g 58 [.pointer (some ⟨rg, 0, none⟩), .int .i64 (room : Int), .slice q.dA D.length q.dc, .slice q.cA C.length q.cc]
  gb : base ≤ q.g
  dl : Rd w base q.dA (Hs D)
  cl : Rd w base q.cA (Hs C)
  db : ∀ b, ablk q.dA = some b → base ≤ b ∧ b < w.heap.size ∧ b ≠ q.g
  cb : ∀ b, ablk q.cA = some b → base ≤ b ∧ b < w.heap.size ∧ b ≠ q.g
  dcap : D.length ≤ q.dc ∧ q.dc ≤ 9223372036854775807
  bd : ∀ x, x ∈ D ∨ x ∈ C → Own w base 5 1 x.A x.b.length x.c (bvs x.b)
section
variable {F : Nat → Prop} {w w' w2 : World} {base rg room : Nat} {q q' q2 : Qw} {D C D' C' D2 C2 : List Hd}
theorem rd_keptQ {lo : Nat} {A : Option Addr} {xs : List Value} (h : Rd w lo A xs) (K : Kept F w w') (hF : ∀ b, ablk A = some b → ¬ F b) : Rd w' lo A xs := fun hn => by
  obtain ⟨b, o, e, h1, h2, hc⟩ := h hn
  exact ⟨b, o, e, h1, Nat.lt_of_lt_of_le h2 K.size, fun k hk => (World.cell?_of_block (a := ⟨b, o + k, none⟩) (K.block b h2 (hF b (by rw [e]; rfl)))).trans (hc k hk)⟩
theorem Qk.foot_base (h : Qk w base q rg room D C) : ∀ b, q.foot D C b → base ≤ b ∧ b < w.heap.size := by
  rintro b (rfl | e | e | ⟨x, hx, e⟩)
  · exact ⟨h.gb, h.blk.lt⟩
  · exact ⟨(h.db b e).1, (h.db b e).2.1⟩
  · exact ⟨(h.cb b e).1, (h.cb b e).2.1⟩
  · exact (h.bd x hx).blk e
theorem Qk.kept (h : Qk w base q rg room D C) (K : Kept F w w') (hF : ∀ b, q.foot D C b → ¬ F b) : Qk w' base q rg room D C :=
  ⟨K.blk h.blk (hF _ (.inl rfl)), h.gb, rd_keptQ h.dl K (fun b e => hF b (.inr (.inl e))), rd_keptQ h.cl K (fun b e => hF b (.inr (.inr (.inl e)))),
   fun b e => ⟨(h.db b e).1, Nat.lt_of_lt_of_le (h.db b e).2.1 K.size, (h.db b e).2.2⟩, fun b e => ⟨(h.cb b e).1, Nat.lt_of_lt_of_le (h.cb b e).2.1 K.size, (h.cb b e).2.2⟩, h.dcap,
   fun x hx => own_kept (h.bd x hx) K (fun b e => hF b (.inr (.inr (.inr ⟨x, hx, e⟩))))⟩
theorem Qk.below {B : Nat} (h : Qk w base q rg room D C) (hb : Below B w w') (hB : w.heap.size ≤ B) : Qk w' base q rg room D C := h.kept (F := fun _ => False) (Kept.of_below hb hB) (fun _ _ x => x)
theorem Qk.bod_ne (h : Qk w base q rg room D C) {lo n c : Nat} {A : Option Addr} {l : List Value} (ho : Own w lo 5 1 A n c l) : ablk A ≠ some q.g := blk_own_ne h.blk ho (by decide)
/-- from w to w' the reference's cache q became q'; E: blocks that are new to it -/
structure Qch (E : Nat → Prop) (w w' : World) (base : Nat) (q q' : Qw) (rg room : Nat) (D C D' C' : List Hd) : Prop where
  qk : Qk w' base q' rg room D' C'
  g : q'.g = q.g
  K : Kept (fun b => b = q.g) w w'
  foot : ∀ b, q'.foot D' C' b → q.foot D C b ∨ E b ∨ w.heap.size ≤ b
theorem Qch.init (h : Qk w base q rg room D C) : Qch (fun _ => False) w w base q q rg room D C D C := ⟨h, rfl, Kept.refl _ _, fun _ x => .inl x⟩
theorem Qch.bel {E : Nat → Prop} (h : Qch E w w' base q q' rg room D C D' C') (h0 : Qk w base q rg room D C) : Below base w w' := h.K.below (Nat.le_trans h0.gb (Nat.le_of_lt h0.blk.lt)) (fun b e => by rw [e]; exact h0.gb)
theorem Qch.pre {E : Nat → Prop} {B : Nat} (h : Qch E w' w2 base q q' rg room D C D' C') (hb : Below B w w') (hB : w.heap.size ≤ B) : Qch E w w2 base q q' rg room D C D' C' :=
  ⟨h.qk, h.g, (Kept.of_below (F := fun b => b = q.g) hb hB).trans h.K (fun _ _ x => x), fun b x => by
    rcases h.foot b x with y | y | y
    · exact .inl y
    · exact .inr (.inl y)
    · exact .inr (.inr (Nat.le_trans hb.size y))⟩
theorem Qch.below {E : Nat → Prop} {B : Nat} (h : Qch E w w' base q q' rg room D C D' C') (hb : Below B w' w2) (hB : w'.heap.size ≤ B) : Qch E w w2 base q q' rg room D C D' C' :=
  ⟨h.qk.below hb hB, h.g, h.K.trans (Kept.of_below (F := fun _ => False) hb hB) (fun _ _ x => x.elim), h.foot⟩
theorem Qch.trans {E E2 E3 : Nat → Prop} (h : Qch E w w' base q q' rg room D C D' C') (k : Qch E2 w' w2 base q' q2 rg room D' C' D2 C2) (h1 : ∀ b, E b → E3 b) (h2 : ∀ b, E2 b → E3 b ∨ w.heap.size ≤ b) : Qch E3 w w2 base q q2 rg room D C D2 C2 :=
  ⟨k.qk, k.g.trans h.g, h.K.trans k.K (fun b _ e => e.trans h.g), fun b x => by
    rcases k.foot b x with y | y | y
    · rcases h.foot b y with z | z | z
      · exact .inl z
      · exact .inr (.inl (h1 b z))
      · exact .inr (.inr z)
    · rcases h2 b y with z | z
      · exact .inr (.inl z)
      · exact .inr (.inr z)
    · exact .inr (.inr (Nat.le_trans h.K.size y))⟩
theorem Qch.mono {E E2 : Nat → Prop} (h : Qch E w w' base q q' rg room D C D' C') (hE : ∀ b, E b → q.foot D C b ∨ E2 b ∨ w.heap.size ≤ b) : Qch E2 w w' base q q' rg room D C D' C' :=
  ⟨h.qk, h.g, h.K, fun b x => by
    rcases h.foot b x with y | y | y
    · exact .inl y
    · exact hE b y
    · exact .inr (.inr y)⟩
theorem Qch.poke {E : Nat → Prop} (h : Qch E w w' base q q' rg room D C D' C') {g : Nat} (K : Kept (fun b => b = g) w' w2) (hg : ¬ q'.foot D' C' g) (hn : w.heap.size ≤ g) : Qch E w w2 base q q' rg room D C D' C' :=
  ⟨h.qk.kept K (fun b x e => hg (by rw [← e]; exact x)), h.g, h.K.trans K (fun b hb e => absurd hb (by rw [e]; omega)), h.foot⟩
theorem rd_tail {lo g o : Nat} {x : Hd} {L : List Hd} (h : Rd w lo (some ⟨g, o, none⟩) (Hs (x :: L))) : Rd w lo (some ⟨g, o + 3, none⟩) (Hs L) := fun hn => by
  have hl : (Hs (x :: L)).length = (Hs L).length + 3 := by rw [hs_len, hs_len]; show (L.length + 1) * 3 = _; omega
  obtain ⟨b, o', e, h1, h2, hcl⟩ := h (by omega)
  injection e with e
  injection e with e1 e2 e3
  subst e1 e2
  refine ⟨g, o + 3, rfl, h1, h2, fun k hk => ?_⟩
  have h3 := hcl (k + 3) (by omega)
  have e4 : (Hs (x :: L))[k + 3]? = (Hs L)[k]? := by
    show (hc x ++ Hs L)[k + 3]? = _
    rw [List.getElem?_append_right (by show 3 ≤ k + 3; omega)]
    rfl
  rw [show o + (k + 3) = o + 3 + k by omega, ← List.getElem?_eq_getElem, e4, List.getElem?_eq_getElem hk] at h3
  exact h3
/-- the list of clean blocks is another -/
theorem Qk.setC (h : Qk w base q rg room D C) (hb : Below w.heap.size w w') {A : Option Addr} {c lo : Nat} (hr : Rd w' lo A (Hs C')) (hlo : base ≤ lo) (hA : ∀ b, ablk A = some b → w.heap.size ≤ b ∧ b < w'.heap.size) {E : Nat → Prop}
    (hbd : ∀ x, x ∈ C' → (x ∈ D ∨ x ∈ C) ∨ (Own w base 5 1 x.A x.b.length x.c (bvs x.b) ∧ ∀ b, ablk x.A = some b → E b)) :
    Qch E w (w'.setCell ⟨q.g, 3, none⟩ (.slice A C'.length c)) base q { q with cA := A, cc := c } rg room D C D C' := by
  have h' := h.below hb (Nat.le_refl _)
  have hK := kept_set w' q.g 3 (.slice A C'.length c)
  have hsz : (w'.setCell ⟨q.g, 3, none⟩ (.slice A C'.length c)).heap.size = w'.heap.size := by simp
  have hlt := h.blk.lt
  refine ⟨⟨?_, h.gb, rd_keptQ h'.dl hK (fun b e => (h'.db b e).2.2), rd_keptQ (hr.weak hlo) hK (fun b e y => (by have := (hA b e).1; have y : b = q.g := y; omega)), fun b e => ?_, fun b e => ?_, h.dcap, fun x hx => ?_⟩, rfl, ?_, fun b x => ?_⟩
  · exact h'.blk.set_ 3 _
  · rw [hsz]; exact h'.db b e
  · rw [hsz]; have := hA b e; have := h.gb; exact ⟨by omega, by omega, fun y => (by have y : b = q.g := y; omega)⟩
  · have ho : Own w base 5 1 x.A x.b.length x.c (bvs x.b) := by
      rcases hx with hx | hx
      · exact h.bd x (.inl hx)
      · rcases hbd x hx with y | y
        · exact h.bd x y
        · exact y.1
    exact own_kept (ho.below hb (Nat.le_refl _)) hK (fun b e y => h.bod_ne ho (by rw [e, y]))
  · exact (Kept.of_below (F := fun b => b = q.g) hb (Nat.le_refl _)).trans hK (fun _ _ x => x)
  · rcases x with x | x | x | ⟨y, hy, x⟩
    · exact .inl (.inl x)
    · exact .inl (.inr (.inl x))
    · exact .inr (.inr (hA b x).1)
    · rcases hy with hy | hy
      · exact .inl (.inr (.inr (.inr ⟨y, .inl hy, x⟩)))
      · rcases hbd y hy with z | z
        · exact .inl (.inr (.inr (.inr ⟨y, z, x⟩)))
        · exact .inr (.inl (z.2 b x))
/-- the list of dirty blocks is another -/
theorem Qk.setD (h : Qk w base q rg room D C) (hb : Below w.heap.size w w') {A : Option Addr} {c lo : Nat} (hr : Rd w' lo A (Hs D')) (hcap : D'.length ≤ c ∧ c ≤ 9223372036854775807) (hlo : base ≤ lo) (hA : ∀ b, ablk A = some b → w.heap.size ≤ b ∧ b < w'.heap.size) {E : Nat → Prop}
    (hbd : ∀ x, x ∈ D' → (x ∈ D ∨ x ∈ C) ∨ (Own w base 5 1 x.A x.b.length x.c (bvs x.b) ∧ ∀ b, ablk x.A = some b → E b)) :
    Qch E w (w'.setCell ⟨q.g, 2, none⟩ (.slice A D'.length c)) base q { q with dA := A, dc := c } rg room D C D' C := by
  have h' := h.below hb (Nat.le_refl _)
  have hK := kept_set w' q.g 2 (.slice A D'.length c)
  have hsz : (w'.setCell ⟨q.g, 2, none⟩ (.slice A D'.length c)).heap.size = w'.heap.size := by simp
  have hlt := h.blk.lt
  refine ⟨⟨?_, h.gb, rd_keptQ (hr.weak hlo) hK (fun b e y => (by have := (hA b e).1; have y : b = q.g := y; omega)), rd_keptQ h'.cl hK (fun b e => (h'.cb b e).2.2), fun b e => ?_, fun b e => ?_, hcap, fun x hx => ?_⟩, rfl, ?_, fun b x => ?_⟩
  · exact h'.blk.set_ 2 _
  · rw [hsz]; have := hA b e; have := h.gb; exact ⟨by omega, by omega, fun y => (by have y : b = q.g := y; omega)⟩
  · rw [hsz]; exact h'.cb b e
  · have ho : Own w base 5 1 x.A x.b.length x.c (bvs x.b) := by
      rcases hx with hx | hx
      · rcases hbd x hx with y | y
        · exact h.bd x y
        · exact y.1
      · exact h.bd x (.inr hx)
    exact own_kept (ho.below hb (Nat.le_refl _)) hK (fun b e y => h.bod_ne ho (by rw [e, y]))
  · exact (Kept.of_below (F := fun b => b = q.g) hb (Nat.le_refl _)).trans hK (fun _ _ x => x)
  · rcases x with x | x | x | ⟨y, hy, x⟩
    · exact .inl (.inl x)
    · exact .inr (.inr (hA b x).1)
    · exact .inl (.inr (.inr (.inl x)))
    · rcases hy with hy | hy
      · rcases hbd y hy with z | z
        · exact .inl (.inr (.inr (.inr ⟨y, z, x⟩)))
        · exact .inr (.inl (z.2 b x))
      · exact .inl (.inr (.inr (.inr ⟨y, .inr hy, x⟩)))
theorem outH_mem {L : List Hd} {z : Int} {x : Hd} (h : x ∈ outH L z) : x ∈ L := (List.mem_filter.1 h).1
theorem outH_len (L : List Hd) (z : Int) : (outH L z).length ≤ L.length := List.length_filter_le _ _

set_option maxRecDepth 100000 in
set_option maxHeartbeats 2000000 in
theorem rforget_any (h : Qk w base q rg room D C) (hD : D.length ≤ 100000) (hC : C.length ≤ 100000) {z : Int} :
    Calls Try.prog 44 #[.pointer (some ⟨q.g, 0, none⟩), .int .i64 z] w fun e w' => e = .returned (.tuple #[]) ∧ ∃ q', Qch (fun _ => False) w w' base q q' rg room D C (outH D z) (outH C z) := by
  have H := Lib.hid h
  have W1 := Lib.hid (rwithout_any (c := q.dc) (z := z) h.dl (by omega))
  obtain ⟨qg, hqg⟩ : ∃ x, x = q.g := ⟨_, rfl⟩
  have bc := h.blk.cells
  have bf := h.blk.frees
  rw [← hqg] at bc bf ⊢
  have HQ := Lib.hid hqg
  clear h hqg
  go_enter Try.func44, Try.ntmps44
  go_upto_region 1 with ((with_reducible refine Calls.mono W1.out ?_); rintro e w1 ⟨A1, c1, rfl, ho1, hb1⟩; have bc1 := (H.out.below hb1 (Nat.le_refl _)).blk.cells; have bf1 := (H.out.below hb1 (Nat.le_refl _)).blk.frees; rw [← HQ.out] at bc1 bf1)
  have c1_ := H.out.setD (D' := outH D z) (E := fun _ => False) (c := c1) hb1 ho1.rd ho1.cap (Nat.le_trans H.out.gb (Nat.le_of_lt H.out.blk.lt)) (fun b e => ho1.blk e) (fun x hx => .inl (.inl (outH_mem hx)))
  rw [← HQ.out] at c1_
  refine wp_world (fun V => ∃ q1, Qch (fun _ => False) w V base q q1 rg room D C (outH D z) C) ⟨_, c1_⟩ ?_
  clear c1_ ho1 hb1 W1 bc bf bc1 bf1
  rintro V ⟨q1, hc1⟩
  have hq1 := hc1.qk
  have W2 := Lib.hid (rwithout_any (c := q1.cc) (z := z) hq1.cl (by omega))
  have bc := hq1.blk.cells
  have bf := hq1.blk.frees
  rw [hc1.g, ← HQ.out] at bc bf
  have HC1 := Lib.hid hc1
  clear hq1 hc1
  go_wp2_with ((with_reducible refine Calls.mono W2.out ?_); rintro e w2 ⟨A2, c2, rfl, ho2, hb2⟩; have bc2 := (HC1.out.qk.below hb2 (Nat.le_refl _)).blk.cells; have bf2 := (HC1.out.qk.below hb2 (Nat.le_refl _)).blk.frees; rw [HC1.out.g, ← HQ.out] at bc2 bf2)
  go_end0
  have c2_ := HC1.out.qk.setC (C' := outH C z) (E := fun _ => False) (c := c2) hb2 ho2.rd (Nat.le_trans HC1.out.qk.gb (Nat.le_of_lt HC1.out.qk.blk.lt)) (fun b e => ho2.blk e) (fun x hx => .inl (.inr (outH_mem hx)))
  rw [HC1.out.g, ← HQ.out] at c2_
  exact ⟨rfl, _, HC1.out.trans c2_ (fun _ x => x) (fun _ x => x.elim)⟩

/-- what asking leaves of the clean blocks -/
def askH (room : Nat) (C : List Hd) (x : Hd) : List Hd := if room < (outH C (x.N : Int) ++ [x]).length then (outH C (x.N : Int) ++ [x]).tail else outH C (x.N : Int) ++ [x]
set_option maxRecDepth 100000 in
set_option maxHeartbeats 4000000 in
theorem rasked_any (h : Qk w base q rg room D C) (hr1 : 1 ≤ room) (hC : C.length ≤ 100000) {x : Hd} (hx : Own w base 5 1 x.A x.b.length x.c (bvs x.b)) :
    Calls Try.prog 67 #[.pointer (some ⟨q.g, 0, none⟩), .agg #[.int .i64 x.N, .int .i64 x.k, .slice x.A x.b.length x.c]] w fun e w' => e = .returned (.tuple #[]) ∧ ∃ q', Qch (fun b => ablk x.A = some b) w w' base q q' rg room D C D (askH room C x) := by
  have H := Lib.hid h
  have HX := Lib.hid hx
  obtain ⟨qg, hqg⟩ : ∃ z, z = q.g := ⟨_, rfl⟩
  have HQ := Lib.hid hqg
  rw [← hqg]
  clear h hx hqg
  go_enter Try.func67, Try.ntmps67
  go_upto_region 1 with fail
  obtain ⟨g3, hg3⟩ : ∃ z, z = w.heap.size := ⟨_, rfl⟩
  rw [← hg3]
  refine wp_world (fun V => Blk V g3 95 (hc x) ∧ Below w.heap.size w V) ⟨Blk.new_at hg3, (Below.refl _ _).alloc (Nat.le_refl _) _⟩ ?_
  rintro V ⟨v1, v2⟩
  have hV := (H.out.below v2 (Nat.le_refl _)).below (below_drewN (Below.refl V.heap.size V) 1) (Nat.le_refl _)
  have c0 : V.drew.cell? ⟨g3, 0, none⟩ = some (.int .i64 (x.N : Int)) := v1.cell 0
  have c3 : V.drew.cell? ⟨qg, 3, none⟩ = some (.slice q.cA C.length q.cc) := by rw [HQ.out]; exact hV.blk.cell 3
  have W1 := Lib.hid (rwithout_any (w := V.drew) (c := q.cc) (z := (x.N : Int)) hV.cl (by omega))
  have V1 := Lib.hid v1
  have V2 := Lib.hid v2
  have HV := Lib.hid hV
  clear v1 v2 hV hg3
  go_region_held3 (fun w' => w'.cell? ⟨qg, 3, none⟩ = some (.slice q.cA C.length q.cc) ∧ w'.cell? ⟨g3, 0, none⟩ = some (.int .i64 (x.N : Int)))
    (first | go_keep | (exact K5.out))
    (first
      | ((with_reducible refine Calls.mono W1.out ?_); rintro e w5 ⟨A5, p5, rfl, ho5, hb5⟩
         have B3 := V1.out.drew.below hb5 V1.out.lt
         have Q5 := HV.out.below hb5 (Nat.le_refl _)
         have K5 : Hid (w5.cell? ⟨qg, 3, none⟩ = some (.slice q.cA C.length q.cc) ∧ w5.cell? ⟨g3, 0, none⟩ = some (.int .i64 (x.N : Int))) := ⟨by rw [HQ.out]; exact Q5.blk.cell 3, B3.cell 0⟩))
  rename_i hH
  clear hH c0 c3 K5 W1
  obtain ⟨m, hm⟩ : ∃ m, m = (outH C (x.N : Int)).length := ⟨_, rfl⟩
  have hml : m ≤ 100000 := by rw [hm]; exact Nat.le_trans (outH_len _ _) hC
  rw [← hm] at ho5 ⊢
  have hb5' : Below w.heap.size w w5 := V2.out.trans ((⟨hb5.os, hb5.tape, hb5.output, hb5.size, hb5.block⟩ : Below V.heap.size V w5).mono V2.out.size)
  have c0 := B3.cell 0
  have c1 := B3.cell 1
  have c2 := B3.cell 2
  have HO5 := Lib.hid ho5
  have HB5 := Lib.hid hb5'
  have HM := Lib.hid hm
  have HQ5 := Lib.hid Q5
  have hz5 : V.heap.size ≤ w5.heap.size := hb5.size
  have HZ := Lib.hid hz5
  simp only [hc, List.getElem?_cons_zero, List.getElem?_cons_succ] at c0 c1 c2
  have hbu := run_builtHd (.int .i64 (x.N : Int)) (.int .i64 (x.k : Int)) (.slice x.A x.b.length x.c) w5
  clear ho5 hb5' hm Q5 B3 hb5 V1 HV hz5
  go_upto_region 3 with (at_builtin; refine wpList_app rfl (.tmp 12) (.tmp 14) 56 rfl 95 3 Try.underlying56 infoHd (by simp [Value.cells]) (by omega) rfl (HO5.out.alloc (.cells (hc x).toArray 95)) rfl ((Blk.new w5 95 (hc x)).rd0 (Nat.zero_le _)) rfl (hc_one x) (by omega) (by omega) (by have := HZ.out; simp; omega) ?_; intro A6 c6 w6 ho6 hg6 _)
  have ho6' : Own w6 V.drew.heap.size 95 3 A6 (m + 1) c6 (Hs (outH C (x.N : Int) ++ [x])) := by rw [← hs_snoc]; exact ho6
  have hb6 : Below w.heap.size w w6 := below_own (HB5.out.alloc HB5.out.size _) (HO5.out.alloc (.cells (hc x).toArray 95)) hg6 V2.out.size (by have := HB5.out.size; simp; omega)
  obtain ⟨l, hl⟩ : ∃ l, l = outH C (x.N : Int) ++ [x] := ⟨_, rfl⟩
  have hlm : m + 1 = l.length := by rw [hl, HM.out]; simp
  obtain ⟨m1, hm1⟩ : ∃ z, z = m + 1 := ⟨_, rfl⟩
  rw [← hl] at ho6'
  rw [← hm1] at ho6' hlm ⊢
  have hQ6 := H.out.below hb6 (Nat.le_refl _)
  obtain ⟨g6, rfl, hg1, hg2⟩ := ho6'.head (by omega)
  have hcap6 := ho6'.cap
  have bc1 : w6.cell? ⟨qg, 1, none⟩ = some (.int .i64 (room : Int)) := by rw [HQ.out]; exact hQ6.blk.cell 1
  have bc3 : w6.cell? ⟨qg, 3, none⟩ = some (.slice q.cA C.length q.cc) := by rw [HQ.out]; exact hQ6.blk.cell 3
  have bf3 : w6.frozen? ⟨qg, 3, none⟩ = false := by rw [HQ.out]; exact hQ6.blk.frozen 3
  have HQ6 := Lib.hid hQ6
  have HB6 := Lib.hid hb6
  have HO6 := Lib.hid ho6'
  have HLm := Lib.hid hlm
  have HL := Lib.hid hl
  have HM1 := Lib.hid hm1
  have HG := Lib.hid (show w.heap.size ≤ g6 ∧ g6 < w6.heap.size from ⟨Nat.le_trans V2.out.size hg1, hg2⟩)
  have hbase := Nat.le_trans H.out.gb (Nat.le_of_lt H.out.blk.lt)
  have hmem : ∀ y, y ∈ l → (y ∈ D ∨ y ∈ C) ∨ (Own w base 5 1 y.A y.b.length y.c (bvs y.b) ∧ ∀ b, ablk y.A = some b → ablk x.A = some b) := fun y hy => by
    rw [HL.out] at hy
    rcases List.mem_append.1 hy with z | z
    · exact .inl (.inr (outH_mem z))
    · rw [List.mem_singleton] at z
      rw [z]
      exact .inr ⟨HX.out, fun b e => e⟩
  have HMem := Lib.hid hmem
  have HBase := Lib.hid (show base ≤ V.drew.heap.size from Nat.le_trans hbase V2.out.size)
  clear hQ6 hb6 ho6' hlm hl hm1 ho6 hg6 HO5 HB5 HM HQ5 HZ hbu V2 c0 c1 c2 hg1 hg2 hmem hbase
  by_cases hr : room < m1
  · have hrI : (room : Int) < (m1 : Int) := by omega
    have hnn : (1 : Int) ≤ (m1 : Int) := by omega
    have h61 : ¬ c6 = 1 := by omega
    have HR := Lib.hid hr
    clear hr
    go_wp2
    go_end0
    have e : askH room C x = l.tail := by unfold askH; rw [← HL.out, if_pos (by rw [← HLm.out]; exact HR.out)]
    obtain ⟨y, l2, hl2⟩ : ∃ y l2, l = y :: l2 := by
      cases hll : l with
      | nil => have := HLm.out; rw [hll] at this; exact absurd this (by show ¬ m1 = 0; omega)
      | cons y l2 => exact ⟨y, l2, rfl⟩
    have hrd := HO6.out.rd
    rw [hl2] at hrd
    have hm2 : m1 - 1 = l2.length := by rw [HLm.out, hl2]; rfl
    have c_ := H.out.setC (C' := l2) (E := fun b => ablk x.A = some b) (c := c6 - 1) HB6.out (rd_tail hrd) HBase.out (fun b e => by injection e with e; rw [← e]; exact HG.out) (fun z hz => HMem.out z (by rw [hl2]; exact List.mem_cons_of_mem _ hz))
    rw [← HQ.out, ← hm2] at c_
    rw [e, hl2]
    exact ⟨rfl, _, c_⟩
  · have hrI : ¬ (room : Int) < (m1 : Int) := by omega
    have HR := Lib.hid hr
    clear hr
    go_wp2
    go_end0
    have e : askH room C x = l := by unfold askH; rw [← HL.out, if_neg (by rw [← HLm.out]; exact HR.out)]
    have c_ := H.out.setC (C' := l) (E := fun b => ablk x.A = some b) (c := c6) HB6.out HO6.out.rd HBase.out (fun b e => by injection e with e; rw [← e]; exact HG.out) HMem.out
    rw [← HQ.out, ← HLm.out] at c_
    rw [e]
    exact ⟨rfl, _, c_⟩
end
end Go.Proofs.Ytjndopmjlbhajaa
namespace Go.Proofs.Ytjndopmjlbhajaa
open Go.RowKit Go.Maps
set_option linter.unusedSimpArgs false
set_option linter.unusedVariables false

/-- the answer r in memory of its own -/
def GetsO (w : World) (r : Nat × Nat × List UInt8) (e : Ending) (w' : World) : Prop :=
  ∃ A' c', e = .returned (.tuple #[.agg #[.int .i64 r.2.1, .slice A' r.2.2.length c'], .int .i64 r.1]) ∧ Own w' w.heap.size 5 1 A' r.2.2.length c' (bvs r.2.2) ∧ Below w.heap.size w w'
theorem getsO_err {w w' : World} {x : Nat} {e : Ending} (h : e = noBlk x ∧ Below w.heap.size w w') : GetsO w (x, 0, []) e w' :=
  ⟨none, 0, h.1, Own.nil_ _ _ _ _, h.2⟩
theorem rget_own (n : Int) {A : Option Addr} {c lo : Nat} {l : List UInt8} {w : World} (hb : Bs w lo A 256 c l) :
    Calls Try.prog 34 #[.int .i64 n, .slice A 256 c] w (GetsO w (gBlk n l)) := by
  refine (rget_any n hb).mono fun e w' h => ?_
  have hl : l.length = 256 := hb.1
  unfold GetPost at h
  unfold gBlk
  rw [if_neg (by omega)]
  by_cases h1 : l.drop 252 = le4 (crc (l.take 252))
  · rw [if_pos h1] at h ⊢
    by_cases h2 : 240 < blkLen l
    · rw [if_pos h2] at h ⊢
      exact getsO_err h
    · rw [if_neg h2] at h ⊢
      unfold GetTail GetT at h
      by_cases h3 : blkMay n (blkKind l) (blkLen l) ∧ blkSector n.toNat (blkKind l) (blkBody l) = l
      · rw [if_pos h3] at h ⊢
        obtain ⟨A', c', he, ho, hb⟩ := h
        have hle := length_blkBody l hl (by omega)
        exact ⟨A', c', by rw [he, ← hle]; rfl, by rw [← hle] at ho; exact ho, hb⟩
      · rw [if_neg h3] at h ⊢
        exact getsO_err h
  · rw [if_neg h1] at h ⊢
    exact getsO_err h
/-- what Get tells, and leaves of the clean blocks -/
def GetH (u : Dsk) (room : Nat) (D C : List Hd) (z : Int) (cd k : Nat) (b : List UInt8) (C' : List Hd) : Prop :=
  (¬ (50 ≤ z ∧ z < (u.n : Int)) ∧ cd = 2 ∧ k = 0 ∧ b = [] ∧ C' = C) ∨
  ((50 ≤ z ∧ z < (u.n : Int)) ∧ ((∃ i, i < D.length ∧ ((D.getD i hz).N : Int) = z ∧ cd = 0 ∧ k = (D.getD i hz).k ∧ b = (D.getD i hz).b ∧ C' = C) ∨
    ((∀ j, j < D.length → ¬ ((D.getD j hz).N : Int) = z) ∧ ((∃ i, i < C.length ∧ ((C.getD i hz).N : Int) = z ∧ cd = 0 ∧ k = (C.getD i hz).k ∧ b = (C.getD i hz).b ∧ C' = askH room C (C.getD i hz)) ∨
      ((∀ j, j < C.length → ¬ ((C.getD j hz).N : Int) = z) ∧ (((readB u z.toNat).1 ≠ 0 ∧ cd = (readB u z.toNat).1 ∧ k = 0 ∧ b = [] ∧ C' = C) ∨
        ((readB u z.toNat).1 = 0 ∧ cd = 0 ∧ k = (readB u z.toNat).2.1 ∧ b = (readB u z.toNat).2.2 ∧ ∃ x : Hd, (x.N : Int) = z ∧ x.k = k ∧ x.b = b ∧ C' = askH room C x)))))))
theorem zeroHd (w : World) : (zeroValue 95).run Try.prog w = .ok (.agg #[.int .i64 0, .int .i64 0, .slice none 0 0]) w := by kernel_rfl
def RGet (w : World) (base : Nat) (q : Qw) (rg room : Nat) (D C : List Hd) (u : Dsk) (z : Int) (e : Ending) (w' : World) : Prop :=
  ∃ (cd k : Nat) (b : List UInt8) (A : Option Addr) (c : Nat) (C' : List Hd) (q' : Qw), e = .returned (.tuple #[.agg #[.int .i64 k, .slice A b.length c], .int .i64 cd]) ∧ Qch (fun _ => False) w w' base q q' rg room D C D C' ∧ Bs w' 0 A b.length c b ∧ GetH u room D C z cd k b C'
section
variable {w : World} {base br room : Nat} {q : Qw} {D C : List Hd} {r : Rw} {u : Dsk}
theorem Qk.off (h : Qk w base q r.g room D C) {F : Nat → Prop} {w' : World} (K : Kept F w w') (hF : ∀ b, q.foot D C b → ¬ F b) : Qk w' base q r.g room D C := h.kept K hF
set_option maxRecDepth 100000 in
set_option maxHeartbeats 8000000 in
theorem rcget_any (h : Qk w base q r.g room D C) (hr : Rk w br r u) (hr1 : 1 ≤ room) (hD : D.length ≤ 100000) (hC : C.length ≤ 100000) (hbase : base ≤ w.heap.size) {z : Int} (hzb : -9223372036854775808 ≤ z ∧ z ≤ 9223372036854775807) :
    Calls Try.prog 42 #[.pointer (some ⟨q.g, 0, none⟩), .int .i64 z] w (RGet w base q r.g room D C u z) := by
  have hz0 := zeroBk
  have hn4 := hr.small
  have H := Lib.hid h
  have HR := Lib.hid hr
  obtain ⟨qg, hqg⟩ : ∃ x, x = q.g := ⟨_, rfl⟩
  have HQ := Lib.hid hqg
  obtain ⟨rg, hrg⟩ : ∃ x, x = r.g := ⟨_, rfl⟩
  have HRg := Lib.hid hrg
  obtain ⟨N, hN⟩ : ∃ N, N = u.n := ⟨_, rfl⟩
  have HN := Lib.hid hN
  rw [← hqg]
  rw [← hN] at hn4
  clear h hr hqg hrg hN
  go_enter Try.func42, Try.ntmps42
  go_upto_region 1 with fail
  obtain ⟨g4, hg4⟩ : ∃ g, g = w.heap.size := ⟨_, rfl⟩
  rw [← hg4]
  refine wp_world (fun V => Below w.heap.size w V ∧ Blk V g4 33 [.int .i64 0, .slice none 0 0]) ⟨(Below.refl _ _).alloc (Nat.le_refl _) _, Blk.new_at (cs := [.int .i64 0, .slice none 0 0]) hg4⟩ ?_
  rintro V ⟨hV, hB4⟩
  have hQV := H.out.below hV (Nat.le_refl _)
  have hRV := HR.out.below hV (Nat.le_refl _)
  have bc := hQV.blk.cells
  have rc := hRV.blk.cells
  rw [← HQ.out, ← HRg.out] at bc
  rw [← HRg.out, ← HN.out] at rc
  have HV := Lib.hid hV
  have HB4 := Lib.hid hB4
  have HQV := Lib.hid hQV
  have HRV := Lib.hid hRV
  have HG4 := Lib.hid hg4
  have HBase := Lib.hid hbase
  have HZb := Lib.hid hzb
  clear hV hB4 hQV hRV hg4 hbase hzb
  by_cases hin : 50 ≤ z ∧ z < (N : Int)
  rotate_left
  · have HIn := Lib.hid hin
    have b4c := HB4.out.cells
    have b4f := HB4.out.frees
    have hfin : ∀ e, e = Ending.returned (.tuple #[.agg #[.int .i64 0, .slice none 0 0], .int .i64 2]) → RGet w base q r.g room D C u z e ((V.setCell ⟨g4, 0, none⟩ (.int .i64 0)).setCell ⟨g4, 1, none⟩ (.slice none 0 0)) := fun e he => by
      have hg : w.heap.size ≤ g4 := by rw [HG4.out]; exact Nat.le_refl _
      have hb := (HV.out.setCell hg (p := ⟨g4, 0, none⟩) (.int .i64 0)).setCell hg (p := ⟨g4, 1, none⟩) (.slice none 0 0)
      exact ⟨2, 0, [], none, 0, C, q, he, (Qch.init H.out).below hb (Nat.le_refl _), Bs.nil_ _ _, .inl ⟨by rw [← HN.out]; exact HIn.out, rfl, rfl, rfl, rfl⟩⟩
    have HFin := Lib.hid hfin
    clear hfin
    rcases Int.lt_or_le z 50 with h50 | h50
    · clear hin
      go_wp2
      refine bodyPost_ret (results_blk rfl rfl rfl ((HB4.out.set_ 0 _).set_ 1 _)) rfl ?_
      exact HFin.out _ rfl
    · have hN2 : (N : Int) ≤ z := by omega
      clear hin
      go_wp2
      refine bodyPost_ret (results_blk rfl rfl rfl ((HB4.out.set_ 0 _).set_ 1 _)) rfl ?_
      exact HFin.out _ rfl
  · obtain ⟨hi1, hi2⟩ := hin
    have F1 := Lib.hid (rfind_any (c := q.dc) (z := z) HQV.out.dl (by omega))
    have HIn := Lib.hid (show 50 ≤ z ∧ z < (u.n : Int) from ⟨hi1, by rw [← HN.out]; exact hi2⟩)
    go_upto_region 4 with ((with_reducible refine Calls.mono F1.out ?_); rintro e w1 ⟨⟨r1, rfl, hf1⟩, rfl⟩)
    have hg4w : w.heap.size ≤ g4 := by rw [HG4.out]; exact Nat.le_refl _
    have HG4w := Lib.hid hg4w
    rcases hf1 with ⟨i, hi, rfl, hNi, hno⟩ | ⟨rfl, hno⟩
    · obtain ⟨b, o, hA, _, hbl, hrgi⟩ := hs_elem HQV.out.dl hi
      have hxD : D.getD i hz ∈ D := by
        rw [List.getD_eq_getElem?_getD, List.getElem?_eq_getElem hi]
        exact List.getElem_mem _
      obtain ⟨x, hx⟩ : ∃ x, x = D.getD i hz := ⟨_, rfl⟩
      rw [← hx] at hrgi hNi hxD
      have c1 : V.cell? ⟨b, o + i * 3 + 1, none⟩ = some (.int .i64 (x.k : Int)) := hrgi 1 _ rfl
      have c2 : V.cell? ⟨b, o + i * 3 + 2, none⟩ = some (.slice x.A x.b.length x.c) := hrgi 2 _ rfl
      have b4c := HB4.out.cells
      have b4f := HB4.out.frees
      have hfin : ∀ e, e = Ending.returned (.tuple #[.agg #[.int .i64 x.k, .slice x.A x.b.length x.c], .int .i64 0]) → RGet w base q r.g room D C u z e ((V.setCell ⟨g4, 0, none⟩ (.int .i64 x.k)).setCell ⟨g4, 1, none⟩ (.slice x.A x.b.length x.c)) := fun e he => by
        have hb := (HV.out.setCell hg4w (p := ⟨g4, 0, none⟩) (.int .i64 x.k)).setCell hg4w (p := ⟨g4, 1, none⟩) (.slice x.A x.b.length x.c)
        exact ⟨0, x.k, x.b, x.A, x.c, C, q, he, (Qch.init H.out).below hb (Nat.le_refl _), ((own_bs (H.out.bd x (.inl hxD))).weak (Nat.zero_le _)).below hb (Nat.le_refl _), .inr ⟨HIn.out, .inl ⟨i, hi, by rw [← hx]; exact hNi, rfl, by rw [hx], by rw [hx], rfl⟩⟩⟩
      have HFin := Lib.hid hfin
      have hiI : (i : Int) < (D.length : Int) := by omega
      rw [hA] at bc ⊢
      clear hfin hrgi hx hNi hno hxD hA F1
      go_wp2
      refine bodyPost_ret (results_blk rfl rfl rfl ((HB4.out.set_ 0 _).set_ 1 _)) rfl ?_
      exact HFin.out _ rfl
    · have F2 := Lib.hid (rfind_any (c := q.cc) (z := z) HQV.out.cl (by omega))
      have HNo := Lib.hid hno
      clear hno F1
      go_upto_region 7 with ((with_reducible refine Calls.mono F2.out ?_); rintro e w1 ⟨⟨r2, rfl, hf2⟩, rfl⟩)
      rcases hf2 with ⟨i, hi, rfl, hNi, hno2⟩ | ⟨rfl, hno2⟩
      · obtain ⟨b, o, hA, _, hbl, hrgi⟩ := hs_elem HQV.out.cl hi
        have hxC : C.getD i hz ∈ C := by
          rw [List.getD_eq_getElem?_getD, List.getElem?_eq_getElem hi]
          exact List.getElem_mem _
        obtain ⟨x, hx⟩ : ∃ x, x = C.getD i hz := ⟨_, rfl⟩
        rw [← hx] at hrgi hNi hxC
        have c0 : V.cell? ⟨b, o + i * 3, none⟩ = some (.int .i64 (x.N : Int)) := hrgi 0 _ rfl
        have c1 : V.cell? ⟨b, o + i * 3 + 1, none⟩ = some (.int .i64 (x.k : Int)) := hrgi 1 _ rfl
        have c2 : V.cell? ⟨b, o + i * 3 + 2, none⟩ = some (.slice x.A x.b.length x.c) := hrgi 2 _ rfl
        have hiI : (i : Int) < (C.length : Int) := by omega
        have HX := Lib.hid (show i < C.length ∧ x = C.getD i hz ∧ (x.N : Int) = z ∧ x ∈ C from ⟨hi, hx, hNi, hxC⟩)
        have hz127 := zeroHd
        rw [hA] at bc ⊢
        clear hrgi hx hNi hno2 hxC hA F2
        go_upto_region 9 with fail
        obtain ⟨g7, hg7⟩ : ∃ g, g = V.heap.size := ⟨_, rfl⟩
        rw [← hg7]
        refine wp_world (fun W => Blk W g7 95 (hc x) ∧ Blk W g4 33 [.int .i64 0, .slice none 0 0] ∧ Below w.heap.size w W) ⟨Blk.new_at (cs := hc x) hg7, HB4.out.alloc _, HV.out.alloc HV.out.size _⟩ ?_
        rintro W ⟨v1, v2, v3⟩
        have hqW := H.out.below v3 (Nat.le_refl _)
        have A0 := rasked_any hqW hr1 hC (x := x) (hqW.bd x (.inr HX.out.2.2.2))
        rw [← HQ.out] at A0
        have A1 := Lib.hid A0
        have x0 := v1.cell 0
        have x1 := v1.cell 1
        have x2 := v1.cell 2
        simp only [hc, List.getElem?_cons_zero, List.getElem?_cons_succ] at x0 x1 x2
        have hne : g7 ≠ q.g ∧ g4 ≠ q.g ∧ g4 < W.heap.size ∧ g4 ≠ g7 := by
          have h1 := H.out.blk.lt
          have h2 := HV.out.size
          have h3 := HB4.out.lt
          exact ⟨by omega, by omega, v2.lt, by omega⟩
        have HNe := Lib.hid hne
        have W1 := Lib.hid v1
        have W2 := Lib.hid v2
        have W3 := Lib.hid v3
        clear v1 v2 v3 hqW A0 hne bc rc c0 c1 c2 hg7
        go_upto_region 10 with ((with_reducible refine Calls.mono A1.out ?_); rintro e w8 ⟨rfl, q8, hc8⟩)
        have B7 := hc8.K.blk W1.out HNe.out.1
        have B4 := hc8.K.blk W2.out HNe.out.2.1
        have y1 := B7.cell 1
        have y2 := B7.cell 2
        simp only [hc, List.getElem?_cons_zero, List.getElem?_cons_succ] at y1 y2
        have b4c := B4.cells
        have b4f := B4.frees
        have hfin : ∀ e, e = Ending.returned (.tuple #[.agg #[.int .i64 x.k, .slice x.A x.b.length x.c], .int .i64 0]) → RGet w base q r.g room D C u z e ((w8.setCell ⟨g4, 0, none⟩ (.int .i64 x.k)).setCell ⟨g4, 1, none⟩ (.slice x.A x.b.length x.c)) := fun e he => by
          have hcw := (hc8.pre W3.out (Nat.le_refl _)).mono (E2 := fun _ => False) (fun b e => .inl (.inr (.inr (.inr ⟨x, .inr HX.out.2.2.2, e⟩))))
          have hnf : ¬ q8.foot D (askH room C x) g4 := fun y => by
            rcases hc8.foot g4 y with y | y | y
            · have := (H.out.foot_base g4 y).2; omega
            · have := ((H.out.bd x (.inr HX.out.2.2.2)).blk y).2; omega
            · have := HNe.out.2.2.1; omega
          have hxo := H.out.bd x (.inr HX.out.2.2.2)
          have ho := own_kept hxo hcw.K (fun b e y => H.out.bod_ne hxo (by rw [e, y]))
          have hng : ∀ b, ablk x.A = some b → ¬ b = g4 := fun b e y => by have := (hxo.blk e).2; omega
          exact ⟨0, x.k, x.b, x.A, x.c, _, q8, he, (hcw.poke (kept_set _ g4 0 _) hnf hg4w).poke (kept_set _ g4 1 _) hnf hg4w, (own_bs (own_kept (own_kept ho (kept_set w8 g4 0 _) hng) (kept_set _ g4 1 _) hng)).weak (Nat.zero_le _), .inr ⟨HIn.out, .inr ⟨HNo.out, .inl ⟨i, HX.out.1, by rw [← HX.out.2.1]; exact HX.out.2.2.1, rfl, by rw [← HX.out.2.1], by rw [← HX.out.2.1], by rw [← HX.out.2.1]⟩⟩⟩⟩
        have HFin := Lib.hid hfin
        have HB4' := Lib.hid B4
        clear hfin B7 B4 hc8 A1 W1 W2 W3 HNe HX x0 x1 x2
        go_wp2
        refine bodyPost_ret (results_blk rfl rfl rfl ((HB4'.out.set_ 0 _).set_ 1 _)) rfl ?_
        exact HFin.out _ rfl
      · have HNo2 := Lib.hid hno2
        obtain ⟨n, rfl⟩ : ∃ n : Nat, z = (n : Int) := ⟨z.toNat, by omega⟩
        have hnu : n < u.n := by have := HIn.out.2; omega
        have RD := Lib.hid (rread_ok HRV.out hnu)
        rw [← HRg.out] at RD
        clear hno2 F2
        go_upto_region 12 with ((with_reducible refine Calls.mono RD.out ?_); rintro e w2 ⟨A2, p2, rfl, ho2, hb2⟩)
        have G0 := rget_own (n : Int) (own_bs ho2)
        obtain ⟨rr, hrr⟩ : ∃ rr, rr = readB u n := ⟨_, rfl⟩
        rw [show gBlk (n : Int) (hasD u n) = rr from hrr.symm] at G0
        obtain ⟨cd, k, bd⟩ := rr
        have G := Lib.hid G0
        have HRR := Lib.hid hrr
        have hb2w : Below w.heap.size w w2 := HV.out.trans (hb2.mono HV.out.size)
        have HB2 := Lib.hid hb2w
        have HB4b := Lib.hid (HB4.out.below hb2 HB4.out.lt)
        clear G0 hrr hb2w ho2 hb2 RD bc rc
        go_upto_region 13 with ((with_reducible refine Calls.mono G.out ?_); rintro e w3 ⟨A3, p3, rfl, ho3, hb3⟩)
        obtain ⟨g10, hg10⟩ : ∃ g, g = w3.heap.size := ⟨_, rfl⟩
        rw [← hg10]
        have hb3w : Below w.heap.size w w3 := HB2.out.trans (hb3.mono HB2.out.size)
        have hal : Below w3.heap.size w3 (w3.alloc (.cells #[.int .i64 (k : Int), .slice A3 bd.length p3] 33)) := (Below.refl _ _).alloc (Nat.le_refl _) _
        refine wp_world (fun W => Blk W g10 33 [.int .i64 (k : Int), .slice A3 bd.length p3] ∧ Blk W g4 33 [.int .i64 0, .slice none 0 0] ∧ Below w.heap.size w W ∧ Own W w.heap.size 5 1 A3 bd.length p3 (bvs bd)) ⟨Blk.new_at (cs := [.int .i64 (k : Int), .slice A3 bd.length p3]) hg10, (HB4b.out.below hb3 HB4b.out.lt).alloc _, hb3w.trans (hal.mono hb3w.size), (ho3.weak HB2.out.size).alloc _⟩ ?_
        have hne : g10 ≠ q.g ∧ g4 ≠ q.g ∧ g4 ≠ g10 ∧ ∀ b, ablk A3 = some b → b ≠ g4 := by
          have h1 := H.out.blk.lt
          have h2 := hb3w.size
          have h3 := HB4b.out.lt
          have h4 := hb3.size
          refine ⟨by omega, by omega, by omega, fun b e => ?_⟩
          have := (ho3.blk e).1
          omega
        have HNe := Lib.hid hne
        clear hb3w hal hb3 ho3 HB2 HB4b G hne hg10
        rintro W ⟨v1, v2, v3, v4⟩
        by_cases hcd : cd = 0
        · have hcI : ((cd : Int) != 0) = false := by rw [bne_eq_false_iff_eq]; omega
          obtain ⟨y, hy⟩ : ∃ y : Hd, y = ⟨n, k, A3, p3, bd⟩ := ⟨_, rfl⟩
          have hqW := H.out.below v3 (Nat.le_refl _)
          have A0 := rasked_any hqW hr1 hC (x := y) (by rw [hy]; exact v4.weak HBase.out)
          rw [← HQ.out, hy] at A0
          have A1 := Lib.hid A0
          have x0 := v1.cell 0
          have x1 := v1.cell 1
          simp only [List.getElem?_cons_zero, List.getElem?_cons_succ] at x0 x1
          have W1 := Lib.hid v1
          have W2 := Lib.hid v2
          have W3 := Lib.hid v3
          have W4 := Lib.hid v4
          have HCd := Lib.hid hcd
          clear v1 v2 v3 v4 hqW A0 hcd hy
          go_upto_region 16 with ((with_reducible refine Calls.mono A1.out ?_); rintro e w8 ⟨rfl, q8, hc8⟩)
          have B10 := hc8.K.blk W1.out HNe.out.1
          have B4 := hc8.K.blk W2.out HNe.out.2.1
          have y0 := B10.cell 0
          have y1 := B10.cell 1
          simp only [List.getElem?_cons_zero, List.getElem?_cons_succ] at y0 y1
          have b4c := B4.cells
          have b4f := B4.frees
          have hfin : ∀ e, e = Ending.returned (.tuple #[.agg #[.int .i64 k, .slice A3 bd.length p3], .int .i64 0]) → RGet w base q r.g room D C u (n : Int) e ((w8.setCell ⟨g4, 0, none⟩ (.int .i64 k)).setCell ⟨g4, 1, none⟩ (.slice A3 bd.length p3)) := fun e he => by
            have hcw := (hc8.pre W3.out (Nat.le_refl _)).mono (E2 := fun _ => False) (fun b e => .inr (.inr (W4.out.blk e).1))
            have hl4 := W2.out.lt
            have hnf : ¬ q8.foot D (askH room C ⟨n, k, A3, p3, bd⟩) g4 := fun y => by
              rcases hc8.foot g4 y with y | y | y
              · have := (H.out.foot_base g4 y).2; omega
              · exact HNe.out.2.2.2 g4 y rfl
              · omega
            have hng : ∀ b, ablk A3 = some b → ¬ b = g4 := HNe.out.2.2.2
            have ho := own_kept W4.out hc8.K (fun b e y => (by have h1 := (W4.out.blk e).1; have h2 := H.out.blk.lt; have y : b = q.g := y; omega))
            have hrr := HRR.out
            have hcd := HCd.out
            refine ⟨0, k, bd, A3, p3, _, q8, he, (hcw.poke (kept_set _ g4 0 _) hnf hg4w).poke (kept_set _ g4 1 _) hnf hg4w, (own_bs (own_kept (own_kept ho (kept_set w8 g4 0 _) hng) (kept_set _ g4 1 _) hng)).weak (Nat.zero_le _), .inr ⟨HIn.out, .inr ⟨HNo.out, .inr ⟨HNo2.out, .inr ⟨?_, rfl, ?_, ?_, ⟨n, k, A3, p3, bd⟩, rfl, rfl, rfl, rfl⟩⟩⟩⟩⟩
            · rw [show (n : Int).toNat = n from rfl, ← hrr]; exact hcd
            · rw [show (n : Int).toNat = n from rfl, ← hrr]
            · rw [show (n : Int).toNat = n from rfl, ← hrr]
          have HFin := Lib.hid hfin
          have HB4' := Lib.hid B4
          clear hfin B10 B4 hc8 A1 W1 W2 W3 W4 HNe x0 x1
          go_wp2
          refine bodyPost_ret (results_blk rfl rfl rfl ((HB4'.out.set_ 0 _).set_ 1 _)) rfl ?_
          exact HFin.out _ rfl
        · have hcI : ((cd : Int) != 0) = true := by rw [bne_iff_ne]; omega
          have b4c := v2.cells
          have b4f := v2.frees
          have hfin : ∀ e, e = Ending.returned (.tuple #[.agg #[.int .i64 0, .slice none 0 0], .int .i64 cd]) → RGet w base q r.g room D C u (n : Int) e ((W.setCell ⟨g4, 0, none⟩ (.int .i64 0)).setCell ⟨g4, 1, none⟩ (.slice none 0 0)) := fun e he => by
            have hb := (v3.setCell hg4w (p := ⟨g4, 0, none⟩) (.int .i64 0)).setCell hg4w (p := ⟨g4, 1, none⟩) (.slice none 0 0)
            have hrr := HRR.out
            exact ⟨cd, 0, [], none, 0, C, q, he, (Qch.init H.out).below hb (Nat.le_refl _), Bs.nil_ _ _, .inr ⟨HIn.out, .inr ⟨HNo.out, .inr ⟨HNo2.out, .inl ⟨by rw [show (n : Int).toNat = n from rfl, ← hrr]; exact hcd, by rw [show (n : Int).toNat = n from rfl, ← hrr], rfl, rfl, rfl⟩⟩⟩⟩⟩
          have HFin := Lib.hid hfin
          have V2 := Lib.hid v2
          clear hfin v1 v2 v3 v4 hcd
          go_wp2
          refine bodyPost_ret (results_blk rfl rfl rfl ((V2.out.set_ 0 _).set_ 1 _)) rfl ?_
          exact HFin.out _ rfl
end
end Go.Proofs.Ytjndopmjlbhajaa
namespace Go.Proofs.Ytjndopmjlbhajaa
open Go.RowKit Go.Maps
set_option linter.unusedSimpArgs false
set_option linter.unusedVariables false

theorem run_sizedH {P : Program} {e : TypeId} {i : TypeInfo} (h : P.info? e = some i) (w : World) : (sizeOf e).run P w = .ok i.size w := by simp [sizeOf, typeInfo, h]
/-- where l[i:] lies -/
def partH (A : Option Addr) (c i : Nat) : Option Addr := if c = i then A else A.map (·.add (i * 3))
theorem run_fromH {w : World} {A : Option Addr} {m c : Nat} (i : Nat) (hi : i ≤ m) :
    (Instr.slice 56 (.slice A m c) (some (.int .i64 (i : Int))) none none).run Try.prog w = .ok (.slice (partH A c i) (m - i) (c - i)) w := by
  have he : Try.prog.elem 56 = 95 := by simp only [Program.elem, Try.underlying56]
  have ht : Try.prog.underlying 56 = some (.slice (Try.prog.elem 56)) := by rw [he]; exact Try.underlying56
  have h := run_slice_l (P := Try.prog) (w := w) 56 A m c ht .i64 i (by omega) (by omega)
  rw [h]
  obtain ⟨i5, hi, hz, hsz, hby⟩ := info_parts infoHd
  rw [he]
  have e : (sizeOf 95).run Try.prog w = .ok 3 w := by rw [run_sizedH hi, hsz]
  rw [e]
  simp only [Result.andThen, sliced, Int.toNat_natCast]
  rfl
theorem rd_partH {w : World} {lo c i : Nat} {A : Option Addr} {L : List Hd} (h : Rd w lo A (Hs L)) (hc : L.length ≤ c) : Rd w lo (partH A c i) (Hs (L.drop i)) := fun hn => by
  have hl := hs_len L
  have hl2 := hs_len (L.drop i)
  rw [List.length_drop] at hl2
  have hlt : i < L.length := by omega
  obtain ⟨b, o, e, h1, h2, hcl⟩ := h (by omega)
  have e2 : partH A c i = some ⟨b, o + i * 3, none⟩ := by
    unfold partH
    rw [if_neg (by omega), e]
    show some (Addr.add _ _) = _
    rw [Addr.add_mid]
  refine ⟨b, o + i * 3, e2, h1, h2, fun k hk => ?_⟩
  have h3 := hcl (i * 3 + k) (by omega)
  have e4 : (Hs L)[i * 3 + k]? = (Hs (L.drop i))[k]? := by
    have e5 : Hs L = Hs (L.take i) ++ Hs (L.drop i) := by unfold Hs; rw [← List.flatMap_append, List.take_append_drop]
    have e6 := hs_len (L.take i)
    rw [List.length_take, Nat.min_eq_left (by omega)] at e6
    rw [e5, List.getElem?_append_right (by omega), e6]
    congr 1
    omega
  rw [show o + (i * 3 + k) = o + i * 3 + k by omega, ← List.getElem?_eq_getElem, e4, List.getElem?_eq_getElem hk] at h3
  exact h3
/-- the document's Put of a block tells just whether the block may be -/
theorem rput_codeN {n : Nat} (hn : n ≤ 65535) {kd : Int} {A : Option Addr} {c lo : Nat} {l : List UInt8} {w : World} (hb : Bs w lo A l.length c l) :
    Calls Try.prog 17 #[.int .i64 n, .agg #[.int .i64 kd, .slice A l.length c]] w fun e w' => ∃ v, e = .returned (.tuple #[v, .int .i64 ((if mayB (n : Int) kd l.length then 0 else 1 : Nat) : Int)]) ∧ Below w.heap.size w w' := by
  by_cases h : mayB (n : Int) kd l.length
  · rw [if_pos h]
    unfold mayB at h
    obtain ⟨k, rfl⟩ : ∃ k : Nat, kd = (k : Int) := ⟨kd.toNat, by omega⟩
    have := rput_ok n k hb (by omega) (by omega) (by omega) (by omega)
    exact this.mono fun e w' ⟨A', c', h1, _, h3⟩ => ⟨_, h1, h3⟩
  · rw [if_neg h]
    unfold mayB at h
    exact (rput_no (n : Int) kd (by omega)).mono fun e w' ⟨h1, h3⟩ => ⟨_, h1, h3⟩
/-- the place of a block among the dirty ones -/
def insH (D : List Hd) (i : Nat) (x : Hd) : List Hd := D.take i ++ [x] ++ D.drop i
/-- what Put tells, and leaves -/
def PutH (u : Dsk) (D C : List Hd) (z kd : Int) (l : List UInt8) (cd : Nat) (D' C' : List Hd) : Prop :=
  (¬ (50 ≤ z ∧ z < (u.n : Int)) ∧ cd = 2 ∧ D' = D ∧ C' = C) ∨
  ((50 ≤ z ∧ z < (u.n : Int)) ∧ ¬ mayB z kd l.length ∧ cd = 1 ∧ D' = D ∧ C' = C) ∨
  ((50 ≤ z ∧ z < (u.n : Int)) ∧ mayB z kd l.length ∧ cd = 0 ∧ C' = outH C z ∧ ∃ (x : Hd) (i : Nat), (x.N : Int) = z ∧ (x.k : Int) = kd ∧ x.b = l ∧ i ≤ (outH D z).length ∧ (∀ j, j < i → ((outH D z).getD j hz).N < x.N) ∧ (i = (outH D z).length ∨ ¬ ((outH D z).getD i hz).N < x.N) ∧ D' = insH (outH D z) i x)
def RPut (w : World) (base : Nat) (q : Qw) (rg room : Nat) (D C : List Hd) (u : Dsk) (z kd : Int) (l : List UInt8) (e : Ending) (w' : World) : Prop :=
  ∃ (cd : Nat) (D' C' : List Hd) (q' : Qw), e = .returned (.int .i64 cd) ∧ Qch (fun _ => False) w w' base q q' rg room D C D' C' ∧ PutH u D C z kd l cd D' C'
section
variable {w : World} {base br room : Nat} {q : Qw} {D C : List Hd} {r : Rw} {u : Dsk}
set_option maxRecDepth 100000 in
set_option maxHeartbeats 8000000 in
theorem rcput_any (h : Qk w base q r.g room D C) (hr : Rk w br r u) (hD : D.length ≤ 100000) (hC : C.length ≤ 100000) (hbase : base ≤ w.heap.size) {z kd : Int} {lo c : Nat} {A : Option Addr} {l : List UInt8} (hb : Bs w lo A l.length c l) (hl47 : l.length ≤ 140737488355328) (hA : 0 < l.length → ∀ b, ablk A = some b → ¬ b = q.g) :
    Calls Try.prog 43 #[.pointer (some ⟨q.g, 0, none⟩), .int .i64 z, .agg #[.int .i64 kd, .slice A l.length c]] w (RPut w base q r.g room D C u z kd l) := by
  have hz0 := zeroBk
  have hz1 := zeroHd
  have hn4 := hr.small
  have H := Lib.hid h
  have HR := Lib.hid hr
  have HB := Lib.hid hb
  have HA := Lib.hid hA
  have HBase := Lib.hid hbase
  obtain ⟨qg, hqg⟩ : ∃ x, x = q.g := ⟨_, rfl⟩
  have HQ := Lib.hid hqg
  obtain ⟨rg, hrg⟩ : ∃ x, x = r.g := ⟨_, rfl⟩
  have HRg := Lib.hid hrg
  obtain ⟨N, hN⟩ : ∃ N, N = u.n := ⟨_, rfl⟩
  have HN := Lib.hid hN
  rw [← hqg]
  rw [← hN] at hn4
  clear h hr hqg hrg hN hb hbase hA
  go_enter Try.func43, Try.ntmps43
  go_upto_region 1 with fail
  obtain ⟨g5, hg5⟩ : ∃ g, g = w.heap.size := ⟨_, rfl⟩
  rw [← hg5]
  refine wp_world (fun V => Below w.heap.size w V ∧ Blk V g5 33 [.int .i64 kd, .slice A l.length c]) ⟨(Below.refl _ _).alloc (Nat.le_refl _) _, Blk.new_at (cs := [.int .i64 kd, .slice A l.length c]) hg5⟩ ?_
  rintro V ⟨hV, hB5⟩
  have hQV := H.out.below hV (Nat.le_refl _)
  have hRV := HR.out.below hV (Nat.le_refl _)
  have bc := hQV.blk.cells
  have rc := hRV.blk.cells
  rw [← HQ.out, ← HRg.out] at bc
  rw [← HRg.out, ← HN.out] at rc
  have b5 := hB5.cells
  have HV := Lib.hid hV
  have HB5 := Lib.hid hB5
  have HG5 := Lib.hid hg5
  clear hV hB5 hQV hRV hg5
  by_cases hin : 50 ≤ z ∧ z < (N : Int)
  rotate_left
  · have HIn := Lib.hid hin
    have hfin : ∀ e, e = Ending.returned (.int .i64 2) → RPut w base q r.g room D C u z kd l e V := fun e he =>
      ⟨2, D, C, q, he, (Qch.init H.out).below HV.out (Nat.le_refl _), .inl ⟨by rw [← HN.out]; exact HIn.out, rfl, rfl, rfl⟩⟩
    have HFin := Lib.hid hfin
    clear hfin
    rcases Int.lt_or_le z 50 with h50 | h50
    · clear hin
      go_wp2
      go_ret
      exact HFin.out _ rfl
    · have hN2 : (N : Int) ≤ z := by omega
      clear hin
      go_wp2
      go_ret
      exact HFin.out _ rfl
  · obtain ⟨hi1, hi2⟩ := hin
    obtain ⟨n, rfl⟩ : ∃ n : Nat, z = (n : Int) := ⟨z.toNat, by omega⟩
    have HIn := Lib.hid (show 50 ≤ (n : Int) ∧ (n : Int) < (u.n : Int) from ⟨hi1, by rw [← HN.out]; exact hi2⟩)
    have P0 := rput_codeN (n := n) (by omega) (kd := kd) (HB.out.below HV.out (Nat.le_refl _))
    by_cases hm : mayB (n : Int) kd l.length
    rotate_left
    · rw [if_neg hm] at P0
      have P := Lib.hid P0
      have HM := Lib.hid hm
      clear P0 hm
      go_wp2_with ((with_reducible refine Calls.mono P.out ?_); rintro e w1 ⟨v, rfl, hb1⟩)
      go_ret
      have hb1w := HV.out.trans (hb1.mono HV.out.size)
      exact ⟨1, D, C, q, rfl, (Qch.init H.out).below hb1w (Nat.le_refl _), .inr (.inl ⟨HIn.out, HM.out, rfl, rfl, rfl⟩)⟩
    · rw [if_pos hm] at P0
      have P := Lib.hid P0
      have HM := Lib.hid hm
      have hkd : kd = ((kd.toNat : Nat) : Int) := by unfold mayB at hm; omega
      have HKd := Lib.hid hkd
      clear P0 hm hkd
      go_upto_region 4 with ((with_reducible refine Calls.mono P.out ?_); rintro e w1 ⟨v, rfl, hb1⟩)
      have hb1w := HV.out.trans (hb1.mono HV.out.size)
      have F0 := rforget_any (H.out.below hb1w (Nat.le_refl _)) hD hC (z := (n : Int))
      rw [← HQ.out] at F0
      have F := Lib.hid F0
      have HB1 := Lib.hid hb1w
      have HB51 := Lib.hid (HB5.out.below hb1 HB5.out.lt)
      clear F0 hb1w hb1 P bc rc b5
      go_upto_region 7 with ((with_reducible refine Calls.mono F.out ?_); rintro e w2 ⟨rfl, q1, hq1⟩)
      have hq1w := hq1.pre HB1.out (Nat.le_refl _)
      have hne5 : g5 ≠ q.g := by have := H.out.blk.lt; rw [HG5.out]; omega
      have b5 := hq1.K.blk HB51.out hne5
      have hb2 := hq1w.bel H.out
      have hbs2 := (HB.out.below HB1.out (Nat.le_refl _)).kept (F := fun b => b = q.g) hq1.K HA.out
      have hw2 : w.heap.size ≤ w2.heap.size := Nat.le_trans HB1.out.size hq1.K.size
      have HQ1 := Lib.hid hq1w
      have HB52 := Lib.hid b5
      have HBs := Lib.hid hbs2
      have b5c := b5.cells
      have HW2 := Lib.hid hw2
      clear hq1 hq1w hne5 hb2 hbs2 hw2 b5 F HB1 HB51
      go_upto_region 8 with fail
      obtain ⟨g9, hg9⟩ : ∃ g, g = w2.heap.size := ⟨_, rfl⟩
      rw [← hg9]
      have hal : Below w2.heap.size w2 (w2.alloc (.cells #[.int .i64 (n : Int), .int .i64 kd, .slice none 0 0] 95)) := (Below.refl _ _).alloc (Nat.le_refl _) _
      refine wp_world (fun W => Blk W g9 95 [.int .i64 (n : Int), .int .i64 kd, .slice none 0 0] ∧ Blk W g5 33 [.int .i64 kd, .slice A l.length c] ∧ Bs W lo A l.length c l ∧ Qch (fun _ => False) w W base q q1 r.g room D C (outH D n) (outH C n) ∧ w.heap.size ≤ W.heap.size) ⟨Blk.new_at (cs := [.int .i64 (n : Int), .int .i64 kd, .slice none 0 0]) hg9, HB52.out.alloc _, HBs.out.below hal (Nat.le_refl _), HQ1.out.below hal (Nat.le_refl _), Nat.le_trans HW2.out hal.size⟩ ?_
      have hg9w : w.heap.size ≤ g9 := by rw [hg9]; exact HW2.out
      have HG9 := Lib.hid hg9w
      have HNf := Lib.hid (show ¬ q1.foot (outH D n) (outH C n) g9 from fun y => by have := (HQ1.out.qk.foot_base g9 y).2; omega)
      clear hal HB52 HBs HQ1 HW2 b5c hg9 hg9w
      rintro W ⟨v1, v2, v3, v4, v5⟩
      have x2 := v1.cell 2
      have y1 := v2.cell 1
      simp only [List.getElem?_cons_zero, List.getElem?_cons_succ] at x2 y1
      have V1 := Lib.hid v1
      have V3 := Lib.hid v3
      have V4 := Lib.hid v4
      have V5 := Lib.hid v5
      clear v1 v2 v3 v4 v5
      go_upto_region 11 with (at_builtin; refine wpList_app rfl (.tmp 45) (.tmp 47) 31 rfl 5 1 Try.underlying31 info5 rfl (by omega) rfl (Own.nil_ _ w.heap.size 5 1) rfl V3.out.2.2.2 (by rw [length_bvs]; omega) (bvs_oneCell _) (by omega) (by omega) V5.out ?_; intro A8 c8 w8 ho8 hg8 hA8; rw [Nat.zero_add, List.nil_append] at ho8; rw [Nat.zero_add]; have b9 := V1.out.grown hg8 (by intro e; cases e); have b9c := b9.cells; have b9f := b9.frees)
      have hb8 : Below W.heap.size W w8 := (Below.refl _ _).grown hg8 (Nat.le_refl _) (by intro k hk; cases hk)
      have hqw := V4.out.below hb8 (Nat.le_refl _)
      have hl9 := V1.out.lt
      have hng : ∀ b, ablk A8 = some b → ¬ b = g9 := fun b e y => by
        rcases hA8 with z | z
        · rw [z] at e; cases e
        · rw [z] at e; injection e with e; omega
      obtain ⟨x, hx⟩ : ∃ x : Hd, x = ⟨n, kd.toNat, A8, c8, l⟩ := ⟨_, rfl⟩
      have hxc : hc x = [.int .i64 (n : Int), .int .i64 kd, .slice A8 l.length c8] := by rw [hx]; show [Value.int .i64 (n : Int), .int .i64 ((kd.toNat : Nat) : Int), .slice A8 l.length c8] = _; rw [← HKd.out]
      have HXp := Lib.hid (show x.N = n ∧ (x.k : Int) = kd ∧ x.b = l from ⟨by rw [hx], by rw [hx]; exact HKd.out.symm, by rw [hx]⟩)
      refine wp_world (fun U => Blk U g9 95 (hc x) ∧ Own U w.heap.size 5 1 x.A x.b.length x.c (bvs x.b) ∧ Qch (fun _ => False) w U base q q1 r.g room D C (outH D n) (outH C n) ∧ w.heap.size ≤ U.heap.size) ⟨by rw [hxc]; exact b9.set_ 2 _, by rw [hx]; exact own_kept ho8 (kept_set w8 g9 2 _) hng, hqw.poke (kept_set w8 g9 2 _) HNf.out HG9.out, by have h1 := V5.out; have h2 := hb8.size; simp; omega⟩ ?_
      clear hng hxc hqw hb8 b9 b9c b9f ho8 hg8 hA8 hl9 hx V1 V3 V4 V5 HNf HG9 x2 y1
      rintro U ⟨u1, u2, u3, u4⟩
      have U1 := Lib.hid u1
      have U2 := Lib.hid u2
      have U3 := Lib.hid u3
      have U4 := Lib.hid u4
      clear u1 u2 u3 u4
      have hml : (outH D (n : Int)).length ≤ 100000 := Nat.le_trans (outH_len _ _) hD
      obtain ⟨D1, hD1⟩ : ∃ D1, D1 = outH D (n : Int) := ⟨_, rfl⟩
      obtain ⟨C1, hC1⟩ : ∃ C1, C1 = outH C (n : Int) := ⟨_, rfl⟩
      rw [← hD1, ← hC1] at U3
      rw [← hD1] at hml
      obtain ⟨m, hm⟩ : ∃ m, m = D1.length := ⟨_, rfl⟩
      rw [← hm] at hml
      have HD1 := Lib.hid hD1
      have HC1 := Lib.hid hC1
      have HMl := Lib.hid hm
      clear hD1 hC1 hm
      go_wp2
      go_loopw [10, 11] (fun s10 s11 wr => ∃ (i : Nat) (A' : Option Addr) (c' : Nat), i ≤ m ∧ s11 = .int .i64 i ∧ s10 = .slice A' i c' ∧ (∀ j, j < i → (D1.getD j hz).N < n) ∧ Own wr U.heap.size 95 3 A' i c' (Hs (D1.take i)) ∧ Below U.heap.size U wr) (fun _ s11 _ => m - (intOf s11).toNat)
      case atStart => exact ⟨0, none, 0, by omega, rfl, rfl, fun j hj => absurd hj (by omega), Own.nil_ _ _ _ _, Below.refl _ _⟩
      case round =>
        obtain ⟨i, A', c', hi, rfl, rfl, hlt0, ho, hb⟩ := hrel
        have hQr := U3.out.qk.below hb (Nat.le_refl _)
        have bc := hQr.blk.cells
        rw [U3.out.g, ← HQ.out, ← HMl.out] at bc
        have HLt := Lib.hid hlt0
        have HO := Lib.hid ho
        have HBr := Lib.hid hb
        have HQr := Lib.hid hQr
        have HZ := Lib.hid (show U.heap.size ≤ wr.heap.size from hb.size)
        clear hlt0 ho hb hQr
        by_cases hlt : i < m
        · obtain ⟨b, o, hA, _, hbl, hrg⟩ := hs_elem HQr.out.dl (i := i) (by rw [← HMl.out]; exact hlt)
          obtain ⟨y, hy⟩ : ∃ y, y = D1.getD i hz := ⟨_, rfl⟩
          rw [← hy] at hrg
          have c0 : wr.cell? ⟨b, o + i * 3, none⟩ = some (.int .i64 (y.N : Int)) := hrg 0 _ rfl
          have c1 : wr.cell? ⟨b, o + i * 3 + 1, none⟩ = some (.int .i64 (y.k : Int)) := hrg 1 _ rfl
          have c2 : wr.cell? ⟨b, o + i * 3 + 2, none⟩ = some (.slice y.A y.b.length y.c) := hrg 2 _ rfl
          have hin : (i : Int) < (m : Int) := by omega
          have HY := Lib.hid hy
          clear hrg hy
          by_cases hN : y.N < n
          · have hst : Hs (D1.take (i + 1)) = Hs (D1.take i) ++ hc y := by rw [take_succ_getD D1 (by rw [← HMl.out]; exact hlt), ← hs_snoc, ← HY.out]
            have HSt := Lib.hid hst
            have hbu := run_builtHd (.int .i64 (y.N : Int)) (.int .i64 (y.k : Int)) (.slice y.A y.b.length y.c) wr
            have hNI : (y.N : Int) < (n : Int) := by omega
            rw [hA] at bc
            clear hst hA
            go_wp2_with (at_builtin; refine wpList_app rfl (.tmp 70) (.tmp 78) 56 rfl 95 3 Try.underlying56 infoHd (by simp [Value.cells]) (by omega) rfl (HO.out.alloc (.cells (hc y).toArray 95)) rfl ((Blk.new wr 95 (hc y)).rd0 (Nat.zero_le _)) rfl (hc_one y) (by omega) (by omega) (by have := HZ.out; simp; omega) ?_; intro A6 c6 w6 ho6 hg6 _)
            rw [← HSt.out] at ho6
            have hb6 := below_own (HBr.out.alloc HZ.out _) (HO.out.alloc (.cells (hc y).toArray 95)) hg6 (Nat.le_refl _) (by have := HZ.out; simp; omega)
            have HO6 := Lib.hid ho6
            have HB6 := Lib.hid hb6
            clear ho6 hb6 hg6 HO HBr HQr HZ bc c0 c1 c2
            go_roundw
            case rel =>
              refine ⟨i + 1, A6, c6, by omega, by norm_cast, rfl, fun j hj => ?_, HO6.out, HB6.out⟩
              by_cases e : j = i
              · rw [e, ← HY.out]; exact hN
              · exact HLt.out j (by omega)
            case measure => simp only [intOf]; omega
          · have hNI : ¬ (y.N : Int) < (n : Int) := by omega
            have HStop : Hid (i = (outH D n).length ∨ ¬ ((outH D n).getD i hz).N < n) := Lib.hid (.inr (by rw [← HD1.out, ← HY.out]; exact hN))
            obtain ⟨dA, hdA⟩ : ∃ z, z = q1.dA := ⟨_, rfl⟩
            have hdl := HQr.out.dl
            have hfrom : ∀ W : World, (Instr.slice 56 (.slice q1.dA m q1.dc) (some (.int .i64 (i : Int))) none none).run Try.prog W = .ok (.slice (partH q1.dA q1.dc i) (m - i) (q1.dc - i)) W := fun W => run_fromH i hi
            have hcap := HQr.out.dcap.1
            have HPd := Lib.hid (rd_partH (i := i) hdl hcap)
            have HB9 := Lib.hid (U1.out.below HBr.out U1.out.lt)
            have x0 := HB9.out.cell 0
            have x1 := HB9.out.cell 1
            have x2 := HB9.out.cell 2
            simp only [hc, List.getElem?_cons_zero, List.getElem?_cons_succ] at x0 x1 x2
            have hbu := run_builtHd (.int .i64 (x.N : Int)) (.int .i64 (x.k : Int)) (.slice x.A x.b.length x.c) wr
            rw [hA] at bc hfrom
            obtain ⟨m2, hm2⟩ : ∃ z, z = m - i := ⟨_, rfl⟩
            rw [← hm2] at hfrom
            have HM2 := Lib.hid hm2
            clear hdl hcap hm2
            go_upto_region 15 with (at_builtin; refine wpList_app rfl (.tmp 82) (.tmp 84) 56 rfl 95 3 Try.underlying56 infoHd (by simp [Value.cells]) (by omega) rfl (HO.out.alloc (.cells (hc x).toArray 95)) rfl ((Blk.new wr 95 (hc x)).rd0 (Nat.zero_le _)) rfl (hc_one x) (by omega) (by omega) (by have := HZ.out; simp; omega) ?_; intro A6 c6 w6 ho6 hg6 _)
            have hb6 := below_own (HBr.out.alloc HZ.out _) (HO.out.alloc (.cells (hc x).toArray 95)) hg6 (Nat.le_refl _) (by have := HZ.out; simp; omega)
            have hq6 := U3.out.qk.below hb6 (Nat.le_refl _)
            have hdl6 := hq6.dl
            have HP6 := Lib.hid (rd_partH (i := i) hdl6 hq6.dcap.1)
            have bc6 := hq6.blk.cells
            rw [U3.out.g, ← HQ.out, ← HMl.out] at bc6
            have HO6 := Lib.hid ho6
            have HB6 := Lib.hid hb6
            have hz6 : U.heap.size ≤ w6.heap.size := hb6.size
            have hm2l : m2 ≤ 100000 := by rw [HM2.out]; omega
            have HL2 : Hid ((Hs (D1.drop i)).length = m2 * 3) := Lib.hid (by rw [hs_len, List.length_drop, HM2.out, ← HMl.out])
            rw [hA] at bc6 HP6
            clear ho6 hb6 hg6 hq6 hdl6 bc c0 x0 x1 x2 HPd HO HB9 hbu
            go_upto_region 16 with (at_builtin; refine wpList_app rfl (.tmp 86) (.tmp 92) 56 rfl 95 3 Try.underlying56 infoHd (by simp [Value.cells]) (by omega) rfl HO6.out rfl HP6.out HL2.out (hs_one _) (by omega) (by omega) hz6 ?_; intro A7 c7 w7 ho7 hg7 _)
            have hb7 := below_own HB6.out HO6.out hg7 (Nat.le_refl _) hz6
            have hins : Hs (D1.take i) ++ hc x ++ Hs (D1.drop i) = Hs (insH D1 i x) := by unfold insH Hs; rw [List.flatMap_append, List.flatMap_append]; simp
            have hlen : (insH D1 i x).length = i + 1 + m2 := by
              unfold insH
              rw [List.length_append, List.length_append, List.length_take, List.length_drop, HM2.out, ← HMl.out, Nat.min_eq_left hi]
              rfl
            rw [hins] at ho7
            have c_ := U3.out.qk.setD (D' := insH D1 i x) (E := fun b => ablk x.A = some b) (c := c7) hb7 ho7.rd (by rw [hlen]; exact ho7.cap) (Nat.le_trans HBase.out U4.out) (fun b e => ho7.blk e) (fun y hy => by
              unfold insH at hy
              rcases List.mem_append.1 hy with hy | hy
              · rcases List.mem_append.1 hy with hy | hy
                · exact .inl (.inl (List.mem_of_mem_take hy))
                · rw [List.mem_singleton] at hy
                  rw [hy]
                  exact .inr ⟨U2.out.weak HBase.out, fun b e => e⟩
              · exact .inl (.inl (List.mem_of_mem_drop hy)))
            rw [U3.out.g, ← HQ.out, hlen] at c_
            have hq7 := U3.out.qk.below hb7 (Nat.le_refl _)
            have bc7 := hq7.blk.cells
            have bf7 := hq7.blk.frees
            rw [U3.out.g, ← HQ.out] at bc7 bf7
            have HC_ := Lib.hid (U3.out.trans c_ (E3 := fun _ => False) (fun _ x => x) (fun b e => .inr (U2.out.blk e).1))
            clear hb7 hins hlen ho7 hg7 c_ hq7 HO6 HB6 HP6 HL2 bc6 hfrom
            go_wp2
            go_ret
            exact ⟨0, _, _, _, rfl, HC_.out, .inr (.inr ⟨HIn.out, HM.out, rfl, HC1.out, x, i, by rw [HXp.out.1], HXp.out.2.1, HXp.out.2.2, by rw [← HD1.out, ← HMl.out]; exact hi, fun j hj => by rw [← HD1.out, HXp.out.1]; exact HLt.out j hj, by rw [HXp.out.1]; exact HStop.out, by rw [← HD1.out]⟩)⟩
        · obtain rfl : i = m := by omega
          have HStop : Hid (i = (outH D n).length ∨ ¬ ((outH D n).getD i hz).N < n) := Lib.hid (.inl (by rw [← HD1.out]; exact HMl.out))
          have hdl := HQr.out.dl
          have hfrom : ∀ W : World, (Instr.slice 56 (.slice q1.dA i q1.dc) (some (.int .i64 (i : Int))) none none).run Try.prog W = .ok (.slice (partH q1.dA q1.dc i) (i - i) (q1.dc - i)) W := fun W => run_fromH i hi
          have hcap := HQr.out.dcap.1
          have HPd := Lib.hid (rd_partH (i := i) hdl hcap)
          have HB9 := Lib.hid (U1.out.below HBr.out U1.out.lt)
          have x0 := HB9.out.cell 0
          have x1 := HB9.out.cell 1
          have x2 := HB9.out.cell 2
          simp only [hc, List.getElem?_cons_zero, List.getElem?_cons_succ] at x0 x1 x2
          have hbu := run_builtHd (.int .i64 (x.N : Int)) (.int .i64 (x.k : Int)) (.slice x.A x.b.length x.c) wr
          obtain ⟨m2, hm2⟩ : ∃ z, z = i - i := ⟨_, rfl⟩
          rw [← hm2] at hfrom
          have HM2 := Lib.hid hm2
          clear hdl hcap hm2
          go_upto_region 15 with (at_builtin; refine wpList_app rfl (.tmp 82) (.tmp 84) 56 rfl 95 3 Try.underlying56 infoHd (by simp [Value.cells]) (by omega) rfl (HO.out.alloc (.cells (hc x).toArray 95)) rfl ((Blk.new wr 95 (hc x)).rd0 (Nat.zero_le _)) rfl (hc_one x) (by omega) (by omega) (by have := HZ.out; simp; omega) ?_; intro A6 c6 w6 ho6 hg6 _)
          have hb6 := below_own (HBr.out.alloc HZ.out _) (HO.out.alloc (.cells (hc x).toArray 95)) hg6 (Nat.le_refl _) (by have := HZ.out; simp; omega)
          have hq6 := U3.out.qk.below hb6 (Nat.le_refl _)
          have hdl6 := hq6.dl
          have HP6 := Lib.hid (rd_partH (i := i) hdl6 hq6.dcap.1)
          have bc6 := hq6.blk.cells
          rw [U3.out.g, ← HQ.out, ← HMl.out] at bc6
          have HO6 := Lib.hid ho6
          have HB6 := Lib.hid hb6
          have hz6 : U.heap.size ≤ w6.heap.size := hb6.size
          have hm2l : m2 ≤ 100000 := by rw [HM2.out]; omega
          have HL2 : Hid ((Hs (D1.drop i)).length = m2 * 3) := Lib.hid (by rw [hs_len, List.length_drop, HM2.out, ← HMl.out])
          clear ho6 hb6 hg6 hq6 hdl6 bc x0 x1 x2 HPd HO HB9 hbu
          go_upto_region 16 with (at_builtin; refine wpList_app rfl (.tmp 86) (.tmp 92) 56 rfl 95 3 Try.underlying56 infoHd (by simp [Value.cells]) (by omega) rfl HO6.out rfl HP6.out HL2.out (hs_one _) (by omega) (by omega) hz6 ?_; intro A7 c7 w7 ho7 hg7 _)
          have hb7 := below_own HB6.out HO6.out hg7 (Nat.le_refl _) hz6
          have hins : Hs (D1.take i) ++ hc x ++ Hs (D1.drop i) = Hs (insH D1 i x) := by unfold insH Hs; rw [List.flatMap_append, List.flatMap_append]; simp
          have hlen : (insH D1 i x).length = i + 1 + m2 := by
            unfold insH
            rw [List.length_append, List.length_append, List.length_take, List.length_drop, HM2.out, ← HMl.out, Nat.min_eq_left hi]
            rfl
          rw [hins] at ho7
          have c_ := U3.out.qk.setD (D' := insH D1 i x) (E := fun b => ablk x.A = some b) (c := c7) hb7 ho7.rd (by rw [hlen]; exact ho7.cap) (Nat.le_trans HBase.out U4.out) (fun b e => ho7.blk e) (fun y hy => by
            unfold insH at hy
            rcases List.mem_append.1 hy with hy | hy
            · rcases List.mem_append.1 hy with hy | hy
              · exact .inl (.inl (List.mem_of_mem_take hy))
              · rw [List.mem_singleton] at hy
                rw [hy]
                exact .inr ⟨U2.out.weak HBase.out, fun b e => e⟩
            · exact .inl (.inl (List.mem_of_mem_drop hy)))
          rw [U3.out.g, ← HQ.out, hlen] at c_
          have hq7 := U3.out.qk.below hb7 (Nat.le_refl _)
          have bc7 := hq7.blk.cells
          have bf7 := hq7.blk.frees
          rw [U3.out.g, ← HQ.out] at bc7 bf7
          have HC_ := Lib.hid (U3.out.trans c_ (E3 := fun _ => False) (fun _ x => x) (fun b e => .inr (U2.out.blk e).1))
          clear hb7 hins hlen ho7 hg7 c_ hq7 HO6 HB6 HP6 HL2 bc6 hfrom
          go_wp2
          go_ret
          exact ⟨0, _, _, _, rfl, HC_.out, .inr (.inr ⟨HIn.out, HM.out, rfl, HC1.out, x, i, by rw [HXp.out.1], HXp.out.2.1, HXp.out.2.2, by rw [← HD1.out, ← HMl.out]; exact hi, fun j hj => by rw [← HD1.out, HXp.out.1]; exact HLt.out j hj, by rw [HXp.out.1]; exact HStop.out, by rw [← HD1.out]⟩)⟩
end
end Go.Proofs.Ytjndopmjlbhajaa

namespace Go.Proofs.Ytjndopmjlbhajaa
open Go.RowKit Go.Maps
set_option linter.unusedSimpArgs false
set_option linter.unusedVariables false

/-- from w to w' the reference's disk r and its cache q became r' and q' -/
structure RQh (w w' : World) (br base : Nat) (r r' : Rw) (q q' : Qw) (room : Nat) (u u' : Dsk) (D C D' C' : List Hd) : Prop where
  rk : Rk w' br r' u'
  qk : Qk w' base q' r.g room D' C'
  n_ : u'.n = u.n
  rg : r'.g = r.g
  qg : q'.g = q.g
  K : Kept (fun b => r.foot u.n b ∨ b = q.g) w w'
  rf : ∀ b, r'.foot u'.n b → r.foot u.n b ∨ w.heap.size ≤ b
  qf : ∀ b, q'.foot D' C' b → q.foot D C b ∨ w.heap.size ≤ b
  ap : ∀ b, r'.foot u'.n b → ¬ q'.foot D' C' b
section
variable {w w' w2 : World} {br base room : Nat} {r r' r2 : Rw} {q q' q2 : Qw} {u u' u2 : Dsk} {D C D' C' D2 C2 : List Hd}
theorem RQh.init (h1 : Rk w br r u) (h2 : Qk w base q r.g room D C) (ap : ∀ b, r.foot u.n b → ¬ q.foot D C b) : RQh w w br base r r q q room u u D C D C :=
  ⟨h1, h2, rfl, rfl, rfl, Kept.refl _ _, fun _ x => .inl x, fun _ x => .inl x, ap⟩
theorem RQh.below (h : RQh w w' br base r r' q q' room u u' D C D' C') {B : Nat} (hb : Below B w' w2) (hB : w'.heap.size ≤ B) : RQh w w2 br base r r' q q' room u u' D C D' C' :=
  ⟨h.rk.below hb hB, h.qk.below hb hB, h.n_, h.rg, h.qg, h.K.trans (F' := fun _ => False) (Kept.of_below hb hB) (fun _ _ x => x.elim), h.rf, h.qf, h.ap⟩
theorem RQh.pre (h : RQh w' w2 br base r r' q q' room u u' D C D' C') {B : Nat} (hb : Below B w w') (hB : w.heap.size ≤ B) : RQh w w2 br base r r' q q' room u u' D C D' C' :=
  ⟨h.rk, h.qk, h.n_, h.rg, h.qg, ((Kept.of_below (F := fun _ => False) hb hB).mono (F' := fun b => r.foot u.n b ∨ b = q.g) (fun _ _ x => x.elim)).trans h.K (fun _ _ x => x), fun b x => by
    rcases h.rf b x with y | y
    · exact .inl y
    · exact .inr (Nat.le_trans hb.size y), fun b x => by
    rcases h.qf b x with y | y
    · exact .inl y
    · exact .inr (Nat.le_trans hb.size y), h.ap⟩
/-- the disk is written -/
theorem RQh.onR (h : RQh w w' br base r r' q q' room u u' D C D' C') (c : Rch w' w2 br r' r2 u'.n u2) : RQh w w2 br base r r2 q q' room u u2 D C D' C' := by
  have hn : u2.n = u.n := c.n_.trans h.n_
  have hrf : ∀ b, r2.foot u2.n b → r'.foot u'.n b ∨ w'.heap.size ≤ b := fun b x => c.foot b (by rw [c.n_] at x; exact x)
  refine ⟨c.rk, h.qk.kept c.K (fun b x y => h.ap b y x), hn, c.g.trans h.rg, h.qg, h.K.trans c.K (fun b hb x => ?_), fun b x => ?_, h.qf, fun b x y => ?_⟩
  · rcases h.rf b x with z | z
    · exact .inl z
    · omega
  · rcases hrf b x with z | z
    · exact h.rf b z
    · exact .inr (Nat.le_trans h.K.size z)
  · rcases hrf b x with z | z
    · exact h.ap b z y
    · have := (h.qk.foot_base b y).2; omega
/-- the cache is turned -/
theorem RQh.onQ {E : Nat → Prop} (h : RQh w w' br base r r' q q' room u u' D C D' C') (c : Qch E w' w2 base q' q2 r.g room D' C' D2 C2) (hE : ∀ b, E b → q'.foot D' C' b ∨ w'.heap.size ≤ b) : RQh w w2 br base r r' q q2 room u u' D C D2 C2 := by
  have hqf : ∀ b, q2.foot D2 C2 b → q'.foot D' C' b ∨ w'.heap.size ≤ b := fun b x => by
    rcases c.foot b x with y | y | y
    · exact .inl y
    · exact hE b y
    · exact .inr y
  refine ⟨h.rk.kept c.K (fun b x e => h.ap b x (.inl e)) (fun A n c2 l b ho hb e => h.qk.bod_ne ho (by rw [hb, e])), c.qk, h.n_, h.rg, c.g.trans h.qg, h.K.trans c.K (fun b _ e => .inr (e.trans h.qg)), h.rf, fun b x => ?_, fun b x y => ?_⟩
  · rcases hqf b x with z | z
    · exact h.qf b z
    · exact .inr (Nat.le_trans h.K.size z)
  · rcases hqf b y with z | z
    · exact h.ap b x z
    · have := (h.rk.foot_base b x).2; omega
theorem RQh.trans (h : RQh w w' br base r r' q q' room u u' D C D' C') (k : RQh w' w2 br base r' r2 q' q2 room u' u2 D' C' D2 C2) : RQh w w2 br base r r2 q q2 room u u2 D C D2 C2 :=
  ⟨k.rk, by have := k.qk; rw [h.rg] at this; exact this, k.n_.trans h.n_, k.rg.trans h.rg, k.qg.trans h.qg, h.K.trans k.K (fun b hb x => by
    rcases x with x | x
    · rcases h.rf b x with y | y
      · exact .inl y
      · omega
    · exact .inr (x.trans h.qg)), fun b x => by
    rcases k.rf b x with y | y
    · exact h.rf b y
    · exact .inr (Nat.le_trans h.K.size y), fun b x => by
    rcases k.qf b x with y | y
    · exact h.qf b y
    · exact .inr (Nat.le_trans h.K.size y), k.ap⟩
/-- the first i of the dirty blocks are written -/
def flH (u : Dsk) (room : Nat) (D C : List Hd) : Nat → Dsk × List Hd
  | 0 => (u, C)
  | i + 1 => (rwriteD (flH u room D C i).1 (D.getD i hz).N (blkSector (D.getD i hz).N (D.getD i hz).k (D.getD i hz).b), askH room (flH u room D C i).2 (D.getD i hz))
theorem rwriteD_len (u : Dsk) (k : Nat) (x : List UInt8) (j : Nat) : ((rwriteD u k x).vers j).length ≤ (u.vers j).length + 1 := by
  unfold rwriteD
  split
  · show (if j = k then (rdec u).vers k ++ [x] else (rdec u).vers j : List (List UInt8)).length ≤ _
    split
    · rename_i e; subst e; rw [List.length_append]; exact Nat.le_refl _
    · exact Nat.le_succ _
  · exact Nat.le_succ _
theorem rwriteD_nn (u : Dsk) (k : Nat) (x : List UInt8) : (rwriteD u k x).n = u.n := by unfold rwriteD rdec writeS; split <;> rfl
theorem flH_n (u : Dsk) (room : Nat) (D C : List Hd) : ∀ i, (flH u room D C i).1.n = u.n
  | 0 => rfl
  | i + 1 => by rw [flH, rwriteD_nn, flH_n u room D C i]
theorem flH_len (u : Dsk) (room : Nat) (D C : List Hd) (j : Nat) : ∀ i, ((flH u room D C i).1.vers j).length ≤ (u.vers j).length + i
  | 0 => Nat.le_refl _
  | i + 1 => Nat.le_trans (rwriteD_len _ _ _ _) (by have := flH_len u room D C j i; omega)
theorem askH_len (room : Nat) (C : List Hd) (x : Hd) : (askH room C x).length ≤ C.length + 1 := by
  have h := outH_len C (x.N : Int)
  unfold askH
  split
  · rw [List.length_tail, List.length_append]; show _ + 1 - 1 ≤ _; omega
  · rw [List.length_append]; show _ + 1 ≤ _; omega
theorem flH_clen (u : Dsk) (room : Nat) (D C : List Hd) : ∀ i, (flH u room D C i).2.length ≤ C.length + i
  | 0 => Nat.le_refl _
  | i + 1 => Nat.le_trans (askH_len _ _ _) (by have := flH_clen u room D C i; omega)

set_option maxRecDepth 100000 in
set_option maxHeartbeats 8000000 in
theorem rcflush_any (h1 : Rk w br r u) (h2 : Qk w base q r.g room D C) (ap : ∀ b, r.foot u.n b → ¬ q.foot D C b) (hr1 : 1 ≤ room) (hD : D.length ≤ 10000) (hC : C.length ≤ 10000)
    (hx : ∀ x, x ∈ D → x.N < u.n ∧ 1 ≤ x.k ∧ x.k ≤ 4 ∧ x.b.length ≤ 240) (hv : ∀ k, k < u.n → (u.vers k).length ≤ 549755813888) :
    Calls Try.prog 45 #[.pointer (some ⟨q.g, 0, none⟩)] w fun e w' => e = .returned (.tuple #[]) ∧ ∃ r' q', RQh w w' br base r r' q q' room u (flH u room D C D.length).1 D C [] (flH u room D C D.length).2 := by
  have hz1 := zeroHd
  have hn4 := h1.small
  have HI := Lib.hid (RQh.init h1 h2 ap)
  obtain ⟨qg, hqg⟩ : ∃ x, x = q.g := ⟨_, rfl⟩
  have HQ := Lib.hid hqg
  obtain ⟨rg, hrg⟩ : ∃ x, x = r.g := ⟨_, rfl⟩
  have HRg := Lib.hid hrg
  obtain ⟨m, hm⟩ : ∃ m, m = D.length := ⟨_, rfl⟩
  have HM := Lib.hid hm
  have HX := Lib.hid hx
  have HV := Lib.hid hv
  rw [← hqg, ← hm]
  rw [← hm] at hD
  clear h1 h2 ap hqg hrg hm hx hv
  go_enter Try.func45, Try.ntmps45
  go_wp2
  go_loopw [2] (fun s2 wr => ∃ (i : Nat) (r' : Rw) (q' : Qw), i ≤ m ∧ s2 = .int .i64 i ∧ RQh w wr br base r r' q q' room u (flH u room D C i).1 D C D (flH u room D C i).2) (fun s2 _ => m - (intOf s2).toNat)
  case atStart => exact ⟨0, r, q, by omega, rfl, HI.out⟩
  case round =>
    obtain ⟨i, r1, q1, hi, rfl, hh⟩ := hrel
    have hfn := flH_n u room D C i
    have hfl := fun j => flH_len u room D C j i
    have hfc := flH_clen u room D C i
    obtain ⟨ui, hui⟩ : ∃ z, z = (flH u room D C i).1 := ⟨_, rfl⟩
    obtain ⟨Ci, hCi⟩ : ∃ z, z = (flH u room D C i).2 := ⟨_, rfl⟩
    rw [← hui, ← hCi] at hh
    rw [← hui] at hfn hfl
    rw [← hCi] at hfc
    have bc := hh.qk.blk.cells
    have bf := hh.qk.blk.frees
    rw [hh.qg, ← HQ.out, ← HRg.out, ← HM.out] at bc
    rw [hh.qg, ← HQ.out] at bf
    have HH := Lib.hid hh
    have HUi := Lib.hid hui
    have HCi := Lib.hid hCi
    have HFn := Lib.hid hfn
    have HFl := Lib.hid hfl
    have HFc := Lib.hid hfc
    clear hh hui hCi hfn hfl hfc
    by_cases hlt : i < m
    · have hlD : i < D.length := by rw [← HM.out]; exact hlt
      obtain ⟨b, o, hA, _, hbl, hrgi⟩ := hs_elem HH.out.qk.dl hlD
      have hxD : D.getD i hz ∈ D := by
        rw [List.getD_eq_getElem?_getD, List.getElem?_eq_getElem hlD]
        exact List.getElem_mem _
      obtain ⟨x, hx⟩ : ∃ x, x = D.getD i hz := ⟨_, rfl⟩
      rw [← hx] at hrgi hxD
      have c0 : wr.cell? ⟨b, o + i * 3, none⟩ = some (.int .i64 (x.N : Int)) := hrgi 0 _ rfl
      have c1 : wr.cell? ⟨b, o + i * 3 + 1, none⟩ = some (.int .i64 (x.k : Int)) := hrgi 1 _ rfl
      have c2 : wr.cell? ⟨b, o + i * 3 + 2, none⟩ = some (.slice x.A x.b.length x.c) := hrgi 2 _ rfl
      have hin : (i : Int) < (m : Int) := by omega
      rw [hA] at bc
      have HXe := Lib.hid hx
      have HXD := Lib.hid hxD
      clear hrgi hA hx hxD
      go_upto_region 4 with fail
      obtain ⟨g3, hg3⟩ : ∃ g, g = wr.heap.size := ⟨_, rfl⟩
      rw [← hg3]
      have hal : Below wr.heap.size wr (wr.alloc (.cells (hc x).toArray 95)) := (Below.refl _ _).alloc (Nat.le_refl _) _
      refine wp_world (fun W => Blk W g3 95 (hc x) ∧ RQh w W br base r r1 q q1 room u ui D C D Ci ∧ (¬ r1.foot ui.n g3 ∧ g3 ≠ q1.g)) ⟨Blk.new_at (cs := hc x) hg3, HH.out.below hal (Nat.le_refl _), fun y => (by have := (HH.out.rk.foot_base g3 y).2; omega), by have := HH.out.qk.blk.lt; omega⟩ ?_
      clear hal hg3 HH bc bf c0 c1 c2
      rintro W ⟨v1, v2, v3⟩
      have hxo := v2.qk.bd x (.inl HXD.out)
      have P0 := rput_ok x.N x.k (own_bs hxo) (HX.out x HXD.out).2.2.2 (by have := (HX.out x HXD.out).1; omega) (HX.out x HXD.out).2.1 (HX.out x HXD.out).2.2.1
      have P := Lib.hid P0
      have x0 := v1.cell 0
      have x1 := v1.cell 1
      have x2 := v1.cell 2
      simp only [hc, List.getElem?_cons_zero, List.getElem?_cons_succ] at x0 x1 x2
      have V1 := Lib.hid v1
      have V2 := Lib.hid v2
      have V3 := Lib.hid v3
      clear v1 v2 v3 hxo P0
      go_upto_region 5 with ((with_reducible refine Calls.mono P.out ?_); rintro e w4 ⟨A4, p4, rfl, ho4, hb4⟩)
      have v2 := (V2.out.below hb4 (Nat.le_refl _)).below (below_drewN (Below.refl w4.heap.size w4) 1) (Nat.le_refl _)
      have b3 := (V1.out.below hb4 V1.out.lt).drew
      have hxx := HX.out x HXD.out
      have hfo : ∀ b, ablk A4 = some b → ¬ r1.foot ui.n b := fun b e y => by
        have h1 := (ho4.blk e).1
        have h2 := (V2.out.rk.foot_base b y).2
        omega
      have W0 := rwrite_ok (w := w4.drew) v2.rk (k := x.N) (by rw [HFn.out]; exact hxx.1) (by have h1 := HFl.out x.N; have h2 := HV.out x.N hxx.1; omega) (own_bs ho4).drew hfo
      rw [V2.out.rg, ← HRg.out] at W0
      have c0 : w4.drew.cell? ⟨g3, 0, none⟩ = some (.int .i64 (x.N : Int)) := b3.cell 0
      have c3 : w4.drew.cell? ⟨qg, 0, none⟩ = some (.pointer (some ⟨rg, 0, none⟩)) := by rw [HQ.out, HRg.out, ← V2.out.qg]; exact v2.qk.blk.cell 0
      have WR := Lib.hid W0
      have V2d := Lib.hid v2
      have B3 := Lib.hid b3
      clear v2 b3 hxx hfo W0 ho4 hb4 P V1 V2 x0 x1 x2
      go_region_held3 (fun w' => w'.cell? ⟨qg, 0, none⟩ = some (.pointer (some ⟨rg, 0, none⟩)) ∧ w'.cell? ⟨g3, 0, none⟩ = some (.int .i64 (x.N : Int)))
        (first | go_keep | (exact K5.out))
        (first
          | ((with_reducible refine Calls.mono WR.out ?_); rintro e w5 ⟨rfl, r2, hc5⟩
             have b5 := hc5.K.blk B3.out V3.out.1
             have v5 := V2d.out.onR hc5
             have K5 : Hid (w5.cell? ⟨qg, 0, none⟩ = some (.pointer (some ⟨rg, 0, none⟩)) ∧ w5.cell? ⟨g3, 0, none⟩ = some (.int .i64 (x.N : Int))) := ⟨by rw [HQ.out, HRg.out, ← v5.qg]; exact v5.qk.blk.cell 0, b5.cell 0⟩))
      rename_i hH
      have A0 := rasked_any (room := room) v5.qk hr1 (by have := HFc.out; omega) (x := x) (v5.qk.bd x (.inl HXD.out))
      rw [v5.qg, ← HQ.out] at A0
      have AS := Lib.hid A0
      have V5 := Lib.hid v5
      have x0 := b5.cell 0
      have x1 := b5.cell 1
      have x2 := b5.cell 2
      simp only [hc, List.getElem?_cons_zero, List.getElem?_cons_succ] at x0 x1 x2
      clear hH K5 WR V2d B3 c0 c3 b5 v5 hc5 A0
      go_wp2_with ((with_reducible refine Calls.mono AS.out ?_); rintro e w6 ⟨rfl, q2, hc6⟩)
      have v6 := V5.out.onQ hc6 (fun b e => .inl (.inr (.inr (.inr ⟨x, .inl HXD.out, e⟩))))
      have hst : flH u room D C (i + 1) = (rwriteD ui x.N (blkSector x.N x.k x.b), askH room Ci x) := by rw [flH, ← HUi.out, ← HCi.out, ← HXe.out]
      have V6 : Hid (RQh w w6 br base r r2 q q2 room u (flH u room D C (i + 1)).1 D C D (flH u room D C (i + 1)).2) := Lib.hid (by rw [hst]; exact v6)
      clear hst v6 hc6 AS V5 x0 x1 x2
      go_roundw
      case rel => exact ⟨i + 1, r2, q2, by omega, by norm_cast, V6.out⟩
      case measure => simp only [intOf]; omega
    · obtain rfl : i = m := by omega
      go_wp2
      go_end0
      have c_ := HH.out.qk.setD (D' := []) (E := fun _ => False) (A := none) (c := 0) (lo := base) (Below.refl _ _) (fun hn => absurd hn (by show ¬ 0 < 0; omega)) ⟨Nat.le_refl _, by show 0 ≤ _; omega⟩ (Nat.le_refl _) (fun b e => by cases e) (fun y hy => by cases hy)
      rw [HH.out.qg, ← HQ.out] at c_
      have v := HH.out.onQ c_ (fun _ x => x.elim)
      rw [← HUi.out, ← HCi.out]
      exact ⟨rfl, r1, _, v⟩
end
end Go.Proofs.Ytjndopmjlbhajaa
namespace Go.Proofs.Ytjndopmjlbhajaa
set_option linter.unusedVariables false
set_option linter.unusedSimpArgs false

structure Rc (N : Nat) (s : Ca) (D C : List Hd) : Prop where
  dn : D.map Hd.N = dirtyN N s
  cn : C.map Hd.N = s.order
  db : ∀ x, x ∈ D → s.blocks x.N = some ⟨x.k, x.b⟩
  cb : ∀ x, x ∈ C → s.blocks x.N = some ⟨x.k, x.b⟩
section
variable {N n : Nat} {s : Ca} {D C : List Hd}
theorem map_outH (L : List Hd) (z : Int) : (outH L z).map Hd.N = outN (L.map Hd.N) z := by
  unfold outH outN
  rw [List.filter_map]
  rfl
theorem rc_new (N r : Nat) : Rc N (newC r) [] [] := by
  refine ⟨?_, rfl, fun x hx => (by cases hx), fun x hx => (by cases hx)⟩
  unfold dirtyN
  symm
  rw [List.map_nil, List.filter_eq_nil_iff]
  intro m _ h
  cases h
theorem Rc.dirty (h : Rc N s D C) {x : Hd} (hx : x ∈ D) : s.dirty x.N = true ∧ x.N < N := by
  have : x.N ∈ dirtyN N s := by rw [← h.dn]; exact List.mem_map.2 ⟨x, hx, rfl⟩
  have := mem_dirtyN.1 this
  exact ⟨this.2, this.1⟩
theorem getD_mem {L : List Hd} {i : Nat} (hi : i < L.length) : L.getD i hz ∈ L := by
  rw [List.getD_eq_getElem?_getD, List.getElem?_eq_getElem hi]
  exact List.getElem_mem _
theorem all_not {L : List Hd} {z : Int} (h : ∀ j, j < L.length → ¬ ((L.getD j hz).N : Int) = z) {x : Hd} (hx : x ∈ L) : ¬ (x.N : Int) = z := by
  obtain ⟨j, hj, e⟩ := List.getElem_of_mem hx
  have := h j hj
  rw [List.getD_eq_getElem?_getD, List.getElem?_eq_getElem hj] at this
  rw [← e]
  exact this
/-- a clean block is asked -/
theorem rc_ask {x : Hd} (ha : AskOk N s n) (hxn : x.N = n) (hxb : s.blocks n = some ⟨x.k, x.b⟩) (cn : C.map Hd.N = s.order) (cb : ∀ y, y ∈ C → y.N ≠ n → s.blocks y.N = some ⟨y.k, y.b⟩) (hD : ∀ y, y ∈ D → s.dirty y.N = true ∧ s.blocks y.N = some ⟨y.k, y.b⟩) :
    (askH s.room C x).map Hd.N = (askedC s n).order ∧ (∀ y, y ∈ askH s.room C x → (askedC s n).blocks y.N = some ⟨y.k, y.b⟩) ∧ (∀ y, y ∈ D → (askedC s n).blocks y.N = some ⟨y.k, y.b⟩) := by
  obtain ⟨e, hl⟩ := asked_eq ha
  obtain ⟨l, hll⟩ : ∃ l, l = outH C (n : Int) ++ [x] := ⟨_, rfl⟩
  have hmap : l.map Hd.N = outN s.order (n : Int) ++ [n] := by rw [hll, List.map_append, map_outH, cn, List.map_singleton, hxn]
  have hlen : l.length = (outN s.order (n : Int) ++ [n]).length := by rw [← hmap, List.length_map]
  have hnn : n ∉ outN s.order (n : Int) := fun y => (mem_outN.1 y).2 rfl
  have hnd : (l.map Hd.N).Nodup := by
    rw [hmap, List.nodup_append]
    refine ⟨ha.nodup.filter _, by simp, fun a h1 b h2 => ?_⟩
    rw [List.mem_singleton] at h2
    subst h2
    exact fun e => hnn (e ▸ h1)
  have hlb : ∀ y, y ∈ l → s.blocks y.N = some ⟨y.k, y.b⟩ := fun y hy => by
    rw [hll] at hy
    rcases List.mem_append.1 hy with hy | hy
    · have h2 : ¬ (y.N : Int) = (n : Int) := by
        have := (List.mem_filter.1 hy).2
        simpa using this
      exact cb y (outH_mem hy) (by omega)
    · rw [List.mem_singleton] at hy; rw [hy, hxn]; exact hxb
  have hlc : ∀ y, y ∈ l → s.dirty y.N = false := fun y hy => by
    have : y.N ∈ outN s.order (n : Int) ++ [n] := by rw [← hmap]; exact List.mem_map.2 ⟨y, hy, rfl⟩
    rcases List.mem_append.1 this with h | h
    · cases hd : s.dirty y.N with
      | false => rfl
      | true => exact absurd (mem_outN.1 h).1 (ha.apart _ hd)
    · rw [List.mem_singleton] at h; rw [h]; exact ha.clean
  have hask : askH s.room C x = if s.room < l.length then l.tail else l := by unfold askH; rw [hxn, ← hll]
  rw [e, hask, hlen]
  split
  · unfold dropC
    cases hlc2 : l with
    | nil => rw [hlc2] at hmap; have := congrArg List.length hmap; simp at this
    | cons y r =>
      rw [hlc2] at hmap hnd hlb hlc
      have ho : (askC s n).order = y.N :: r.map Hd.N := by rw [show (askC s n).order = outN s.order (n : Int) ++ [n] from rfl, ← hmap]; rfl
      rw [ho]
      have hne : ∀ v, v ∈ r → ¬ ((v.N : Int) = (y.N : Int)) := fun v hv e => by
        have h1 : y.N ∉ r.map Hd.N := (List.nodup_cons.1 hnd).1
        exact h1 (List.mem_map.2 ⟨v, hv, by omega⟩)
      refine ⟨rfl, fun v hv => ?_, fun v hv => ?_⟩
      · show (if (v.N : Int) = (y.N : Int) then none else s.blocks v.N) = _
        rw [if_neg (hne v hv)]
        exact hlb v (List.mem_cons_of_mem _ hv)
      · show (if (v.N : Int) = (y.N : Int) then none else s.blocks v.N) = _
        rw [if_neg (fun e => by
          have h1 := hlc y List.mem_cons_self
          have h2 := (hD v hv).1
          rw [show v.N = y.N by omega, h1] at h2
          cases h2)]
        exact (hD v hv).2
  · exact ⟨hmap, hlb, fun v hv => (hD v hv).2⟩
/-- Get tells the same -/
theorem rc_get {t u : Dsk} (ok : CaOk t.n s) (h : Rc t.n s D C) (hn : u.n = t.n) (hr : ∀ m, m < t.n → readB u m = readB t m) {z : Int} {cd k : Nat} {b : List UInt8} {C' : List Hd} (hg : GetH u s.room D C z cd k b C') :
    (getC t s z).1 = cd ∧ (getC t s z).2.1 = ⟨k, b⟩ ∧ Rc t.n (getC t s z).2.2 D C' := by
  rcases hg with ⟨h1, rfl, rfl, rfl, rfl⟩ | ⟨hin, hg⟩
  · rw [hn] at h1
    rw [show getC t s z = (2, nilB, s) from if_neg h1]
    exact ⟨rfl, rfl, h⟩
  rw [hn] at hin
  obtain ⟨n, rfl⟩ : ∃ n : Nat, z = (n : Int) := ⟨z.toNat, by omega⟩
  have h50 : 50 ≤ n := by omega
  have hnt : n < t.n := by omega
  have hD : ∀ y, y ∈ D → s.dirty y.N = true ∧ s.blocks y.N = some ⟨y.k, y.b⟩ := fun y hy => ⟨(h.dirty hy).1, h.db y hy⟩
  rcases hg with ⟨i, hi, e1, rfl, rfl, rfl, rfl⟩ | ⟨hnoD, hg⟩
  · have hx := getD_mem hi
    obtain ⟨x, hxx⟩ : ∃ x, x = D.getD i hz := ⟨_, rfl⟩
    rw [← hxx] at hx e1 ⊢
    obtain rfl : x.N = n := by omega
    rw [getC_some h50 hnt (h.db x hx)]
    refine ⟨rfl, rfl, ?_⟩
    show Rc t.n (if s.dirty x.N then s else _) D _
    rw [(h.dirty hx).1]
    exact h
  have hnd : s.dirty n = false := by
    cases hd : s.dirty n with
    | false => rfl
    | true =>
      have : n ∈ D.map Hd.N := by rw [h.dn]; exact mem_dirtyN.2 ⟨hnt, hd⟩
      obtain ⟨x, hx, e⟩ := List.mem_map.1 this
      exact absurd (by rw [e]) (all_not hnoD hx)
  rcases hg with ⟨i, hi, e1, rfl, rfl, rfl, rfl⟩ | ⟨hnoC, hg⟩
  · have hx := getD_mem hi
    obtain ⟨x, hxx⟩ : ∃ x, x = C.getD i hz := ⟨_, rfl⟩
    rw [← hxx] at hx e1 ⊢
    have exn : x.N = n := by omega
    have hb : s.blocks n = some ⟨x.k, x.b⟩ := by rw [← exn]; exact h.cb x hx
    rw [getC_some h50 hnt hb]
    refine ⟨rfl, rfl, ?_⟩
    show Rc t.n (if s.dirty n then s else askedC s n) D _
    rw [hnd]
    have ha := ok.ask (by rw [hb]; rfl) hnd
    obtain ⟨a1, a2, a3⟩ := rc_ask ha exn hb h.cn (fun y hy _ => h.cb y hy) hD
    exact ⟨by rw [h.dn]; unfold dirtyN; rw [if_neg (by decide), (asked_same ha).1], a1, a3, a2⟩
  have hbn : s.blocks n = none := by
    cases hb : s.blocks n with
    | none => rfl
    | some y =>
      have := (ok.cov n).1 (by rw [hb]; rfl)
      rcases this with e | e
      · rw [hnd] at e; cases e
      · rw [← h.cn] at e
        obtain ⟨x, hx, e⟩ := List.mem_map.1 e
        exact absurd (by rw [e]) (all_not hnoC hx)
  rw [show (n : Int).toNat = n from rfl, hr n hnt] at hg
  rcases hg with ⟨h1, rfl, rfl, rfl, rfl⟩ | ⟨h1, rfl, rfl, rfl, x, e1, e2, e3, rfl⟩
  · rw [getC_bad h50 hnt hbn h1]
    exact ⟨rfl, rfl, h⟩
  · rw [getC_read h50 hnt hbn h1]
    refine ⟨rfl, rfl, ?_⟩
    obtain ⟨v, hv⟩ : ∃ v : Bk, v = ⟨(readB t n).2.1, (readB t n).2.2⟩ := ⟨_, rfl⟩
    show Rc t.n (if s.dirty n then putB s n ⟨(readB t n).2.1, (readB t n).2.2⟩ else askedC (putB s n ⟨(readB t n).2.1, (readB t n).2.2⟩) n) D _
    rw [hnd]
    have ha := (ask_new ok hbn h50 hnt (x := ⟨(readB t n).2.1, (readB t n).2.2⟩) (readB_ok h1)).1
    have hne : ∀ y : Hd, s.blocks y.N = some ⟨y.k, y.b⟩ → y.N ≠ n := fun y hy e => by rw [e, hbn] at hy; cases hy
    have hpb : ∀ m, m ≠ n → (putB s n ⟨(readB t n).2.1, (readB t n).2.2⟩).blocks m = s.blocks m := fun m hm => if_neg hm
    obtain ⟨a1, a2, a3⟩ := rc_ask (x := x) (D := D) (C := C) ha (by omega) (by show (if n = n then _ else _) = _; rw [if_pos rfl, e2, e3]) h.cn (fun y hy hy2 => by rw [hpb _ hy2]; exact h.cb y hy) (fun y hy => ⟨(hD y hy).1, by rw [hpb _ (hne y (h.db y hy))]; exact h.db y hy⟩)
    exact ⟨by rw [h.dn]; unfold dirtyN; rw [if_neg (by decide), (asked_same ha).1]; rfl, a1, a3, a2⟩
theorem rc_forget (h : Rc N s D C) (z : Int) : Rc N (forgetC s z) (outH D z) (outH C z) := by
  have hne : ∀ L : List Hd, ∀ x, x ∈ outH L z → ¬ (x.N : Int) = z := fun L x hx => by
    have := (List.mem_filter.1 hx).2
    simpa using this
  refine ⟨?_, ?_, fun x hx => ?_, fun x hx => ?_⟩
  · rw [map_outH, h.dn]
    unfold outN dirtyN
    rw [List.filter_filter]
    refine List.filter_congr fun m _ => ?_
    show (!((m : Int) == z) && s.dirty m) = (if (m : Int) = z then false else s.dirty m)
    by_cases e : (m : Int) = z
    · simp [e]
    · simp [e]
  · rw [map_outH, h.cn]; rfl
  · show (if (x.N : Int) = z then none else s.blocks x.N) = _
    rw [if_neg (hne D x hx)]
    exact h.db x (outH_mem hx)
  · show (if (x.N : Int) = z then none else s.blocks x.N) = _
    rw [if_neg (hne C x hx)]
    exact h.cb x (outH_mem hx)
theorem asc_ext : ∀ {l m : List Nat}, l.Pairwise (· < ·) → m.Pairwise (· < ·) → (∀ x, x ∈ l ↔ x ∈ m) → l = m
  | [], [], _, _, _ => rfl
  | [], y :: m, _, _, h => by have := (h y).2 List.mem_cons_self; cases this
  | x :: l, [], _, _, h => by have := (h x).1 List.mem_cons_self; cases this
  | x :: l, y :: m, h1, h2, h => by
    obtain ⟨a1, a2⟩ := List.pairwise_cons.1 h1
    obtain ⟨b1, b2⟩ := List.pairwise_cons.1 h2
    have e : x = y := by
      rcases List.mem_cons.1 ((h x).1 List.mem_cons_self) with e | e
      · exact e
      · rcases List.mem_cons.1 ((h y).2 List.mem_cons_self) with e2 | e2
        · exact e2.symm
        · have := a1 _ e2; have := b1 _ e; omega
    subst e
    rw [asc_ext a2 b2 fun z => ?_]
    constructor
    · intro hz
      rcases List.mem_cons.1 ((h z).1 (List.mem_cons_of_mem _ hz)) with e | e
      · have := a1 z hz; omega
      · exact e
    · intro hz
      rcases List.mem_cons.1 ((h z).2 (List.mem_cons_of_mem _ hz)) with e | e
      · have := b1 z hz; omega
      · exact e
theorem insH_mem {L : List Hd} {i : Nat} {x y : Hd} : y ∈ insH L i x ↔ y ∈ L ∨ y = x := by
  unfold insH
  rw [List.mem_append, List.mem_append, List.mem_singleton]
  constructor
  · rintro ((h | h) | h)
    · exact .inl (List.mem_of_mem_take h)
    · exact .inr h
    · exact .inl (List.mem_of_mem_drop h)
  · rintro (h | h)
    · rw [← List.take_append_drop i L] at h
      rcases List.mem_append.1 h with h | h
      · exact .inl (.inl h)
      · exact .inr h
    · exact .inl (.inr h)
/-- a block put at its place: the numbers rise -/
theorem insH_asc {L : List Hd} {i : Nat} {x : Hd} (hL : (L.map Hd.N).Pairwise (· < ·)) (hn : ∀ y, y ∈ L → y.N ≠ x.N) (hi : i ≤ L.length) (h1 : ∀ j, j < i → (L.getD j hz).N < x.N) (h2 : i = L.length ∨ ¬ (L.getD i hz).N < x.N) : ((insH L i x).map Hd.N).Pairwise (· < ·) := by
  have hL2 : L.Pairwise fun a b => a.N < b.N := (List.pairwise_map (f := Hd.N)).1 hL
  refine (List.pairwise_map (f := Hd.N)).2 ?_
  have hget := List.pairwise_iff_getElem.1 hL2
  have ht : ∀ a, a ∈ L.take i → a.N < x.N := fun a ha => by
    obtain ⟨j, hj, e⟩ := List.getElem_of_mem ha
    rw [List.length_take] at hj
    have h3 := h1 j (by omega)
    rw [List.getD_eq_getElem?_getD, List.getElem?_eq_getElem (by omega)] at h3
    rw [← e, List.getElem_take]
    exact h3
  have hd : ∀ b, b ∈ L.drop i → x.N < b.N := fun b hb => by
    obtain ⟨j, hj, e⟩ := List.getElem_of_mem hb
    rw [List.length_drop] at hj
    rcases h2 with h2 | h2
    · omega
    · have hil : i < L.length := by omega
      rw [List.getD_eq_getElem?_getD, List.getElem?_eq_getElem hil] at h2
      have h2 : ¬ L[i].N < x.N := h2
      have h4 := hn L[i] (List.getElem_mem _)
      rw [← e, List.getElem_drop]
      by_cases ej : j = 0
      · subst ej
        show x.N < (L[i + 0]).N
        have : L[i + 0] = L[i] := rfl
        rw [this]; omega
      · have := hget i (i + j) hil (by omega) (by omega)
        omega
  unfold insH
  rw [List.pairwise_append, List.pairwise_append]
  refine ⟨⟨hL2.sublist (List.take_sublist _ _), List.pairwise_singleton _ _, fun a ha b hb => ?_⟩, hL2.sublist (List.drop_sublist _ _), fun a ha b hb => ?_⟩
  · rw [List.mem_singleton] at hb; rw [hb]; exact ht a ha
  · rcases List.mem_append.1 ha with ha | ha
    · have := ht a ha; have := hd b hb; omega
    · rw [List.mem_singleton] at ha; rw [ha]; exact hd b hb
/-- Put tells the same -/
theorem rc_put {t u : Dsk} (h : Rc t.n s D C) (hn : u.n = t.n) {z kd : Int} {l : List UInt8} {cd : Nat} {D' C' : List Hd} (hp : PutH u D C z kd l cd D' C') :
    (putR t s z kd l).1 = cd ∧ Rc t.n (putR t s z kd l).2 D' C' := by
  rcases hp with ⟨h1, rfl, rfl, rfl⟩ | ⟨hin, hm, rfl, rfl, rfl⟩ | ⟨hin, hm, rfl, rfl, x, i, e1, e2, e3, hi, h1, h2, rfl⟩
  · rw [hn] at h1
    unfold putR
    rw [if_neg h1]
    exact ⟨rfl, h⟩
  · rw [hn] at hin
    unfold putR
    rw [if_pos hin, if_neg hm]
    exact ⟨rfl, h⟩
  · rw [hn] at hin
    unfold putR
    rw [if_pos hin, if_pos hm]
    obtain ⟨n, rfl⟩ : ∃ n : Nat, z = (n : Int) := ⟨z.toNat, by omega⟩
    have exn : x.N = n := by omega
    refine ⟨rfl, ?_⟩
    show Rc t.n (putC s n ⟨kd.toNat, l⟩) _ _
    have hf := rc_forget h (n : Int)
    have hne : ∀ L : List Hd, ∀ y, y ∈ outH L (n : Int) → y.N ≠ n := fun L y hy e => by
      have := (List.mem_filter.1 hy).2
      rw [e] at this
      simp at this
    refine ⟨asc_ext (insH_asc (by rw [hf.dn]; exact dirtyN_asc _ _) (fun y hy => by rw [exn]; exact hne D y hy) hi h1 h2) (dirtyN_asc _ _) fun m => ?_, hf.cn, fun y hy => ?_, fun y hy => ?_⟩
    · rw [mem_dirtyN]
      have hdm : (putC s n ⟨kd.toNat, l⟩).dirty m = if m = n then true else (forgetC s (n : Int)).dirty m := rfl
      rw [hdm]
      constructor
      · intro hm2
        obtain ⟨y, hy, e⟩ := List.mem_map.1 hm2
        rcases insH_mem.1 hy with hy | hy
        · have := hf.dirty hy
          rw [e] at this
          refine ⟨this.2, ?_⟩
          rw [if_neg (by rw [← e]; exact hne D y hy)]
          exact this.1
        · rw [hy, exn] at e
          rw [← e]
          exact ⟨by omega, if_pos rfl⟩
      · rintro ⟨g1, g2⟩
        by_cases e : m = n
        · exact List.mem_map.2 ⟨x, insH_mem.2 (.inr rfl), by omega⟩
        · rw [if_neg e] at g2
          have : m ∈ (outH D (n : Int)).map Hd.N := by rw [hf.dn]; exact mem_dirtyN.2 ⟨g1, g2⟩
          obtain ⟨y, hy, e5⟩ := List.mem_map.1 this
          exact List.mem_map.2 ⟨y, insH_mem.2 (.inl hy), e5⟩
    · show (if y.N = n then some (⟨kd.toNat, l⟩ : Bk) else (forgetC s (n : Int)).blocks y.N) = _
      rcases insH_mem.1 hy with hy | hy
      · rw [if_neg (hne D y hy)]; exact hf.db y hy
      · rw [hy, if_pos exn, e3, ← e2]
        congr 2
    · show (if y.N = n then some (⟨kd.toNat, l⟩ : Bk) else (forgetC s (n : Int)).blocks y.N) = _
      rw [if_neg (hne C y hy)]; exact hf.cb y hy
/-- so many dirty blocks are written -/
structure RcF (t t2 : Dsk) (s s2 : Ca) (u2 : Dsk) (D C2 : List Hd) (c i : Nat) : Prop where
  rel : Rel t2 u2 (c + i)
  cn : C2.map Hd.N = s2.order
  cb : ∀ x, x ∈ C2 → s2.blocks x.N = some ⟨x.k, x.b⟩
  db : ∀ x, x ∈ D.drop i → s2.blocks x.N = some ⟨x.k, x.b⟩
theorem rc_flushTo {t u : Dsk} {c : Nat} (ok : CaOk t.n s) (h : Rc t.n s D C) (hrel : Rel t u c) (hc : c ≤ 1000000000000) (hD : D.length ≤ 10000) : ∀ i, i ≤ D.length →
    RcF t (flushTo t s (dirtyN t.n s) i).1 s (flushTo t s (dirtyN t.n s) i).2 (flH u s.room D C i).1 D (flH u s.room D C i).2 c i
  | 0, _ => ⟨hrel, h.cn, h.cb, fun x hx => h.db x (by rw [List.drop_zero] at hx; exact hx)⟩
  | i + 1, hi => by
    have ih := rc_flushTo ok h hrel hc hD i (by omega)
    have hlen : (dirtyN t.n s).length = D.length := by rw [← h.dn, List.length_map]
    obtain ⟨k1, k2, k3, k4⟩ := flushTo_ok ok i (by omega)
    have hd := flushTo_dirty ok (i := i) (by omega)
    have hL : (dirtyN t.n s).getD i 0 = (D.getD i hz).N := by
      rw [← h.dn, List.getD_eq_getElem?_getD, List.getD_eq_getElem?_getD, List.getElem?_map, List.getElem?_eq_getElem (by omega)]
      rfl
    have hnd : ∀ a b, a < (dirtyN t.n s).length → b < a → (dirtyN t.n s).getD b 0 ≠ (dirtyN t.n s).getD a 0 := fun a b h1 h2 => dirtyN_nodup t.n s h1 h2
    rw [flushTo, flH]
    obtain ⟨p, hp⟩ : ∃ p, p = flushTo t s (dirtyN t.n s) i := ⟨_, rfl⟩
    obtain ⟨v, hv⟩ : ∃ v, v = flH u s.room D C i := ⟨_, rfl⟩
    obtain ⟨x, hx⟩ : ∃ x, x = D.getD i hz := ⟨_, rfl⟩
    have hxm : x ∈ D.drop i := by
      rw [hx, List.getD_eq_getElem?_getD, List.getElem?_eq_getElem (by omega)]
      rw [List.drop_eq_getElem_cons (by omega)]
      exact List.mem_cons_self
    have hsub : ∀ y, y ∈ D.drop (i + 1) → y ∈ D.drop i := fun y hy => by
      rw [List.drop_eq_getElem_cons (show i < D.length by omega)]
      exact List.mem_cons_of_mem _ hy
    rw [← hp] at k1 k2 k3 k4 hd ih ⊢
    rw [← hv] at ih ⊢
    rw [hL, ← hx] at hd ⊢
    have hxb := ih.db x hxm
    have ha := ask_flush k1 hd
    have hsec : secOf p.2 x.N = blkSector x.N x.k x.b := by unfold secOf; rw [hxb]; rfl
    have hDd : ∀ y, y ∈ D.drop (i + 1) → (delD p.2 (x.N : Int)).dirty y.N = true ∧ (delD p.2 (x.N : Int)).blocks y.N = some ⟨y.k, y.b⟩ := fun y hy => by
      obtain ⟨j, hj, e⟩ := List.getElem_of_mem hy
      rw [List.length_drop] at hj
      rw [List.getElem_drop] at e
      have hyN : y.N = (dirtyN t.n s).getD (i + 1 + j) 0 := by
        rw [← h.dn, List.getD_eq_getElem?_getD, List.getElem?_map, List.getElem?_eq_getElem (by omega), e]
        rfl
      have hne : y.N ≠ x.N := by
        rw [hyN, hx, ← hL]
        exact fun e => hnd (i + 1 + j) i (by omega) (by omega) e.symm
      refine ⟨?_, ih.db y (hsub y hy)⟩
      show (if (y.N : Int) = (x.N : Int) then false else p.2.dirty y.N) = true
      rw [if_neg (by omega), k2 y.N (fun q hq => by rw [hyN]; exact hnd (i + 1 + j) q (by omega) (by omega))]
      exact (h.dirty (List.mem_of_mem_drop hy)).1
    have hroom : (delD p.2 (x.N : Int)).room = s.room := k4
    have hask := rc_ask (D := D.drop (i + 1)) (C := v.2) ha rfl hxb ih.cn (fun y hy _ => ih.cb y hy) hDd
    rw [hroom] at hask
    obtain ⟨a1, a2, a3⟩ := hask
    refine ⟨?_, a1, a2, a3⟩
    rw [hsec]
    exact ih.rel.write (by omega) _ _
theorem rc_flush {t u : Dsk} {c : Nat} (ok : CaOk t.n s) (h : Rc t.n s D C) (hrel : Rel t u c) (hc : c ≤ 1000000000000) (hD : D.length ≤ 10000) :
    Rel (flushC t s).1 (flH u s.room D C D.length).1 (c + D.length) ∧ Rc t.n (flushC t s).2 [] (flH u s.room D C D.length).2 := by
  have hlen : (dirtyN t.n s).length = D.length := by rw [← h.dn, List.length_map]
  have hF := rc_flushTo ok h hrel hc hD D.length (Nat.le_refl _)
  have hfl : flushC t s = flushTo t s (dirtyN t.n s) D.length := by unfold flushC; rw [hlen]
  have hcl := (flushC_ok ok).2.2
  rw [hfl] at hcl ⊢
  refine ⟨hF.rel, ⟨?_, hF.cn, fun x hx => (by cases hx), hF.cb⟩⟩
  rw [List.map_nil]
  symm
  refine dirtyN_none fun m hm => ?_
  rcases hcl m with e | e
  · exact e
  · omega
end
end Go.Proofs.Ytjndopmjlbhajaa
namespace Go.Proofs.Ytjndopmjlbhajaa
open Go.RowKit Go.Maps
set_option linter.unusedVariables false
set_option linter.unusedSimpArgs false

section
variable {F : Nat → Prop} {w w' w2 : World} {b0 br base gd N room : Nat} {d d' : Dw} {k k' : Cw} {r r' : Rw} {q q' : Qw} {t t' u u' : Dsk} {s s' : Ca} {D C D' C' : List Hd}
theorem core_off5 (h : Ck w base gd N k s) {lo n c : Nat} {A : Option Addr} {l : List Value} (ho : Own w lo 5 1 A n c l) : ∀ b, ablk A = some b → ¬ k.core b := fun b hb x => by
  rcases ho.cases with ⟨h0, _⟩ | ⟨g', cur, hA, _, hh, _⟩
  · rw [h0] at hb; cases hb
  · rw [hA] at hb
    have e1 : g' = b := by injection hb
    subst e1
    rcases x with x | x | x | x
    · exact blk_own_ne h.blk ho (by decide) (by rw [hA, ← x]; rfl)
    · subst x
      obtain ⟨E, ⟨es, clock, h3, _⟩, _⟩ := h.bm
      rw [h3] at hh
      simp at hh
    · subst x
      obtain ⟨E, ⟨es, clock, h3, _⟩, _⟩ := h.dm
      rw [h3] at hh
      simp at hh
    · obtain ⟨_, h2⟩ := h.ord
      rcases h2 with ⟨h3, _⟩ | ⟨g, o, cu, h3, _, h4, _⟩
      · rw [h3] at x; cases x
      · rw [h3] at x
        have e2 : g = g' := by injection x
        subst e2
        rw [h4] at hh
        simp only [Option.some.injEq, Obj.cells.injEq] at hh
        exact absurd hh.2.1 (by decide)
/-- nothing but what is changed is changed of the document's side -/
theorem CD.rk_kept (h : CD w b0 d k t s) (hr : Rk w br r u) (K : Kept (fun b => hardC d k b ∨ b = q.g) w w') (cr : ∀ b, footC d k b → ¬ r.foot u.n b) (hq : ¬ r.foot u.n q.g) (hq5 : ∀ {lo n c : Nat} {A : Option Addr} {l : List Value}, Own w lo 5 1 A n c l → ablk A ≠ some q.g) : Rk w' br r u := by
  refine hr.kept K (fun b x y => ?_) (fun A n c l b ho hb y => ?_)
  · rcases y with y | y
    · exact cr b (hard_foot y) x
    · rw [y] at x; exact hq x
  · rcases y with (y | y) | y
    · exact (two_apart (w' := w) h.dk hr).2 A n c l b ho hb y
    · exact core_off5 h.ck ho b hb y
    · exact hq5 ho (by rw [hb, y])
/-- the two sides in memory -/
structure Am (w : World) (b0 br : Nat) (d : Dw) (k : Cw) (r : Rw) (q : Qw) (t : Dsk) (s : Ca) (u : Dsk) (room : Nat) (D C : List Hd) : Prop where
  cd : CD w b0 d k t s
  rk : Rk w br r u
  qk : Qk w b0 q r.g room D C
  cr : ∀ b, footC d k b → ¬ r.foot u.n b
  cq : ∀ b, footC d k b → ¬ q.foot D C b
  rq : ∀ b, r.foot u.n b → ¬ q.foot D C b
  bs : b0 ≤ br
theorem Am.below {B : Nat} (h : Am w b0 br d k r q t s u room D C) (hb : Below B w w') (hB : w.heap.size ≤ B) : Am w' b0 br d k r q t s u room D C :=
  ⟨h.cd.below hb hB, h.rk.below hb hB, h.qk.below hb hB, h.cr, h.cq, h.rq, h.bs⟩
theorem Am.b0_le (h : Am w b0 br d k r q t s u room D C) : b0 ≤ w.heap.size := Nat.le_trans h.qk.gb (Nat.le_of_lt h.qk.blk.lt)
/-- the program's side is turned -/
theorem Am.onC (h : Am w b0 br d k r q t s u room D C) (c : CCh w w' b0 d d' k k' t' s') : Am w' b0 br d' k' r q t' s' u room D C := by
  have K2 : Kept (fun b => hardC d k b ∨ b = q.g) w w' := c.K.mono (fun b _ x => .inl x)
  refine ⟨c.cd, h.cd.rk_kept h.rk K2 h.cr (fun x => h.rq _ x (.inl rfl)) (fun ho => h.qk.bod_ne ho), h.qk.kept c.K (fun b x y => h.cq b (hard_foot y) x), fun b x y => ?_, fun b x y => ?_, h.rq, h.bs⟩
  · rcases c.foot b x with z | z
    · exact h.cr b z y
    · have := (h.rk.foot_base b y).2; omega
  · rcases c.foot b x with z | z
    · exact h.cq b z y
    · have := (h.qk.foot_base b y).2; omega
/-- the document's disk is turned -/
theorem Am.onR (h : Am w b0 br d k r q t s u room D C) (c : Rch w w' br r r' u.n u') : Am w' b0 br d k r' q t s u' room D C := by
  have hn := c.n_
  have hf : ∀ b, r'.foot u'.n b → r.foot u.n b ∨ w.heap.size ≤ b := fun b x => c.foot b (by rw [hn] at x; exact x)
  have hq := h.qk.kept c.K (fun b x y => h.rq b y x)
  rw [← c.g] at hq
  refine ⟨h.cd.kept c.K (fun b x y => h.cr b x y), c.rk, hq, fun b x y => ?_, h.cq, fun b x y => ?_, h.bs⟩
  · rcases hf b y with z | z
    · exact h.cr b x z
    · have := (h.cd.foot_base b x).2; omega
  · rcases hf b x with z | z
    · exact h.rq b z y
    · have := (h.qk.foot_base b y).2; omega
/-- the document's cache is turned -/
theorem Am.onQ (h : Am w b0 br d k r q t s u room D C) (c : Qch (fun _ => False) w w' b0 q q' r.g room D C D' C') : Am w' b0 br d k r q' t s u room D' C' := by
  have hf : ∀ b, q'.foot D' C' b → q.foot D C b ∨ w.heap.size ≤ b := fun b x => by
    rcases c.foot b x with y | y | y
    · exact .inl y
    · exact y.elim
    · exact .inr y
  refine ⟨h.cd.kept c.K (fun b x y => h.cq b x (.inl y)), h.rk.kept c.K (fun b x y => h.rq b x (.inl y)) (fun A n c2 l b ho hb y => h.qk.bod_ne ho (by rw [hb, y])), c.qk, h.cr, fun b x y => ?_, fun b x y => ?_, h.bs⟩
  · rcases hf b y with z | z
    · exact h.cq b x z
    · have := (h.cd.foot_base b x).2; omega
  · rcases hf b y with z | z
    · exact h.rq b x z
    · have := (h.rk.foot_base b x).2; omega
/-- both of the document's side are turned -/
theorem Am.onRQ (h : Am w b0 br d k r q t s u room D C) (c : RQh w w' br b0 r r' q q' room u u' D C D' C') : Am w' b0 br d k r' q' t s u' room D' C' := by
  have hq := c.qk
  rw [← c.rg] at hq
  refine ⟨h.cd.kept c.K (fun b x y => ?_), c.rk, hq, fun b x y => ?_, fun b x y => ?_, c.ap, h.bs⟩
  · rcases y with y | y
    · exact h.cr b x y
    · exact h.cq b x (.inl y)
  · rcases c.rf b y with z | z
    · exact h.cr b x z
    · have := (h.cd.foot_base b x).2; omega
  · rcases c.qf b y with z | z
    · exact h.cq b x z
    · have := (h.cd.foot_base b x).2; omega
theorem RQh.bel (h : Am w b0 br d k r q t s u room D C) (c : RQh w w' br b0 r r' q q' room u u' D C D' C') : Below b0 w w' := c.K.below h.b0_le (fun b x => by
  rcases x with x | x
  · have := (h.rk.foot_base b x).1; have := h.bs; omega
  · rw [x]; exact h.qk.gb)
theorem Rch.bel0 (h : Am w b0 br d k r q t s u room D C) (c : Rch w w' br r r' u.n u') : Below b0 w w' := (c.bel h.rk).mono h.bs
/-- all of a round: both sides answer alike; c: how many writes there were -/
def All (w : World) (b0 br gd gk gr gq room c : Nat) : Prop := ∃ (d : Dw) (k : Cw) (r : Rw) (q : Qw) (t : Dsk) (s : Ca) (u : Dsk) (D C : List Hd), Am w b0 br d k r q t s u room D C ∧ Rel t u c ∧ CaOk t.n s ∧ Rc t.n s D C ∧ t.n = 60 ∧ s.room = room ∧ d.g = gd ∧ k.g = gk ∧ r.g = gr ∧ q.g = gq
theorem Rel.more {c c2 : Nat} (h : Rel t u c) (hc : c ≤ c2) : Rel t u c2 := by
  obtain ⟨e, rfl⟩ : ∃ e, c2 = c + e := ⟨c2 - c, by omega⟩
  induction e with
  | zero => exact h
  | succ e ih => exact (ih (by omega)).idle
theorem Rc.len (h : Rc t.n s D C) (ok : CaOk t.n s) (hn : t.n = 60) : D.length ≤ 60 ∧ C.length ≤ s.room ∧ s.room ≤ 1024 ∧ 1 ≤ s.room := by
  have h1 : D.length = (dirtyN t.n s).length := by rw [← h.dn, List.length_map]
  have h2 : C.length = s.order.length := by rw [← h.cn, List.length_map]
  have h3 : (dirtyN t.n s).length ≤ 60 := Nat.le_trans (List.length_filter_le _ _) (by rw [List.length_range, hn]; exact Nat.le_refl _)
  exact ⟨by omega, by rw [h2]; exact ok.len, ok.room.2, ok.room.1⟩
end
end Go.Proofs.Ytjndopmjlbhajaa
