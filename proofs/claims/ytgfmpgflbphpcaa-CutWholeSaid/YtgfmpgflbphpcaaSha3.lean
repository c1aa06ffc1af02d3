/- sums.Sha: the digest. -/
import Derived.Test.YtgfmpgflbphpcaaSha2
import Derived.Test.YtgfmpgflbphpcaaOwn
import Derived.Test.YtgfmpgflbphpcaaPlainF
import Derived.OwnWalk
namespace Go.Proofs.Ytgfmpgflbphpcaa
open Go.RowKit

theorem zero41 (w : World) : (zeroValue 26).run Try.prog w = .ok (.agg (zeros 32).toArray) w := by kernel_rfl
theorem size41 : (Try.prog.info? 26).map (·.size) = some 32 := by kernel_rfl
theorem pad_out (m k : Nat) (h : k ≤ padZ m) (ht : (m + 1 + k) % 64 = 56) : k = padZ m := by
  unfold padZ at *; omega
theorem pad_in (m k : Nat) (h : k ≤ padZ m) (ht : ¬ (m + 1 + k) % 64 = 56) : k + 1 ≤ padZ m := by
  unfold padZ at *; omega
theorem pad_lt (m : Nat) : padZ m < 64 := by unfold padZ; omega

set_option maxRecDepth 100000 in
set_option maxHeartbeats 4000000 in
theorem words_any (w : World) : Calls Try.prog 37 #[] w fun e w' => e = .returned (.agg (us shaK).toArray) ∧ Below w.heap.size w w' := by
  have z49 := zero49
  go_enter Try.func37, Try.ntmps37
  go_wp2_with (first | (refine wpList_build rfl 49 _ rfl (by kernel_rfl) ?_) | (refine row_set rfl rfl 49 (.tmp 0) (.tmp 1) rfl w.heap.size rfl (us shaK) (by kernel_rfl) 49 _ (Blk.new _ _ _) (by rw [size49]; rfl) rfl (us_oneCell _) ?_; intro w1 H1 g1))
  refine bodyPost_ret (results_cell_row rfl _ w1 w.heap.size 49 _ (0, 0) _ rfl H1.out Try.underlying49 rfl (by rw [size49]; simp [length_us]; rfl)) rfl ?_
  exact ⟨rfl, ((Below.refl _ _).alloc (Nat.le_refl _) _).grown g1 (by simp) (by intro k hk; simp at hk; omega)⟩

theorem not_if : (if IntKind.u32.signed = true then (-1 : Int) else IntKind.u32.max) = 4294967295 := rfl
theorem u32_not0 (a : Nat) (ha : a < 4294967296) : bits .xor .u32 4294967295 (a : Int) = ((4294967295 - a : Nat) : Int) := u32_not a ha
theorem sum5 (h p c k w : Nat) : (((h : Int) + p + c + k) % 4294967296 + w) % 4294967296 = (((h + p + c + k + w) % 4294967296 : Nat) : Int) := by omega
theorem shaT_val (e f g h k w : Nat) (he : e < 4294967296) (hf : f < 4294967296) (hg : g < 4294967296) :
    ((((h : Int) + bits .xor .u32 (bits .xor .u32 ((rotr e 6 : Nat) : Int) ((rotr e 11 : Nat) : Int)) ((rotr e 25 : Nat) : Int) + bits .xor .u32 (bits .and .u32 (e : Int) (f : Int)) (bits .and .u32 (bits .xor .u32 4294967295 (e : Int)) (g : Int)) + k) % 4294967296 + w) % 4294967296) = ((shaT e f g h k w : Nat) : Int) := by
  have h1 := rotr_lt he (n := 6) (by omega) (by omega)
  have h2 := rotr_lt he (n := 11) (by omega) (by omega)
  have h3 := rotr_lt he (n := 25) (by omega) (by omega)
  rw [u32_xor _ _ h1 h2, u32_xor _ _ (xor_lt h1 h2) h3, u32_not0 e he, u32_and _ _ he hf, u32_and _ _ (by omega) hg, u32_xor _ _ (and_lt he) (and_lt (by omega)), sum5]
  rfl
theorem shaU_val (a b c : Nat) (ha : a < 4294967296) (hb : b < 4294967296) (hc : c < 4294967296) :
    (bits .xor .u32 (bits .xor .u32 ((rotr a 2 : Nat) : Int) ((rotr a 13 : Nat) : Int)) ((rotr a 22 : Nat) : Int) + bits .xor .u32 (bits .xor .u32 (bits .and .u32 (a : Int) (b : Int)) (bits .and .u32 (a : Int) (c : Int))) (bits .and .u32 (b : Int) (c : Int))) % 4294967296 = ((shaU a b c % 4294967296 : Nat) : Int) := by
  have h1 := rotr_lt ha (n := 2) (by omega) (by omega)
  have h2 := rotr_lt ha (n := 13) (by omega) (by omega)
  have h3 := rotr_lt ha (n := 22) (by omega) (by omega)
  rw [u32_xor _ _ h1 h2, u32_xor _ _ (xor_lt h1 h2) h3, u32_and _ _ ha hb, u32_and _ _ ha hc, u32_and _ _ hb hc, u32_xor _ _ (and_lt ha) (and_lt ha), u32_xor _ _ (xor_lt (and_lt ha) (and_lt ha)) (and_lt hb), ← Int.natCast_add]
  rfl
theorem built8 (a b c d e f g h : Int) : Try.prog.built 51 [(0, .int .u32 a), (1, .int .u32 b), (2, .int .u32 c), (3, .int .u32 d), (4, .int .u32 e), (5, .int .u32 f), (6, .int .u32 g), (7, .int .u32 h)] = some #[.int .u32 a, .int .u32 b, .int .u32 c, .int .u32 d, .int .u32 e, .int .u32 f, .int .u32 g, .int .u32 h] := by kernel_rfl
theorem one8 (a b c d e f g h : Int) : ∀ v ∈ [Value.int .u32 a, .int .u32 b, .int .u32 c, .int .u32 d, .int .u32 e, .int .u32 f, .int .u32 g, .int .u32 h], v.oneCell' = true := by
  intro v hv
  simp only [List.mem_cons, List.not_mem_nil, or_false] at hv
  rcases hv with rfl | rfl | rfl | rfl | rfl | rfl | rfl | rfl <;> rfl
theorem wpList_built {P : Program} {ops : Array Oper} {rest : List Oper} {o : Oper} {a : Act} {w : World} {Q : Exit → Act → World → Prop} (hg : o.guard = none) (t : TypeId) (ps : List (Nat × Operand)) (ho : o.op = .build t ps.toArray) {cells : Array Value}
    (hf : P.built t (ps.map fun p => (p.1, a.eval p.2)) = some cells) (h : wpList P ops Q rest (a.put o.dst (.agg cells)) w) : wpList P ops Q (o :: rest) a w := by
  have hf' : P.built t (ps.toArray.map fun (i, x) => (i, a.eval x)).toList = some cells := by simpa using hf
  exact wpList_build hg t ps.toArray ho (by rw [hf']; rfl) (by rw [hf']; exact h)
theorem us_get (l : List Nat) (i : Nat) (h : i < l.length) : (us l)[i]? = some (.int .u32 (l.getD i 0 : Nat)) := by
  rw [us, List.getElem?_map, List.getElem?_eq_getElem h, List.getD_eq_getElem?_getD, List.getElem?_eq_getElem h]
  rfl
/-- what lies in memory within a block's rounds: x, the words, k, s -/
def Sw (V0 : World) (gK gS gX gW : Nat) (X S W : List Nat) (V : World) : Prop :=
  Blk V gX 51 (us X) ∧ Blk V gW 49 (us W) ∧ Blk V gK 49 (us shaK) ∧ Blk V gS 51 (us S) ∧ Below V0.heap.size V0 V
theorem Sw.drewN {V0 : World} {gK gS gX gW : Nat} {X S W : List Nat} {V : World} (h : Sw V0 gK gS gX gW X S W V) (n : Nat) : Sw V0 gK gS gX gW X S W (V.drewN n) :=
  ⟨h.1.drewN _, h.2.1.drewN _, h.2.2.1.drewN _, h.2.2.2.1.drewN _, below_drewN h.2.2.2.2 _⟩
theorem Sw.setX {V0 : World} {gK gS gX gW : Nat} {X X' S W : List Nat} {V V' : World} (h : Sw V0 gK gS gX gW X S W V) (hg : V.grownBy V' (some gX)) (hb : Blk V' gX 51 (us X')) (h0 : V0.heap.size ≤ gX) (h1 : gK < gS) (h2 : gS < gW) (h3 : gW < gX) : Sw V0 gK gS gX gW X' S W V' :=
  ⟨hb, h.2.1.grown hg (by simp; omega), h.2.2.1.grown hg (by simp; omega), h.2.2.2.1.grown hg (by simp; omega), h.2.2.2.2.grown hg h.2.2.2.2.size (by intro k hk; simp at hk; omega)⟩
theorem us_step (a b c d e f g z k w T U : Nat) (hT : shaT e f g z k w = T) (hU : shaU a b c % 4294967296 = U) :
    [Value.int .u32 (((T : Int) + U) % 4294967296), .int .u32 a, .int .u32 b, .int .u32 c, .int .u32 (((d : Int) + T) % 4294967296), .int .u32 e, .int .u32 f, .int .u32 g] = us (shaStep [a, b, c, d, e, f, g, z] k w) := by
  subst hT hU
  simp only [shaStep, us, List.map_cons, List.map_nil]
  rw [show ((shaT e f g z k w : Int) + ((shaU a b c % 4294967296 : Nat) : Int)) % 4294967296 = (((shaT e f g z k w + shaU a b c) % 4294967296 : Nat) : Int) by omega,
    show ((d : Int) + (shaT e f g z k w : Int)) % 4294967296 = (((d + shaT e f g z k w) % 4294967296 : Nat) : Int) by omega]
theorem us_set (l : List Nat) (i x : Nat) : (us l).set i (.int .u32 (x : Int)) = us (l.set i x) := by simp [us, List.map_set]
theorem shaOut_get (S : List Nat) (h : S.length = 8) (i j : Nat) (hi : i < 8) (hj : j < 4) : (shaOut S).getD (4 * i + j) 0 = UInt8.ofNat (S.getD i 0 / 2 ^ (24 - 8 * j) % 256) := by
  obtain ⟨a, b, c, d, e, f, g, k, rfl⟩ := list8 h
  have hi' : i = 0 ∨ i = 1 ∨ i = 2 ∨ i = 3 ∨ i = 4 ∨ i = 5 ∨ i = 6 ∨ i = 7 := by omega
  have hj' : j = 0 ∨ j = 1 ∨ j = 2 ∨ j = 3 := by omega
  rcases hi' with rfl | rfl | rfl | rfl | rfl | rfl | rfl | rfl <;> rcases hj' with rfl | rfl | rfl | rfl <;> first | rfl | (simp [shaOut, be4])
theorem length_sha (l : List UInt8) : (sha l).length = 32 := by
  obtain ⟨a, b, c, d, e, f, g, k, h⟩ := list8 (W8_H.blocks (shaPad l) ((shaPad l).length / 64)).1
  rw [sha, h]; rfl
theorem length_shaOut (S : List Nat) (h : S.length = 8) : (shaOut S).length = 32 := by
  obtain ⟨a, b, c, d, e, f, g, k, rfl⟩ := list8 h
  rfl
/-- the first n bytes, then nulls -/
def outP (o : List UInt8) (n : Nat) : List UInt8 := o.take n ++ List.replicate (32 - n) 0
theorem outP_set (o : List UInt8) (n : Nat) (h : o.length = 32) (hn : n < 32) : (bvs (outP o n)).set n (bv (o.getD n 0)) = bvs (outP o (n + 1)) := by
  have e1 : (o.take n).length = n := by rw [List.length_take]; omega
  rw [bvs, ← List.map_set, bvs, outP, List.set_append_right _ _ (by omega), e1, Nat.sub_self, show 32 - n = (31 - n) + 1 by omega, List.replicate_succ, List.set_cons_zero, outP, List.take_succ_eq_append_getElem (by omega), List.append_assoc, show 32 - (n + 1) = 31 - n by omega, List.getD_eq_getElem?_getD, List.getElem?_eq_getElem (by omega)]
  rfl
theorem length_outP (o : List UInt8) (n : Nat) (h : o.length = 32) (hn : n ≤ 32) : (outP o n).length = 32 := by
  rw [outP, List.length_append, List.length_take, List.length_replicate]; omega
theorem outP_next (o : List UInt8) (n : Nat) (h : o.length = 32) (hn : n < 32) : (bvs (outP o n))[n]? = some (.int .u8 0) := by
  have e1 : (o.take n).length = n := by rw [List.length_take]; omega
  rw [bvs, List.getElem?_map, outP, List.getElem?_append_right (by omega), e1, Nat.sub_self, List.getElem?_replicate, if_pos (by omega)]
  rfl
theorem info28 : (Try.prog.info? 28).map (fun i => (i.zero, i.size, i.bytes)) = some (some (.int .u32 0), 1, 4) := by kernel_rfl
theorem run_index_us (S : List Nat) (h : S.length = 8) (i : Nat) (hi : i < 8) (w : World) : (Instr.index 51 (.agg (us S).toArray) (.int .i64 i)).run Try.prog w = .ok (.int .u32 (S.getD i 0 : Nat)) w := by
  obtain ⟨a, b, c, d, e, f, g, k, rfl⟩ := list8 h
  obtain ⟨i0, hi0, _, hsz, _⟩ := info_parts info28
  have hi' : i = 0 ∨ i = 1 ∨ i = 2 ∨ i = 3 ∨ i = 4 ∨ i = 5 ∨ i = 6 ∨ i = 7 := by omega
  rcases hi' with rfl | rfl | rfl | rfl | rfl | rfl | rfl | rfl <;> simp [Instr.index, run_underlying Try.underlying51, asIntOf, part, sizeOf, typeInfo, us, go_sem, hi0, hsz]
theorem turn_k (x n : Nat) (k : Int) (w : World) (hk : k = n) (hx : x < 4294967296) (h : n ∈ shaN) :
    Calls Try.prog 39 #[.int .u32 x, .int .i64 k] w fun e w' => e = .returned (.int .u32 (rotr x n : Nat)) ∧ w = w' := by
  subst hk; exact turn_any x n w hx h
theorem quiet_left {P : Program} {f : FuncId} {args : Array Value} {w : World} {n : Nat} {v : Value}
    (h : Calls P f args (w.drewN n) fun e w' => e = .returned v ∧ w.drewN n = w') : Calls P f args (w.drewN n) fun e w'' => e = .returned v ∧ ∃ m, w'' = w.drewN m :=
  h.mono fun _ _ ⟨he, hm⟩ => ⟨he, n, hm.symm⟩
set_option maxRecDepth 100000 in
set_option maxHeartbeats 8000000 in
theorem sha_any {A : Option Addr} {m c lo : Nat} {l : List UInt8} {w : World} (hb : Bs w lo A m c l) (hm : m ≤ 1099511627776) :
    Calls Try.prog 18 #[.slice A m c] w fun e w' => e = .returned (.agg (bvs (sha l)).toArray) ∧ Below w.heap.size w w' := by
  have z41 := zero41
  have z49 := zero49
  have z51 := zero51
  have b0 := (Below.refl w.heap.size w).alloc (Nat.le_refl _) (.cells (zeros 32).toArray 26)
  have HR := Lib.hid (hb.below b0 (Nat.le_refl _)).2.2.2
  have HL := Lib.hid hb.1
  clear hb
  go_enter Try.func18, Try.ntmps18
  go_wp2_with (at_builtin; first
      | (refine wpList_app rfl (.const (.slice none 0 0)) (.tmp 19) 22 rfl 5 1 Try.underlying22 info5 rfl (by omega) rfl (Own.nil_ _ (w.heap.size + 1) 5 1) rfl HR.out (by simpa using HL.out) (bvs_oneCell _) (by omega) (by omega) (by simp) ?_; intro A1 c1 w1 ho1 hg1 _; rw [Nat.zero_add, List.nil_append] at ho1; rw [Nat.zero_add])
      | (refine wpList_app rfl (.tmp 20) (.tmp 21) 22 rfl 5 1 Try.underlying22 info5 rfl (by omega) rfl (ho1.alloc _) rfl (rd_one _ _ rfl) rfl (one_int _ _) (by omega) (by omega) (by have := hg1.size; simp at this ⊢; omega) ?_; intro A2 c2 w2 ho2 hg2 _))
  have Z0 : Blk (w.alloc (.cells (zeros 32).toArray 26)) w.heap.size 26 (zeros 32) := Blk.new _ _ _
  have Z1 := Z0.grown hg1 (by simp)
  have Z2 := (Z1.alloc (.cells #[.int .u8 128] 5)).grown hg2 (own_ne ho1 (Nat.lt_succ_self _))
  have B1 := b0.grown hg1 (by simp) (by intro k hk; simp at hk)
  have B2 := below_own (B1.alloc B1.size (.cells #[.int .u8 128] 5)) (ho1.alloc _) hg2 (by omega) (by have := B1.size; simp; omega)
  have e2 : bvs l ++ [Value.int IntKind.u8 128] = bvs (l ++ [128] ++ List.replicate 0 0) := by simp [bvs, bv]
  rw [e2] at ho2
  have hs2 : w.heap.size + 1 ≤ w2.heap.size := by have h1 := hg1.size; have h2 := hg2.size; simp at h1 h2; omega
  have HW := Lib.hid (show ∀ V : World, Blk V w.heap.size 26 (zeros 32) → w.heap.size < V.heap.size from fun V h => h.lt)
  clear Z0 Z1 B1 ho1 hg1 hg2 e2 b0 hs2
  go_loopw [3] (fun s3 wr => ∃ (k : Nat) (A3 : Option Addr) (c3 : Nat), k ≤ padZ m ∧ s3 = .slice A3 (m + 1 + k) c3 ∧ Own wr (w.heap.size + 1) 5 1 A3 (m + 1 + k) c3 (bvs (l ++ [128] ++ List.replicate k 0)) ∧ Blk wr w.heap.size 26 (zeros 32) ∧ Below w.heap.size w wr)
    (fun s3 _ => m + 1 + padZ m - slen s3)
  case atStart => exact ⟨0, A2, c2, Nat.zero_le _, rfl, ho2, Z2, B2⟩
  case round =>
    obtain ⟨k, A3, c3, hk, rfl, ho3, Z3, B3⟩ := hrel
    clear ho2 Z2 B2
    have hpl := pad_lt m
    have hz := HW.out wr Z3
    have hNb : m + 1 + k ≤ 1099511627840 := by omega
    by_cases ht : (m + 1 + k) % 64 = 56
    · have hkm := Lib.hid (pad_out m k hk ht)
      have htm : ((m + 1 + k : Nat) : Int).tmod 64 = 56 := by rw [Int.tmod_eq_emod_of_nonneg (by omega)]; omega
      have hn8 : IntKind.u64.wrap ((m : Int) * 8) = ((8 * m : Nat) : Int) := by rw [IntKind.wrap_u64]; omega
      have w8 : IntKind.u64.wrap (m : Int) = (m : Int) := by rw [IntKind.wrap_u64]; omega
      clear ht hk
      generalize hN : m + 1 + k = N at *
      have HN := Lib.hid hN
      clear hN
      go_wp2
      go_loopw [3, 4] (fun s3 s4 wr => ∃ (j : Nat) (A4 : Option Addr) (c4 : Nat), j ≤ 8 ∧ s4 = .int .i64 (56 - 8 * (j : Int)) ∧ s3 = .slice A4 (N + j) c4 ∧ Own wr (w.heap.size + 1) 5 1 A4 (N + j) c4 (bvs (l ++ [128] ++ List.replicate k 0 ++ be8 (8 * m) j)) ∧ Blk wr w.heap.size 26 (zeros 32) ∧ Below w.heap.size w wr)
        (fun s3 s4 _ => N + 8 - slen s3)
      case atStart => exact ⟨0, A3, c3, Nat.zero_le _, rfl, rfl, by simpa [be8] using ho3, Z3, B3⟩
      case round =>
        clear ho3 Z3 B3 htm
        obtain ⟨j, A4, c4, hj, rfl, rfl, ho4, Z4, B4⟩ := hrel
        have hz := HW.out wr Z4
        by_cases hlt : j < 8
        · have h0 : (0 : Int) ≤ 56 - 8 * (j : Int) := by omega
          have HJ := Lib.hid hlt
          have htn : (56 - 8 * (j : Int)).toNat = 56 - 8 * j := by omega
          go_wp2_with (at_builtin; refine wpList_app rfl (.tmp 34) (.tmp 42) 22 rfl 5 1 Try.underlying22 info5 rfl (by omega) rfl (ho4.alloc _) rfl (rd_one _ _ rfl) rfl (one_int _ _) (by omega) (by omega) (by simp; omega) ?_; intro A5 c5 w5 ho5 hg5 _)
          have Z5 := (Z4.alloc (.cells #[.int .u8 (8 * (m : Int) / 2 ^ (56 - 8 * j) % 256)] 5)).grown hg5 (own_ne ho4 (Nat.lt_succ_self _))
          have B5 := below_own (B4.alloc B4.size (.cells #[.int .u8 (8 * (m : Int) / 2 ^ (56 - 8 * j) % 256)] 5)) (ho4.alloc _) hg5 (by omega) (by have := B4.size; simp; omega)
          have e5 : Value.int .u8 (8 * (m : Int) / 2 ^ (56 - 8 * j) % 256) = bv (UInt8.ofNat (8 * m / 2 ^ (56 - 8 * j) % 256)) := by
            refine bv_of _ _ ?_
            rw [Nat.mod_mod, Int.natCast_emod, Int.natCast_ediv, Int.natCast_pow, Int.natCast_mul]
            rfl
          rw [e5, bvs_snoc, List.append_assoc] at ho5
          go_roundw
          case rel => exact ⟨j + 1, A5, c5, by omega, by rw [show (56 - 8 * (j : Int) - 8) = 56 - 8 * ((j + 1 : Nat) : Int) by omega], rfl, ho5, Z5, B5⟩
          case measure => simp [slen]; omega
        · obtain rfl : j = 8 := by omega
          have eP : l ++ [128] ++ List.replicate k 0 ++ be8 (8 * m) 8 = shaPad l := by
            rw [shaPad, HL.out, ← hkm.out]
          have hlen : (shaPad l).length = N + 8 := by
            rw [← eP]; simp [be8, HL.out]; have := HN.out; omega
          rw [eP] at ho4
          rw [← hlen] at ho4
          have HP := Lib.hid (show (shaPad l).length = N + 8 from hlen)
          have hlm : (shaPad l).length ≤ 1099511627848 := by omega
          have hmod : (shaPad l).length % 64 = 0 := by
            have h1 := HN.out; have h2 := hkm.out; unfold padZ at h2; omega
          generalize hPP : shaPad l = pad at *
          have HPP := Lib.hid hPP
          clear hPP eP hj hlt hlen hn8 w8 hm hNb hpl
          have hsz41 := HW.out
          go_wp2_with (first
            | (go_at_call 37; refine (words_any _).mono ?_; rintro e w5 ⟨rfl, b5⟩)
            | (refine row_set rfl rfl 49 (.tmp 5) (.tmp 44) rfl w5.heap.size rfl (us shaK) rfl 49 _ (Blk.new _ _ _) (by rw [size49]; rfl) rfl (us_oneCell _) ?_; intro w6 K6 g6)
            | (refine wpList_build rfl 51 _ rfl (by kernel_rfl) ?_)
            | (refine row_set rfl rfl 51 (.tmp 6) (.tmp 45) rfl w6.heap.size rfl (us shaH) (by kernel_rfl) 51 _ (Blk.new _ _ _) (by rw [size51]; rfl) rfl (us_oneCell _) ?_; intro w8 S8 g8))
          have n5 : wr.heap.size ≤ w5.heap.size := b5.size
          have n6 : w5.heap.size + 1 ≤ w6.heap.size := by have := g6.size; simpa using this
          have n8 : w6.heap.size + 1 ≤ w8.heap.size := by have := g8.size; simpa using this
          have K8 := (K6.out.alloc (.cells (zu 8).toArray 51)).grown g8 (by simp; omega)
          have bb := ((((b5.alloc n5 (.cells (zu 64).toArray 49)).grown g6 (by simp; omega) (by intro k hk; simp at hk; omega)).alloc (by omega) (.cells (zu 8).toArray 51)).grown g8 (by simp; omega) (by intro k hk; simp at hk; omega))
          have hKS : w5.heap.size < w6.heap.size := by omega
          have hZK : w.heap.size < w5.heap.size := by omega
          refine wp_world (fun V => Blk V w5.heap.size 49 (us shaK) ∧ Blk V w6.heap.size 51 (us shaH) ∧ Below wr.heap.size wr V) ⟨K8, S8.out, bb⟩ ?_
          have HV0 := Lib.hid (And.intro Z4 (And.intro (own_bs ho4) B4))
          clear K8 S8 Z4 ho4 B4 bb b5 g6 g8 n6 n8 K6 hz hsz41
          obtain ⟨V0, rfl⟩ : ∃ V0 : World, V0 = wr := ⟨_, rfl⟩
          generalize w5.heap.size = gK at *
          generalize w6.heap.size = gS at *
          rintro V ⟨K1, S1, B1⟩
          go_loopw [3] (fun s3 wr => ∃ (i : Nat) (A5 : Option Addr) (c5 : Nat), 64 * i ≤ pad.length ∧ s3 = .slice A5 (pad.length - 64 * i) c5 ∧ Bs V0 0 A5 (pad.length - 64 * i) c5 (pad.drop (64 * i)) ∧ Blk wr gK 49 (us shaK) ∧ Blk wr gS 51 (us (shaBlocks shaH pad i)) ∧ Below V0.heap.size V0 wr)
            (fun s3 _ => slen s3)
          case atStart => exact ⟨0, A4, c4, by omega, by rw [Nat.mul_zero, Nat.sub_zero, HP.out], HV0.out.2.1.weak (Nat.zero_le _), K1, S1, B1⟩
          case round =>
            clear K1 S1 B1 V
            obtain ⟨i, A5, c5, hi, rfl, O1, K1, S1, B1⟩ := hrel
            have hSS := W8_H.blocks pad i
            have HS : Hid (shaBlocks shaH pad (i + 1) = shaBlock (shaBlocks shaH pad i) ((pad.drop (64 * i)).take 64)) := rfl
            by_cases hlt : 64 * i < pad.length
            · have h64 : 64 ≤ pad.length - 64 * i := by omega
              have hM2 : pad.length - 64 * i - 64 = pad.length - 64 * (i + 1) := by omega
              generalize shaBlocks shaH pad i = S at *
              generalize hWW : sched (pad.drop (64 * i)) 64 = W at *
              have hWl : W.length = 64 := by rw [← hWW, length_sched]
              have hWb : Hid (∀ j, W.getD j 0 < 4294967296) := by rw [← hWW]; exact fun j => sched_getD _ 64 j
              have ss0 := sched_any (O1.below B1 (Nat.le_refl _)) h64
              rw [hWW] at ss0
              have ss := Lib.hid ss0
              clear ss0
              have HWl := Lib.hid hWl
              clear hWl
              have HWW := Lib.hid hWW
              generalize hM : pad.length - 64 * i = M at *
              have HM2 := Lib.hid hM2
              have HM := Lib.hid hM
              have n1 := Lib.hid hSS.1
              have HO := Lib.hid O1
              have h0 : 0 < M := by omega
              clear hWW hM hM2 hlt O1
              go_wp2_with (first
                | (go_at_call 38; refine ss.out.mono ?_; rintro e w6 ⟨rfl, b6⟩)
                | (refine row_set rfl rfl 49 (.tmp 7) (.tmp 52) rfl w6.heap.size rfl (us W) rfl 49 _ (Blk.new _ _ _) (by rw [size49, length_us, HWl.out]) (by rw [length_us, HWl.out]; rfl) (us_oneCell _) ?_; intro w7 W7 g7; have n6 : wr.heap.size ≤ w6.heap.size := b6.size; have S7 := ((S1.below b6 S1.lt).alloc (.cells (zu 64).toArray 49)).grown g7 (by have := S1.lt; simp; omega))
                | (refine wpList_load_row rfl 51 (.tmp 6) rfl gS rfl 51 _ (0, 0) _ S7 Try.underlying51 rfl (by rw [size51]; simp [length_us, n1.out]) ?_)
                | (refine row_set rfl rfl 51 (.tmp 8) (.tmp 53) rfl w7.heap.size rfl (us S) rfl 51 _ (Blk.new _ _ _) (by rw [size51, length_us, n1.out]) (by rw [length_us, n1.out]; rfl) (us_oneCell _) ?_; intro w8 X8 g8))
              have z7 : w6.heap.size + 1 ≤ w7.heap.size := by have := g7.size; simpa using this
              have bb := (((b6.alloc n6 (.cells (zu 64).toArray 49)).grown g7 (by simp; omega) (by intro k hk; simp at hk; omega)).alloc (by omega) (.cells (zu 8).toArray 51)).grown g8 (by simp; omega) (by intro k hk; simp at hk; omega)
              have W8' := (W7.out.alloc (.cells (zu 8).toArray 51)).grown g8 (by simp; omega)
              have hSW : gS < w6.heap.size := by have := S1.lt; omega
              have hWX : w6.heap.size < w7.heap.size := by omega
              have hVX : V0.heap.size ≤ w7.heap.size := by omega
              refine wp_world (fun V => Sw V0 gK gS w7.heap.size w6.heap.size S S W V)
                ⟨X8.out, W8', K1.below bb K1.lt, S1.below bb S1.lt, B1.trans (bb.mono B1.size)⟩ ?_
              clear X8 W8' bb K1 S1 B1 g7 g8 W7 S7 n6 z7 b6 ss h0
              generalize w6.heap.size = gW at *
              generalize w7.heap.size = gX at *
              rintro V X1
              clear hmod hlm
              go_loopw [54] (fun s54 wr => ∃ n : Nat, n ≤ 64 ∧ s54 = .int .i64 n ∧ Sw V0 gK gS gX gW (shaRounds S W n) S W wr)
                (fun s54 _ => 64 - (intOf s54).toNat)
              case atStart => exact ⟨0, by omega, rfl, X1⟩
              case round =>
                clear X1 V
                obtain ⟨n, hn, rfl, X1⟩ := hrel
                by_cases hlt : n < 64
                · obtain ⟨a, b, c, d, e, f, g, z, hx, ha, hb, hc, hd, he, hf, hg, hh⟩ := (hSS.rounds W n).cases
                  have HS1 : Hid (shaRounds S W (n + 1) = shaStep (shaRounds S W n) (shaK.getD n 0) (W.getD n 0)) := rfl
                  rw [hx] at X1
                  have HX := Lib.hid hx
                  clear hx
                  have cells : Hid (∀ V, Sw V0 gK gS gX gW [a, b, c, d, e, f, g, z] S W V →
                      V.cell? ⟨gX, 0, none⟩ = some (.int .u32 a) ∧ V.cell? ⟨gX, 1, none⟩ = some (.int .u32 b) ∧ V.cell? ⟨gX, 2, none⟩ = some (.int .u32 c) ∧ V.cell? ⟨gX, 3, none⟩ = some (.int .u32 d) ∧
                      V.cell? ⟨gX, 4, none⟩ = some (.int .u32 e) ∧ V.cell? ⟨gX, 5, none⟩ = some (.int .u32 f) ∧ V.cell? ⟨gX, 6, none⟩ = some (.int .u32 g) ∧ V.cell? ⟨gX, 7, none⟩ = some (.int .u32 z) ∧
                      V.cell? ⟨gK, n, none⟩ = some (.int .u32 (shaK.getD n 0 : Nat)) ∧ V.cell? ⟨gW, n, none⟩ = some (.int .u32 (W.getD n 0 : Nat))) := fun V hV =>
                    ⟨hV.1.cell 0, hV.1.cell 1, hV.1.cell 2, hV.1.cell 3, hV.1.cell 4, hV.1.cell 5, hV.1.cell 6, hV.1.cell 7, (hV.2.2.1.cell n).trans (us_get shaK n (by rw [length_shaK]; exact hlt)), (hV.2.1.cell n).trans (us_get W n (by rw [HWl.out]; exact hlt))⟩
                  have hkn := shaK_getD n
                  have hwn := hWb.out n
                  generalize shaK.getD n 0 = kn at *
                  generalize W.getD n 0 = wn at *
                  have n64 : (n : Int) < 64 := by omega
                  have HB := Lib.hid X1
                  obtain ⟨x0, x1, x2, x3, x4, x5, x6, x7, kc, wc⟩ := cells.out _ X1
                  clear X1
                  go_wp2
                  go_quiet (fail)
                  go_wp2_with fail
                  refine wp_world (fun V => Sw V0 gK gS gX gW [a, b, c, d, e, f, g, z] S W V) (HB.out.drewN _) ?_
                  clear HB x0 x1 x2 x3 x4 x5 x6 x7 kc wc
                  intro V1 X1
                  have HB := Lib.hid X1
                  obtain ⟨x0, x1, x2, x3, x4, x5, x6, x7, kc, wc⟩ := cells.out _ X1
                  clear X1
                  go_quiet ((go_at_call 39; (first | exact quiet_left (turn_k e 6 _ _ rfl he (by decide)) | exact quiet_left (turn_k e 11 _ _ rfl he (by decide)) | exact quiet_left (turn_k e 25 _ _ rfl he (by decide)))))
                  rw [not_if, shaT_val e f g z kn wn he hf hg]
                  generalize hT : shaT e f g z kn wn = T at *
                  have HT := Lib.hid hT
                  clear hT
                  go_wp2_with fail
                  refine wp_world (fun V => Sw V0 gK gS gX gW [a, b, c, d, e, f, g, z] S W V) (HB.out.drewN _) ?_
                  clear HB x0 x1 x2 x3 x4 x5 x6 x7 kc wc
                  intro V2 X1
                  have HB := Lib.hid X1
                  obtain ⟨x0, x1, x2, x3, x4, x5, x6, x7, kc, wc⟩ := cells.out _ X1
                  clear X1
                  go_quiet ((go_at_call 39; (first | exact quiet_left (turn_k a 2 _ _ rfl ha (by decide)) | exact quiet_left (turn_k a 13 _ _ rfl ha (by decide)) | exact quiet_left (turn_k a 22 _ _ rfl ha (by decide)))))
                  rw [shaU_val a b c ha hb hc]
                  generalize hU : shaU a b c % 4294967296 = U at *
                  have HU := Lib.hid hU
                  clear hU
                  go_wp2_with (first | (((with_reducible refine wpList_built (cells := #[.int .u32 (((T : Int) + U) % 4294967296), .int .u32 a, .int .u32 b, .int .u32 c, .int .u32 (((d : Int) + T) % 4294967296), .int .u32 e, .int .u32 f, .int .u32 g]) (o := ⟨some 132, _, _, _, _, _⟩) ?_ 51 [(0, .tmp 117), (1, .tmp 118), (2, .tmp 120), (3, .tmp 122), (4, .tmp 126), (5, .tmp 127), (6, .tmp 129), (7, .tmp 131)] ?_ ?_ ?_); rfl; rfl; exact built8 _ _ _ _ _ _ _ _)) | (((with_reducible refine row_set (o := ⟨none, _, _, _, _, _⟩) ?_ ?_ 51 (.tmp 8) (.tmp 132) ?_ gX ?_ [.int .u32 (((T : Int) + U) % 4294967296), .int .u32 a, .int .u32 b, .int .u32 c, .int .u32 (((d : Int) + T) % 4294967296), .int .u32 e, .int .u32 f, .int .u32 g] ?_ 51 (us [a, b, c, d, e, f, g, z]) ?_ ?_ ?_ ?_ ?_); rfl; rfl; rfl; rfl; rfl; exact HB.out.1.drewN _; exact size51; exact length_us _; exact one8 _ _ _ _ _ _ _ _; (intro w9 X9 g9))))
                  go_roundw
                  case rel =>
                    rw [us_step a b c d e f g z kn wn T U HT.out HU.out, ← HX.out, ← HS1.out] at X9
                    exact ⟨n + 1, by omega, by go_num, (HB.out.drewN nq).setX g9 X9.out hVX hKS hSW hWX⟩
                  case measure => simp [intOf]; omega
                · have h64 : (n : Int) = 64 := by omega
                  rw [h64]
                  obtain rfl : n = 64 := by omega
                  clear h64
                  have hXX := hSS.rounds W 64
                  have HSN : Hid (shaBlock S ((pad.drop (64 * i)).take 64) = addW S (shaRounds S W 64)) := by
                    rw [← HWW.out, shaBlock, sched_take]; exact rfl
                  generalize shaRounds S W 64 = X at *
                  rw [← addP_8 hSS hXX] at HSN
                  clear hlt hn
                  go_wp2_with fail
                  go_loopw [134] (fun s134 wr => ∃ j : Nat, j ≤ 8 ∧ s134 = .int .i64 j ∧ Sw V0 gK gS gX gW X (addP S X j) W wr)
                    (fun s134 _ => 8 - (intOf s134).toNat)
                  case atStart => exact ⟨0, by omega, rfl, X1⟩
                  case round =>
                    clear X1
                    obtain ⟨j, hj, rfl, X1⟩ := hrel
                    by_cases hlt : j < 8
                    · have HP1 : Hid (addP S X (j + 1) = (addP S X j).set j ((S.getD j 0 + X.getD j 0) % 4294967296)) := rfl
                      have cs := (X1.2.2.2.1.cell j).trans (us_get (addP S X j) j (by rw [length_addP, n1.out]; exact hlt))
                      rw [addP_get S X j j (Nat.le_refl _)] at cs
                      have cx := (X1.1.cell j).trans (us_get X j (by rw [hXX.1]; exact hlt))
                      have fs := X1.2.2.2.1.frozen j
                      generalize S.getD j 0 = sj at *
                      generalize X.getD j 0 = xj at *
                      have HB := Lib.hid X1
                      clear X1
                      have n8 : (j : Int) < 8 := by omega
                      have hq : ((sj : Int) + xj) % 4294967296 = (((sj + xj) % 4294967296 : Nat) : Int) := by omega
                      have Hq := Lib.hid hq
                      clear hq
                      go_wp2
                      go_still_tail 8, (by kernel_rfl)
                      change wpList _ _ _ _ _ wr.drew
                      go_wp2
                      go_roundw
                      case rel =>
                        refine ⟨j + 1, by omega, by go_num, ?_⟩
                        rw [Hq.out, HP1.out]
                        have hs := HB.out.2.2.2.1.set_ j (.int .u32 (((sj + xj) % 4294967296 : Nat) : Int))
                        rw [us_set] at hs
                        exact ⟨(HB.out.1.far (by simp; omega) _).drew, (HB.out.2.1.far (by simp; omega) _).drew, (HB.out.2.2.1.far (by simp; omega) _).drew, hs, (HB.out.2.2.2.2.setCell (by simp; omega) _).drew⟩
                      case measure => simp [intOf]; omega
                    · have h8 : (j : Int) = 8 := by omega
                      rw [h8]
                      obtain rfl : j = 8 := by omega
                      clear h8
                      rw [← HSN.out, ← HS.out] at X1
                      have HX1 := Lib.hid X1
                      have h64' : 64 ≤ c5 := by have := HO.out.2.1; omega
                      clear X1 hlt hj
                      by_cases hc : c5 = 64
                      · obtain rfl : M = 64 := by have := HO.out.2.1; omega
                        go_wp2
                        refine ⟨⟨i + 1, A5, 0, by have := HM.out; omega, by rw [← HM2.out], ?_, HX1.out.2.2.1, HX1.out.2.2.2.1, HX1.out.2.2.2.2⟩, by simp [slen]⟩
                        rw [← HM2.out, List.drop_eq_nil_of_le (by have := HM2.out; have := HM.out; omega)]
                        exact ⟨rfl, Nat.le_refl _, by omega, Rd.nil_⟩
                      · go_wp2
                        refine ⟨⟨i + 1, _, c5 - 64, by have := HM.out; omega, by rw [← HM2.out], ?_, HX1.out.2.2.1, HX1.out.2.2.2.1, HX1.out.2.2.2.2⟩, by simp [slen]; omega⟩
                        rw [← HM2.out]
                        obtain ⟨b, o, rfl, _, _⟩ := HO.out.at_ (by omega)
                        have h2 := HO.out.cut 64 M (by omega) (Nat.le_refl _)
                        rw [List.drop_drop, show 64 * i + 64 = 64 * (i + 1) by omega, List.take_of_length_le (by rw [List.length_drop]; have := HM.out; omega)] at h2
                        exact h2
            · have HI := Lib.hid (show 64 * i = pad.length by omega)
              have hge : pad.length - 64 * i = 0 := by omega
              have S1' := S1.alloc (.cells (zeros 32).toArray 26)
              rw [hge]
              go_wp2_with (((with_reducible refine wpList_load_row (o := ⟨some 146, _, _, _, _, _⟩) ?_ 51 (.tmp 6) ?_ gS ?_ 51 (us (shaBlocks shaH pad i)).toArray (0, 0) _ ?_ Try.underlying51 ?_ ?_ ?_); rfl; rfl; rfl; exact S1'; rfl; (rw [size51]; simp [length_us, hSS.1])))
              have HSn := Lib.hid hSS.1
              have HO := Lib.hid (show sha l = shaOut (shaBlocks shaH pad i) by rw [sha, HPP.out, ← HI.out, Nat.mul_div_cancel_left _ (by omega)])
              generalize shaBlocks shaH pad i = S at *
              have O0 : Blk (wr.alloc (.cells (zeros 32).toArray 26)) wr.heap.size 26 (bvs (outP (shaOut S) (4 * 0))) := by
                rw [show bvs (outP (shaOut S) (4 * 0)) = zeros 32 by simp [outP, zeros_bvs]]
                exact Blk.new _ _ _
              refine wp_world (fun V => Blk V wr.heap.size 26 (bvs (outP (shaOut S) (4 * 0))) ∧ Blk V w.heap.size 26 (zeros 32) ∧ Below w.heap.size w V)
                ⟨O0, (HV0.out.1.below B1 HV0.out.1.lt).alloc _, (HV0.out.2.2.trans (B1.mono HV0.out.2.2.size)).alloc (Nat.le_trans HV0.out.2.2.size B1.size) _⟩ ?_
              have hZO : w.heap.size < wr.heap.size := Nat.lt_of_lt_of_le HV0.out.1.lt B1.size
              clear O0 S1' S1 K1 B1 O1 hSS HS hge hlt hmod hlm hi
              generalize wr.heap.size = gO at *
              rintro V ⟨O1, Z1, B1⟩
              go_loopw [147] (fun s147 wr => ∃ i : Nat, i ≤ 8 ∧ s147 = .int .i64 i ∧ Blk wr gO 26 (bvs (outP (shaOut S) (4 * i))) ∧ Blk wr w.heap.size 26 (zeros 32) ∧ Below w.heap.size w wr)
                (fun s147 _ => 8 - (intOf s147).toNat)
              case atStart => exact ⟨0, by omega, rfl, O1, Z1, B1⟩
              case round =>
                clear O1 Z1 B1 V
                obtain ⟨i, hi, rfl, O1, Z1, B1⟩ := hrel
                by_cases hlt : i < 8
                · have ix := fun w => run_index_us S HSn.out i hlt w
                  have hget : Hid (∀ j, j < 4 → (shaOut S).getD (4 * i + j) 0 = UInt8.ofNat (S.getD i 0 / 2 ^ (24 - 8 * j) % 256)) := fun j hj => shaOut_get S HSn.out i j hlt hj
                  generalize S.getD i 0 = x at *
                  go_wp2
                  clear ix
                  go_loopw [151] (fun s151 wr => ∃ j : Nat, j ≤ 4 ∧ s151 = .int .i64 j ∧ Blk wr gO 26 (bvs (outP (shaOut S) (4 * i + j))) ∧ Blk wr w.heap.size 26 (zeros 32) ∧ Below w.heap.size w wr)
                    (fun s151 _ => 4 - (intOf s151).toNat)
                  case atStart => exact ⟨0, by omega, rfl, O1, Z1, B1⟩
                  case round =>
                    clear O1 Z1 B1
                    obtain ⟨j, hj, rfl, O1, Z1, B1⟩ := hrel
                    by_cases hlj : j < 4
                    · have hc := (O1.cell (4 * i + j)).trans (outP_next (shaOut S) (4 * i + j) (length_shaOut S HSn.out) (by omega))
                      have hf := O1.frozen (4 * i + j)
                      have HB := Lib.hid (And.intro O1 (And.intro Z1 B1))
                      clear O1 Z1 B1
                      have htn : (24 - 8 * (j : Int)).toNat = 24 - 8 * j := by omega
                      have h24 : (0 : Int) ≤ 24 - 8 * (j : Int) := by omega
                      have hv := Lib.hid (show Value.int .u8 ((x : Int) / 2 ^ (24 - 8 * j) % 256) = bv ((shaOut S).getD (4 * i + j) 0) by
                        rw [hget.out j hlj]
                        refine bv_of _ _ ?_
                        rw [Nat.mod_mod, Int.natCast_emod, Int.natCast_ediv, Int.natCast_pow]
                        rfl)
                      go_wp2
                      refine ⟨⟨j + 1, by omega, by go_num, ?_, HB.out.2.1.far (by simp; omega) _, HB.out.2.2.setCell (by simp; omega) _⟩, by simp [intOf]; omega⟩
                      rw [hv.out]
                      have h2 := HB.out.1.set_ (4 * i + j) (bv ((shaOut S).getD (4 * i + j) 0))
                      rw [outP_set _ _ (length_shaOut S HSn.out) (by omega)] at h2
                      exact h2
                    · have h4 : (j : Int) = 4 := by omega
                      rw [h4]
                      obtain rfl : j = 4 := by omega
                      clear h4
                      go_wp2
                      exact ⟨⟨i + 1, by omega, by go_num, by rw [show 4 * (i + 1) = 4 * i + 4 by omega]; exact O1, Z1, B1⟩, by simp [intOf]; omega⟩
                · have h8 : (i : Int) = 8 := by omega
                  rw [h8]
                  obtain rfl : i = 8 := by omega
                  clear h8 hlt hi
                  rw [show outP (shaOut S) (4 * 8) = shaOut S by rw [outP, List.take_of_length_le (by rw [length_shaOut S HSn.out]; omega)]; simp, ← HO.out] at O1
                  go_wp2_with (first
                    | (((with_reducible refine wpList_load_row (o := ⟨some 167, _, _, _, _, _⟩) ?_ 26 (.tmp 15) ?_ gO ?_ 26 (bvs (sha l)).toArray (0, 0) _ ?_ Try.underlying26 ?_ ?_ ?_); rfl; rfl; rfl; exact O1; rfl; (rw [size41]; simp [length_sha])))
                    | (((with_reducible refine row_set (o := ⟨none, _, _, _, _, _⟩) ?_ ?_ 26 (.tmp 2) (.tmp 167) ?_ w.heap.size ?_ (bvs (sha l)) ?_ 26 (zeros 32) ?_ ?_ ?_ ?_ ?_); rfl; rfl; rfl; rfl; rfl; exact Z1; (rw [size41]; simp [length_sha]); (simp [length_sha, zeros]); exact bvs_oneCell _; (intro w9 X9 g9))))
                  refine bodyPost_ret (results_cell_row rfl _ w9 w.heap.size 26 _ (0, 0) _ rfl X9.out Try.underlying26 rfl (by rw [size41]; simp [length_sha])) rfl ?_
                  exact ⟨rfl, B1.grown g9 B1.size (by intro k hk; simp at hk; omega)⟩
    · have HK := Lib.hid (pad_in m k hk ht)
      have htm : ¬ ((m + 1 + k : Nat) : Int).tmod 64 = 56 := by rw [Int.tmod_eq_emod_of_nonneg (by omega)]; omega
      clear ht
      generalize hN : m + 1 + k = N at *
      have HN := Lib.hid hN
      clear hN hk
      have hbn : ((N : Int) % 64 != 56) = true := by rw [Int.tmod_eq_emod_of_nonneg (by omega)] at htm; simpa using htm
      clear htm
      go_wp2_with (at_builtin; refine wpList_app rfl (.tmp 27) (.tmp 28) 22 rfl 5 1 Try.underlying22 info5 rfl (by omega) rfl (ho3.alloc _) rfl (rd_one _ _ rfl) rfl (one_int _ _) (by omega) (by omega) (by simp; omega) ?_; intro A4 c4 w4 ho4 hg4 _)
      have Z4 := (Z3.alloc (.cells #[.int .u8 0] 5)).grown hg4 (own_ne ho3 (Nat.lt_succ_self _))
      have B4 := below_own (B3.alloc B3.size (.cells #[.int .u8 0] 5)) (ho3.alloc _) hg4 (by omega) (by have := B3.size; simp; omega)
      go_roundw
      case rel => exact ⟨k + 1, A4, c4, HK.out, by rw [← HN.out]; rfl, by rw [List.replicate_succ', ← List.append_assoc, bvs_append, show m + 1 + (k + 1) = N + 1 by have := HN.out; omega]; exact ho4, Z4, B4⟩
      case measure => have := HK.out; have := HN.out; simp [slen]; omega
end Go.Proofs.Ytgfmpgflbphpcaa
