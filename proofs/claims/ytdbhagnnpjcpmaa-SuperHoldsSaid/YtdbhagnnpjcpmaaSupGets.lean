/- super.Get reads a superblock as the plain function does. -/
import Derived.Test.YtdbhagnnpjcpmaaSupPut
import Derived.Test.YtdbhagnnpjcpmaaTake
import Derived.Test.YtdbhagnnpjcpmaaLibEq
import Derived.Deep.DeepMust
namespace Go.Proofs.Ytdbhagnnpjcpmaa
open Go.RowKit

theorem grown_set {w : World} {g : Nat} {t : TypeId} {cs : List Value} (_ : Blk w g t cs) (i : Nat) (u : Value) : w.grownBy (w.setCell ⟨g, i, none⟩ u) (some g) :=
  ⟨rfl, rfl, rfl, by simp, fun k _ hk => Below.heap_setCell w ⟨g, i, none⟩ u k (fun e => hk (by rw [e]))⟩
theorem take_at (k p : Nat) {gt b o c lo : Nat} {l : List UInt8} {w : World} (hT : Blk w gt 131 [.slice (some ⟨b, o + p, none⟩) (256 - p) (c - p)]) (hb : Bs w lo (some ⟨b, o, none⟩) 256 c l) (hk : k ≤ 4) (hp : p + k < 256) :
    Calls Try.prog 82 #[.pointer (some ⟨gt, 0, none⟩), .int .i64 k] w fun e w' => e = .returned (.int .i64 (leN (part l p k) : Nat)) ∧ Blk w' gt 131 [.slice (some ⟨b, o + (p + k), none⟩) (256 - (p + k)) (c - (p + k))] ∧ w.grownBy w' (some gt) ∧ w'.heap.size = w.heap.size := by
  have hq := hb.cut p 256 (by omega) (by omega)
  have hl : ((l.drop p).take (256 - p)) = l.drop p := List.take_of_length_le (by rw [List.length_drop, hb.1]; omega)
  rw [hl] at hq
  refine (take_any k hT hq hk (by omega)).mono fun e w' ⟨he, hw⟩ => ⟨he, ?_, hw ▸ grown_set hT 0 _, by rw [hw]; simp⟩
  rw [hw]
  have := hT.set_ 0 (.slice (some ⟨b, o + p + k, none⟩) (256 - p - k) (c - p - k))
  rw [Nat.sub_sub, Nat.sub_sub, Nat.add_assoc] at this
  rw [Nat.sub_sub, Nat.sub_sub, Nat.add_assoc]
  exact this

theorem Rd.far {w : World} {lo : Nat} {A : Option Addr} {xs : List Value} (h : Rd w lo A xs) {q : Addr} (hq : q.block < lo) (u : Value) : Rd (w.setCell q u) lo A xs := fun hn => by
  obtain ⟨b, o, e, h1, h2, hc⟩ := h hn
  exact ⟨b, o, e, h1, by simpa using h2, fun k hk => (World.cell?_of_block (Below.heap_setCell w q u b (by omega))).trans (hc k hk)⟩
theorem Vr.far {w : World} {lo n c : Nat} {A : Option Addr} {vs : List Ver} (h : Vr w lo A n c vs) {q : Addr} (hq : q.block < lo) (u : Value) : Vr (w.setCell q u) lo A n c vs := ⟨h.1, h.2.1, h.2.2.1, h.2.2.2.far hq u⟩

theorem zero32 (w : World) : (zeroValue 32).run Try.prog w = .ok (.agg #[.int .i64 0, .int .i64 0, .int .i64 0, .slice none 0 0]) w := by kernel_rfl
theorem size32 : (Try.prog.info? 32).map (·.size) = some 4 := by kernel_rfl
theorem info57 : (Try.prog.info? 97).map (fun i => (i.zero, i.size, i.bytes)) = some (some (.agg #[.int .i64 0, .int .i64 0, .int .i64 0, .bool false]), 4, 32) := by kernel_rfl
theorem results_sup {fn : Func} {p t : Tmp} (h : fn.results = #[.cell p 32, .tmp t]) {tmps : Array Value} {w : World} {g : Nat} {v0 v1 v2 v3 x : Value}
    (hp : tmps.getD p undef = .pointer (some ⟨g, 0, none⟩)) (hx : tmps.getD t undef = x) (hB : Blk w g 32 [v0, v1, v2, v3]) : (results fn tmps).run Try.prog w = .ok (.tuple #[.agg #[v0, v1, v2, v3], x]) w := by
  have hr := run_loadVar_row (P := Try.prog) w g 32 32 #[v0, v1, v2, v3] (0, 0) _ hB Try.underlying32 rfl size32
  have hp' : tmps[p]?.getD undef = .pointer (some ⟨g, 0, none⟩) := by simpa using hp
  have hx' : tmps[t]?.getD undef = x := by simpa using hx
  simp [results, h, hp', hx', asAddr, hr]

/-- what a Get leaves: what was read, and whether -/
def SGet (w : World) (r : Option Sup) (e : Ending) (w' : World) : Prop :=
  ∃ A' c', e = .returned (.tuple #[.agg #[.int .i64 (r.getD Sup.nil).gen, .int .i64 (r.getD Sup.nil).sec, .int .i64 (r.getD Sup.nil).next, .slice A' (r.getD Sup.nil).vs.length c'], .bool r.isSome]) ∧ Vr w' w.heap.size A' (r.getD Sup.nil).vs.length c' (r.getD Sup.nil).vs ∧ Below w.heap.size w w'
theorem sget_none {w w' : World} {e : Ending} (he : e = .returned (.tuple #[.agg #[.int .i64 0, .int .i64 0, .int .i64 0, .slice none 0 0], .bool false])) (hb : Below w.heap.size w w') : SGet w none e w' :=
  ⟨none, 0, he, Vr.nil_ _ _, hb⟩

/-- what a Put leaves -/
def SPut (w : World) (s : Sup) (e : Ending) (w' : World) : Prop :=
  (supOk s ∧ ∃ A' c', e = .returned (.tuple #[.slice A' 256 c', .int .i64 0]) ∧ Own w' w.heap.size 5 1 A' 256 c' (bvs (putS s)) ∧ Below w.heap.size w w') ∨ (¬ supOk s ∧ e = .returned (.tuple #[.slice none 0 0, .int .i64 1]) ∧ Below w.heap.size w w')
theorem sput_any (s : Sup) {A : Option Addr} {n c lo : Nat} {w : World} (hr : Vr w lo A n c s.vs) :
    Calls Try.prog 49 #[.agg #[.int .i64 s.gen, .int .i64 s.sec, .int .i64 s.next, .slice A n c]] w (SPut w s) := by
  by_cases h : supOk s
  · obtain ⟨gen, sec, next, vs⟩ := s
    have h' := h
    obtain ⟨⟨h1, h2, h3, h4, h5, h6, h7⟩, _⟩ := h'
    simp only at h1 h3 h5
    obtain ⟨G, rfl⟩ := Int.eq_ofNat_of_zero_le (show 0 ≤ gen by omega)
    obtain ⟨S, rfl⟩ := Int.eq_ofNat_of_zero_le (show 0 ≤ sec by omega)
    obtain ⟨N, rfl⟩ := Int.eq_ofNat_of_zero_le (show 0 ≤ next by omega)
    exact (sput_ok G S N vs hr h).mono fun e w' h2 => .inl ⟨h, h2⟩
  · exact (sput_no s hr h).mono fun e w' h2 => .inr ⟨h, h2⟩

theorem getS_len {l : List UInt8} (h : l.length ≠ 256) : getS l = none := by unfold getS; rw [if_neg (fun h2 => h h2.1)]
theorem getS_many {l : List UInt8} (h : 8 < (l.getD 14 0).toNat) : getS l = none := by unfold getS; rw [if_neg (fun h2 => by omega)]

set_option maxHeartbeats 1000000 in
theorem sget_len {A : Option Addr} {m c : Nat} {w : World} (hm : m ≠ 256) :
    Calls Try.prog 57 #[.slice A m c] w fun e w' => e = .returned (.tuple #[.agg #[.int .i64 0, .int .i64 0, .int .i64 0, .slice none 0 0], .bool false]) ∧ Below w.heap.size w w' := by
  have h1 : ((m : Int) == 256) = false := beq_eq_false_iff_ne.2 (by omega)
  have hz := zero32
  go_enter Try.func57, Try.ntmps57
  go_wp2
  refine bodyPost_ret (v := .tuple #[.agg #[.int .i64 0, .int .i64 0, .int .i64 0, .slice none 0 0], .bool false]) (by simp [results, Try.results57, go_sem]) rfl ⟨rfl, ?_⟩
  exact (Below.refl _ _).alloc (Nat.le_refl _) _
end Go.Proofs.Ytdbhagnnpjcpmaa
namespace Go.Proofs.Ytdbhagnnpjcpmaa
open Go.RowKit

set_option maxHeartbeats 1000000 in
theorem sget_many {A : Option Addr} {c lo : Nat} {l : List UInt8} {w : World} (hb : Bs w lo A 256 c l) (h8 : 8 < (l.getD 14 0).toNat) :
    Calls Try.prog 57 #[.slice A 256 c] w fun e w' => e = .returned (.tuple #[.agg #[.int .i64 0, .int .i64 0, .int .i64 0, .slice none 0 0], .bool false]) ∧ Below w.heap.size w w' := by
  obtain ⟨b, o, rfl, _, _⟩ := hb.at_ (by omega)
  have c14 := hb.cell 14 (by omega)
  have hz := zero32
  have h256 := (l.getD 14 0).toNat_lt
  generalize (l.getD 14 0).toNat = y at *
  have hc4 : ¬ c = 4 := by have := hb.2.1; omega
  have d8 : decide (8 < y) = true := decide_eq_true h8
  have hy : (8 : Int) < (y : Int) := by omega
  clear hb
  go_enter Try.func57, Try.ntmps57
  go_wp2
  refine bodyPost_ret (v := .tuple #[.agg #[.int .i64 0, .int .i64 0, .int .i64 0, .slice none 0 0], .bool false]) (by simp [results, Try.results57, go_sem]) rfl ⟨rfl, ?_⟩
  exact (Below.refl _ _).alloc (Nat.le_refl _) _

theorem part_one (l : List UInt8) (p : Nat) (h : p < l.length) : leN (part l p 1) = (l.getD p 0).toNat := by
  unfold part
  rw [List.drop_eq_getElem_cons h, List.take_succ_cons, List.take_zero, leN, leN, List.getD_eq_getElem?_getD, List.getElem?_eq_getElem h, Option.getD_some]
  omega
theorem vers_snoc (l : List UInt8) (i : Nat) : (List.range (i + 1)).map (verD l) = (List.range i).map (verD l) ++ [verD l i] := by
  rw [List.range_succ, List.map_append]; rfl
theorem rd_vc {w : World} {g : Nat} (v : Ver) (hg : g = w.heap.size) : Rd (w.alloc (.cells #[.int .i64 v.id, .int .i64 v.root, .int .i64 v.next, .bool v.fx] 97)) 0 (some ⟨g, 0, none⟩) (vcs [v]) := by
  rw [vcs_one]
  exact (Blk.new_at (cs := vc v) hg).rd0 (Nat.zero_le _)
theorem beq_one (y : UInt8) : (((y.toNat : Int)) == 1) = (y == 1) := by
  rw [Bool.eq_iff_iff, beq_iff_eq, beq_iff_eq]
  constructor
  · intro h; exact UInt8.toNat.inj (by simp; omega)
  · rintro rfl; rfl

set_option maxRecDepth 100000 in
set_option maxHeartbeats 4000000 in
theorem sget_main {A : Option Addr} {c lo : Nat} {l : List UInt8} {w : World} (hb : Bs w lo A 256 c l) (h8 : (l.getD 14 0).toNat ≤ 8) :
    Calls Try.prog 57 #[.slice A 256 c] w (SGet w (getS l)) := by
  obtain ⟨b, o, rfl, _, hbs⟩ := hb.at_ (by omega)
  have c14 := hb.cell 14 (by omega)
  have hz := zero32
  have HB := Lib.hid hb
  have hl := Lib.hid hb.1
  have hc1 := hb.2.1
  have hc2 := hb.2.2.1
  have hc4 : ¬ c = 4 := by omega
  clear hb
  have HN := Lib.hid (part_one l 14 (by rw [hl.out]; omega))
  have HG : Hid (getS l = if l.length = 256 ∧ (l.getD 14 0).toNat ≤ 8 ∧ supOk (supD l) ∧ putS (supD l) = l then some (supD l) else none) := rfl
  have HD : Hid (supD l = ⟨leN (part l 4 4), leN (part l 8 2), leN (part l 10 4), (List.range (l.getD 14 0).toNat).map (verD l)⟩) := rfl
  generalize (l.getD 14 0).toNat = N at *
  go_enter Try.func57, Try.ntmps57
  go_upto_region 4 with fail
  refine wp_world (fun V => Blk V w.heap.size 32 [.int .i64 0, .int .i64 0, .int .i64 0, .slice none 0 0] ∧ Blk V (w.heap.size + 1) 131 [.slice (some ⟨b, o + 4, none⟩) (256 - 4) (c - 4)] ∧ Below w.heap.size w V ∧ V.heap.size = w.heap.size + 2)
    ⟨(Blk.new _ _ [.int .i64 0, .int .i64 0, .int .i64 0, .slice none 0 0]).alloc _, Blk.new_at (cs := [.slice (some ⟨b, o + 4, none⟩) (256 - 4) (c - 4)]) (by simp), ((Below.refl _ _).alloc (Nat.le_refl _) _).alloc (by simp) _, by simp⟩ ?_
  rintro V ⟨hR, hT, hV, hsV⟩
  clear c14
  have T1 := Lib.hid (take_at 4 4 hT (HB.out.below hV (Nat.le_refl _)) (by omega) (by omega))
  have hneR : some w.heap.size ≠ some (w.heap.size + 1) := by simp
  go_upto_region 5 with (first
    | ((with_reducible refine Calls.mono T1.out ?_); rintro e w1 ⟨rfl, hT1, hg1, hs1⟩; have b1 : Below w.heap.size w w1 := hV.grown hg1 hV.size (by simp); have R1 := hR.grown hg1 hneR; have T2 := Lib.hid (take_at 2 8 hT1 (HB.out.below b1 (Nat.le_refl _)) (by omega) (by omega)))
    | ((with_reducible refine Calls.mono T2.out ?_); rintro e w2 ⟨rfl, hT2, hg2, hs2⟩; have b2 : Below w.heap.size w w2 := b1.grown hg2 b1.size (by simp); have R2 := R1.grown hg2 hneR; have T3 := Lib.hid (take_at 4 10 hT2 (HB.out.below b2 (Nat.le_refl _)) (by omega) (by omega)))
    | ((with_reducible refine Calls.mono T3.out ?_); rintro e w3 ⟨rfl, hT3, hg3, hs3⟩; have b3 : Below w.heap.size w w3 := b2.grown hg3 b2.size (by simp); have R3 := R2.grown hg3 hneR))
  have hs33 : w3.heap.size = w.heap.size + 2 := by omega
  refine wp_world (fun V => Blk V w.heap.size 32 [.int .i64 0, .int .i64 0, .int .i64 0, .slice none 0 0] ∧ Blk V (w.heap.size + 1) 131 [.slice (some ⟨b, o + 14, none⟩) (256 - 14) (c - 14)] ∧ Blk V (w.heap.size + 2) 32 [.int .i64 (leN (part l 4 4)), .int .i64 (leN (part l 8 2)), .int .i64 (leN (part l 10 4)), .slice none 0 0] ∧ Below w.heap.size w V ∧ V.heap.size = w.heap.size + 3)
    ⟨R3.alloc _, hT3.alloc _, Blk.new_at (cs := [.int .i64 (leN (part l 4 4)), .int .i64 (leN (part l 8 2)), .int .i64 (leN (part l 10 4)), .slice none 0 0]) hs33.symm, b3.alloc b3.size _, by simp; omega⟩ ?_
  clear R3 hT3 b3 hs33 hs3 hs2 hs1 hg3 hg2 hg1 R1 R2 hT1 hT2 b1 b2 T1 T2 T3 hR hT hV hsV
  rintro V ⟨hR, hT, hS, hV, hsV⟩
  have T1 := Lib.hid (take_at 1 14 hT (HB.out.below hV (Nat.le_refl _)) (by omega) (by omega))
  rw [HN.out] at T1
  generalize leN (part l 4 4) = G at *
  generalize leN (part l 8 2) = S at *
  generalize leN (part l 10 4) = X at *
  go_upto_region 6 with ((with_reducible refine Calls.mono T1.out ?_); rintro e w1 ⟨rfl, hT1, hg1, hs1⟩)
  have b1 : Below w.heap.size w w1 := hV.grown hg1 hV.size (by simp)
  have R1 := hR.grown hg1 hneR
  have S1 := hS.grown hg1 (by simp)
  clear hR hT hS hV T1
  go_wp2
  go_loopw [32] (fun s32 wr => ∃ (i : Nat) (A4 : Option Addr) (c4 : Nat), i ≤ N ∧ s32 = .int .i64 i ∧ Blk wr w.heap.size 32 [.int .i64 0, .int .i64 0, .int .i64 0, .slice none 0 0] ∧ Blk wr (w.heap.size + 1) 131 [.slice (some ⟨b, o + (15 + 11 * i), none⟩) (256 - (15 + 11 * i)) (c - (15 + 11 * i))] ∧ Blk wr (w.heap.size + 2) 32 [.int .i64 G, .int .i64 S, .int .i64 X, .slice A4 i c4] ∧ Own wr (w.heap.size + 3) 97 4 A4 i c4 (vcs ((List.range i).map (verD l))) ∧ Below w.heap.size w wr ∧ w.heap.size + 3 ≤ wr.heap.size)
    (fun s32 _ => N - (intOf s32).toNat)
  case atStart => exact ⟨0, none, 0, Nat.zero_le _, rfl, R1, hT1, S1, Own.nil_ _ _ _ _, b1, by omega⟩
  case round =>
    clear R1 hT1 S1 b1 hs1 hg1 hsV
    obtain ⟨i, A4, c4, hi, rfl, hR, hT, hS, ho, hV, hz3⟩ := hrel
    by_cases hlt : i < N
    · have n1 : some (w.heap.size + 1) ≠ ablk A4 := own_ne ho (by omega)
      have n2 : some (w.heap.size + 2) ≠ ablk A4 := own_ne ho (by omega)
      have n0 : some w.heap.size ≠ ablk A4 := own_ne ho (by omega)
      have hnA : ablk A4 ≠ some (w.heap.size + 1) := fun h => n1 h.symm
      have hfr := hS.frozen 3
      have hc3 := hS.cell 3
      simp only [List.getElem?_cons_zero, List.getElem?_cons_succ] at hc3
      have HT := Lib.hid hT
      have HR := Lib.hid hR
      have HS := Lib.hid hS
      have HO := Lib.hid ho
      have HX := Lib.hid (vers_snoc l i)
      have HVD : Hid (verD l i = ⟨leN (part l (15 + 11 * i) 4), leN (part l (15 + 11 * i + 4) 2), leN (part l (15 + 11 * i + 6) 4), (l.getD (15 + 11 * i + 10) 0) == 1⟩) := rfl
      have hp1 := part_one l (15 + 11 * i + 10) (by rw [hl.out]; omega)
      generalize l.getD (15 + 11 * i + 10) 0 = y at *
      have T1 := Lib.hid (take_at (w := wr.drew) 4 (15 + 11 * i) hT.drew ((HB.out.below hV (Nat.le_refl _)).drew) (by omega) (by omega))
      clear hT hR hS ho
      go_upto_region 7 with fail
      go_region_law (first
        | (refine step_app rfl (.tmp 35) (.tmp 46) 30 rfl 97 4 Try.underlying30 info57 rfl (by omega) rfl (O4.alloc _) rfl (rd_vc ⟨leN (part l (15 + 11 * i) 4), leN (part l (15 + 11 * i + 4) 2), leN (part l (15 + 11 * i + 6) 4), ((y.toNat : Int) == 1)⟩ rfl) rfl (vcs_oneCell _) (by omega) (by omega) (by have := b4.size; have := hz4; simp; omega) ?_; intro A5 c5 w5 ho5 hg5 _; have S5 := (S4.alloc _).grown hg5 n2; have F5 := S5.frozen 3; have E5 : w5.cell? ⟨w.heap.size + 2, 3, none⟩ = some (.slice A4 i c4) := S5.cell 3)
        | (go_simp; first
            | ((with_reducible refine Calls.mono T1.out ?_); rintro e w1 ⟨rfl, hT1, hg1, -⟩; have b1 : Below w.heap.size w w1 := hV.drew.grown hg1 hV.size (by simp); have R1 := HR.out.drew.grown hg1 (by simp); have S1 := HS.out.drew.grown hg1 (by simp); have O1 := HO.out.drew.keep hg1 (.inr hnA); have K1 : w1.cell? ⟨w.heap.size + 2, 3, none⟩ = some (.slice A4 i c4) := S1.cell 3; have T2 := Lib.hid (take_at 2 (15 + 11 * i + 4) hT1 (HB.out.below b1 (Nat.le_refl _)) (by omega) (by omega)))
            | ((with_reducible refine Calls.mono T2.out ?_); rintro e w2 ⟨rfl, hT2, hg2, -⟩; have b2 : Below w.heap.size w w2 := b1.grown hg2 b1.size (by simp); have R2 := R1.grown hg2 (by simp); have S2 := S1.grown hg2 (by simp); have O2 := O1.keep hg2 (.inr hnA); have K2 : w2.cell? ⟨w.heap.size + 2, 3, none⟩ = some (.slice A4 i c4) := S2.cell 3; have T3 := Lib.hid (take_at 4 (15 + 11 * i + 6) hT2 (HB.out.below b2 (Nat.le_refl _)) (by omega) (by omega)))
            | ((with_reducible refine Calls.mono T3.out ?_); rintro e w3 ⟨rfl, hT3, hg3, -⟩; have b3 : Below w.heap.size w w3 := b2.grown hg3 b2.size (by simp); have R3 := R2.grown hg3 (by simp); have S3 := S2.grown hg3 (by simp); have O3 := O2.keep hg3 (.inr hnA); have K3 : w3.cell? ⟨w.heap.size + 2, 3, none⟩ = some (.slice A4 i c4) := S3.cell 3; have T4 := Lib.hid (take_at 1 (15 + 11 * i + 10) hT3 (HB.out.below b3 (Nat.le_refl _)) (by omega) (by omega)); rw [hp1] at T4)
            | ((with_reducible refine Calls.mono T4.out ?_); rintro e w4 ⟨rfl, hT4, hg4, -⟩; have b4 : Below w.heap.size w w4 := b3.grown hg4 b3.size (by simp); have R4 := R3.grown hg4 (by simp); have S4 := S3.grown hg4 (by simp); have O4 := O3.keep hg4 (.inr hnA); have K4 : w4.cell? ⟨w.heap.size + 2, 3, none⟩ = some (.slice A4 i c4) := S4.cell 3; have hz4 : w.heap.size + 3 ≤ w4.heap.size := Nat.le_trans hz3 (Nat.le_trans hg1.size (Nat.le_trans hg2.size (Nat.le_trans hg3.size hg4.size)))); have hz4a : w.heap.size + 2 < w4.heap.size := (by omega); have hz4b : ¬ w.heap.size + 2 = w4.heap.size := (by omega); have hz4c : ¬ w4.heap.size = w.heap.size + 2 := (by omega)))
      all_goals
        go_wp2
        go_roundw
        case rel =>
          refine ⟨i + 1, A5, c5, by omega, by go_num, ((R4.alloc _).grown hg5 n0).far (by simp) _, ?_, S5.set_ 3 _, ?_, (below_own (b4.alloc b4.size _) (O4.alloc _) hg5 (by omega) (by have := b4.size; simp <;> omega)).setCell (by simp <;> omega) _, by have := hg5.size; simp at this; simp <;> omega⟩
          · rw [show 15 + 11 * (i + 1) = 15 + 11 * i + 10 + 1 by omega]
            exact ((hT4.alloc _).grown hg5 n1).far (by simp) _
          · rw [HX.out, vcs_append, HVD.out, ← beq_one]
            exact ho5.far (by simp) _
        case measure => simp [intOf]; omega
    · obtain rfl : i = N := by omega
      have hlen : ((List.range i).map (verD l)).length = i := by simp
      have hvr := own_vr ho
      have HS' : Hid (supD l = ⟨G, S, X, (List.range i).map (verD l)⟩) := HD
      generalize (List.range i).map (verD l) = vs at *
      have HLn := Lib.hid hlen
      have P1 := Lib.hid (sput_any ⟨G, S, X, vs⟩ hvr)
      simp only at P1
      have hSc := hS.cells
      have HR := Lib.hid hR
      have HS := Lib.hid hS
      have HV := Lib.hid hvr
      clear ho hT hlen hvr hR hS HD
      go_upto_region 10 with ((with_reducible refine Calls.mono P1.out ?_); rintro e w5 (⟨hok, A5, c5, rfl, ho5, hb5⟩ | ⟨hok, rfl, hb5⟩))
      · have R5 := HR.out.below hb5 (by omega)
        have S5 := HS.out.below hb5 (by omega)
        have b5 : Below w.heap.size w w5 := hV.trans (hb5.mono hV.size)
        have V5 := Lib.hid (HV.out.below hb5 (Nat.le_refl _))
        have E1 := Lib.hid (equal_any (own_bs ho5) (HB.out.below b5 (Nat.le_refl _)))
        have hR5f := R5.frees
        have hR5c := R5.cells
        have hS5c := S5.cells
        have HOK := Lib.hid hok
        clear hSc ho5 hok
        by_cases he : putS ⟨(G : Int), S, X, vs⟩ = l
        · have HG2 : Hid (getS l = some ⟨G, S, X, vs⟩) := by
            show _ = _
            rw [HG.out, HS'.out]
            exact if_pos ⟨hl.out, h8, HOK.out, he⟩
          rw [decide_eq_true he] at E1
          clear he
          go_wp2_with ((with_reducible refine Calls.mono E1.out ?_); rintro e w6 ⟨rfl, rfl⟩)
          refine bodyPost_ret (results_sup rfl rfl rfl ((((R5.set_ 0 _).set_ 1 _).set_ 2 _).set_ 3 _)) rfl ?_
          rw [HG2.out]
          obtain rfl := HLn.out
          exact ⟨A4, c4, rfl, ((((V5.out.far (by simp) _).far (by simp) _).far (by simp) _).far (by simp) _).weak (by omega), (((b5.setCell (Nat.le_refl _) _).setCell (Nat.le_refl _) _).setCell (Nat.le_refl _) _).setCell (Nat.le_refl _) _⟩
        · have HG2 : Hid (getS l = none) := by
            show _ = _
            rw [HG.out, HS'.out]
            exact if_neg (fun h => he h.2.2.2)
          rw [decide_eq_false he] at E1
          clear he
          go_wp2_with ((with_reducible refine Calls.mono E1.out ?_); rintro e w6 ⟨rfl, rfl⟩)
          refine bodyPost_ret (results_sup rfl rfl rfl ((((R5.set_ 0 _).set_ 1 _).set_ 2 _).set_ 3 _)) rfl ?_
          rw [HG2.out]
          exact sget_none rfl ((((b5.setCell (Nat.le_refl _) _).setCell (Nat.le_refl _) _).setCell (Nat.le_refl _) _).setCell (Nat.le_refl _) _)
      · have R5 := HR.out.below hb5 (by omega)
        have b5 : Below w.heap.size w w5 := hV.trans (hb5.mono hV.size)
        have hR5f := R5.frees
        have hR5c := R5.cells
        have HG2 : Hid (getS l = none) := by
          show _ = _
          rw [HG.out, HS'.out]
          exact if_neg (fun h => hok h.2.2.1)
        clear hSc hok
        go_wp2
        refine bodyPost_ret (results_sup rfl rfl rfl ((((R5.set_ 0 _).set_ 1 _).set_ 2 _).set_ 3 _)) rfl ?_
        rw [HG2.out]
        exact sget_none rfl ((((b5.setCell (Nat.le_refl _) _).setCell (Nat.le_refl _) _).setCell (Nat.le_refl _) _).setCell (Nat.le_refl _) _)

theorem sget_any {A : Option Addr} {m c lo : Nat} {l : List UInt8} {w : World} (hb : Bs w lo A m c l) :
    Calls Try.prog 57 #[.slice A m c] w (SGet w (getS l)) := by
  by_cases hm : m = 256
  · subst hm
    by_cases h8 : (l.getD 14 0).toNat ≤ 8
    · exact sget_main hb h8
    · rw [getS_many (by omega)]
      exact (sget_many hb (by omega)).mono fun e w' h => sget_none h.1 h.2
  · rw [getS_len (by rw [hb.1]; exact hm)]
    exact (sget_len hm).mono fun e w' h => sget_none h.1 h.2
end Go.Proofs.Ytdbhagnnpjcpmaa
