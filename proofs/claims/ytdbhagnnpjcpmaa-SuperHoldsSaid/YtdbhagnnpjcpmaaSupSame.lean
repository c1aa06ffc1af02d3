/- Are two superblocks the same: kistref10.Same. -/
import Derived.Test.YtdbhagnnpjcpmaaSupM
import Derived.DeepKeys
import Derived.Deep.DeepCutAuto
namespace Go.Proofs.Ytdbhagnnpjcpmaa
open Go.RowKit

theorem eq_ver (u v : Ver) (w : World) : (Op.equalIn 10000 97 (.agg #[.int .i64 u.id, .int .i64 u.root, .int .i64 u.next, .bool u.fx]) (.agg #[.int .i64 v.id, .int .i64 v.root, .int .i64 v.next, .bool v.fx])).run Try.prog w = .ok (decide (u = v)) w := by
  have hm : ((Try.prog.fieldsOf 97).toList.map fun f => (f.name == "_", f.type, f.offset)) = [(false, 3, 0), (false, 3, 1), (false, 3, 2), (false, 4, 3)] := by kernel_rfl
  have h3 : Try.prog.plainKey 3 = true := by kernel_rfl
  have h4 : Try.prog.plainKey 4 = true := by kernel_rfl
  have a0 : (Go.part 3 #[.int .i64 u.id, .int .i64 u.root, .int .i64 u.next, .bool u.fx] 0).run Try.prog w = .ok (.int .i64 u.id) w := run_part_plain w h3 rfl
  have a1 : (Go.part 3 #[.int .i64 u.id, .int .i64 u.root, .int .i64 u.next, .bool u.fx] 1).run Try.prog w = .ok (.int .i64 u.root) w := run_part_plain w h3 rfl
  have a2 : (Go.part 3 #[.int .i64 u.id, .int .i64 u.root, .int .i64 u.next, .bool u.fx] 2).run Try.prog w = .ok (.int .i64 u.next) w := run_part_plain w h3 rfl
  have a3 : (Go.part 4 #[.int .i64 u.id, .int .i64 u.root, .int .i64 u.next, .bool u.fx] 3).run Try.prog w = .ok (.bool u.fx) w := run_part_plain w h4 rfl
  have b0 : (Go.part 3 #[.int .i64 v.id, .int .i64 v.root, .int .i64 v.next, .bool v.fx] 0).run Try.prog w = .ok (.int .i64 v.id) w := run_part_plain w h3 rfl
  have b1 : (Go.part 3 #[.int .i64 v.id, .int .i64 v.root, .int .i64 v.next, .bool v.fx] 1).run Try.prog w = .ok (.int .i64 v.root) w := run_part_plain w h3 rfl
  have b2 : (Go.part 3 #[.int .i64 v.id, .int .i64 v.root, .int .i64 v.next, .bool v.fx] 2).run Try.prog w = .ok (.int .i64 v.next) w := run_part_plain w h3 rfl
  have b3 : (Go.part 4 #[.int .i64 v.id, .int .i64 v.root, .int .i64 v.next, .bool v.fx] 3).run Try.prog w = .ok (.bool v.fx) w := run_part_plain w h4 rfl
  have q3 := fun x y => run_equalIn_int (P := Try.prog) w 9998 3 .i64 .i64 x y Try.underlying3
  have q4 := fun x y => run_equalIn_bool' (P := Try.prog) w 9998 4 x y Try.underlying4
  rw [show (10000 : Nat) = 9998 + 1 + 1 from rfl, run_equalIn_struct w (9998 + 1) 97 _ _ (by kernel_rfl) (by kernel_rfl)]
  generalize (Try.prog.fieldsOf 97).toList = fs at *
  have hl : fs.length = 4 := by
    have := congrArg List.length hm
    simpa using this
  match fs, hl, hm with
  | [f0, f1, f2, f3], _, hm =>
    simp only [List.map_cons, List.map_nil, List.cons.injEq, Prod.mk.injEq, beq_eq_false_iff_ne, and_true] at hm
    obtain ⟨⟨n0, t0, o0⟩, ⟨n1, t1, o1⟩, ⟨n2, t2, o2⟩, ⟨n3, t3, o3⟩⟩ := hm
    obtain ⟨ua, ub, uc, ud⟩ := u
    obtain ⟨va, vb, vc, vd⟩ := v
    simp only at a0 a1 a2 a3 b0 b1 b2 b3
    simp only [Op.eqFields, ne_eq, n0, n1, n2, n3, not_false_eq_true, if_true, t0, t1, t2, t3, o0, o1, o2, o3, Sem.run_bind, a0, a1, a2, a3, b0, b1, b2, b3, Result.andThen_ok, q3, q4, Sem.run_ite, Sem.run_pure]
    by_cases c0 : ua = va <;> by_cases c1 : ub = vb <;> by_cases c2 : uc = vc <;> by_cases c3 : ud = vd <;> simp [c0, c1, c2, c3]
theorem neq_ver (u v : Ver) (w : World) : (binOp .neq 97 (.agg #[.int .i64 u.id, .int .i64 u.root, .int .i64 u.next, .bool u.fx]) (.agg #[.int .i64 v.id, .int .i64 v.root, .int .i64 v.next, .bool v.fx])).run Try.prog w = .ok (.bool (!decide (u = v))) w := by
  rw [run_neq_struct, eq_ver]
  rfl

theorem vs_take_snoc (vs : List Ver) (i : Nat) (h : i < vs.length) : vs.take (i + 1) = vs.take i ++ [vs.getD i Ver.nil] := by
  rw [List.getD_eq_getElem?_getD, List.getElem?_eq_getElem h, Option.getD_some, List.take_succ_eq_append_getElem h]

set_option maxRecDepth 100000 in
set_option maxHeartbeats 2000000 in
theorem ssame_any (a b : Sup) {A1 A2 : Option Addr} {n1 n2 c1 c2 lo1 lo2 : Nat} {w : World} (h1 : Vr w lo1 A1 n1 c1 a.vs) (h2 : Vr w lo2 A2 n2 c2 b.vs) :
    Calls Try.prog 26 #[.agg #[.int .i64 a.gen, .int .i64 a.sec, .int .i64 a.next, .slice A1 n1 c1], .agg #[.int .i64 b.gen, .int .i64 b.sec, .int .i64 b.next, .slice A2 n2 c2]] w fun e w' => e = .returned (.bool (decide (a = b))) ∧ Below w.heap.size w w' := by
  obtain ⟨g1, s1, x1, vs1⟩ := a
  obtain ⟨g2, s2, x2, vs2⟩ := b
  simp only at *
  have hb : Below w.heap.size w ((w.alloc (.cells #[.int .i64 g1, .int .i64 s1, .int .i64 x1, .slice A1 n1 c1] 32)).alloc (.cells #[.int .i64 g2, .int .i64 s2, .int .i64 x2, .slice A2 n2 c2] 32)) := ((Below.refl _ _).alloc (Nat.le_refl _) _).alloc (by simp) _
  by_cases k1 : g1 = g2
  rotate_left
  · have e1 : (g1 == g2) = false := beq_eq_false_iff_ne.2 k1
    have HF : Hid (decide ((⟨g1, s1, x1, vs1⟩ : Sup) = ⟨g2, s2, x2, vs2⟩) = false) := decide_eq_false (by intro h; injection h with h; exact k1 h)
    clear h1 h2
    go_enter Try.func26, Try.ntmps26
    go_wp2
    go_ret
    exact ⟨by rw [HF.out]; rfl, hb⟩
  by_cases k2 : s1 = s2
  rotate_left
  · have e1 : (s1 == s2) = false := beq_eq_false_iff_ne.2 k2
    have HF : Hid (decide ((⟨g1, s1, x1, vs1⟩ : Sup) = ⟨g2, s2, x2, vs2⟩) = false) := decide_eq_false (by intro h; injection h with _ h; exact k2 h)
    clear h1 h2
    subst k1
    go_enter Try.func26, Try.ntmps26
    go_wp2
    go_ret
    exact ⟨by rw [HF.out]; rfl, hb⟩
  by_cases k3 : x1 = x2
  rotate_left
  · have e1 : (x1 == x2) = false := beq_eq_false_iff_ne.2 k3
    have HF : Hid (decide ((⟨g1, s1, x1, vs1⟩ : Sup) = ⟨g2, s2, x2, vs2⟩) = false) := decide_eq_false (by intro h; injection h with _ _ h; exact k3 h)
    clear h1 h2
    subst k1 k2
    go_enter Try.func26, Try.ntmps26
    go_wp2
    go_ret
    exact ⟨by rw [HF.out]; rfl, hb⟩
  subst k1 k2 k3
  have H1 := Lib.hid h1
  have H2 := Lib.hid h2
  have hl1 := Lib.hid h1.1
  have hl2 := Lib.hid h2.1
  by_cases k4 : n1 = n2
  rotate_left
  · have e1 : ((n1 : Int) == (n2 : Int)) = false := beq_eq_false_iff_ne.2 (by omega)
    have HF : Hid (decide ((⟨g1, s1, x1, vs1⟩ : Sup) = ⟨g1, s1, x1, vs2⟩) = false) := decide_eq_false (by intro h; injection h with _ _ _ h; exact k4 (by rw [← hl1.out, ← hl2.out, h]))
    clear h1 h2
    go_enter Try.func26, Try.ntmps26
    go_wp2
    go_ret
    exact ⟨by rw [HF.out]; rfl, hb⟩
  subst k4
  have hc1 := h1.2.1
  have hc2 := h1.2.2.1
  have hc3 := h2.2.1
  have hc4 := h2.2.2.1
  clear h1 h2
  have HT : Hid (vs1 = vs2 → decide ((⟨g1, s1, x1, vs1⟩ : Sup) = ⟨g1, s1, x1, vs2⟩) = true) := fun h => decide_eq_true (by rw [h])
  have HF : Hid (¬ vs1 = vs2 → decide ((⟨g1, s1, x1, vs1⟩ : Sup) = ⟨g1, s1, x1, vs2⟩) = false) := fun hn => decide_eq_false (by intro h; injection h with _ _ _ h; exact hn h)
  go_enter Try.func26, Try.ntmps26
  go_upto_region 3 with fail
  refine wp_world (fun V => Blk V w.heap.size 32 [.int .i64 g1, .int .i64 s1, .int .i64 x1, .slice A1 n1 c1] ∧ Blk V (w.heap.size + 1) 32 [.int .i64 g1, .int .i64 s1, .int .i64 x1, .slice A2 n1 c2] ∧ Below w.heap.size w V) ⟨(Blk.new _ _ [.int .i64 g1, .int .i64 s1, .int .i64 x1, .slice A1 n1 c1]).alloc _, Blk.new_at (cs := [.int .i64 g1, .int .i64 s1, .int .i64 x1, .slice A2 n1 c2]) (by simp), hb⟩ ?_
  clear hb
  rintro V ⟨hB1, hB2, hV⟩
  have r1 := Lib.hid (H1.out.below hV (Nat.le_refl _))
  have r2 := Lib.hid (H2.out.below hV (Nat.le_refl _))
  have b1c := hB1.cells
  have b2c := hB2.cells
  clear hB1 hB2 H1 H2
  go_wp2
  go_loopw [5] (fun s5 wr => ∃ i : Nat, i ≤ n1 ∧ s5 = .int .i64 i ∧ vs1.take i = vs2.take i ∧ ∃ q, wr = V.drewN q) (fun s5 _ => n1 - (intOf s5).toNat)
  case atStart => exact ⟨0, Nat.zero_le _, rfl, rfl, 0, rfl⟩
  case round =>
    obtain ⟨i, hi, rfl, ht, q, rfl⟩ := hrel
    have HTk := Lib.hid ht
    clear ht
    by_cases hlt : i < n1
    · obtain ⟨b1, o1, rfl, _, _⟩ := r1.out.at_ (by omega)
      obtain ⟨b2, o2, rfl, _, _⟩ := r2.out.at_ (by omega)
      obtain ⟨p0, p1, p2, p3⟩ := r1.out.cells i hlt
      obtain ⟨q0, q1, q2, q3⟩ := r2.out.cells i hlt
      have e1 := Lib.hid (vs_take_snoc vs1 i (by have := hl1.out; omega))
      have e2 := Lib.hid (vs_take_snoc vs2 i (by have := hl2.out; omega))
      have HX : Hid (¬ vs1.getD i Ver.nil = vs2.getD i Ver.nil → ¬ vs1 = vs2) := fun hn h => hn (by rw [h])
      generalize vs1.getD i Ver.nil = u at *
      generalize vs2.getD i Ver.nil = v at *
      have hne := neq_ver u v
      by_cases huv : u = v
      · have HE := Lib.hid huv
        rw [decide_eq_true huv] at hne
        clear huv
        go_wp2
        go_quiet (fail)
        go_wp2
        go_roundw
        case rel => exact ⟨i + 1, by omega, by go_num, by rw [e1.out, e2.out, HTk.out, HE.out], _, rfl⟩
        case measure => simp [intOf]; omega
      · have HE := Lib.hid (HX.out huv)
        rw [decide_eq_false huv] at hne
        clear huv
        go_wp2
        go_quiet (fail)
        go_wp2
        go_ret
        exact ⟨by rw [HF.out HE.out]; rfl, below_drewN (below_drewN hV q) _⟩
    · obtain rfl : i = n1 := by omega
      have hvv : vs1 = vs2 := by
        have := HTk.out
        rwa [List.take_of_length_le (by have := hl1.out; omega), List.take_of_length_le (by have := hl2.out; omega)] at this
      have HE := Lib.hid hvv
      clear hvv HTk
      go_wp2
      go_ret
      exact ⟨by rw [HT.out HE.out]; rfl, below_drewN hV q⟩
end Go.Proofs.Ytdbhagnnpjcpmaa
