/- super.Get reads a superblock as the plain function does. -/
import Derived.Test.YtgfmpgflbphpcaaSupPut
import Derived.Test.YtgfmpgflbphpcaaTake
import Derived.Test.YtgfmpgflbphpcaaLibEq
import Derived.Deep.DeepMust
namespace Go.Proofs.Ytgfmpgflbphpcaa
open Go.RowKit

theorem grown_set {w : World} {g : Nat} {t : TypeId} {cs : List Value} (_ : Blk w g t cs) (i : Nat) (u : Value) : w.grownBy (w.setCell ⟨g, i, none⟩ u) (some g) :=
  ⟨rfl, rfl, rfl, by simp, fun k _ hk => Below.heap_setCell w ⟨g, i, none⟩ u k (fun e => hk (by rw [e]))⟩
theorem take_at (k p : Nat) {gt b o c lo : Nat} {l : List UInt8} {w : World} (hT : Blk w gt 62 [.slice (some ⟨b, o + p, none⟩) (256 - p) (c - p)]) (hb : Bs w lo (some ⟨b, o, none⟩) 256 c l) (hk : k ≤ 4) (hp : p + k < 256) :
    Calls Try.prog 45 #[.pointer (some ⟨gt, 0, none⟩), .int .i64 k] w fun e w' => e = .returned (.int .i64 (leN (part l p k) : Nat)) ∧ Blk w' gt 62 [.slice (some ⟨b, o + (p + k), none⟩) (256 - (p + k)) (c - (p + k))] ∧ w.grownBy w' (some gt) ∧ w'.heap.size = w.heap.size := by
  have hq := hb.cut p 256 (by omega) (by omega)
  have hl : ((l.drop p).take (256 - p)) = l.drop p := List.take_of_length_le (by rw [List.length_drop, hb.1]; omega)
  rw [hl] at hq
  refine (take_any k hT hq hk (by omega)).mono fun e w' ⟨he, hw⟩ => ⟨he, ?_, hw ▸ grown_set hT 0 _, by rw [hw]; simp⟩
  rw [hw]
  have := hT.set_ 0 (.slice (some ⟨b, o + p + k, none⟩) (256 - p - k) (c - p - k))
  rw [Nat.sub_sub, Nat.sub_sub, Nat.add_assoc] at this
  rw [Nat.sub_sub, Nat.sub_sub, Nat.add_assoc]
  exact this

theorem Rd.far {w : World} {lo : Nat} {A : Option Addr} {xs : List Value} (h : Rd w lo A xs) {q : Addr} (hq : q.block < lo) (u : Value) : Rd (w.setCell q u) lo A xs := fun hn => by
  obtain ⟨b, o, e, h1, h2, hc⟩ := h hn
  exact ⟨b, o, e, h1, by simpa using h2, fun k hk => (World.cell?_of_block (Below.heap_setCell w q u b (by omega))).trans (hc k hk)⟩
theorem Vr.far {w : World} {lo n c : Nat} {A : Option Addr} {vs : List Ver} (h : Vr w lo A n c vs) {q : Addr} (hq : q.block < lo) (u : Value) : Vr (w.setCell q u) lo A n c vs := ⟨h.1, h.2.1, h.2.2.1, h.2.2.2.far hq u⟩

theorem zero32 (w : World) : (zeroValue 32).run Try.prog w = .ok (.agg #[.int .i64 0, .int .i64 0, .int .i64 0, .slice none 0 0]) w := by kernel_rfl
theorem size32 : (Try.prog.info? 32).map (·.size) = some 4 := by kernel_rfl
theorem info57 : (Try.prog.info? 57).map (fun i => (i.zero, i.size, i.bytes)) = some (some (.agg #[.int .i64 0, .int .i64 0, .int .i64 0, .bool false]), 4, 32) := by kernel_rfl
theorem results_sup {fn : Func} {p t : Tmp} (h : fn.results = #[.cell p 32, .tmp t]) {tmps : Array Value} {w : World} {g : Nat} {v0 v1 v2 v3 x : Value}
    (hp : tmps.getD p undef = .pointer (some ⟨g, 0, none⟩)) (hx : tmps.getD t undef = x) (hB : Blk w g 32 [v0, v1, v2, v3]) : (results fn tmps).run Try.prog w = .ok (.tuple #[.agg #[v0, v1, v2, v3], x]) w := by
  have hr := run_loadVar_row (P := Try.prog) w g 32 32 #[v0, v1, v2, v3] (0, 0) _ hB Try.underlying32 rfl size32
  have hp' : tmps[p]?.getD undef = .pointer (some ⟨g, 0, none⟩) := by simpa using hp
  have hx' : tmps[t]?.getD undef = x := by simpa using hx
  simp [results, h, hp', hx', asAddr, hr]

/-- what a Get leaves: what was read, and whether -/
def SGet (w : World) (r : Option Sup) (e : Ending) (w' : World) : Prop :=
  ∃ A' c', e = .returned (.tuple #[.agg #[.int .i64 (r.getD Sup.nil).gen, .int .i64 (r.getD Sup.nil).sec, .int .i64 (r.getD Sup.nil).next, .slice A' (r.getD Sup.nil).vs.length c'], .bool r.isSome]) ∧ Vr w' w.heap.size A' (r.getD Sup.nil).vs.length c' (r.getD Sup.nil).vs ∧ Below w.heap.size w w'
theorem sget_none {w w' : World} {e : Ending} (he : e = .returned (.tuple #[.agg #[.int .i64 0, .int .i64 0, .int .i64 0, .slice none 0 0], .bool false])) (hb : Below w.heap.size w w') : SGet w none e w' :=
  ⟨none, 0, he, Vr.nil_ _ _, hb⟩

/-- what a Put leaves -/
def SPut (w : World) (s : Sup) (e : Ending) (w' : World) : Prop :=
  (supOk s ∧ ∃ A' c', e = .returned (.tuple #[.slice A' 256 c', .int .i64 0]) ∧ Own w' w.heap.size 5 1 A' 256 c' (bvs (putS s)) ∧ Below w.heap.size w w') ∨ (¬ supOk s ∧ e = .returned (.tuple #[.slice none 0 0, .int .i64 1]) ∧ Below w.heap.size w w')
theorem sput_any (s : Sup) {A : Option Addr} {n c lo : Nat} {w : World} (hr : Vr w lo A n c s.vs) :
    Calls Try.prog 20 #[.agg #[.int .i64 s.gen, .int .i64 s.sec, .int .i64 s.next, .slice A n c]] w (SPut w s) := by
  by_cases h : supOk s
  · obtain ⟨gen, sec, next, vs⟩ := s
    have h' := h
    obtain ⟨⟨h1, h2, h3, h4, h5, h6, h7⟩, _⟩ := h'
    simp only at h1 h3 h5
    obtain ⟨G, rfl⟩ := Int.eq_ofNat_of_zero_le (show 0 ≤ gen by omega)
    obtain ⟨S, rfl⟩ := Int.eq_ofNat_of_zero_le (show 0 ≤ sec by omega)
    obtain ⟨N, rfl⟩ := Int.eq_ofNat_of_zero_le (show 0 ≤ next by omega)
    exact (sput_ok G S N vs hr h).mono fun e w' h2 => .inl ⟨h, h2⟩
  · exact (sput_no s hr h).mono fun e w' h2 => .inr ⟨h, h2⟩

theorem getS_len {l : List UInt8} (h : l.length ≠ 256) : getS l = none := by unfold getS; rw [if_neg (fun h2 => h h2.1)]
theorem getS_many {l : List UInt8} (h : 8 < (l.getD 14 0).toNat) : getS l = none := by unfold getS; rw [if_neg (fun h2 => by omega)]

set_option maxHeartbeats 1000000 in
theorem sget_len {A : Option Addr} {m c : Nat} {w : World} (hm : m ≠ 256) :
    Calls Try.prog 26 #[.slice A m c] w fun e w' => e = .returned (.tuple #[.agg #[.int .i64 0, .int .i64 0, .int .i64 0, .slice none 0 0], .bool false]) ∧ Below w.heap.size w w' := by
  have h1 : ((m : Int) == 256) = false := beq_eq_false_iff_ne.2 (by omega)
  have hz := zero32
  go_enter Try.func26, Try.ntmps26
  go_wp2
  refine bodyPost_ret (v := .tuple #[.agg #[.int .i64 0, .int .i64 0, .int .i64 0, .slice none 0 0], .bool false]) (by simp [results, Try.results26, go_sem]) rfl ⟨rfl, ?_⟩
  exact (Below.refl _ _).alloc (Nat.le_refl _) _
end Go.Proofs.Ytgfmpgflbphpcaa
