/- From a walk to a law's statement: what the arguments read as, and that they read so behind the call. No condition. -/
import Derived.WalkKit
import Derived.ProofKit
import Derived.OpenShut
import Derived.ShutString
import Derived.ChangeOld
import Derived.Below
import Derived.SizedLaws
import Derived.Lib.SmallJoins
import Derived.Test.YtdakohbfibcjeaaTvA
namespace Go.Proofs.Ytdakohbfibcjeaa
open Go.ChangeShapes Go.WideShapes Go.ChangeAt Go.RowKit Go.Joins

section
variable {H : Type} {enc : TypeId × Value → H} {P : Program}

theorem trodAll_below (hl : laidOutB P = true) {W W' : World} (hb : Below W.heap.size W W') : ∀ {ts : List TypeId} {vs : List Value} {ds : List (DataW H)} {ps : List MemPlace},
    ts.all (fun t => P.readableRec t && decide (t < P.types.size)) = true → DataW.TrodAll enc P W 0 (fun _ => true) true ts vs ds ps → DataW.TrodAll enc P W' 0 (fun b => decide (b < W.heap.size)) true ts vs ds ps
  | [], vs, ds, ps, _, h => by
    obtain ⟨rfl, rfl, rfl⟩ := trodAll_nil h
    exact trodAll_mk0
  | t :: ts, vs, ds, ps, hr, h => by
    obtain ⟨v, vs', d, ds', p, q, rfl, rfl, rfl, h1, h2⟩ := trodAll_cons h
    simp only [List.all_cons, Bool.and_eq_true, decide_eq_true_eq] at hr
    have k1 := h1
    have lt : ∀ x ∈ p, x.block < W.heap.size := by obtain ⟨m, hm⟩ := k1; exact DataW.trod_lt m _ _ _ hm
    exact trodAll_cons_mk (Below.trod hl hr.1.1 hr.1.2 h1 hb lt) (trodAll_below hl hb (by simpa using hr.2) h2)

theorem law_lift {C : Checked} {os : Os} {f : FuncId} {fn : Func} {s : ChangeSpec} {tb : TypeId} (own : ownKnob C.prog.godebug = none) (started : os.Started) (noInit : C.prog.inits.idxOf? f = none) (hfn : C.prog.funcs[f]? = some fn)
    (hl : laidOutB C.prog = true) (hv : s.vars = [])
    (witness : ∃ (w : World) (tape : Tape) (i : Input), w.os = os ∧ (w.forCall tape i).Shaped C.prog ∧ i.vars = [] ∧ Input.okWide C.prog (w.forCall tape i) .any w.heap.size f i ∧
      s.pre6 enc C.prog fn [] false (w.forCall tape i).memory i.args ∧ ({} : Assume).holds C.prog (lone (Frame.enter C.prog f i.args .normal) [] (w.forCall tape i)))
    (hres : fn.resultTypes = #[tb]) (hbool : C.prog.underlying tb = some .bool) (hread : fn.params.toList.all (fun t => C.prog.readableRec t && decide (t < C.prog.types.size)) = true)
    (hspec : ∀ ds : List (DataW H), ds.length = fn.params.toList.length → (s.fn H (ds ++ [])).results = [.lit (.bool true)] ∧ (s.fn H (ds ++ [])).args = ds ∧ (s.fn H (ds ++ [])).vars = [])
    (walk : ∀ (W : World) (base : Nat) (args : Array Value) (ds : List (DataW H)) (p : List MemPlace), (∀ (j : Nat) t v, fn.params[j]? = some t → args[j]? = some v → Value.okWide C.prog W .any base t v) →
      DataW.TrodAll enc C.prog W 0 (fun _ => true) true fn.params.toList args.toList ds p → (DataW.weightsEach C.prog fn.params.toList ds).all (· ≤ reachBytes) = true →
      Calls C.prog f args W fun e W' => e = .returned (.bool true) ∧ Below W.heap.size W W') :
    ReturnsInHanded {} C os f .any (s.pre6 enc C.prog fn [] false) (s.post enc C.prog fn false true false false) := by
  refine returnsInHanded_of_change_sized own started noInit hfn witness ?_
  intro W base args ds gs before hval hW _ hsz _
  have hW' := hW
  obtain ⟨p, q, hA, hV, rfl, hfz, hnd⟩ := hW
  rw [hv] at hV
  obtain ⟨rfl, rfl⟩ := trodVars_none hV
  have hplain : s.plain.varTypes C.prog = [] := by
    simp [DataSpec.varTypes, ChangeSpec.plain, hv]
  rw [hplain, List.append_nil, List.append_nil] at hsz
  have hlen : ∀ {ts : List TypeId} {vs : List Value} {es : List (DataW H)} {ps : List MemPlace}, DataW.TrodAll enc C.prog W 0 (fun _ => true) true ts vs es ps → es.length = ts.length := by
    intro ts
    induction ts with
    | nil => intro vs es ps h; obtain ⟨_, rfl, _⟩ := trodAll_nil h; rfl
    | cons t ts ih => intro vs es ps h; obtain ⟨v, vs', d, ds', p, q, rfl, rfl, rfl, _, h2⟩ := trodAll_cons h; simp [ih h2]
  obtain ⟨s1, s2, s3⟩ := hspec ds (hlen hA)
  refine (walk W base args ds p hval hA hsz).mono fun e W' ⟨he, bel⟩ => ?_
  subst he
  refine ⟨_, rfl, ds, [], p ++ [], [], p, [], hW', ?_, ?_, ?_, bel.frame _, fun h => by cases h⟩
  · rw [s1, hres]
    exact trodAll_mk1 (shut_bool hbool _)
  · rw [s2]
    exact trodAll_below hl bel hread hA
  · rw [s3, hv]
    rfl

/-- a slice of bytes that came in -/
theorem open_bytes {t e : TypeId} {w : World} {held : Bool} {base fuel : Nat} {cs : List Value} {x : DataW H × List MemPlace} (ht : P.underlying t = some (.slice e)) (he : P.underlying e = some (.int .u8)) (hc : P.cellsOf e = 1) (hby : P.bytesOf e = 1)
    (h : DataW.trod enc P w base (fun _ => true) held fuel t cs = some x) : ∃ A m c l, cs = [.slice A m c] ∧ Bs w 0 A m c l ∧ ((x.1.weights P t).all (· ≤ reachBytes) = true → c ≤ 140737488351232) := by
  rcases open_ints ht he hc h with ⟨rfl, rfl⟩ | ⟨a, len, cap, zs, rfl, _, hl, hm, hz, rfl, hcell, hwz⟩
  · exact ⟨none, 0, 0, [], rfl, Bs.nil_ _ _, fun _ => by omega⟩
  · simp only [if_true] at hz
    refine ⟨some a, len, cap, (zs.take len).map (fun z => UInt8.ofNat z.toNat), rfl, ⟨by simp; omega, hl, hm, fun hn => ?_⟩, fun hw => ?_⟩
    · simp only [length_bvs, List.length_map, List.length_take] at hn
      have hs : a.spot = none := by
        have := hcell 0 (by omega)
        simpa [Addr.add] using World.cell?_spot this
      obtain ⟨b, o, sp⟩ := a
      simp only at hs
      subst hs
      have h0 := hcell 0 (by omega)
      refine ⟨b, o, rfl, Nat.zero_le _, block_lt_of_cell (a := ⟨b, o, none⟩) (by simpa [Addr.add] using h0), fun k hk => ?_⟩
      simp only [length_bvs, List.length_map, List.length_take] at hk
      have hk' : k < zs.length := by omega
      have := hcell k hk'
      rw [Addr.add_lit] at this
      rw [this, bvs_get]
      have hw := hwz zs[k] (List.getElem_mem hk')
      have hb := bounds_u8 hw
      simp [List.getD_eq_getElem?_getD, List.getElem?_eq_getElem hk']
      omega
    · have hw1 := List.all_eq_true.1 hw ((lits .u8 (zs.take len) : List (DataW H)).length + (lits .u8 (zs.drop len) : List (DataW H)).length) (by simp [DataW.weights, ht, hby])
      simp [lits, reachBytes] at hw1
      omega
end
end Go.Proofs.Ytdakohbfibcjeaa
