/- The cache's small functions: cache.New, own, there; slices.Clone; slices.DeleteFunc by a closure over one number. No condition. -/
import Derived.Test.YtdakohbfibcjeaaCa
import Derived.Test.YtdakohbfibcjeaaLibCl
namespace Go.Proofs.Ytdakohbfibcjeaa
open Go.RowKit Go.Maps Go.Shelf Go.Sort
set_option linter.unusedSimpArgs false
set_option linter.unusedVariables false

theorem zeroBk (w : World) : (zeroValue 89).run Try.prog w = .ok (.agg #[.int .i64 0, .slice none 0 0]) w := by kernel_rfl
theorem sizeBk : (Try.prog.info? 89).map (·.size) = some 2 := by kernel_rfl
theorem zeroUn (w : World) : (zeroValue 94).run Try.prog w = .ok (.agg #[]) w := by kernel_rfl

/-- the same of slices.Clone: bytes -/
theorem bclone_any {A : Option Addr} {m c : Nat} {l : List UInt8} {lo : Nat} {w : World} (h : Bs w lo A m c l) (hm : m ≤ 140737488355328) :
    Calls Try.prog 60 #[.slice A m c] w fun e w' => ∃ A' c', e = .returned (.slice A' m c') ∧ Own w' w.heap.size 5 1 A' m c' (bvs l) ∧ Below w.heap.size w w' := by
  obtain ⟨hl, hc1, hc2, hr⟩ := h
  have HL := Lib.hid hl
  cases A with
  | none =>
    have h0 := rd_none hr
    have : l = [] := by simpa [bvs] using h0
    subst this
    obtain rfl : m = 0 := hl.symm
    clear hl HL
    have q1 := Lib.run_eql_slice_nil (P := Try.prog) w 82 5 none 0 c 0 0 Try.underlying82
    go_enter Try.func60, Try.ntmps60
    go_wp2
    go_ret
    exact ⟨none, 0, rfl, Own.nil_ _ _ _ _, Below.refl _ _⟩
  | some ad =>
    clear hl
    have q1 := Lib.run_eql_slice_nil (P := Try.prog) w 82 5 (some ad) m c 0 0 Try.underlying82
    go_enter Try.func60, Try.ntmps60
    go_wp2_with (at_builtin; refine wpList_app rfl (.tmp 5) (.tmp 6) 82 rfl 5 1 Try.underlying82 info5 rfl (by omega) rfl (Own.lit _ _ [] (n := 0) (base := w.heap.size) (by omega) rfl (Nat.le_refl _) rfl) rfl (hr.below (B := w.heap.size) ((Below.refl _ _).alloc (Nat.le_refl _) _) (Nat.le_refl _)) (by simpa using HL.out) (bvs_oneCell _) (by omega) (by omega) (by simp) ?_; intro A1 c1 w1 ho1 hg1 _)
    have b1 := below_own (w0 := w) ((Below.refl _ _).alloc (Nat.le_refl _) _) (Own.lit (s := 1) _ 5 [] (n := 0) (base := w.heap.size) (by omega) rfl (Nat.le_refl _) rfl) hg1 (Nat.le_refl _) (by simp)
    rw [Nat.zero_add] at ho1
    go_ret
    exact ⟨A1, c1, rfl, ho1, b1⟩
def newC (room : Nat) : Ca := ⟨room, fun _ => none, fun _ => false, []⟩
theorem CD.new {w : World} {base : Nat} {d : Dw} {t : Dsk} (h : Dk w base d t) (hb : base ≤ w.heap.size) (room : Nat) :
    CD (((w.alloc (.map #[] 0)).alloc (.map #[] 0)).alloc (.cells #[.pointer (some ⟨d.g, 0, none⟩), .int .i64 (room : Int), .map (some w.heap.size), .map (some (w.heap.size + 1)), .slice none 0 0] 81)) base d ⟨w.heap.size + 2, w.heap.size, w.heap.size + 1, fun _ => ⟨none, 0, 0⟩, none, 0⟩ t (newC room) := by
  have e1 : (w.alloc (.map #[] 0)).heap.size = w.heap.size + 1 := by simp
  have hM := Mp.made w t.n
  have hM2 := Mp.made (w.alloc (.map #[] 0)) t.n
  rw [e1] at hM2
  have hd2 : Below w.heap.size w (((w.alloc (.map #[] 0)).alloc (.map #[] 0)).alloc (.cells #[.pointer (some ⟨d.g, 0, none⟩), .int .i64 (room : Int), .map (some w.heap.size), .map (some (w.heap.size + 1)), .slice none 0 0] 81)) := (((Below.refl _ _).alloc (Nat.le_refl _) _).alloc (by simp) _).alloc (by simp; omega) _
  refine ⟨h.below hd2 (Nat.le_refl _), ⟨Blk.new_at (cs := [.pointer (some ⟨d.g, 0, none⟩), .int .i64 (room : Int), .map (some w.heap.size), .map (some (w.heap.size + 1)), .slice none 0 0]) (by simp), ?_, ?_, Oz.nil_ _ _, fun n x hx => (by cases hx), fun n _ => rfl, ⟨by show base ≤ w.heap.size + 2; omega, hb, by show base ≤ w.heap.size + 1; omega⟩, fun b e => ?_, ⟨by show w.heap.size ≠ w.heap.size + 2; omega, by show w.heap.size + 1 ≠ w.heap.size + 2; omega, by show w.heap.size + 1 ≠ w.heap.size; omega⟩, ⟨(by intro e; cases e), (by intro e; cases e), (by intro e; cases e)⟩⟩, fun b e => ⟨?_, ?_⟩⟩
  · exact (hM.block (by rw [Below.heap_alloc _ _ _ (by simp; omega), Below.heap_alloc _ _ _ (by simp)])).congr (fun n _ => rfl)
  · exact (hM2.block (Below.heap_alloc _ _ _ (by simp))).congr (fun n _ => rfl)
  · obtain ⟨n, hm, _⟩ := e
    have hm : 0 < 0 := hm
    omega
  · have := (h.foot_base b e).2
    rintro (y | y | y | y)
    · have y : b = w.heap.size + 2 := y; omega
    · have y : b = w.heap.size := y; omega
    · have y : b = w.heap.size + 1 := y; omega
    · cases y
  · rintro ⟨n, hm, _⟩
    have hm : 0 < 0 := hm
    omega
set_option maxHeartbeats 1000000 in
theorem cnew_ok {w : World} {base : Nat} {d : Dw} {t : Dsk} (h : Dk w base d t) (hb : base ≤ w.heap.size) {room : Nat} (h1 : 1 ≤ room) (h2 : room ≤ 1024) :
    Calls Try.prog 12 #[.pointer (some ⟨d.g, 0, none⟩), .int .i64 (room : Int)] w fun e w' => ∃ k, e = .returned (.tuple #[.pointer (some ⟨k.g, 0, none⟩), .int .i64 0]) ∧ CD w' base d k t (newC room) ∧ Below w.heap.size w w' := by
  have H := Lib.hid (CD.new h hb room)
  obtain ⟨gd, hgd⟩ : ∃ z, z = d.g := ⟨_, rfl⟩
  rw [← hgd] at H ⊢
  have hmm := @run_makeMap Try.prog
  have d1 : decide ((room : Int) < 1) = false := decide_eq_false (by omega)
  have d2 : decide ((1024 : Int) < (room : Int)) = false := decide_eq_false (by omega)
  clear h hgd
  go_enter Try.func12, Try.ntmps12
  go_wp2
  go_ret2
  exact ⟨⟨w.heap.size + 2, w.heap.size, w.heap.size + 1, fun _ => ⟨none, 0, 0⟩, none, 0⟩, rfl, H.out, (((Below.refl _ _).alloc (Nat.le_refl _) _).alloc (by simp) _).alloc (by simp; omega) _⟩
theorem cnew_bad {w : World} {g : Nat} {room : Int} (h : room < 1 ∨ 1024 < room) :
    Calls Try.prog 12 #[.pointer (some ⟨g, 0, none⟩), .int .i64 room] w fun e w' => e = .returned (.tuple #[.pointer none, .int .i64 1]) ∧ w = w' := by
  by_cases h1 : room < 1
  · go_enter Try.func12, Try.ntmps12
    go_wp2
    go_ret2
    exact ⟨rfl, rfl⟩
  · have h2 : 1024 < room := by omega
    go_enter Try.func12, Try.ntmps12
    go_wp2
    go_ret2
    exact ⟨rfl, rfl⟩

set_option maxHeartbeats 1000000 in
theorem own_any {A : Option Addr} {m c lo : Nat} {l : List UInt8} {kd : Int} {w : World} (h : Bs w lo A m c l) (hm : m ≤ 140737488355328) :
    Calls Try.prog 40 #[.agg #[.int .i64 kd, .slice A m c]] w fun e w' => ∃ A' c', e = .returned (.agg #[.int .i64 kd, .slice A' m c']) ∧ Own w' w.heap.size 5 1 A' m c' (bvs l) ∧ Below w.heap.size w w' := by
  have hz := zeroBk
  have HB := Lib.hid h
  clear h
  go_enter Try.func40, Try.ntmps40
  go_upto_region 1 with fail
  have hb0 : Below w.heap.size w ((w.alloc (.cells #[.int .i64 kd, .slice A m c] 89)).alloc (.cells #[.int .i64 0, .slice none 0 0] 89)) := ((Below.refl _ _).alloc (Nat.le_refl _) _).alloc (by simp) _
  refine wp_world (fun U => Blk U w.heap.size 89 [.int .i64 kd, .slice A m c] ∧ Blk U (w.heap.size + 1) 89 [.int .i64 0, .slice none 0 0] ∧ Below w.heap.size w U) ⟨(Blk.new w 89 [.int .i64 kd, .slice A m c]).alloc _, Blk.new_at (cs := [.int .i64 0, .slice none 0 0]) (by simp), hb0⟩ ?_
  clear hb0
  rintro U ⟨b1, b2, hb⟩
  obtain ⟨g1, hg1⟩ : ∃ g, g = w.heap.size := ⟨_, rfl⟩
  obtain ⟨g2, hg2⟩ : ∃ g, g = w.heap.size + 1 := ⟨_, rfl⟩
  rw [← hg1] at b1
  rw [← hg2] at b2
  rw [← hg2, ← hg1]
  have HG := Lib.hid (show g1 = w.heap.size ∧ g2 = w.heap.size + 1 from ⟨hg1, hg2⟩)
  have C := Lib.hid (bclone_any (w := U.drew) ((HB.out.below hb (Nat.le_refl _)).drew) hm)
  have c0 : U.drew.cell? ⟨g1, 0, none⟩ = some (.int .i64 kd) := b1.cell 0
  have c1 : U.drew.cell? ⟨g1, 1, none⟩ = some (.slice A m c) := b1.cell 1
  have HB1 := Lib.hid b1
  have HB2 := Lib.hid b2
  have HBb := Lib.hid hb
  have hg12 : g1 ≠ g2 := by omega
  clear b1 b2 hb hg1 hg2
  go_region_held3 (fun w' => w'.cell? ⟨g1, 0, none⟩ = some (.int .i64 kd) ∧ w'.cell? ⟨g1, 1, none⟩ = some (.slice A m c))
    (first | go_keep | (exact K5.out) | (exact ⟨((B1.far hg12 _).far hg12 _).cell 0, ((B1.far hg12 _).far hg12 _).cell 1⟩))
    (first
      | ((with_reducible refine Calls.mono C.out ?_); rintro e w5 ⟨A5, p5, rfl, ho5, hb5⟩; have B1 := (HB1.out.drew.below hb5 HB1.out.lt); have K5 : Hid (w5.cell? ⟨g1, 0, none⟩ = some (.int .i64 kd) ∧ w5.cell? ⟨g1, 1, none⟩ = some (.slice A m c)) := ⟨B1.cell 0, B1.cell 1⟩; have B2 := HB2.out.drew.below hb5 HB2.out.lt; have b2c := B2.cells; have b2f := B2.frees))
  clear c0 c1 b2c b2f K5 C
  go_wp2
  refine bodyPost_ret (results_cell_row rfl _ _ g2 89 #[.int .i64 kd, .slice A5 m p5] (0, 0) _ rfl (show _ = _ from (B2.set_ 0 _).set_ 1 _) Try.underlying89 rfl (by rw [sizeBk]; rfl)) rfl ?_
  have hg := HG.out
  have hUs : U.heap.size ≤ w5.heap.size := hb5.size
  have l2 := HB2.out.lt
  have hbb : Below w.heap.size w w5 := (HBb.out.drew).trans (hb5.mono HBb.out.size)
  have hs2 : w.heap.size ≤ g2 := by omega
  have ho6 : Own w5 U.heap.size 5 1 A5 m p5 (bvs l) := ho5
  exact ⟨A5, p5, rfl, ((ho6.far (show g2 < U.heap.size from l2) _).far (show g2 < U.heap.size from l2) _).weak HBb.out.size, (hbb.setCell hs2 _).setCell hs2 _⟩

/-- the closure that asks for one number -/
theorem isN_any (f : Nat) (hf : f = 80 ∨ f = 59) {x z : Int} {B : Nat} {w : World} (hc : w.cell? ⟨B, 0, none⟩ = some (.int .i64 z)) :
    Calls Try.prog f #[.int .i64 x, .pointer (some ⟨B, 0, none⟩)] w fun e w' => e = .returned (.bool (x == z)) ∧ w = w' := by
  rcases hf with rfl | rfl
  · go_enter Try.func80, Try.ntmps80
    go_wp2
    go_ret
    exact ⟨rfl, rfl⟩
  · go_enter Try.func59, Try.ntmps59
    go_wp2
    go_ret
    exact ⟨rfl, rfl⟩
theorem isN_gives (f : Nat) (hf : f = 80 ∨ f = 59) {x z : Int} {B : Nat} {w : World} (hc : w.cell? ⟨B, 0, none⟩ = some (.int .i64 z)) :
    FnGives Try.prog f #[.pointer (some ⟨B, 0, none⟩)] #[.int .i64 x] (.bool (x == z)) w :=
  (isN_any f hf hc).mono fun e w' ⟨a, b⟩ => ⟨a, 0, b.symm⟩
theorem isN_enters (f : Nat) (hf : f = 80 ∨ f = 59) : ∀ args w, (callFunc f args).run Try.prog w = .ok (.enter f args) w := by
  rcases hf with rfl | rfl
  · exact enters_of Try.func80 (by kernel_rfl) rfl
  · exact enters_of Try.func59 (by kernel_rfl) rfl
/-- numbers but for one -/
def outN (l : List Nat) (z : Int) : List Nat := l.filter fun x => !((x : Int) == z)
theorem iv_map (l : List Nat) : iv l = (l.map fun n : Nat => (n : Int)).map (Value.int .i64) := by simp [iv]
theorem drop_putCells (cur : Array Value) (o : Nat) (ts : List Int) (h : o + ts.length ≤ cur.size) : ((Go.Sort.putCells (Value.int .i64) o ts.toArray cur).toList.drop o).take ts.length = ts.map (Value.int .i64) := by
  apply List.ext_getElem?
  intro j
  by_cases hj : j < ts.length
  · rw [List.getElem?_take_of_lt hj, List.getElem?_drop, Array.getElem?_toList]
    simp [Go.Sort.putCells, hj, show o + j < cur.size by omega]
  · rw [List.getElem?_take_eq_none (by omega), List.getElem?_eq_none (by simp; omega)]
set_option maxRecDepth 100000 in
set_option maxHeartbeats 1000000 in
theorem del_nil (f : Nat) (B : Nat) (w : World) :
    Calls Try.prog 58 #[.slice none 0 0, .func (.func f) #[] #[.pointer (some ⟨B, 0, none⟩)]] w fun e w' => e = .returned (.slice none 0 0) ∧ w = w' := by
  have I : Hid (Calls Try.prog 76 #[.slice none 0 0, .func (.func f) #[] #[.pointer (some ⟨B, 0, none⟩)]] w fun e w' => e = .returned (.int .i64 (-1)) ∧ w = w') := by
    go_enter Try.func76, Try.ntmps76
    go_wp2
    go_loopw [8] (fun s8 wr => s8 = .int .i64 0 ∧ wr = w) (fun _ _ => 0)
    case atStart => exact ⟨rfl, rfl⟩
    case round =>
      obtain ⟨rfl, rfl⟩ := hrel
      go_wp2
      go_ret
      exact ⟨rfl, rfl⟩
  go_enter Try.func58, Try.ntmps58
  go_wp2_with ((with_reducible refine Calls.mono I.out ?_); rintro e w1 ⟨rfl, rfl⟩)
  go_ret
  exact ⟨rfl, rfl⟩
theorem del_any (f : Nat) (hf : f = 80 ∨ f = 59) {z : Int} {B : Nat} {w : World} {base : Nat} {A : Option Addr} {n c : Nat} {l : List Nat}
    (h : Oz w base A n c l) (hc : w.cell? ⟨B, 0, none⟩ = some (.int .i64 z)) (hB : ablk A ≠ some B) :
    Calls Try.prog 58 #[.slice A n c, .func (.func f) #[] #[.pointer (some ⟨B, 0, none⟩)]] w fun e w' => e = .returned (.slice A (outN l z).length c) ∧ Oz w' base A (outN l z).length c (outN l z) ∧ Kept (fun b => ablk A = some b) w w' := by
  have hBl := block_lt_of_cell hc
  rcases h.2 with ⟨rfl, rfl, rfl⟩ | ⟨g, o, cur, rfl, hb, hh, h1, h2, h3, h4⟩
  · have hl : l = [] := List.eq_nil_of_length_eq_zero h.1
    subst hl
    exact (del_nil f B w).mono fun e w' ⟨a, b⟩ => ⟨a, b ▸ h, b ▸ Kept.refl _ _⟩
  · obtain ⟨ds, hds⟩ : ∃ ds : List Int, ds = l.map fun n : Nat => (n : Int) := ⟨_, rfl⟩
    have hdl : ds.length = n := by rw [hds, List.length_map, h.1]
    have hH : Go.Sort.Holds (Value.int .i64) w g o ds.toArray := fun j hj => by
      have hj' : j < n := by rw [List.size_toArray, hdl] at hj; exact hj
      refine ⟨?_, by simp [World.frozen?, hh]⟩
      rw [h.cell j hj', List.getD_eq_getElem?_getD, List.getElem?_eq_getElem (by rw [h.1]; exact hj')]
      simp [hds, h.1, hj']
    have hne : B ≠ g := fun e => hB (by rw [e]; rfl)
    have hp : PredAt Try.prog f #[.pointer (some ⟨B, 0, none⟩)] (Value.int .i64) (fun x => x == z) w := fun W x hb => isN_gives f hf ((hb.cell (p := ⟨B, 0, none⟩) hBl).trans hc)
    have hpo : PredOver Try.prog f #[.pointer (some ⟨B, 0, none⟩)] (Value.int .i64) (fun x => x == z) g o ds.toArray.size w := fun q os dk x _ => isN_gives f hf (by
      unfold sortWorld
      rw [Go.Sort.cell?_grow _ _ _ (by show B < (Go.Sort.putRow _ _ _ _ _).heap.size; rw [Go.Sort.size_putRow]; exact hBl), Go.Sort.cell?_putRow_other _ _ g o _ _ (Or.inl hne)]
      exact hc)
    have C := AnyE.slices_DeleteFunc delF (Value.int .i64) (fun _ => rfl) (fun x => x == z) f #[.pointer (some ⟨B, 0, none⟩)] (isN_enters f hf) 0 Try.zeroValue3 g o c ds.toArray w hp hpo hH (by rw [List.size_toArray, hdl]; omega) (by rw [List.size_toArray, hdl]; exact h1)
    change Calls Try.prog 58 _ _ _ at C
    rw [List.size_toArray, hdl] at C
    have hfl : (ds.toArray.toList.filter fun x => !(x == z)) = (outN l z).map fun n : Nat => (n : Int) := by
      rw [hds]
      show (List.map (fun n : Nat => (n : Int)) l).filter _ = _
      unfold outN
      rw [List.filter_map]
      rfl
    rw [hfl] at C
    have hle : (outN l z).length ≤ n := by rw [← h.1]; exact List.length_filter_le _ _
    refine C.mono fun e w' ⟨he, q, hw⟩ => ?_
    rw [List.length_map] at he hw
    refine ⟨he, ?_, ?_⟩
    · obtain ⟨ts, hts⟩ : ∃ ts : List Int, ts = ((outN l z).map fun n : Nat => (n : Int)) ++ List.replicate (n - (outN l z).length) 0 := ⟨_, rfl⟩
      rw [← hts] at hw
      have htl : ts.length = n := by rw [hts, List.length_append, List.length_map, List.length_replicate]; omega
      refine ⟨rfl, .inr ⟨g, o, Go.Sort.putCells (Value.int .i64) o ts.toArray cur, rfl, hb, ?_, by omega, h2, by simpa [Go.Sort.putCells] using h3, ?_⟩⟩
      · rw [hw]
        simp [Go.Sort.putRow, Go.Sort.mapBlock, Go.Sort.ahead, Array.getElem?_modify, hh, Go.Sort.onCells]
      · have h5 := drop_putCells cur o ts (by omega)
        have h6 : (((Go.Sort.putCells (Value.int .i64) o ts.toArray cur).toList.drop o).take ts.length).take (outN l z).length = (ts.map (Value.int .i64)).take (outN l z).length := by rw [h5]
        rw [List.take_take, htl, Nat.min_eq_left hle] at h6
        rw [h6, iv_map, hts, List.map_append, List.take_append_of_le_length (by simp), List.take_of_length_le (by simp)]
    · rw [hw]
      refine ⟨rfl, rfl, rfl, by simp [Go.Sort.ahead], fun k hk hne => ?_⟩
      have hgk : g ≠ k := fun e => hne (by rw [e]; rfl)
      simp [Go.Sort.putRow, Go.Sort.mapBlock, Go.Sort.ahead, Array.getElem?_modify, hgk]
end Go.Proofs.Ytdakohbfibcjeaa
