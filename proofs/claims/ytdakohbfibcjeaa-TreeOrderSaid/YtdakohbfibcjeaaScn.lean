/- tree.Scan of a whole tree: its walk. No condition. -/
import Derived.Test.YtdakohbfibcjeaaWk
namespace Go.Proofs.Ytdakohbfibcjeaa
open Go.RowKit Go.Maps
set_option linter.unusedSimpArgs false
set_option linter.unusedVariables false

def ScnTo (w : World) (base : Nat) (p : TrS) (N : Nat) (T : Nodes) (es : List Ent) (e : Ending) (w' : World) : Prop :=
  ∃ p' A n c, e = .returned (.tuple #[.slice A n c, .int .i64 0]) ∧ TCh w w' base p p' N T ∧ Own w' 0 27 2 A n c (entC es) ∧ (∀ b, ablk A = some b → ¬ p'.foot b)
set_option maxRecDepth 100000 in
set_option maxHeartbeats 4000000 in
theorem scan_any {w : World} {base N r : Nat} {p : TrS} {T : Nodes} {es : List Ent} {bl : List Nat} (h : TrM w base p N T) (ht : Tr1 N T r es bl) (hnd : bl.Nodup) (hl : es.length ≤ 150) :
    Calls Try.prog 8 #[.pointer (some ⟨p.g, 0, none⟩), .int .i64 (r : Int), .string ⟨#[]⟩, .string ⟨#[]⟩, .int .i64 1000] w (ScnTo w base p N T es) := by
  obtain ⟨g7, hg7⟩ : ∃ z, z = w.heap.size := ⟨_, rfl⟩
  have hmm := @run_makeMap Try.prog
  have hmf : ∀ (fn : Fn) (first cap : Array Value) (w : World), (Instr.makeFunc fn first cap).run Try.prog w = .ok (.func fn first cap) w := fun _ _ _ _ => rfl
  rcases ht with ⟨rfl, rfl, rfl⟩ | ⟨hh, hs⟩
  · have hal : Below w.heap.size w (((w.alloc (.cells #[.string ⟨#[]⟩] 9)).alloc (.cells #[.string ⟨#[]⟩] 9)).alloc (.cells #[.int .i64 1000] 3)) := (((Below.refl _ _).alloc (Nat.le_refl _) _).alloc (by simp) _).alloc (by simp; omega) _
    have H := Lib.hid ((TGh.init h).below hal (Nat.le_refl _))
    clear h hal
    go_enter Try.func8, Try.ntmps8
    go_wp2
    go_ret2
    exact ⟨p, none, 0, 0, rfl, H.out, Own.nil_ _ _ _ _, fun b e => by cases e⟩
  · have hr0 : ¬ (r : Int) = 0 := by have := (sd_r hs).1; omega
    have hh7 := sd_low hs hl
    obtain ⟨gp, hgp⟩ : ∃ z, z = p.g := ⟨_, rfl⟩
    have H := Lib.hid h
    have HS := Lib.hid hs
    have HNd := Lib.hid hnd
    have HL := Lib.hid hl
    have HGp := Lib.hid hgp
    have HH7 := Lib.hid hh7
    rw [← hgp]
    clear h hs hnd hl hgp hh7
    go_enter Try.func8, Try.ntmps8
    go_upto_region 6 with fail
    obtain ⟨g8, hg8⟩ : ∃ z, z = g7 + 1 := ⟨_, rfl⟩
    obtain ⟨g9, hg9⟩ : ∃ z, z = g8 + 1 := ⟨_, rfl⟩
    obtain ⟨g12, hg12⟩ : ∃ z, z = g9 + 1 := ⟨_, rfl⟩
    rw [← hg7, ← hg8, ← hg9, ← hg12]
    have hal : Below w.heap.size w ((((w.alloc (.cells #[.string ⟨#[]⟩] 9)).alloc (.cells #[.string ⟨#[]⟩] 9)).alloc (.cells #[.int .i64 1000] 3)).alloc (.cells #[.slice none 0 0] 22)) := ((((Below.refl _ _).alloc (Nat.le_refl _) _).alloc (by simp) _).alloc (by simp; omega) _).alloc (by simp; omega) _
    refine wp_world (fun U => TCh w U base p p N T ∧ Blk U g7 9 [.string ⟨#[]⟩] ∧ Blk U g8 9 [.string ⟨#[]⟩] ∧ Blk U g9 3 [.int .i64 1000] ∧ Blk U g12 22 [.slice none 0 0])
      ⟨(TGh.init H.out).below hal (Nat.le_refl _), (((Blk.new_at (cs := [.string ⟨#[]⟩]) hg7).alloc _).alloc _).alloc _, ((Blk.new_at (cs := [.string ⟨#[]⟩]) (by simp; omega)).alloc _).alloc _, (Blk.new_at (cs := [.int .i64 1000]) (by simp; omega)).alloc _, Blk.new_at (cs := [.slice none 0 0]) (by simp; omega)⟩ ?_
    clear hal
    rintro U ⟨hC, hB7, hB8, hB9, hB12⟩
    have c7 : U.cell? ⟨g7, 0, none⟩ = some (.string ⟨#[]⟩) := hB7.cell 0
    have c8 : U.cell? ⟨g8, 0, none⟩ = some (.string ⟨#[]⟩) := hB8.cell 0
    have hal : Below U.heap.size U (U.alloc (.map #[] 0)) := (Below.refl _ _).alloc (Nat.le_refl _) _
    obtain ⟨gs, hgs⟩ : ∃ z, z = U.heap.size := ⟨_, rfl⟩
    have hft : ∀ b, p.foot b → b < g7 := fun b e => by have := (H.out.foot_base b e).2; omega
    have l12 := hB12.lt
    have hSc : Sc (U.alloc (.map #[] 0)) base p N T ⟨g12, g9, g7, g8, gs⟩ none 0 0 [] (fun _ => false) := by
      refine ⟨hC.tr.below hal (Nat.le_refl _), hB12.alloc _, Own.nil_ _ _ _ _, hB9.alloc _, hB7.alloc _, hB8.alloc _, ?_, ⟨?_, by simp, by simp⟩, ⟨fun e => ?_, fun e => ?_, fun b e => (by cases e)⟩, fun b e x => ?_⟩
      · have := Mp.made U (50 + N)
        rw [← hgs] at this
        exact this.congr (fun n _ => rfl)
      · show gs ≠ g12; omega
      · have := hft _ e; simp only at this; omega
      · have := hft _ e; simp only at this; omega
      · rcases x with x | x | x | x
        · have := hft _ x
          rcases e with rfl | rfl | rfl <;> (try dsimp only at this) <;> omega
        · rcases e with rfl | rfl | rfl <;> (try dsimp only at x) <;> omega
        · rcases e with rfl | rfl | rfl <;> (try dsimp only at x) <;> omega
        · cases x
    have W0 := walk_any N hh (lv := 1) hSc HS.out HNd.out (fun _ _ => rfl) (by have := HL.out; simp; omega) (by have := HH7.out; omega)
    rw [← HGp.out] at W0
    unfold cloV at W0
    have W := Lib.hid W0
    have HC := Lib.hid (hC.below hal (Nat.le_refl _))
    have HFt := Lib.hid hft
    have HG : Hid (g7 = w.heap.size ∧ g9 = g8 + 1 ∧ g8 = g7 + 1 ∧ g12 = g9 + 1 ∧ gs = U.heap.size ∧ w.heap.size ≤ U.heap.size) := Lib.hid ⟨hg7, hg9, hg8, hg12, hgs, hC.K.size⟩
    have HB := Lib.hid (hB12.alloc (.map #[] 0))
    rw [hgs] at W
    clear W0 hSc hC hB7 hB8 hB9 hB12 hal hft l12 hg7 hg8 hg9 hg12 hgs
    go_upto_region 7 with ((with_reducible refine Calls.mono W.out ?_); rintro e w6 ⟨p6, A6, n6, c6, rfl, hc6⟩)

    have co : w6.cell? ⟨g12, 0, none⟩ = some (.slice A6 n6 c6) := hc6.sc.out.cell 0
    have hfin : ScnTo w base p N T es (.returned (.tuple #[.slice A6 n6 c6, .int .i64 0])) w6 := by
      obtain ⟨e1, e2, e3, e4, e5, e6⟩ := HG.out
      refine ⟨p6, A6, n6, c6, rfl, ⟨hc6.sc.tr, hc6.g.trans HC.out.g, ⟨hc6.cc.1.trans HC.out.c.1, hc6.cc.2.1.trans HC.out.c.2.1, hc6.cc.2.2.trans HC.out.c.2.2⟩, HC.out.K.trans hc6.K (fun b hb x => ?_), fun b x => ?_⟩, by have := hc6.sc.own; rwa [List.nil_append] at this, hc6.sc.ap2.2.2⟩
      · rcases x with x | x | x | x
        · exact x
        · simp only at x; omega
        · simp only at x; omega
        · cases x
      · rcases hc6.foot b (.inl x) with y | y
        · rcases y with y | y | y | y
          · exact .inl y
          · simp only at y; exact .inr (by omega)
          · simp only at y; exact .inr (by omega)
          · cases y
        · rw [World.size_alloc] at y; exact .inr (by omega)
    have HF := Lib.hid hfin
    clear W HC hc6 HB hfin c7 c8
    go_wp2
    go_ret2
    exact HF.out
end Go.Proofs.Ytdakohbfibcjeaa
