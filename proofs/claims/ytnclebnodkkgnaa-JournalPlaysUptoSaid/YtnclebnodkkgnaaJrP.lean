/- Journals over sectors: what was appended is read; what rots ends the records; what is of another generation is none. No condition. -/
import Derived.Test.YtnclebnodkkgnaaJrA
import Derived.Test.YtnclebnodkkgnaaJrS
namespace Go.Proofs.Ytnclebnodkkgnaa

section
variable {sec sec' : Nat → List UInt8} {G G' N N' p p' m m' i f : Nat} {l l' r : List UInt8} {rs out : List (List UInt8)}

theorem pieceB_eq (G N p m : Nat) (l : List UInt8) : pieceB G N p m l = 74 :: UInt8.ofNat p :: UInt8.ofNat m :: UInt8.ofNat l.length :: (le4 G ++ (le4 N ++ (l ++ (List.replicate (240 - l.length) 0 ++ le4 (crc (pcBody G N p m l)))))) := by
  unfold pieceB pcBody pcHead
  simp only [List.append_assoc, List.cons_append, List.nil_append]
theorem piece_m (G N p m : Nat) (l : List UInt8) : ((pieceB G N p m l).getD 2 0).toNat = m % 256 := by
  rw [pieceB_eq]; rfl
theorem piece_k (h : l.length < 256) : pcK (pieceB G N p m l) = l.length := by
  unfold pcK
  rw [pieceB_eq]
  show l.length % 256 = l.length
  omega
theorem piece_d (h : l.length < 256) : pcD (pieceB G N p m l) = l := by
  unfold pcD
  rw [piece_k h, pieceB_eq]
  show (l ++ _).take l.length = l
  simp
theorem piece_valid (h : l.length ≤ 240) : crcReg 4294967295 (pieceB G N p m l) = crcSteps 32 4294967295 := by
  rw [← valid_iff _ (length_pieceB G N p m l h)]
  unfold pieceB
  rw [List.drop_left' (length_pcBody G N p m l h), List.take_left' (length_pcBody G N p m l h)]
theorem piece_G (hG : G < 4294967296) (hG' : G' < 4294967296) (h : pieceB G N p m l = pieceB G' N' p' m' l') : G = G' := by
  rw [pieceB_eq, pieceB_eq] at h
  simp only [List.cons.injEq] at h
  exact le4_inj hG hG' (List.append_inj_left h.2.2.2.2 rfl)
theorem flip_piece (h : l.length ≤ 240) (h' : l'.length ≤ 240) (hi : i < 2048) : flip (pieceB G N p m l) i ≠ pieceB G' N' p' m' l' := fun e => by
  have hl := length_pieceB G N p m l h
  have h1 := crcReg_flip (pieceB G N p m l) 4294967295 i (by omega)
  rw [e, piece_valid h, piece_valid h'] at h1
  have h2 : crcSteps (8 * (pieceB G N p m l).length - i) 1 = 0 := by
    have := congrArg (fun x => crcSteps 32 4294967295 ^^^ x) h1
    simpa [← Nat.xor_assoc] using this.symm
  exact absurd (crcSteps_eq_zero (by omega) _ h2) (by omega)

theorem pcD_len (s : List UInt8) : (pcD s).length ≤ pcK s := by unfold pcD; rw [List.length_take]; omega

/-- a record's pieces stand from sector p on -/
def RecAt (sec : Nat → List UInt8) (G p N : Nat) (r : List UInt8) : Prop := ∀ i, i < pcsN r.length → sec (p + i) = pieceB G N i (pcsN r.length) (pcAt r i)
def usedOf : List (List UInt8) → Nat
  | [] => 0
  | r :: rs => pcsN r.length + usedOf rs
def RecsAt (sec : Nat → List UInt8) (G : Nat) : Nat → Nat → List (List UInt8) → Prop
  | _, _, [] => True
  | p, N, r :: rs => RecAt sec G p N r ∧ RecsAt sec G (p + pcsN r.length) (N + 1) rs
theorem pcsN_pos (n : Nat) : 1 ≤ pcsN n := by unfold pcsN; omega
theorem used_append (rs ss : List (List UInt8)) : usedOf (rs ++ ss) = usedOf rs + usedOf ss := by
  induction rs with
  | nil => simp [usedOf]
  | cons r rs ih => simp only [List.cons_append, usedOf, ih]; omega
theorem used_snoc (rs : List (List UInt8)) (r : List UInt8) : usedOf (rs ++ [r]) = usedOf rs + pcsN r.length := by rw [used_append]; rfl
theorem len_used (rs : List (List UInt8)) : rs.length ≤ usedOf rs := by
  induction rs with
  | nil => simp
  | cons r rs ih => have := pcsN_pos r.length; simp only [List.length_cons, usedOf]; omega
theorem RecsAt.congr : ∀ {rs : List (List UInt8)} {p N : Nat}, RecsAt sec G p N rs → (∀ k, p ≤ k → k < p + usedOf rs → sec' k = sec k) → RecsAt sec' G p N rs
  | [], _, _, _, _ => trivial
  | r :: rs, p, N, ⟨h1, h2⟩, h => ⟨fun i hi => (h _ (by omega) (by simp only [usedOf]; omega)).trans (h1 i hi), RecsAt.congr h2 (fun k h3 h4 => h k (by omega) (by simp only [usedOf]; omega))⟩
theorem RecsAt.split : ∀ {rs ss : List (List UInt8)} {p N : Nat}, RecsAt sec G p N (rs ++ ss) ↔ RecsAt sec G p N rs ∧ RecsAt sec G (p + usedOf rs) (N + rs.length) ss
  | [], ss, p, N => by simp [RecsAt, usedOf]
  | r :: rs, ss, p, N => by
    simp only [List.cons_append, RecsAt, RecsAt.split (rs := rs), usedOf, List.length_cons]
    rw [show p + (pcsN r.length + usedOf rs) = p + pcsN r.length + usedOf rs by omega, show N + (rs.length + 1) = N + 1 + rs.length by omega]
    exact and_assoc.symm

theorem pcAt_len (h : i < pcsN r.length) : (pcAt r i).length ≤ 232 ∧ (i + 1 < pcsN r.length → (pcAt r i).length = 232) ∧ (0 < i → 0 < (pcAt r i).length) := by
  unfold pcAt pcsN at *
  rw [List.length_take, List.length_drop]
  omega
theorem pcAt_snoc (r : List UInt8) (i : Nat) : r.take (232 * i) ++ pcAt r i = r.take (232 * (i + 1)) := by
  unfold pcAt
  rw [show 232 * (i + 1) = 232 * i + 232 by omega, List.take_add]
theorem pcOk_at (h : RecAt sec G p N r) (hi : i < pcsN r.length) (hp : p + pcsN r.length ≤ 48) : pcOk sec G p N (pcsN r.length) i = some (pcAt r i) := by
  obtain ⟨h1, h2, h3⟩ := pcAt_len hi
  have hk : pcK (sec (p + i)) = (pcAt r i).length := by rw [h i hi]; exact piece_k (by omega)
  have hd : pcD (sec (p + i)) = pcAt r i := by rw [h i hi]; exact piece_d (by omega)
  have hb : badB (pcsN r.length) p (pcAt r i).length i = false := by
    have := pcsN_pos r.length
    unfold badB
    simp only [Bool.or_eq_false_iff, Bool.and_eq_false_iff, decide_eq_false_iff_not, Bool.not_eq_false', decide_eq_true_eq]
    omega
  unfold pcOk
  rw [hk, hb, hd, if_neg (by simp), if_pos (h i hi)]
theorem recGo_at (h : RecAt sec G p N r) (hp : p + pcsN r.length ≤ 48) : ∀ f i, f + i = pcsN r.length → recGo sec G p N (pcsN r.length) f i (r.take (232 * i)) = some r
  | 0, i, e => by
    rw [recGo, List.take_of_length_le (by unfold pcsN at e; omega)]
  | f + 1, i, e => by
    rw [recGo, pcOk_at h (by omega) hp]
    show recGo sec G p N (pcsN r.length) f (i + 1) (r.take (232 * i) ++ pcAt r i) = _
    rw [pcAt_snoc]
    exact recGo_at h hp f (i + 1) (by omega)
theorem recM_at (h : RecAt sec G p N r) (hp : p + pcsN r.length ≤ 48) : recM sec p = pcsN r.length := by
  have := pcsN_pos r.length
  unfold recM
  have h0 := h 0 (by omega)
  rw [Nat.add_zero] at h0
  rw [h0, piece_m]
  omega
theorem recAt_at (h : RecAt sec G p N r) (hp : p + pcsN r.length ≤ 48) : recAt sec G p N = some (r, pcsN r.length) := by
  have hm := recM_at h hp
  have := pcsN_pos r.length
  have h2 := recAt_some (sec := sec) (G := G) (N := N) (p := p) (b := r) (by omega) (by omega) (by unfold recAll; rw [hm]; exact recGo_at h hp _ 0 rfl)
  rwa [hm] at h2
theorem openGo_all : ∀ {rs : List (List UInt8)} {p f : Nat} {out : List (List UInt8)}, RecsAt sec G p (out.length + 1) rs → p + usedOf rs ≤ 48 → 48 ≤ f + p → (48 ≤ p + usedOf rs ∨ recAt sec G (p + usedOf rs) (out.length + rs.length + 1) = none) →
    openGo sec G f p out = out ++ rs
  | [], p, f, out, _, _, _, hs => by
    simp only [usedOf, Nat.add_zero, List.length_nil, List.append_nil] at hs ⊢
    rcases hs with hs | hs
    · exact openGo_end hs
    · by_cases hp : p < 48
      · exact openGo_stop hp hs
      · exact openGo_end (by omega)
  | r :: rs, p, f, out, ⟨h1, h2⟩, hu, hf, hs => by
    simp only [usedOf] at hu hs
    have := pcsN_pos r.length
    obtain ⟨f, rfl⟩ : ∃ f', f = f' + 1 := ⟨f - 1, by omega⟩
    rw [openGo_next (by omega) (recAt_at h1 (by omega)), openGo_all (rs := rs) (by simpa using h2) (by omega) (by omega) (by
      rw [show p + pcsN r.length + usedOf rs = p + (pcsN r.length + usedOf rs) by omega, show (out ++ [r]).length + rs.length + 1 = out.length + (r :: rs).length + 1 by simp; omega]; exact hs)]
    simp
theorem openS_all (h : RecsAt sec G 0 1 rs) (hu : usedOf rs ≤ 48) (hs : 48 ≤ usedOf rs ∨ recAt sec G (usedOf rs) (rs.length + 1) = none) : openS sec G = rs := by
  have := openGo_all (out := []) (f := 48) h (by omega) (by omega) (by simpa using hs)
  simpa [openS] using this
theorem recAt_zero (h : (sec p).getD 2 0 = 0) : recAt sec G p N = none := by
  unfold recAt
  rw [if_pos (by unfold recM; rw [h]; exact .inl (by decide))]
theorem recGo_none (h : ∃ j, i ≤ j ∧ j < i + f ∧ pcOk sec G p N m j = none) : ∀ acc, recGo sec G p N m f i acc = none := by
  induction f generalizing i with
  | zero => obtain ⟨j, h1, h2, _⟩ := h; omega
  | succ f ih =>
    intro acc
    rw [recGo]
    obtain ⟨j, h1, h2, h3⟩ := h
    by_cases e : j = i
    · rw [← e, h3]
    · cases pcOk sec G p N m i with
      | none => rfl
      | some b => exact ih ⟨j, by omega, by omega, h3⟩ _
theorem pcOk_none (h : ∀ d, d.length ≤ 240 → sec (p + i) ≠ pieceB G N i m d) : pcOk sec G p N m i = none := by
  unfold pcOk
  split
  · rfl
  · rename_i hb
    rw [if_neg (h _ (by have := pcD_len (sec (p + i)); have := badB_ok (Bool.not_eq_true _ ▸ hb); omega))]
/-- the first sector is no piece of it -/
theorem recAt_first (h : ∀ j d, d.length ≤ 240 → sec p ≠ pieceB G N 0 j d) : recAt sec G p N = none := by
  unfold recAt
  split
  · rfl
  · rename_i hb
    unfold recAll
    rw [recGo_none ⟨0, by omega, by omega, pcOk_none (by simpa using h _)⟩]
    rfl
/-- one piece of a record was turned -/
theorem recAt_rot (h : RecAt sec G p N r) (hp : p + pcsN r.length ≤ 48) {a : Nat} (ha : a < pcsN r.length) (hi : i < 2048) (h1 : sec' (p + a) = flip (sec (p + a)) i) (h2 : ∀ k, k ≠ p + a → sec' k = sec k) : recAt sec' G p N = none := by
  have hno : ∀ M d, d.length ≤ 240 → sec' (p + a) ≠ pieceB G N a M d := fun M d hd => by
    rw [h1, h a ha]
    exact flip_piece (by have := pcAt_len ha; omega) hd hi
  rcases Nat.eq_zero_or_pos a with rfl | h0
  · exact recAt_first (by simpa using hno)
  · have hM : recM sec' p = pcsN r.length := by
      have : recM sec' p = recM sec p := by unfold recM; rw [h2 p (by omega)]
      rw [this]; exact recM_at h hp
    unfold recAt
    rw [hM]
    split
    · rfl
    · unfold recAll
      rw [hM, recGo_none ⟨a, by omega, by omega, pcOk_none (hno _)⟩]
      rfl

/-- of each sector, its record -/
def ownersOf : Nat → List (List UInt8) → List Nat
  | _, [] => []
  | k, r :: rs => List.replicate (pcsN r.length) k ++ ownersOf (k + 1) rs
theorem owners_len : ∀ {rs : List (List UInt8)} (k : Nat), (ownersOf k rs).length = usedOf rs
  | [], _ => rfl
  | r :: rs, k => by rw [ownersOf, List.length_append, List.length_replicate, owners_len (k + 1)]; rfl
theorem owners_snoc : ∀ {rs : List (List UInt8)} (k : Nat) (r : List UInt8), ownersOf k (rs ++ [r]) = ownersOf k rs ++ List.replicate (pcsN r.length) (k + rs.length)
  | [], k, r => by simp [ownersOf]
  | x :: rs, k, r => by
    rw [List.cons_append, ownersOf, owners_snoc (k + 1), ownersOf, List.append_assoc, List.length_cons, show k + (rs.length + 1) = k + 1 + rs.length by omega]
theorem owners_at : ∀ {rs : List (List UInt8)} {k a : Nat}, a < usedOf rs → ∃ r1 r r2, rs = r1 ++ r :: r2 ∧ usedOf r1 ≤ a ∧ a < usedOf r1 + pcsN r.length ∧ (ownersOf k rs).getD a 0 = k + r1.length
  | [], _, _, h => by simp [usedOf] at h
  | x :: rs, k, a, h => by
    by_cases ha : a < pcsN x.length
    · refine ⟨[], x, rs, rfl, by simp [usedOf], by simpa [usedOf] using ha, ?_⟩
      rw [ownersOf, List.getD_eq_getElem?_getD, List.getElem?_append_left (by simpa using ha), List.getElem?_replicate, if_pos ha]
      rfl
    · simp only [usedOf] at h
      obtain ⟨r1, r, r2, e, h1, h2, h3⟩ := owners_at (k := k + 1) (show a - pcsN x.length < usedOf rs by omega)
      refine ⟨x :: r1, r, r2, by rw [e]; rfl, by simp only [usedOf]; omega, by simp only [usedOf]; omega, ?_⟩
      rw [ownersOf, List.getD_eq_getElem?_getD, List.getElem?_append_right (by simpa using Nat.le_of_not_lt ha), List.length_replicate, ← List.getD_eq_getElem?_getD, h3, List.length_cons]
      omega
theorem owners_le : ∀ {rs : List (List UInt8)} {k : Nat}, ∀ x ∈ ownersOf k rs, x < k + rs.length
  | [], _, x, h => by simp [ownersOf] at h
  | r :: rs, k, x, h => by
    rw [ownersOf, List.mem_append] at h
    rcases h with h | h
    · rw [List.mem_replicate] at h; simp; omega
    · have := owners_le x h; simp; omega
theorem openS_rot (h : RecsAt sec G 0 1 rs) (hu : usedOf rs ≤ 48) {a : Nat} (ha : a < usedOf rs) (hi : i < 2048) (h1 : sec' a = flip (sec a) i) (h2 : ∀ k, k ≠ a → sec' k = sec k) : openS sec' G = rs.take ((ownersOf 0 rs).getD a 0) := by
  obtain ⟨r1, r, r2, rfl, h3, h4, h5⟩ := owners_at (k := 0) ha
  rw [h5, Nat.zero_add, List.take_left]
  rw [used_append] at hu
  simp only [usedOf] at hu
  obtain ⟨k1, k2, -⟩ := RecsAt.split.1 h
  refine openS_all (k1.congr (fun k _ hk => h2 k (by omega))) (by omega) (.inr ?_)
  rw [Nat.zero_add] at k2
  obtain ⟨b, rfl⟩ : ∃ b, a = usedOf r1 + b := ⟨a - usedOf r1, by omega⟩
  rw [Nat.add_comm 1] at k2
  exact recAt_rot k2 (by omega) (by omega) hi h1 h2
end

section
variable {s : Dsk} {G N m p i k : Nat} {l r : List UInt8} {rs : List (List UInt8)}
theorem writeD_cut (hc : s.cut = false) (k : Nat) (x : List UInt8) : writeD s k x = writeS s k x := by
  unfold writeD doneOk doneS
  rw [hc]
  simp
theorem hasD_write (s : Dsk) (k : Nat) (x : List UInt8) (j : Nat) : hasD (writeS s k x) j = if j = k then x else hasD s j := by
  unfold hasD writeS
  simp only
  split
  · simp
  · rfl
theorem laid_has (hc : s.cut = false) : (laidTo s G N m p l i).cut = false ∧ (laidTo s G N m p l i).lies = s.lies ∧ ∀ k, hasD (laidTo s G N m p l i) k = (if p ≤ k ∧ k < p + i then pieceB G N (k - p) m (pcAt l (k - p)) else hasD s k) ∧ ((laidTo s G N m p l i).vers k).length = (s.vers k).length + if p ≤ k ∧ k < p + i then 1 else 0 := by
  induction i with
  | zero => exact ⟨hc, rfl, fun k => ⟨by rw [if_neg (by omega)]; rfl, by rw [if_neg (by omega)]; rfl⟩⟩
  | succ i ih =>
    obtain ⟨h1, hl, h2⟩ := ih
    rw [laidTo, writeD_cut h1]
    refine ⟨h1, hl, fun k => ⟨?_, ?_⟩⟩
    · rw [hasD_write, (h2 k).1]
      by_cases e : k = p + i
      · subst e
        rw [if_pos rfl, if_pos (by omega), Nat.add_sub_cancel_left]
      · rw [if_neg e]
        by_cases e2 : p ≤ k ∧ k < p + i
        · rw [if_pos e2, if_pos (by omega)]
        · rw [if_neg e2, if_neg (by omega)]
    · have := (h2 k).2
      by_cases e : k = p + i
      · subst e
        show (if p + i = p + i then _ else _ : List (List UInt8)).length = _
        rw [if_pos rfl, List.length_append, this, if_neg (by omega), if_pos (by omega)]
        rfl
      · show (if k = p + i then _ else _ : List (List UInt8)).length = _
        rw [if_neg e, this]
        by_cases e2 : p ≤ k ∧ k < p + i
        · rw [if_pos e2, if_pos (by omega)]
        · rw [if_neg e2, if_neg (by omega)]

/-- a disk of n sectors with a journal's records on it; the journal's other sectors have what had -/
structure Jrn (s : Dsk) (n G : Nat) (had : Nat → List UInt8) (rs : List (List UInt8)) : Prop where
  n_ : s.n = n
  cut_ : s.cut = false
  used_ : usedOf rs ≤ 48
  recs : RecsAt (fun k => hasD s (2 + k)) G 0 1 rs
  rest : ∀ k, usedOf rs ≤ k → hasD s (2 + k) = had k
  vers_ : ∀ k, (s.vers k).length = if 2 ≤ k ∧ k < 2 + usedOf rs then 1 else 0
theorem Jrn.more {n : Nat} {had : Nat → List UInt8} (h : Jrn s n G had rs) (hp : usedOf rs + pcsN r.length ≤ 48) :
    Jrn (laidTo s G (rs.length + 1) (pcsN r.length) (2 + usedOf rs) r (pcsN r.length)) n G had (rs ++ [r]) := by
  obtain ⟨h1, h2, h3⟩ := laid_has (G := G) (N := rs.length + 1) (m := pcsN r.length) (p := 2 + usedOf rs) (l := r) (i := pcsN r.length) h.cut_
  refine ⟨by rw [laidTo_n, h.n_], h1, by rw [used_snoc]; exact hp, RecsAt.split.2 ⟨h.recs.congr fun k _ hk => ?_, ?_, trivial⟩, fun k hk => ?_, fun k => ?_⟩
  · show hasD _ _ = hasD _ _
    rw [(h3 _).1, if_neg (by omega)]
  · intro i hi
    show hasD _ _ = _
    rw [(h3 _).1, if_pos (by omega), Nat.add_comm 1, show 2 + (0 + usedOf rs + i) - (2 + usedOf rs) = i by omega]
  · rw [used_snoc] at hk
    rw [(h3 _).1, if_neg (by omega), h.rest k (by omega)]
  · rw [(h3 k).2, h.vers_ k, used_snoc]
    split <;> split <;> split <;> omega
theorem Jrn.opens {n : Nat} {had : Nat → List UInt8} (h : Jrn s n G had rs) (hz : usedOf rs < 48 → recAt (fun k => hasD s (2 + k)) G (usedOf rs) (rs.length + 1) = none) : openS (fun k => hasD s (2 + k)) G = rs :=
  openS_all h.recs h.used_ (by
    by_cases e : usedOf rs < 48
    · exact .inr (hz e)
    · exact .inl (by omega))
theorem flush_has (h : s.cut = false) (hk : k < s.n) : hasD (flushD s) k = hasD s k ∧ (flushD s).vers k = [] := by
  unfold flushD doneOk doneS
  rw [h]
  simp [clearD, hasD, hk]
theorem flush_cut (h : s.cut = false) : (flushD s).cut = false ∧ (flushD s).n = s.n := by
  unfold flushD doneOk doneS
  rw [h]
  simp [clearD, h]
end
end Go.Proofs.Ytnclebnodkkgnaa
