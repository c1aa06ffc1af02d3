/- The statement SuperHolds: its plain law: what a disk holds of superblocks, round by round. No condition. -/
import Derived.Test.YtdbhagnnpjcpmaaSupDisk
import Derived.Test.YtdbhagnnpjcpmaaDkPow
import Derived.Test.YtdbhagnnpjcpmaaDkRots
import Derived.Test.YtdbhagnnpjcpmaaDkLaws
import Derived.Test.YtdbhagnnpjcpmaaDkCopy
import Derived.Test.YtdbhagnnpjcpmaaPlainBD
import Derived.Test.YtdbhagnnpjcpmaaSup
import Derived.Test.YtdbhagnnpjcpmaaDkIf
import Derived.Test.YtdbhagnnpjcpmaaFactsSd
import Derived.Deep.CutBlock
namespace Go.Proofs.Ytdbhagnnpjcpmaa

theorem leB_le4 (n : Nat) : leB n 4 = le4 n := by
  have e : ∀ m : Nat, UInt8.ofNat (m % 256) = UInt8.ofNat m := fun m => by
    apply UInt8.toNat.inj; simp [UInt8.toNat_ofNat']
  have e1 : n / 256 / 256 = n / 65536 := by omega
  have e2 : n / 65536 / 256 = n / 16777216 := by omega
  simp only [leB, le4, e, e1, e2]
/-- what is got has a right sum -/
theorem getS_reg {l : List UInt8} {s : Sup} (h : getS l = some s) : crcReg 4294967295 l = crcSteps 32 4294967295 := by
  unfold getS at h
  split at h
  · rename_i hc
    obtain ⟨h1, h2, h3, h4⟩ := hc
    have h8 : (supD l).vs.length ≤ 8 := h3.1.2.2.2.2.2.2
    have hd := length_dataB (supD l) h8
    refine (valid_iff l h1).1 ?_
    have hl : l = dataB (supD l) ++ le4 (crc (dataB (supD l))) := by rw [← leB_le4]; exact h4.symm
    have ht : l.take 252 = dataB (supD l) := by
      conv => lhs; rw [hl]
      rw [← hd, List.take_left]
    have hdr : l.drop 252 = le4 (crc (dataB (supD l))) := by
      conv => lhs; rw [hl]
      rw [← hd, List.drop_left]
    rw [ht, hdr]
  · cases h
theorem getS_flip {l : List UInt8} {s : Sup} (h : getS l = some s) {p : Nat} (hp : p < 2048) : getS (flip l p) = none := by
  have hl : l.length = 256 := by
    unfold getS at h
    split at h
    · rename_i hc; exact hc.1
    · cases h
  have h1 := getS_reg h
  cases e : getS (flip l p) with
  | none => rfl
  | some t =>
    have h2 := getS_reg e
    rw [crcReg_flip l _ p (by omega), h1] at h2
    have h3 : crcSteps (8 * l.length - p) 1 = 0 := by
      have : crcSteps 32 4294967295 ^^^ (crcSteps 32 4294967295 ^^^ crcSteps (8 * l.length - p) 1) = crcSteps 32 4294967295 ^^^ crcSteps 32 4294967295 := by rw [h2]
      rwa [← Nat.xor_assoc, Nat.xor_self, Nat.zero_xor] at this
    have := crcSteps_eq_zero (by omega) _ h3
    cases this

theorem load_two (n : Nat) (f : Nat → List UInt8) : loadS n f = pickS n (pickS n none (getS (f 0))) (getS (f 1)) := rfl
/-- the newer one is loaded -/
theorem load_new {n a : Nat} {f : Nat → List UInt8} {s : Sup} (ha : a < 2) (h : getS (f a) = some s) (hs : s.sec = (n : Int)) (ho : ∀ x, getS (f (1 - a)) = some x → x.gen < s.gen) : loadS n f = some s := by
  have hg : 0 < s.gen := by have := (getS_ok h).1.1; omega
  rw [load_two]
  obtain rfl | rfl : a = 0 ∨ a = 1 := by omega
  · rw [h]
    have e1 : pickS n none (some s) = some s := if_pos ⟨hs, hg⟩
    rw [e1]
    cases e : getS (f 1) with
    | none => rfl
    | some x =>
      have := ho x e
      exact if_neg (fun hc => by have := hc.2; simp only [Option.getD_some] at this; omega)
  · rw [h]
    cases e : getS (f 0) with
    | none => exact if_pos ⟨hs, hg⟩
    | some x =>
      have := ho x e
      have hx := (getS_ok e).1.1
      by_cases hc : x.sec = (n : Int)
      · have e1 : pickS n none (some x) = some x := if_pos ⟨hc, by show (0 : Int) < _; omega⟩
        rw [e1]
        exact if_pos ⟨hs, this⟩
      · have e1 : pickS n none (some x) = none := if_neg (fun h => hc h.1)
        rw [e1]
        exact if_pos ⟨hs, hg⟩
theorem load_none {n : Nat} {f : Nat → List UInt8} (h0 : getS (f 0) = none) (h1 : getS (f 1) = none) : loadS n f = none := by
  rw [load_two, h0, h1]; rfl
theorem getS_z : getS (List.replicate 256 0) = none := by
  unfold getS
  refine if_neg fun h => ?_
  have h2 := h.2.2.1.1.1
  have e : (supD (List.replicate 256 0)).gen = 0 := by decide
  omega

/-- the disk behind so many rounds; last: the superblock that was saved last -/
structure HoldI (s : Dsk) (i : Nat) (last : Sup) : Prop where
  n_ : s.n = 128
  cut_ : s.cut = false
  vers : ∀ k, k < 128 → s.vers k = []
  gen_ : last.gen = (i : Int)
  other : ∀ x, getS (s.lies ((i + 1) % 2)) = some x → x.gen < (i : Int)
  this : getS (s.lies (i % 2)) = if i = 0 then none else some last
  ok : if i = 0 then last = Sup.nil else supOk last ∧ last.sec = 128
theorem hold_new : HoldI (newD 128) 0 Sup.nil :=
  ⟨rfl, rfl, fun _ _ => rfl, rfl, fun x h => (by rw [show (newD 128).lies ((0 + 1) % 2) = List.replicate 256 0 from rfl, getS_z] at h; cases h), getS_z, rfl⟩
section
variable {s : Dsk} {i : Nat} {last x : Sup} (ps : List Int)
def loadD (s : Dsk) : Option Sup := loadS s.n (hasD s)
theorem load_flat {s : Dsk} (hn : s.n = 128) (hv : ∀ k, k < 128 → s.vers k = []) : loadD s = loadS 128 s.lies := by
  unfold loadD
  rw [hn, load_two, load_two, hasD_flat (hv 0 (by omega)), hasD_flat (hv 1 (by omega))]
theorem mod_other (i : Nat) : i % 2 = 1 - (i + 1) % 2 ∧ (i + 1) % 2 < 2 := by omega
/-- the sectors that a superblock makes, and the old ones -/
theorem hold_loads (h : HoldI s i last) (hx : supOk x) (hs : x.sec = 128) (hg : x.gen = ((i + 1 : Nat) : Int)) {f : Nat → List UInt8} (ha : f ((i + 1) % 2) = putS x) (hb : f (i % 2) = s.lies (i % 2)) : loadS 128 f = some x := by
  refine load_new (a := (i + 1) % 2) (mod_other i).2 (by rw [ha]; exact getS_putS x hx) (by rw [hs]; rfl) fun y hy => ?_
  rw [← (mod_other i).1, hb, h.this] at hy
  by_cases e : i = 0
  · rw [if_pos e] at hy; cases hy
  · rw [if_neg e] at hy
    injection hy with hy
    rw [← hy, h.gen_, hg]
    omega
theorem hold_old (h : HoldI s i last) {f : Nat → List UInt8} (ha : f ((i + 1) % 2) = s.lies ((i + 1) % 2) ∨ getS (f ((i + 1) % 2)) = none) (hb : f (i % 2) = s.lies (i % 2)) : loadS 128 f = if i = 0 then none else some last := by
  have h2 := h.other
  have h1 := h.this
  by_cases e : i = 0
  · subst e
    rw [if_pos rfl] at h1 ⊢
    refine load_none (by rw [show f 0 = s.lies 0 from hb]; exact h1) ?_
    rcases ha with ha | ha
    · cases e1 : getS (f 1) with
      | none => rfl
      | some y =>
        have h3 := h2 y (by rw [← ha]; exact e1)
        have h4 := (getS_ok e1).1.1
        omega
    · exact ha
  · have h3 := h.ok
    rw [if_neg e] at h1 h3 ⊢
    refine load_new (a := i % 2) (by omega) (by rw [hb]; exact h1) (by rw [h3.2]; rfl) fun y hy => ?_
    rw [show 1 - i % 2 = (i + 1) % 2 by omega] at hy
    rcases ha with ha | ha
    · rw [ha] at hy; rw [h.gen_]; exact h2 y hy
    · rw [ha] at hy; cases hy

/-- a write, and the power goes -/
theorem hold_first (h : HoldI s i last) (hx : supOk x) (hs : x.sec = 128) (hg : x.gen = ((i + 1 : Nat) : Int)) :
    loadD (powerD (writeD s ((i + 1) % 2) (putS x)) ps) = some x ∨ loadD (powerD (writeD s ((i + 1) % 2) (putS x)) ps) = if i = 0 then none else some last := by
  have hp := power_all (writeD s ((i + 1) % 2) (putS x)) ps
  have hn : (powerD (writeD s ((i + 1) % 2) (putS x)) ps).n = 128 := by rw [hp.1, writeD_n, h.n_]
  have hv : ∀ k, k < 128 → (powerD (writeD s ((i + 1) % 2) (putS x)) ps).vers k = [] := fun k hk => (hp.2.2 k (by rw [writeD_n, h.n_]; exact hk)).1
  rw [load_flat hn hv]
  have hl := fun k (hk : k < 128) => (hp.2.2 k (by rw [writeD_n, h.n_]; exact hk)).2
  rw [write_new h.cut_] at hl
  have hb : (powerD (writeD s ((i + 1) % 2) (putS x)) ps).lies (i % 2) = s.lies (i % 2) := by
    rcases hl (i % 2) (by omega) with e | e
    · rw [write_new h.cut_]; exact e
    · exfalso
      have e1 : (writeS s ((i + 1) % 2) (putS x)).vers (i % 2) = s.vers (i % 2) := if_neg (by omega)
      rw [e1, h.vers _ (by omega)] at e
      cases e
  rcases hl ((i + 1) % 2) (by omega) with e | e
  · right
    exact hold_old h (.inl (by rw [write_new h.cut_]; exact e)) hb
  · left
    have e1 : (writeS s ((i + 1) % 2) (putS x)).vers ((i + 1) % 2) = s.vers ((i + 1) % 2) ++ [putS x] := if_pos rfl
    rw [e1, h.vers _ (by omega), List.nil_append, List.mem_singleton] at e
    exact hold_loads h hx hs hg (by rw [write_new h.cut_]; exact e) hb
theorem saveD_vers {u x} (hc : u.cut = false) (hx : supOk x) (hs : x.sec = (u.n : Int)) : (saveD u x).n = u.n ∧ ∀ k, (saveD u x).vers k = [] := by
  have e : saveD u x = flushD (writeD u (x.gen.toNat % 2) (putS x)) := if_pos ⟨hx, hs⟩
  have e2 : (writeS u (x.gen.toNat % 2) (putS x)).cut = false := hc
  rw [e, write_new hc, flush_new e2]
  exact ⟨rfl, fun k => rfl⟩
/-- it is saved behind that, and the power goes again -/
theorem hold_save (h : HoldI s i last) (hx : supOk x) (hs : x.sec = 128) (hg : x.gen = ((i + 1 : Nat) : Int)) {t : Dsk} (ht : t = powerD (saveD (powerD (writeD s ((i + 1) % 2) (putS x)) ps) x) ps) :
    HoldI t (i + 1) x ∧ t.lies (i % 2) = s.lies (i % 2) ∧ t.lies ((i + 1) % 2) = putS x := by
  obtain ⟨u, hu⟩ : ∃ u, u = powerD (writeD s ((i + 1) % 2) (putS x)) ps := ⟨_, rfl⟩
  have hp := power_all (writeD s ((i + 1) % 2) (putS x)) ps
  rw [← hu] at hp ht
  have hun : u.n = 128 := by rw [hp.1, writeD_n, h.n_]
  have huc := hp.2.1
  have huv : ∀ k, k < 128 → u.vers k = [] := fun k hk => (hp.2.2 k (by rw [writeD_n, h.n_]; exact hk)).1
  have hul : u.lies (i % 2) = s.lies (i % 2) := by
    rcases (hp.2.2 (i % 2) (by rw [writeD_n, h.n_]; omega)).2 with e | e
    · rw [e, write_new h.cut_]; rfl
    · exfalso
      rw [write_new h.cut_] at e
      have e1 : (writeS s ((i + 1) % 2) (putS x)).vers (i % 2) = s.vers (i % 2) := if_neg (by omega)
      rw [e1, h.vers _ (by omega)] at e
      cases e
  have hgn : x.gen.toNat % 2 = (i + 1) % 2 := by rw [hg]; rfl
  have hsv : saveD u x = clearD { writeS u ((i + 1) % 2) (putS x) with lies := fun k => if k < (writeS u ((i + 1) % 2) (putS x)).n then hasD (writeS u ((i + 1) % 2) (putS x)) k else (writeS u ((i + 1) % 2) (putS x)).lies k } := by
    unfold saveD
    rw [if_pos ⟨hx, by rw [hs, hun]; rfl⟩, hgn, write_new huc, flush_new (s := writeS u ((i + 1) % 2) (putS x)) huc]
  obtain ⟨v, hv⟩ : ∃ v, v = saveD u x := ⟨_, rfl⟩
  rw [← hv] at ht hsv
  have hvn : v.n = 128 := by rw [hsv]; exact hun
  have hvv : ∀ k, v.vers k = [] := fun k => by rw [hsv]; rfl
  have hvc : v.cut = false := by rw [hsv]; exact huc
  have hva : v.lies ((i + 1) % 2) = putS x := by
    rw [hsv]
    show (if (i + 1) % 2 < u.n then _ else _) = _
    rw [if_pos (by omega)]
    unfold hasD
    have e1 : (writeS u ((i + 1) % 2) (putS x)).vers ((i + 1) % 2) = u.vers ((i + 1) % 2) ++ [putS x] := if_pos rfl
    rw [e1]; simp
  have hvb : v.lies (i % 2) = s.lies (i % 2) := by
    rw [hsv]
    show (if i % 2 < u.n then _ else _) = _
    rw [if_pos (by omega)]
    have e1 : (writeS u ((i + 1) % 2) (putS x)).vers (i % 2) = u.vers (i % 2) := if_neg (by omega)
    rw [hasD_flat (by rw [e1]; exact huv _ (by omega))]
    exact hul
  have hq := power_all v ps
  rw [← ht] at hq
  have htl : ∀ k, k < 128 → t.lies k = v.lies k := fun k hk => by
    rcases (hq.2.2 k (by rw [hvn]; exact hk)).2 with e | e
    · exact e
    · rw [hvv k] at e; cases e
  have hta : t.lies ((i + 1) % 2) = putS x := by rw [htl _ (by omega)]; exact hva
  have htb : t.lies (i % 2) = s.lies (i % 2) := by rw [htl _ (by omega)]; exact hvb
  refine ⟨⟨by rw [hq.1, hvn], hq.2.1, fun k hk => (hq.2.2 k (by rw [hvn]; exact hk)).1, hg, fun y hy => ?_, ?_, ?_⟩, htb, hta⟩
  · rw [show (i + 1 + 1) % 2 = i % 2 by omega, htb, h.this] at hy
    by_cases e : i = 0
    · rw [if_pos e] at hy; cases hy
    · rw [if_neg e] at hy
      injection hy with hy
      rw [← hy, h.gen_]; omega
  · rw [hta, if_neg (by omega)]
    exact getS_putS x hx
  · rw [if_neg (by omega)]
    exact ⟨hx, hs⟩
theorem hold_load (h : HoldI s (i + 1) x) : loadD s = some x := by
  rw [load_flat h.n_ h.vers]
  have := hold_old h (f := s.lies) (.inl rfl) rfl
  rw [this, if_neg (by omega)]
/-- a bit of the newer sector rots -/
theorem hold_rot (h : HoldI s i last) {t : Dsk} (ht : HoldI t (i + 1) x) (htb : t.lies (i % 2) = s.lies (i % 2)) {p : Nat} (hp : p < 2048) : loadD (rotD (copyD t) ((i + 1) % 2) p) = if i = 0 then none else some last := by
  have hn : (rotD (copyD t) ((i + 1) % 2) p).n = 128 := ht.n_
  have hv : ∀ k, k < 128 → (rotD (copyD t) ((i + 1) % 2) p).vers k = [] := fun k hk => by
    unfold rotD
    have e0 : ((copyD t).vers ((i + 1) % 2)) = [] := ht.vers _ (by omega)
    rw [e0, List.length_nil, rotTo_0]
    exact ht.vers k hk
  rw [load_flat hn hv]
  have hl : (rotD (copyD t) ((i + 1) % 2) p).lies = fun j => if j = (i + 1) % 2 then flip (t.lies ((i + 1) % 2)) p else t.lies j := rfl
  refine hold_old h (.inr ?_) ?_
  · rw [hl]
    show getS (if (i + 1) % 2 = (i + 1) % 2 then _ else _) = none
    rw [if_pos rfl]
    have := ht.this
    rw [if_neg (by omega)] at this
    exact getS_flip this hp
  · rw [hl]
    show (if i % 2 = (i + 1) % 2 then _ else _) = _
    rw [if_neg (by omega)]
    exact htb
end

def oneVs : List Ver := [⟨1, 0, 1, false⟩]
/-- what made makes -/
def madeS (s : Sup) (g : Nat) : Sup := if supOk ⟨(g : Int), 128, s.next, s.vs⟩ then ⟨(g : Int), 128, s.next, s.vs⟩ else ⟨(g : Int), 128, 2 + ((g % 7 : Nat) : Int), oneVs⟩
theorem made_ok (s : Sup) {g : Nat} (h1 : 1 ≤ g) (h2 : g ≤ 200) : supOk (madeS s g) ∧ (madeS s g).sec = 128 ∧ (madeS s g).gen = (g : Int) := by
  unfold madeS
  split
  · rename_i h; exact ⟨h, rfl, rfl⟩
  · refine ⟨⟨⟨by show (1 : Int) ≤ g; omega, by show (g : Int) ≤ _; omega, by show (1 : Int) ≤ 2 + _; omega, by show (2 : Int) + _ ≤ _; omega, by show (128 : Int) ≤ 128; omega, by show (128 : Int) ≤ 4096; omega, by show 1 ≤ 8; omega⟩, fun i hi => ?_⟩, rfl, rfl⟩
    have hi' : i < 1 := hi
    obtain rfl : i = 0 := by omega
    refine ⟨by show (0 : Int) < 1; omega, by show (1 : Int) < 2 + _; omega, .inl rfl, by show (1 : Int) ≤ 1; omega, by show (1 : Int) ≤ 16777216; omega⟩
end Go.Proofs.Ytdbhagnnpjcpmaa
namespace Go.Proofs.Ytdbhagnnpjcpmaa
open Go.RowKit Go.Maps
set_option linter.unusedSimpArgs false
set_option linter.unusedVariables false

theorem rd_keptF {F : Nat → Prop} {w w' : World} {lo : Nat} {A : Option Addr} {xs : List Value} (h : Rd w lo A xs) (K : Kept F w w') (hf : 0 < xs.length → ∀ b, ablk A = some b → ¬ F b) : Rd w' lo A xs := fun hn => by
  obtain ⟨b, o, rfl, h1, h2, hc⟩ := h hn
  have hb := K.block b h2 (hf hn b rfl)
  exact ⟨b, o, rfl, h1, Nat.lt_of_lt_of_le h2 K.size, fun k hk => (World.cell?_of_block (a := ⟨b, o + k, none⟩) hb).trans (hc k hk)⟩
theorem vcs_pos {vs : List Ver} (h : 0 < (vcs vs).length) : 0 < vs.length := by rw [length_vcs] at h; omega
theorem Vr.keptF {F : Nat → Prop} {w w' : World} {lo n c : Nat} {A : Option Addr} {vs : List Ver} (h : Vr w lo A n c vs) (K : Kept F w w') (hf : 0 < vs.length → ∀ b, ablk A = some b → ¬ F b) : Vr w' lo A n c vs :=
  ⟨h.1, h.2.1, h.2.2.1, rd_keptF h.2.2.2 K (fun h => hf (vcs_pos h))⟩
theorem Vr.lt {w : World} {lo n c : Nat} {A : Option Addr} {vs : List Ver} (h : Vr w lo A n c vs) (hn : 0 < vs.length) {b : Nat} (hb : ablk A = some b) : lo ≤ b ∧ b < w.heap.size := by
  obtain ⟨b', o, rfl, h1, h2⟩ := h.at_ (by have := h.1; omega)
  injection hb with hb
  rw [← hb]; exact ⟨h1, h2⟩

/-- a superblock's versions lie outside the disk and the variables V -/
structure SV (w : World) (d : Dw) (V : Nat → Prop) (x : Sup) (A : Option Addr) (c : Nat) : Prop where
  rd : Vr w 0 A x.vs.length c x.vs
  off : 0 < x.vs.length → ∀ b, ablk A = some b → ¬ d.foot b ∧ ¬ V b
/-- a disk and two variables with superblocks -/
structure HW (w U : World) (d : Dw) (s : Dsk) (V : Nat → Prop) (g9 g11 : Nat) (last x : Sup) (A9 : Option Addr) (c9 : Nat) (A11 : Option Addr) (c11 : Nat) : Prop where
  dk : Dk U w.heap.size d s
  b9 : Blk U g9 32 (spc last A9 c9)
  b11 : Blk U g11 32 (spc x A11 c11)
  v9 : SV U d V last A9 c9
  v11 : SV U d V x A11 c11
  bel : Below w.heap.size w U
  vf : ∀ b, V b → ¬ d.foot b ∧ b < U.heap.size ∧ w.heap.size ≤ b
  i9 : V g9
  i11 : V g11
  ne : g9 ≠ g11
section
variable {w U U' : World} {d d' : Dw} {s s' : Dsk} {V V' : Nat → Prop} {g9 g11 : Nat} {last x : Sup} {A9 A11 A : Option Addr} {c9 c11 c : Nat}
theorem SV.ch (h : SV U d V x A c) (C : Ch U U' w.heap.size d d' s') : SV U' d' V x A c :=
  ⟨h.rd.keptF C.K (fun hn b hb => (h.off hn b hb).1), fun hn b hb => ⟨fun y => by
    rcases C.foot b y with z | z
    · exact (h.off hn b hb).1 z
    · have := (h.rd.lt hn hb).2; omega, (h.off hn b hb).2⟩⟩
theorem SV.below (h : SV U d V x A c) (hb : Below U.heap.size U U') : SV U' d V x A c := ⟨h.rd.below hb (Nat.le_refl _), h.off⟩
theorem SV.vars (h : SV U d V x A c) (hv : ∀ b, V' b → V b ∨ U.heap.size ≤ b) : SV U d V' x A c := ⟨h.rd, fun hn b hb => ⟨(h.off hn b hb).1, fun y => by
  rcases hv b y with z | z
  · exact (h.off hn b hb).2 z
  · have := (h.rd.lt hn hb).2; omega⟩⟩
theorem SV.poke {F : Nat → Prop} (h : SV U d V x A c) (K : Kept F U U') (hF : ∀ b, F b → V b) : SV U' d V x A c := ⟨h.rd.keptF K (fun hn b hb y => (h.off hn b hb).2 (hF b y)), h.off⟩
theorem HW.ch (h : HW w U d s V g9 g11 last x A9 c9 A11 c11) (C : Ch U U' w.heap.size d d' s') : HW w U' d' s' V g9 g11 last x A9 c9 A11 c11 :=
  ⟨C.dk, C.K.blk h.b9 (h.vf g9 h.i9).1, C.K.blk h.b11 (h.vf g11 h.i11).1, h.v9.ch C, h.v11.ch C, h.bel.trans (C.bel h.dk), fun b hb => ⟨fun y => by
    rcases C.foot b y with z | z
    · exact (h.vf b hb).1 z
    · have := (h.vf b hb).2; omega, Nat.lt_of_lt_of_le (h.vf b hb).2.1 C.K.size, (h.vf b hb).2.2⟩, h.i9, h.i11, h.ne⟩
theorem HW.below (h : HW w U d s V g9 g11 last x A9 c9 A11 c11) (hb : Below U.heap.size U U') : HW w U' d s V g9 g11 last x A9 c9 A11 c11 :=
  ⟨h.dk.below hb (Nat.le_refl _), h.b9.below hb h.b9.lt, h.b11.below hb h.b11.lt, h.v9.below hb, h.v11.below hb, h.bel.trans (hb.mono h.bel.size), fun b k => ⟨(h.vf b k).1, Nat.lt_of_lt_of_le (h.vf b k).2.1 hb.size, (h.vf b k).2.2⟩, h.i9, h.i11, h.ne⟩
/-- a new variable -/
theorem HW.var (h : HW w U d s V g9 g11 last x A9 c9 A11 c11) (hb : Below U.heap.size U U') {g : Nat} (h1 : U.heap.size ≤ g) (h2 : g < U'.heap.size) : HW w U' d s (fun b => V b ∨ b = g) g9 g11 last x A9 c9 A11 c11 := by
  have k := h.below hb
  have hv : ∀ b, (V b ∨ b = g) → V b ∨ U.heap.size ≤ b := fun b y => by rcases y with y | y; exact .inl y; exact .inr (by omega)
  refine ⟨k.dk, k.b9, k.b11, (h.v9.vars hv).below hb, (h.v11.vars hv).below hb, k.bel, fun b y => ?_, .inl k.i9, .inl k.i11, k.ne⟩
  rcases y with y | rfl
  · exact k.vf b y
  · exact ⟨fun z => by have := (h.dk.foot_base b z).2; omega, h2, Nat.le_trans h.bel.size h1⟩
/-- a third variable is written -/
theorem HW.poke (h : HW w U d s V g9 g11 last x A9 c9 A11 c11) {g : Nat} (K : U.grownBy U' (some g)) (hg : V g) (n9 : g9 ≠ g) (n11 : g11 ≠ g) : HW w U' d s V g9 g11 last x A9 c9 A11 c11 := by
  have KK : Kept (fun b => b = g) U U' := Kept.of_grown K (fun b hb => by injection hb with hb; exact hb.symm)
  have hF : ∀ b, b = g → V b := fun b hb => by rw [hb]; exact hg
  refine ⟨h.dk.kept KK (fun b hb y => (h.vf b (hF b y)).1 hb), KK.blk h.b9 n9, KK.blk h.b11 n11, h.v9.poke KK hF, h.v11.poke KK hF, h.bel.trans (KK.below h.bel.size (fun b hb => by rw [hb]; exact (h.vf g hg).2.2)), fun b hb => ⟨(h.vf b hb).1, Nat.lt_of_lt_of_le (h.vf b hb).2.1 KK.size, (h.vf b hb).2.2⟩, h.i9, h.i11, h.ne⟩
end

/-- one variable, at the head of a round -/
structure SL (w wr : World) (gd g9 i : Nat) (d : Dw) (s : Dsk) (last : Sup) (A9 : Option Addr) (c9 : Nat) : Prop where
  dk : Dk wr w.heap.size d s
  dg : d.g = gd
  hold : HoldI s i last
  b9 : Blk wr g9 32 (spc last A9 c9)
  v9 : SV wr d (fun b => b = g9) last A9 c9
  bel : Below w.heap.size w wr
  l9 : w.heap.size ≤ g9
section
variable {w wr w3 U U' : World} {d d' : Dw} {s s' : Dsk} {V V' : Nat → Prop} {gd g9 g11 i : Nat} {last x : Sup} {A9 A11 A3 A : Option Addr} {c9 c11 c3 c : Nat}
theorem SL.start (h : SL w wr gd g9 i d s last A9 c9) (hb : Below wr.heap.size wr w3) (hx : Vr w3 0 A3 x.vs.length c3 x.vs) (ho : 0 < x.vs.length → ∀ b, ablk A3 = some b → b < w.heap.size ∨ wr.heap.size ≤ b) {g11 : Nat} (hg : g11 = w3.heap.size) :
    HW w (w3.alloc (.cells (spc x A3 c3).toArray 32)) d s (fun b => b = g9 ∨ b = g11) g9 g11 last x A9 c9 A3 c3 := by
  subst hg
  have ha := (Below.refl w3.heap.size w3).alloc (Nat.le_refl _) (.cells (spc x A3 c3).toArray 32)
  have hb2 := hb.trans (ha.mono hb.size)
  have h9 := h.b9.lt
  have hs := hb.size
  have hbs := h.bel.size
  have hl9 := h.l9
  refine ⟨h.dk.below hb2 (Nat.le_refl _), h.b9.below hb2 h.b9.lt, Blk.new _ _ _, (h.v9.vars (fun b y => ?_)).below hb2, ⟨hx.below ha (Nat.le_refl _), fun hn b hb => ?_⟩, h.bel.trans (hb2.mono h.bel.size), fun b y => ?_, .inl rfl, .inr rfl, by omega⟩
  · rcases y with y | y
    · exact .inl y
    · exact .inr (by omega)
  · have hlt := (hx.lt hn hb).2
    rcases ho hn b hb with q | q
    · exact ⟨fun y => by have := (h.dk.foot_base b y).1; omega, fun y => by rcases y with y | y <;> omega⟩
    · exact ⟨fun y => by have := (h.dk.foot_base b y).2; omega, fun y => by rcases y with y | y <;> omega⟩
  · have hsz : (w3.alloc (.cells (spc x A3 c3).toArray 32)).heap.size = w3.heap.size + 1 := by simp
    rcases y with rfl | rfl
    · refine ⟨h.dk.offB h.b9 (by decide) (by decide), by omega, hl9⟩
    · exact ⟨fun y => by have := (h.dk.foot_base _ y).2; omega, by omega, by omega⟩
/-- the end of a round: the first variable has what the second one has -/
theorem HW.fin (h : HW w U d s V g9 g11 last x A9 c9 A11 c11) (hg : d.g = gd) (hi : HoldI s i x) (K : U.grownBy U' (some g9)) (hb : Blk U' g9 32 (spc x A11 c11)) : SL w U' gd g9 i d s x A11 c11 := by
  have KK : Kept (fun b => b = g9) U U' := Kept.of_grown K (fun b hb => by injection hb with hb; exact hb.symm)
  have hF : ∀ b, b = g9 → V b := fun b hb => by rw [hb]; exact h.i9
  refine ⟨h.dk.kept KK (fun b hb y => (h.vf b (hF b y)).1 hb), hg, hi, hb, ⟨(h.v11.poke KK hF).rd, fun hn b y => ⟨(h.v11.off hn b y).1, fun z => (h.v11.off hn b y).2 (hF b z)⟩⟩, h.bel.trans (KK.below h.bel.size (fun b hb => by rw [hb]; exact (h.vf _ h.i9).2.2)), (h.vf _ h.i9).2.2⟩
end
theorem rd_grown {w w' : World} {lo g : Nat} {A : Option Addr} {xs : List Value} (h : Rd w lo A xs) (K : w.grownBy w' (some g)) (hl : g < lo) : Rd w' lo A xs :=
  rd_keptF h (Kept.of_grown (F := fun b => b = g) K (fun b hb => by injection hb with hb; exact hb.symm)) (fun hn b hb => by
    obtain ⟨b', o, rfl, h1, _⟩ := h hn
    injection hb with hb
    have : b' = b := hb
    omega)
theorem pick10h_any (c : Int) (hc : -9223372036854775808 ≤ c ∧ c ≤ 9223372036854775807) {n : Nat} (hn : 0 < n) (hn2 : n ≤ 9223372036854775807) (w : World) :
    Calls Try.prog 12 #[.int .i64 c, .int .i64 n] w fun e w' => e = .returned (.int .i64 (pickN c n)) ∧ w = w' := by
  by_cases h : c < 0
  · obtain ⟨k, hk⟩ : ∃ k : Nat, c = -(k : Int) - 1 := ⟨(-(c + 1)).toNat, by omega⟩
    have hp : pickN c n = k % n := by unfold pickN; rw [if_pos h]; congr 1; omega
    have HP := Lib.hid hp
    have e1 : IntKind.i64.wrap (c + 1) = -(k : Int) := by rw [IntWalk.i64_in _ (by omega)]; omega
    have e2 : IntKind.i64.wrap (-(-(k : Int))) = (k : Int) := by rw [IntWalk.i64_in _ (by omega)]; omega
    have e2b : wrap64 (k : Int) = (k : Int) := by unfold wrap64; omega
    have e3 : Int.tmod (k : Int) (n : Int) = ((k % n : Nat) : Int) := rfl
    have e4 : ¬ (n : Int) = 0 := by omega
    clear hp hk
    go_enter Try.func12, Try.ntmps12
    go_wp2
    go_ret
    exact ⟨by rw [HP.out]; rfl, rfl⟩
  · obtain ⟨k, rfl⟩ : ∃ k : Nat, c = (k : Int) := ⟨c.toNat, by omega⟩
    have hp : pickN (k : Int) n = k % n := by unfold pickN; rw [if_neg h]; congr 1
    have HP := Lib.hid hp
    have e3 : Int.tmod (k : Int) (n : Int) = ((k % n : Nat) : Int) := rfl
    have e4 : ¬ (n : Int) = 0 := by omega
    clear hp
    go_enter Try.func12, Try.ntmps12
    go_wp2
    go_ret
    exact ⟨by rw [HP.out]; rfl, rfl⟩
end Go.Proofs.Ytdbhagnnpjcpmaa
namespace Go.Proofs.Ytdbhagnnpjcpmaa
open Go.RowKit Go.Maps
set_option linter.unusedSimpArgs false
set_option linter.unusedVariables false

set_option maxRecDepth 100000 in
set_option maxHeartbeats 4000000 in
theorem made_any (s : Sup) {g : Nat} (h1 : 1 ≤ g) (h2 : g ≤ 200) {A : Option Addr} {c : Nat} {w : World} (hr : Vr w 0 A s.vs.length c s.vs) :
    Calls Try.prog 29 #[.agg #[.int .i64 s.gen, .int .i64 s.sec, .int .i64 s.next, .slice A s.vs.length c], .int .i64 g] w fun e w' => ∃ A' c', e = .returned (.agg (spc (madeS s g) A' c').toArray) ∧ Vr w' 0 A' (madeS s g).vs.length c' (madeS s g).vs ∧ (ablk A' = ablk A ∧ (madeS s g).vs = s.vs ∨ ∀ b, ablk A' = some b → w.heap.size ≤ b) ∧ Below w.heap.size w w' := by
  have hz := zero32
  have HR := Lib.hid hr
  clear hr
  go_enter Try.func29, Try.ntmps29
  go_upto_region 3 with fail
  have hgE : (g : Int) = ((g : Nat) : Int) := rfl
  refine wp_world (fun U => Blk U w.heap.size 32 [.int .i64 g, .int .i64 128, .int .i64 s.next, .slice A s.vs.length c] ∧ Blk U (w.heap.size + 1) 32 [.int .i64 0, .int .i64 0, .int .i64 0, .slice none 0 0] ∧ Below w.heap.size w U) ⟨?_, ?_, ?_⟩ ?_
  · exact (Blk.new w 32 [.int .i64 g, .int .i64 128, .int .i64 s.next, .slice A s.vs.length c]).alloc _
  · exact Blk.new_at (cs := [.int .i64 0, .int .i64 0, .int .i64 0, .slice none 0 0]) (by simp)
  · exact ((Below.refl _ _).alloc (Nat.le_refl _) _).alloc (by simp) _
  rintro U ⟨b2, b4, hb⟩
  obtain ⟨g2, hg2⟩ : ∃ z, z = w.heap.size := ⟨_, rfl⟩
  obtain ⟨g4, hg4⟩ : ∃ z, z = w.heap.size + 1 := ⟨_, rfl⟩
  rw [← hg2] at b2
  rw [← hg4] at b4
  rw [← hg4, ← hg2]
  have HG := Lib.hid (show g2 = w.heap.size ∧ g4 = w.heap.size + 1 from ⟨hg2, hg4⟩)
  clear hg2 hg4
  by_cases hok : supOk ⟨(g : Int), 128, s.next, s.vs⟩
  · have hm : madeS s g = ⟨(g : Int), 128, s.next, s.vs⟩ := if_pos hok
    have M := Lib.hid (rmay_b (s := ⟨(g : Int), 128, s.next, s.vs⟩) (decide_eq_true hok) ((HR.out.below hb (Nat.le_refl _))))
    have x2 := b2.cells
    have HB2 := Lib.hid b2
    have HB4 := Lib.hid b4
    have HB := Lib.hid hb
    have HM := Lib.hid hm
    clear b2 b4 hb hm hok
    go_upto_region 4 with ((with_reducible refine Calls.mono M.out ?_); rintro e w1 ⟨rfl, hb1⟩)
    have b2 := HB2.out.below hb1 HB2.out.lt
    have b4 := HB4.out.below hb1 HB4.out.lt
    have y2 := b2.cells
    have y4 := b4.cells
    have f4 := b4.frees
    clear x2 M
    go_wp2
    refine bodyPost_ret (results_cell_row rfl _ _ g4 32 #[.int .i64 g, .int .i64 128, .int .i64 s.next, .slice A s.vs.length c] (0, 0) _ rfl (show _ = _ from (((b4.set_ 0 _).set_ 1 _).set_ 2 _).set_ 3 _) Try.underlying32 rfl (by rw [size32]; rfl)) rfl ?_
    have hbb := HB.out.trans (hb1.mono HB.out.size)
    have hge := HG.out
    have hs4 : w.heap.size ≤ g4 := by omega
    have hvr := (HR.out.below hbb (Nat.le_refl _))
    have hk : ∀ (k : Nat) (u : Value) (W : World), (Vr W 0 A s.vs.length c s.vs ∧ Below w.heap.size w W) → (Vr (W.setCell ⟨g4, k, none⟩ u) 0 A s.vs.length c s.vs ∧ Below w.heap.size w (W.setCell ⟨g4, k, none⟩ u)) := fun k u W ⟨_, h2⟩ => by
      have h3 := h2.setCell (p := ⟨g4, k, none⟩) hs4 u
      exact ⟨HR.out.below h3 (Nat.le_refl _), h3⟩
    have hl := hk 3 (.slice A s.vs.length c) _ (hk 2 (.int .i64 s.next) _ (hk 1 (.int .i64 128) _ (hk 0 (.int .i64 g) _ ⟨hvr, hbb⟩)))
    rw [HM.out]
    exact ⟨A, c, rfl, hl.1, .inl ⟨rfl, rfl⟩, hl.2⟩
  · have hm : madeS s g = ⟨(g : Int), 128, 2 + ((g % 7 : Nat) : Int), oneVs⟩ := if_neg hok
    have M := Lib.hid (rmay_b (s := ⟨(g : Int), 128, s.next, s.vs⟩) (decide_eq_false hok) ((HR.out.below hb (Nat.le_refl _))))
    have x2 := b2.cells
    have HB2 := Lib.hid b2
    have HB4 := Lib.hid b4
    have HB := Lib.hid hb
    have HM := Lib.hid hm
    have hg7 : (g : Int).tmod 7 = ((g % 7 : Nat) : Int) := by rw [Int.tmod_eq_emod_of_nonneg (by omega)]; omega
    have O1 : Hid (∀ w, Calls Try.prog 27 #[] w fun e w' => ∃ g, e = .returned (.agg #[.int .i64 1, .int .i64 128, .int .i64 2, .slice (some ⟨g, 0, none⟩) 1 1]) ∧ Vr w' w.heap.size (some ⟨g, 0, none⟩) 1 1 oneS.vs ∧ Below w.heap.size w w') := Lib.hid one_any
    clear b2 b4 hb hm hok
    go_upto_region 4 with ((with_reducible refine Calls.mono M.out ?_); rintro e w1 ⟨rfl, hb1⟩)
    have b2 := HB2.out.below hb1 HB2.out.lt
    have b4 := HB4.out.below hb1 HB4.out.lt
    have HB2 := Lib.hid b2
    have HB4 := Lib.hid b4
    have HB := Lib.hid (HB.out.trans (hb1.mono HB.out.size))
    clear x2 M b2 b4 hb1
    go_upto_region 5 with fail
    go_upto_region 6 with (first | ((with_reducible refine Calls.mono (O1.out _) ?_); rintro e w2 ⟨gv, rfl, hv2, hb2⟩) | (((with_reducible refine row_put (o := ⟨none, _, _, _, _, _⟩) ?_ ?_ 32 (.tmp 2) (.tmp 13) ?_ g2 ?_ [.int .i64 1, .int .i64 128, .int .i64 2, .slice (some ⟨gv, 0, none⟩) 1 1] ?_ 32 [.int .i64 g, .int .i64 128, .int .i64 s.next, .slice A s.vs.length c] ?_ ?_ ?_ ?_ ?_); rfl; rfl; rfl; rfl; rfl; exact HB2.out.below hb2 HB2.out.lt; (rw [size32]; rfl); rfl; (intro u hu; simp at hu; rcases hu with rfl | rfl | rfl | rfl <;> rfl); (intro w3 X3 g3))))
    have b2 := X3.out
    have b2f := b2.frees
    have b2c := b2.cells
    have hge := HG.out
    have l2 := HB2.out.lt
    have l4 := HB4.out.lt
    have b4 := (HB4.out.below hb2 l4).grown g3 (by intro h; injection h with h; omega)
    have HV3 : Hid (Vr w3 0 (some ⟨gv, 0, none⟩) 1 1 oneVs) := Lib.hid ((hv2.keptF (F := fun b => b = g2) (Kept.of_grown g3 (fun b hb => by injection hb with hb; exact hb.symm)) (fun _ b hb => by have := (hv2.lt (by decide) hb).1; omega)).weak (Nat.zero_le _))
    have HGv : Hid (w1.heap.size ≤ gv) := Lib.hid (hv2.lt (by decide) rfl).1
    have HB3 : Hid (Below w.heap.size w w3) := Lib.hid ((HB.out.trans (hb2.mono HB.out.size)).grown g3 (Nat.le_trans HB.out.size hb2.size) (by intro k hk; injection hk with hk; omega))
    have HB1 := Lib.hid HB.out.size
    have HB4 := Lib.hid b4
    have HBd := Lib.hid b2
    have l1 : g2 < w1.heap.size := l2
    have HL4 : Hid (g4 < w1.heap.size) := Lib.hid l4
    clear hb2 hv2 g3 X3 HB b4 O1 HB2 l2 l4 b2 hge
    go_upto_region 7 with fail
    have hs2 : w.heap.size ≤ g2 := by have := HG.out; omega
    have l4 : g4 < w1.heap.size := HL4.out
    have h42 : g4 ≠ g2 := by have := HG.out; omega
    have hvl : g2 < gv := by have h1 := HG.out; have h2 := HGv.out; have h3 := HB1.out; have h4 := HBd.out; have h5 := l1; omega
    refine wp_world (fun U => Blk U g2 32 [.int .i64 g, .int .i64 128, .int .i64 2, .slice (some ⟨gv, 0, none⟩) 1 1] ∧ Blk U g4 32 [.int .i64 0, .int .i64 0, .int .i64 0, .slice none 0 0] ∧ Vr U 0 (some ⟨gv, 0, none⟩) 1 1 oneVs ∧ Below w.heap.size w U) ⟨HBd.out.set_ 0 _, HB4.out.far h42 _, ?_, HB3.out.setCell hs2 _⟩ ?_
    · exact HV3.out.keptF (F := fun b => b = g2) (Kept.of_grown (grown_set HBd.out 0 _) (fun b hb => by injection hb with hb; exact hb.symm)) (fun _ b hb => by injection hb with hb; rw [← hb]; show ¬ gv = g2; omega)
    clear b2f b2c
    rintro U7 ⟨b2, b4, hv, hb⟩
    have b2f := b2.frees
    have b2c := b2.cells
    have HBd := Lib.hid b2
    have HB4 := Lib.hid b4
    have HV3 := Lib.hid hv
    have HB3 := Lib.hid hb
    clear b2 b4 hv hb
    go_upto_region 8 with fail
    refine wp_world (fun U => Blk U g2 32 [.int .i64 g, .int .i64 128, .int .i64 (2 + ((g % 7 : Nat) : Int)), .slice (some ⟨gv, 0, none⟩) 1 1] ∧ Blk U g4 32 [.int .i64 0, .int .i64 0, .int .i64 0, .slice none 0 0] ∧ Vr U 0 (some ⟨gv, 0, none⟩) 1 1 oneVs ∧ Below w.heap.size w U) ⟨HBd.out.set_ 2 _, HB4.out.far h42 _, ?_, HB3.out.setCell hs2 _⟩ ?_
    · exact HV3.out.keptF (F := fun b => b = g2) (Kept.of_grown (grown_set HBd.out 2 _) (fun b hb => by injection hb with hb; exact hb.symm)) (fun _ b hb => by injection hb with hb; rw [← hb]; show ¬ gv = g2; omega)
    clear b2f b2c
    rintro U8 ⟨b2, b4, hv, hb⟩
    have b2c := b2.cells
    have b4c := b4.cells
    have b4f := b4.frees
    have HV3 := Lib.hid hv
    have HB3 := Lib.hid hb
    clear b2 hv hb
    go_wp2
    refine bodyPost_ret (results_cell_row rfl _ _ g4 32 #[.int .i64 g, .int .i64 128, .int .i64 (2 + ((g % 7 : Nat) : Int)), .slice (some ⟨gv, 0, none⟩) 1 1] (0, 0) _ rfl (show _ = _ from (((b4.set_ 0 _).set_ 1 _).set_ 2 _).set_ 3 _) Try.underlying32 rfl (by rw [size32]; rfl)) rfl ?_
    have hs4 : w.heap.size ≤ g4 := by have := HG.out; omega
    have h4v : g4 < gv := by have h1 := HG.out; have h2 := HGv.out; omega
    have hk : ∀ (k : Nat) (u : Value) (W : World), (Vr W (g4 + 1) (some ⟨gv, 0, none⟩) 1 1 oneVs ∧ Below w.heap.size w W) → (Vr (W.setCell ⟨g4, k, none⟩ u) (g4 + 1) (some ⟨gv, 0, none⟩) 1 1 oneVs ∧ Below w.heap.size w (W.setCell ⟨g4, k, none⟩ u)) := fun k u W ⟨h1, h2⟩ => ⟨h1.far (Nat.lt_succ_self _) u, h2.setCell (p := ⟨g4, k, none⟩) hs4 u⟩
    have hv3 : Vr U8 (g4 + 1) (some ⟨gv, 0, none⟩) 1 1 oneVs := ⟨HV3.out.1, HV3.out.2.1, HV3.out.2.2.1, rd_at HV3.out.2.2.2 h4v⟩
    have hl := hk 3 (.slice (some ⟨gv, 0, none⟩) 1 1) _ (hk 2 (.int .i64 (2 + ((g % 7 : Nat) : Int))) _ (hk 1 (.int .i64 128) _ (hk 0 (.int .i64 g) _ ⟨hv3, HB3.out⟩)))
    rw [HM.out]
    exact ⟨some ⟨gv, 0, none⟩, 1, rfl, hl.1.weak (Nat.zero_le _), .inr (fun b hb => by injection hb with hb; rw [← hb]; show w.heap.size ≤ gv; omega), hl.2⟩

theorem sload_some {w : World} {base : Nat} {d : Dw} {t : Dsk} (h : Dk w base d t) (h2 : 2 ≤ t.n) {x : Sup} (hl : loadD t = some x) :
    Calls Try.prog 24 #[.pointer (some ⟨d.g, 0, none⟩)] w fun e w' => ∃ A c, e = .returned (.tuple #[.agg #[.int .i64 x.gen, .int .i64 x.sec, .int .i64 x.next, .slice A x.vs.length c], .int .i64 0]) ∧ Vr w' w.heap.size A x.vs.length c x.vs ∧ Below w.heap.size w w' := by
  have h3 := sload_any h h2
  rw [show loadS t.n (hasD t) = some x from hl] at h3
  exact h3
theorem sload_last {w : World} {base : Nat} {d : Dw} {t : Dsk} (h : Dk w base d t) (h2 : 2 ≤ t.n) {x : Sup} {i : Nat} (hl : loadD t = if i = 0 then none else some x) (h0 : i = 0 → x = Sup.nil) :
    Calls Try.prog 24 #[.pointer (some ⟨d.g, 0, none⟩)] w fun e w' => ∃ A c, e = .returned (.tuple #[.agg #[.int .i64 x.gen, .int .i64 x.sec, .int .i64 x.next, .slice A x.vs.length c], .int .i64 (if i = 0 then 7 else 0)]) ∧ Vr w' w.heap.size A x.vs.length c x.vs ∧ Below w.heap.size w w' := by
  have h3 := sload_any h h2
  rw [show loadS t.n (hasD t) = _ from hl] at h3
  by_cases e : i = 0
  · rw [if_pos e] at h3 ⊢
    rw [h0 e]
    exact h3
  · rw [if_neg e] at h3 ⊢
    exact h3

set_option maxRecDepth 100000 in
set_option maxHeartbeats 8000000 in
theorem sholds_any {A AP : Option Addr} {n c m cp : Nat} {f : Nat → Sx} {ps : List Int} {bit : Int} {w : World} (hd : Sups w A n f) (hn : n ≤ 9223372036854775807) (hp : Rd w 0 AP (iz ps)) (hpl : ps.length = m) (hpm : m ≤ 17592186044416) (hbit : -9223372036854775808 ≤ bit ∧ bit ≤ 9223372036854775807) :
    Calls Try.prog 4 #[.slice A n c, .slice AP m cp, .int .i64 bit] w fun e w' => e = .returned (.bool true) ∧ Below w.heap.size w w' := by
  have D0 := dnew_ok 128 (by omega) w
  push_cast at D0
  have D := Lib.hid D0
  have HSs := Lib.hid hd
  have HPs := Lib.hid hp
  have HPl := Lib.hid hpl
  have HPm := Lib.hid hpm
  have HBit := Lib.hid hbit
  have hz := zero32
  clear D0 hd hp hpl hpm hbit
  go_enter Try.func4, Try.ntmps4
  go_upto_region 2 with ((with_reducible refine Calls.mono D.out ?_); rintro e w1 ⟨d0, rfl, hd1, hb1⟩)
  obtain ⟨gd, hgd⟩ : ∃ gd, gd = d0.g := ⟨_, rfl⟩
  rw [← hgd]
  have HD1 := Lib.hid hd1
  have HB1 := Lib.hid hb1
  have HGd := Lib.hid hgd
  clear hd1 hb1 hgd D
  go_upto_region 5 with fail
  obtain ⟨g9, hg9⟩ : ∃ g, g = w1.heap.size := ⟨_, rfl⟩
  have ha1 := (Below.refl w1.heap.size w1).alloc (Nat.le_refl _) (.cells #[.int .i64 0, .int .i64 0, .int .i64 0, .slice none 0 0] 32)
  have hI0 : ∃ (d : Dw) (s : Dsk) (last : Sup) (A9 : Option Addr) (c9 : Nat), SL w (w1.alloc (.cells #[.int .i64 0, .int .i64 0, .int .i64 0, .slice none 0 0] 32)) gd g9 0 d s last A9 c9 :=
    ⟨d0, newD 128, Sup.nil, none, 0, HD1.out.below ha1 (Nat.le_refl _), HGd.out.symm, hold_new, Blk.new_at (cs := [.int .i64 0, .int .i64 0, .int .i64 0, .slice none 0 0]) hg9, ⟨Vr.nil_ _ _, fun h => absurd h (by decide)⟩, HB1.out.trans (ha1.mono HB1.out.size), by rw [hg9]; exact HB1.out.size⟩
  have HI0 := Lib.hid hI0
  rw [← hg9]
  clear hI0 hg9 ha1 HD1 HB1 HGd
  go_wp2
  go_loopw [10] (fun s10 wr => ∃ (i : Nat) (d : Dw) (s : Dsk) (last : Sup) (A9 : Option Addr) (c9 : Nat), i ≤ n ∧ s10 = .int .i64 i ∧ SL w wr gd g9 i d s last A9 c9) (fun s10 _ => n - (intOf s10).toNat)
  case atStart =>
    obtain ⟨d, s, last, A9, c9, h⟩ := HI0.out
    exact ⟨0, d, s, last, A9, c9, by omega, rfl, h⟩
  case round =>
    clear HI0
    obtain ⟨i, d, s, last, A9, c9, hi, rfl, hS⟩ := hrel
    have HS := Lib.hid hS
    clear hS
    by_cases hgo : i < n ∧ i < 200
    · obtain ⟨hlt, h200⟩ := hgo
      have hltI : (i : Int) < (n : Int) := by omega
      have h2I : (i : Int) < 200 := by omega
      obtain ⟨b, o, rfl, _, hbl, hrg⟩ := rd_elem (k := 4) HSs.out.rd (fun _ _ => rfl) (by omega) hlt
      have hok := HSs.out.ok i hlt
      have hrw := range_kept hrg (HS.out.bel.block b hbl)
      obtain ⟨y, hy⟩ : ∃ y, y = f i := ⟨_, rfl⟩
      rw [← hy] at hok hrw
      have M0 := made_any y.s (g := i + 1) (by omega) (by omega) (hok.below HS.out.bel (Nat.le_refl _))
      obtain ⟨x, hx⟩ : ∃ x, x = madeS y.s (i + 1) := ⟨_, rfl⟩
      have hmk := made_ok y.s (g := i + 1) (by omega) (by omega)
      rw [← hx] at M0 hmk
      rw [show ((i + 1 : Nat) : Int) = (i : Int) + 1 from by omega] at M0
      have M : Hid (Calls Try.prog 29 #[.agg (sxc y).toArray, .int .i64 ((i : Int) + 1)] wr _) := Lib.hid M0
      have HRg := Lib.hid hrw
      have HMk := Lib.hid hmk
      have HOkY : Hid (∀ b, 0 < y.s.vs.length → ablk y.A = some b → b < w.heap.size) := Lib.hid (fun b hn hb => (hok.lt hn hb).2)
      clear M0 hrg hrw hy hok hx hmk
      go_upto_region 9 with (first
        | (((with_reducible refine wpList_load_mid (op := ⟨some 44, _, _, _, _, _⟩) ?_ 32 (.tmp 43) ?_ b (o + i * 4) ?_ (sxc y) _ ?_ Try.underlying32 ?_ ?_ ?_); rfl; rfl; (first | rfl | (go_simp; rfl)); exact HRg.out; rfl; (rw [size32]; rfl)))
        | ((with_reducible refine Calls.mono M.out ?_); rintro e w3 ⟨A3, c3, he, hv3, ho3, hb3⟩; obtain rfl : e = .returned (.agg #[.int .i64 x.gen, .int .i64 x.sec, .int .i64 x.next, .slice A3 x.vs.length c3]) := he))
      have hob : 0 < x.vs.length → ∀ b, ablk A3 = some b → b < w.heap.size ∨ wr.heap.size ≤ b := fun hn b hb => by
        rcases ho3 with ⟨h1, h2⟩ | h1
        · exact .inl (HOkY.out b (by rw [← h2]; exact hn) (by rw [← h1]; exact hb))
        · exact .inr (h1 b hb)
      obtain ⟨g11, hg11⟩ : ∃ g, g = w3.heap.size := ⟨_, rfl⟩
      have hH := HS.out.start hb3 hv3 hob hg11
      have HDg := Lib.hid HS.out.dg
      have HHo := Lib.hid HS.out.hold
      rw [← hg11]
      refine wp_world (fun U => ∃ V, HW w U d s V g9 g11 last x A9 c9 A3 c3) ⟨_, hH⟩ ?_
      clear hH hg11 hob hv3 ho3 hb3 M HRg HOkY HS
      rintro U ⟨V, hH⟩
      obtain ⟨G, hG⟩ : ∃ G : Nat, G = i + 1 := ⟨_, rfl⟩
      have hxg : x.gen = (G : Int) := by rw [HMk.out.2.2, hG]
      have HXg := Lib.hid hxg
      have HG := Lib.hid hG
      have x11 := hH.b11.cells
      simp only [spc] at x11
      have P := Lib.hid (rsput_s x hH.v11.rd HMk.out.1)
      have HH := Lib.hid hH
      clear hH hxg hG
      go_upto_region 10 with ((with_reducible refine Calls.mono P.out ?_); rintro e w4 ⟨A4, p4, rfl, ho4, hb4⟩)
      obtain ⟨g4, rfl, hg4, -⟩ := ho4.head (by omega)
      have h4 := HH.out.below hb4
      have W0 := dwrite_ch h4.dk (k := G % 2) (by rw [HHo.out.n_]; omega) (by rw [HHo.out.vers _ (by omega)]; show 0 < _; omega) (own_bs ho4) (fun y => by have := (HH.out.dk.foot_base _ y).2; omega)
      rw [HDg.out] at W0
      push_cast at W0
      have W := Lib.hid W0
      have c0 : w4.cell? ⟨g11, 0, none⟩ = some (.int .i64 (G : Int)) := by rw [← HXg.out]; exact h4.b11.cell 0
      have hGm : (G : Int).tmod 2 = ((G % 2 : Nat) : Int) := by rw [Int.tmod_eq_emod_of_nonneg (by omega)]; omega
      have HH4 := Lib.hid h4
      clear W0 h4 ho4 hb4 hg4 P x11 HH
      go_upto_region 11 with ((with_reducible refine Calls.mono W.out ?_); rintro e w5 ⟨rfl, d5, hc5⟩)
      have h5 := HH4.out.ch hc5
      have hv5 : ∀ k, k < (writeD s (G % 2) (putS x)).n → ((writeD s (G % 2) (putS x)).vers k).length < 549755813887 := fun k hk => by
        rw [writeD_n, HHo.out.n_] at hk
        rw [write_new HHo.out.cut_]
        show (if k = _ then _ else _ : List (List UInt8)).length < _
        split
        · rw [HHo.out.vers _ (by omega)]; show 1 < _; omega
        · rw [HHo.out.vers _ hk]; show 0 < _; omega
      have P0 := dpower_any h5.dk hv5 (c := cp) (HPs.out.below h5.bel (Nat.le_refl _)) HPl.out (by have := HPm.out; omega) (fun h0 b e y => by
        have h1 := (h5.dk.foot_base b y).1
        have h2 := rd_lt HPs.out HPl.out h0 b e
        omega)
      have hd5 : d5.g = gd := hc5.g.trans HDg.out
      rw [hd5] at P0
      have P := Lib.hid P0
      have HD5 := Lib.hid hd5
      have HH5 := Lib.hid h5
      clear P0 hd5 h5 hv5 hc5 W HH4 c0 hGm
      go_upto_region 12 with ((with_reducible refine Calls.mono P.out ?_); rintro e w6 ⟨rfl, d6, hc6⟩)
      have h6 := HH5.out.ch hc6
      have hd6 : d6.g = gd := hc6.g.trans HD5.out
      obtain ⟨s6, hs6⟩ : ∃ z, z = powerD (writeD s (G % 2) (putS x)) ps := ⟨_, rfl⟩
      rw [← hs6] at h6
      have hn6 : s6.n = 128 := by rw [hs6, (power_all _ ps).1, writeD_n]; exact HHo.out.n_
      have hv6 : ∀ k, k < s6.n → s6.vers k = [] := fun k hk => by rw [hs6]; exact ((power_all _ ps).2.2 k (by rw [← (power_all _ ps).1, ← hs6]; exact hk)).1
      have L0 := sload_any h6.dk (by rw [hn6]; omega)
      rw [hd6] at L0
      obtain ⟨o6, ho6⟩ : ∃ z, z = loadS s6.n (hasD s6) := ⟨_, rfl⟩
      rw [← ho6] at L0
      have hcs := hold_first ps HHo.out HMk.out.1 HMk.out.2.1 (by rw [HMk.out.2.2])
      rw [← HG.out, ← hs6] at hcs
      have hcs2 : o6 = some x ∨ o6 = if i = 0 then none else some last := by rw [ho6]; exact hcs
      have HS6 := Lib.hid hs6
      have HN6 := Lib.hid hn6
      have HV6 := Lib.hid hv6
      have HCs := Lib.hid hcs2
      have HD6 := Lib.hid hd6
      have HH6 := Lib.hid h6
      obtain ⟨sp, hsp⟩ : ∃ z, z = o6.getD Sup.nil := ⟨_, rfl⟩
      obtain ⟨zz, hzz⟩ : ∃ z : Int, z = if o6.isSome then 0 else 7 := ⟨_, rfl⟩
      have HSp := Lib.hid hsp
      have HZz := Lib.hid hzz
      have L := Lib.hid L0
      clear L0 hsp hzz hs6 hn6 hv6 hcs hcs2 ho6 hd6 h6 hc6 P HH5 HD5
      go_upto_region 13 with ((with_reducible refine Calls.mono L.out ?_); rintro e w7 hL; obtain ⟨A7, c7, rfl, hv7, hb7⟩ := hL; rw [← HSp.out] at hv7; rw [← HSp.out, ← HZz.out])
      obtain ⟨g14, hg14⟩ : ∃ g, g = w7.heap.size := ⟨_, rfl⟩
      have ha7 := (Below.refl w7.heap.size w7).alloc (Nat.le_refl _) (.cells (spc sp A7 c7).toArray 32)
      have hb77 := hb7.trans (ha7.mono hb7.size)
      have hsz7 : (w7.alloc (.cells (spc sp A7 c7).toArray 32)).heap.size = w7.heap.size + 1 := by simp
      have hH7 := HH6.out.var hb77 (g := g14) (by rw [hg14]; exact hb7.size) (by rw [hg14, hsz7]; omega)
      have hX7 : Blk (w7.alloc (.cells (spc sp A7 c7).toArray 32)) g14 32 (spc sp A7 c7) := Blk.new_at hg14
      have hV7 := (hv7.below ha7 (Nat.le_refl _)).weak (Nat.zero_le _)
      have hne7 : g9 ≠ g14 ∧ g11 ≠ g14 := by
        have := (HH6.out.vf g9 HH6.out.i9).2.1
        have := (HH6.out.vf g11 HH6.out.i11).2.1
        have := hb7.size
        omega
      have HNe := Lib.hid hne7
      rw [← hg14]
      refine wp_world (fun U => ∃ V, HW w U d6 s6 V g9 g11 last x A9 c9 A3 c3 ∧ V g14 ∧ Blk U g14 32 (spc sp A7 c7) ∧ Vr U 0 A7 sp.vs.length c7 sp.vs) ⟨_, hH7, .inr rfl, hX7, hV7⟩ ?_
      clear hg14 ha7 hb77 hsz7 hH7 hX7 hV7 hne7 hv7 hb7 L HH6 V
      rintro U7 ⟨V, hH7, hv14, hX7, hV7⟩
      have HV14 := Lib.hid hv14
      have hcs : (sp = x ∧ zz = 0) ∨ (sp = last ∧ ((i = 0 ∧ zz = 7) ∨ (0 < i ∧ zz = 0))) := by
        rcases HCs.out with h | h
        · left
          have e1 := HSp.out
          have e2 := HZz.out
          rw [h] at e1 e2
          exact ⟨e1, e2⟩
        · right
          by_cases h0 : i = 0
          · rw [if_pos h0] at h
            have e1 := HSp.out
            have e2 := HZz.out
            rw [h] at e1 e2
            have hk := HHo.out.ok
            rw [if_pos h0] at hk
            exact ⟨by rw [hk]; exact e1, .inl ⟨h0, e2⟩⟩
          · rw [if_neg h0] at h
            have e1 := HSp.out
            have e2 := HZz.out
            rw [h] at e1 e2
            exact ⟨e1, .inr ⟨by omega, e2⟩⟩
      have S0 := fun W (hb : Below U7.heap.size U7 W) => ssame_any sp x (hV7.below hb (Nat.le_refl _)) ((hH7.below hb).v11.rd)
      have S1 := fun W (hb : Below U7.heap.size U7 W) => ssame_any sp last (hV7.below hb (Nat.le_refl _)) ((hH7.below hb).v9.rd)
      obtain ⟨b1, hb1⟩ : ∃ z, z = decide (sp = x) := ⟨_, rfl⟩
      obtain ⟨b2, hb2⟩ : ∃ z, z = decide (sp = last) := ⟨_, rfl⟩
      rw [← hb1] at S0
      rw [← hb2] at S1
      have hcb : (b1 = true ∧ zz = 0) ∨ (b2 = true ∧ ((i = 0 ∧ zz = 7) ∨ (0 < i ∧ zz = 0))) := by
        rcases hcs with ⟨h1, h2⟩ | ⟨h1, h2⟩
        · exact .inl ⟨by rw [hb1]; exact decide_eq_true h1, h2⟩
        · exact .inr ⟨by rw [hb2]; exact decide_eq_true h1, h2⟩
      have H1 := Lib.hid S0
      have H2 := Lib.hid S1
      have q14 := hX7.cells
      have q11 := hH7.b11.cells
      simp only [spc] at q14 q11
      have HH7 := Lib.hid hH7
      have HX7 := Lib.hid hX7
      have HCb := Lib.hid hcb
      clear S0 S1 hb1 hb2 hcs hcb hH7 hX7 hV7 hv14 HCs HSp HZz
      go_upto_region 14 with ((with_reducible refine Calls.mono (H1.out _ (Below.refl _ _)) ?_); rintro e w8 ⟨rfl, hb8⟩)
      have h8 := HH7.out.below hb8
      have X8 := HX7.out.below hb8 HX7.out.lt
      have p14 := X8.cells
      have p9 := h8.b9.cells
      simp only [spc] at p14 p9
      have Hb8 := Lib.hid hb8
      clear h8 X8 hb8 q14 q11
      go_upto_region 15 with ((with_reducible refine Calls.mono (H2.out _ Hb8.out) ?_); rintro e w9 ⟨rfl, hb9⟩)
      have HH9 := Lib.hid ((HH7.out.below Hb8.out).below hb9)
      have HX9 := Lib.hid ((HX7.out.below Hb8.out HX7.out.lt).below hb9 (HX7.out.below Hb8.out HX7.out.lt).lt)
      have Sv0 := ssave_any HH9.out.dk (by rw [HN6.out]; omega) (fun k hk => by rw [HV6.out k hk]; show 0 < _; omega) x HH9.out.v11.rd
      rw [HD6.out, show saveZ s6.n x = 0 from if_pos ⟨HMk.out.1, by rw [HMk.out.2.1, HN6.out]; rfl⟩] at Sv0
      have Sv := Lib.hid Sv0
      clear hb9 p14 p9 HH7 HX7 H1 H2 Hb8 Sv0
      have hcb := HCb.out
      clear HCb
      have r11 := HH9.out.b11.cells
      simp only [spc] at r11
      rcases Nat.eq_zero_or_pos i with hi0 | hi0
      all_goals rcases hcb with ⟨rfl, rfl⟩ | ⟨rfl, ⟨h0, rfl⟩ | ⟨h0, rfl⟩⟩
      all_goals try (exfalso; omega)
      all_goals first | (have hT : (0 : Int) < (i : Int) := by omega) | (have hT : ¬ (0 : Int) < (i : Int) := by omega)
      all_goals try cases b1
      all_goals go_upto_region 19 with ((with_reducible refine Calls.mono Sv.out ?_); rintro e w10 ⟨rfl, d10, hc10⟩)
      all_goals
        have h10 := HH9.out.ch hc10
        have X10 := hc10.K.blk HX9.out (HH9.out.vf g14 HV14.out).1
        obtain ⟨s10, hs10⟩ : ∃ z, z = saveD s6 x := ⟨_, rfl⟩
        have hsv := saveD_vers (u := s6) (x := x) (by rw [HS6.out]; exact (power_all _ ps).2.1) HMk.out.1 (by rw [HMk.out.2.1, HN6.out]; rfl)
        rw [← hs10] at h10 hsv
        have hd10 : d10.g = gd := hc10.g.trans HD6.out
        have P0 := dpower_any h10.dk (fun k hk => by rw [hsv.2 k]; show 0 < _; omega) (c := cp) (HPs.out.below h10.bel (Nat.le_refl _)) HPl.out (by have := HPm.out; omega) (fun h0 b e y => by
          have h1 := (h10.dk.foot_base b y).1
          have h2 := rd_lt HPs.out HPl.out h0 b e
          omega)
        rw [hd10] at P0
        have P := Lib.hid P0
        have HH10 := Lib.hid h10
        have HX10 := Lib.hid X10
        have HS10 := Lib.hid hs10
        have HD10 := Lib.hid hd10
        clear P0 h10 X10 hs10 hd10 hsv hc10 Sv HH9 HX9 r11
        go_upto_region 20 with ((with_reducible refine Calls.mono P.out ?_); rintro e w11 ⟨rfl, d11, hc11⟩)
        have h11 := HH10.out.ch hc11
        have X11 := hc11.K.blk HX10.out (HH10.out.vf g14 HV14.out).1
        have hd11 : d11.g = gd := hc11.g.trans HD10.out
        obtain ⟨s11, hs11⟩ : ∃ z, z = powerD s10 ps := ⟨_, rfl⟩
        rw [← hs11] at h11
        have hold := hold_save ps HHo.out HMk.out.1 HMk.out.2.1 (by rw [HMk.out.2.2]) (t := s11) (by rw [hs11, HS10.out, HS6.out, HG.out])
        have L0 := sload_some h11.dk (by rw [hold.1.n_]; omega) (hold_load hold.1)
        rw [hd11] at L0
        have L := Lib.hid L0
        have HH11 := Lib.hid h11
        have HX11 := Lib.hid X11
        have HO11 := Lib.hid hold
        have HD11 := Lib.hid hd11
        clear L0 h11 X11 hs11 hd11 hold hc11 P HH10 HX10 HS10 HD10
        go_upto_region 21 with (first
          | ((with_reducible refine Calls.mono L.out ?_); rintro e w12 ⟨A12, c12, rfl, hv12, hb12⟩)
          | (((with_reducible refine row_put (o := ⟨none, _, _, _, _, _⟩) ?_ ?_ 32 (.tmp 14) (.tmp 101) ?_ g14 ?_ [.int .i64 x.gen, .int .i64 x.sec, .int .i64 x.next, .slice A12 x.vs.length c12] ?_ 32 (spc sp A7 c7) ?_ ?_ ?_ ?_ ?_); rfl; rfl; rfl; rfl; rfl; exact HX11.out.below hb12 HX11.out.lt; (rw [size32]; rfl); rfl; (intro u hu; simp at hu; rcases hu with rfl | rfl | rfl | rfl <;> rfl); (intro w13 X13 g13))))
        have h13 := (HH11.out.below hb12).poke g13 HV14.out HNe.out.1 HNe.out.2
        have hv13 : Vr w13 0 A12 x.vs.length c12 x.vs := ⟨hv12.1, hv12.2.1, hv12.2.2.1, (rd_grown hv12.2.2.2 g13 HX11.out.lt).weak (Nat.zero_le _)⟩
        have S0 := ssame_any x x hv13 h13.v11.rd
        rw [decide_eq_true rfl] at S0
        have Sm := Lib.hid S0
        have q14 := X13.out.cells
        have q11 := h13.b11.cells
        simp only [spc] at q11
        have HH13 := Lib.hid h13
        clear S0 h13 hv13 hv12 hb12 g13 L HH11 HX11
        go_upto_region 22 with ((with_reducible refine Calls.mono Sm.out ?_); rintro e w14 ⟨rfl, hb14⟩)
        have h14 := HH13.out.below hb14
        have X14 := X13.out.below hb14 X13.out.lt
        have C0 := dcopy_any h14.dk (fun k hk => by rw [HO11.out.1.vers k (by rw [HO11.out.1.n_] at hk; exact hk)]; show 0 < _; omega)
        rw [HD11.out] at C0
        have C := Lib.hid C0
        have HH14 := Lib.hid h14
        have HX14 := Lib.hid X14
        clear C0 h14 X14 hb14 q14 q11 X13 Sm HH13
        go_upto_region 25 with ((with_reducible refine Calls.mono C.out ?_); rintro e w15 ⟨dc, rfl, hdc, hb15⟩)
        have h15 := HH14.out.below hb15
        have r0 : w15.drew.cell? ⟨g11, 0, none⟩ = some (.int .i64 (G : Int)) := by rw [← HXg.out]; exact h15.b11.cell 0
        have hGm : (G : Int).tmod 2 = ((G % 2 : Nat) : Int) := by rw [Int.tmod_eq_emod_of_nonneg (by omega)]; omega
        have hpl := pickN_lt bit (n := 2048) (by omega)
        have Pk0 := fun W => pick10h_any bit HBit.out (n := 2048) (by omega) (by omega) W
        obtain ⟨pb, hpb⟩ : ∃ z, z = pickN bit 2048 := ⟨_, rfl⟩
        rw [← hpb] at Pk0 hpl
        push_cast at Pk0
        have Pk := Lib.hid Pk0
        have hdd := hdc.drewN 1
        have T0 := drot_any hdd (k := G % 2) (i := pb) (by show G % 2 < s11.n; rw [HO11.out.1.n_]; omega) hpl (by show (s11.vers _).length < _; rw [HO11.out.1.vers _ (by omega)]; show 0 < _; omega)
        obtain ⟨gc, hgc⟩ : ∃ z, z = dc.g := ⟨_, rfl⟩
        rw [← hgc] at T0
        have T := Lib.hid T0
        have HDd := Lib.hid hdd
        have HB15 := Lib.hid (below_drewN hb15 1)
        have HH15 := Lib.hid h15
        have HGc := Lib.hid hgc
        rw [← hgc]
        clear T0 hdd Pk0 hpb h15 hb15 hdc C hgc
        refine wp_region_last (S := fun w' => w'.cell? ⟨g11, 0, none⟩ = some (.int .i64 (G : Int))) 8 (by kernel_rfl) rfl (by kernel_rfl) ?_ ?_
        · exact r0
        intro hHeld
        simp only [List.take_succ_cons, List.take_zero]
        refine wpAnyH_take (i := 0) (v := ?_) (by simp only [List.getElem?_toArray, List.getElem?_cons_succ, List.getElem?_cons_zero]; rfl) (by kernel_rfl) (by kernel_rfl) (by kernel_rfl) (fun _ _ _ h => h) (Or.inl ⟨by rfl, ?_⟩) hHeld ?_
        rotate_left
        · intro wz hSw; (try dsimp only at hSw); go_simp; try with_reducible rfl
        (try simp only [Act.put, List.setIfInBounds_toArray, List.set_cons_zero, List.set_cons_succ])
        refine wpAnyH_take (i := 1) (v := ?_) (by simp only [List.getElem?_toArray, List.getElem?_cons_succ, List.getElem?_cons_zero]; rfl) (by kernel_rfl) (by kernel_rfl) (by kernel_rfl) (fun _ _ _ h => h) (Or.inl ⟨by rfl, ?_⟩) hHeld ?_
        rotate_left
        · intro wz hSw; (try dsimp only at hSw); go_simp; try with_reducible rfl
        (try simp only [Act.put, List.setIfInBounds_toArray, List.set_cons_zero, List.set_cons_succ])
        refine wpAnyH_take (i := 2) (v := ?_) (by simp only [List.getElem?_toArray, List.getElem?_cons_succ, List.getElem?_cons_zero]; rfl) (by kernel_rfl) (by kernel_rfl) (by kernel_rfl) (fun _ _ _ h => h) (Or.inl ⟨by rfl, ?_⟩) hHeld ?_
        rotate_left
        · intro wz hSw; (try dsimp only at hSw); go_simp; try with_reducible rfl
        (try simp only [Act.put, List.setIfInBounds_toArray, List.set_cons_zero, List.set_cons_succ])
        refine wpAnyH_take (i := 3) (v := ?_) (by simp only [List.getElem?_toArray, List.getElem?_cons_succ, List.getElem?_cons_zero]; rfl) (by kernel_rfl) (by kernel_rfl) (by kernel_rfl) (fun _ _ _ h => h) (Or.inl ⟨by rfl, ?_⟩) hHeld ?_
        rotate_left
        · intro wz hSw; (try dsimp only at hSw); go_simp; try with_reducible rfl
        (try simp only [Act.put, List.setIfInBounds_toArray, List.set_cons_zero, List.set_cons_succ])
        refine wpAnyH_take (i := 4) (v := ?_) (by simp only [List.getElem?_toArray, List.getElem?_cons_succ, List.getElem?_cons_zero]; rfl) (by kernel_rfl) (by kernel_rfl) (by kernel_rfl) (fun _ _ _ h => h) (Or.inl ⟨by rfl, ?_⟩) hHeld ?_
        rotate_left
        · intro wz hSw; (try dsimp only at hSw); go_simp; try with_reducible rfl
        (try simp only [Act.put, List.setIfInBounds_toArray, List.set_cons_zero, List.set_cons_succ])
        refine wpAnyH_take (i := 5) (v := ?_) (by simp only [List.getElem?_toArray, List.getElem?_cons_succ, List.getElem?_cons_zero]; rfl) (by kernel_rfl) (by kernel_rfl) (by kernel_rfl) (fun _ _ _ h => h) (Or.inl ⟨by rfl, ?_⟩) hHeld ?_
        rotate_left
        · intro wz hSw; (try dsimp only at hSw); go_simp; try with_reducible rfl
        (try simp only [Act.put, List.setIfInBounds_toArray, List.set_cons_zero, List.set_cons_succ])
        refine wpAnyH_ready (rs := [6]) (by kernel_rfl) (by simp) ?_
        refine AllReadyH.cons (by simp only [List.getElem?_toArray, List.getElem?_cons_succ, List.getElem?_cons_zero]; rfl) (fun KK hK => ?_) AllReadyH.nil
        go_simp; ((with_reducible refine Calls.mono (Pk.out _) ?_); rintro e wp ⟨rfl, rfl⟩); go_wp2_with fail
        refine hK.out _ _ ?_ (fun hHeld => ?_)
        · exact r0
        clear hK KK
        (try simp only [Act.put, List.setIfInBounds_toArray, List.set_cons_zero, List.set_cons_succ])
        refine wpAnyH_take (i := 7) (v := ?_) (by simp only [List.getElem?_toArray, List.getElem?_cons_succ, List.getElem?_cons_zero]; rfl) (by kernel_rfl) (by kernel_rfl) (by kernel_rfl) (fun _ _ _ h => h) (Or.inl ⟨by rfl, ?_⟩) hHeld ?_
        rotate_left
        · intro wz hSw; (try dsimp only at hSw); go_simp; try with_reducible rfl
        (try simp only [Act.put, List.setIfInBounds_toArray, List.set_cons_zero, List.set_cons_succ])
        refine wpAnyH_done (by kernel_rfl) ?_ _
        simp only [lastQ]
        go_simp
        have ea : IntKind.i64.wrap (IntKind.i64.wrap (2048 * ((G : Int) % 2)) + (pb : Int)) = ((G % 2 * 2048 + pb : Nat) : Int) := by
          have e1 : IntKind.i64.wrap (2048 * ((G : Int) % 2)) = 2048 * ((G : Int) % 2) := IntWalk.i64_in _ (by omega)
          rw [e1, IntWalk.i64_in _ (by omega)]; omega
        rw [ea]
        change Calls _ _ _ (w15.drewN 1) _
        ((with_reducible refine Calls.mono T.out ?_); rintro e w16 ⟨rfl, hc16⟩)
        have hB16 : Below w14.heap.size w14 w16 := HB15.out.trans (hc16.bel HDd.out)
        have HH16 := Lib.hid (HH14.out.below hB16)
        have HX16 := Lib.hid (HX14.out.below hB16 HX14.out.lt)
        have hlr := hold_rot HHo.out HO11.out.1 HO11.out.2.1 hpl
        rw [← HG.out] at hlr
        have L0 := sload_last hc16.dk (by show 2 ≤ s11.n; rw [HO11.out.1.n_]; omega) hlr (fun h0 => by have := HHo.out.ok; rw [if_pos h0] at this; exact this)
        rw [← HGc.out] at L0
        first | rw [if_pos (show i = 0 by omega)] at L0 | rw [if_neg (show ¬ i = 0 by omega)] at L0
        have L := Lib.hid L0
        clear L0 hlr hB16 hc16 T Pk ea hGm r0 HDd HB15 HH15 HH14 HX14 hHeld
        go_wp2_with fail
        go_upto_region 27 with (first
          | ((with_reducible refine Calls.mono L.out ?_); rintro e w17 ⟨A17, c17, rfl, hv17, hb17⟩)
          | (((with_reducible refine row_put (o := ⟨none, _, _, _, _, _⟩) ?_ ?_ 32 (.tmp 14) (.tmp 126) ?_ g14 ?_ [.int .i64 last.gen, .int .i64 last.sec, .int .i64 last.next, .slice A17 last.vs.length c17] ?_ 32 [.int .i64 x.gen, .int .i64 x.sec, .int .i64 x.next, .slice A12 x.vs.length c12] ?_ ?_ ?_ ?_ ?_); rfl; rfl; rfl; rfl; rfl; exact HX16.out.below hb17 HX16.out.lt; (rw [size32]; rfl); rfl; (intro u hu; simp at hu; rcases hu with rfl | rfl | rfl | rfl <;> rfl); (intro w18 X18 g18))))
        have h18 := (HH16.out.below hb17).poke g18 HV14.out HNe.out.1 HNe.out.2
        have hv18 : Vr w18 0 A17 last.vs.length c17 last.vs := ⟨hv17.1, hv17.2.1, hv17.2.2.1, (rd_grown hv17.2.2.2 g18 HX16.out.lt).weak (Nat.zero_le _)⟩
        have S0 := ssame_any last last hv18 h18.v9.rd
        rw [decide_eq_true rfl] at S0
        have Sm := Lib.hid S0
        have q14 := X18.out.cells
        have q9 := h18.b9.cells
        simp only [spc] at q9
        have HH18 := Lib.hid h18
        clear S0 h18 hv18 hv17 hb17 g18 L HH16 HX16
        go_upto_region 28 with ((with_reducible refine Calls.mono Sm.out ?_); rintro e w19 ⟨rfl, hb19⟩)
        have h19 := HH18.out.below hb19
        have q11 := h19.b11.cells
        have HB9 := Lib.hid h19.b9
        have HH19 := Lib.hid h19
        simp only [spc] at q11
        clear h19 hb19 q14 q9 X18 Sm HH18
        go_wp2_with (((with_reducible refine row_put (o := ⟨none, _, _, _, _, _⟩) ?_ ?_ 32 (.tmp 9) (.tmp 141) ?_ g9 ?_ [.int .i64 x.gen, .int .i64 x.sec, .int .i64 x.next, .slice A3 x.vs.length c3] ?_ 32 (spc last A9 c9) ?_ ?_ ?_ ?_ ?_); rfl; rfl; rfl; rfl; rfl; exact HB9.out; (rw [size32]; rfl); rfl; (intro u hu; simp at hu; rcases hu with rfl | rfl | rfl | rfl <;> rfl); (intro w20 X20 g20)))
        go_roundw
        case rel => exact ⟨i + 1, d11, s11, x, A3, c3, by omega, by first | (norm_cast; done) | (rw [hi0]; rfl) | (simp [hi0]; done), HH19.out.fin HD11.out HO11.out.1 g20 X20.out⟩
        case measure => simp only [intOf]; omega
    · have LV := Lib.hid (suplives_any wr)
      have HB := Lib.hid HS.out.bel
      by_cases hlt : i < n
      all_goals
        go_wp2_with ((with_reducible refine Calls.mono LV.out ?_); rintro e wb ⟨rfl, hbb⟩)
        go_ret
        exact ⟨rfl, HB.out.trans (hbb.mono HB.out.size)⟩
end Go.Proofs.Ytdbhagnnpjcpmaa
