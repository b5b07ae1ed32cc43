/- Combs, as data: what one must be, what it tells, how rows are laid into it. Plain Lean, no program in sight. -/
import Derived.Test.YtpeipjfmibjoiaaDoorTbl
namespace Go.Proofs.YtpeipjfmibjoiaaDoor

structure Cmb where
  base : List Int
  dflt : List Int
  next : List Int
  check : List Int

namespace CB

/-- may a comb be, with so many classes? -/
structure CMay (C : Cmb) (c : Int) : Prop where
  c1 : 1 ≤ c
  c2 : c ≤ 256
  pos : 1 ≤ C.base.length
  most : C.base.length ≤ 600
  slots : C.next.length ≤ 262144
  dlen : C.dflt.length = C.base.length
  clen : C.check.length = C.next.length
  base : ∀ i, i < C.base.length → 0 ≤ C.base.getD i 0 ∧ C.base.getD i 0 ≤ 262144 ∧ -1 ≤ C.dflt.getD i 0 ∧ C.dflt.getD i 0 < i
  slot : ∀ i, i < C.next.length → -1 ≤ C.check.getD i 0 ∧ C.check.getD i 0 < C.base.length ∧ -1 ≤ C.next.getD i 0 ∧ C.next.getD i 0 < C.base.length
  free : ∀ i, i < C.next.length → C.check.getD i 0 = -1 → C.next.getD i 0 = -1
  near : ∀ i, i < C.next.length → 0 ≤ C.check.getD i 0 → C.base.getD (C.check.getD i 0).toNat 0 ≤ i ∧ (i : Int) < C.base.getD (C.check.getD i 0).toNat 0 + c
  last : C.next.length = 0 ∨ 0 ≤ C.check.getD (C.next.length - 1) 0
noncomputable def mayC (C : Cmb) (c : Int) : Bool := @decide (CMay C c) (Classical.propDecidable _)
theorem mayC_true {C : Cmb} {c : Int} : mayC C c = true ↔ CMay C c := by simp [mayC]
theorem mayC_false {C : Cmb} {c : Int} (h : ¬ CMay C c) : mayC C c = false := by simp [mayC, h]

/-- is the slot of a state and a class its own? -/
def hit (C : Cmb) (k s : Nat) : Prop := C.base.getD s 0 + k < C.check.length ∧ C.check.getD (C.base.getD s 0 + k).toNat 0 = s
instance (C : Cmb) (k s : Nat) : Decidable (hit C k s) := by unfold hit; infer_instance

def probe (C : Cmb) (k : Nat) : Nat → Nat → Int × Nat
  | 0, _ => (-1, 0)
  | f + 1, s => if hit C k s then (C.next.getD (C.base.getD s 0 + k).toNat 0, 1) else if C.dflt.getD s 0 < 0 then (-1, 1) else ((probe C k f (C.dflt.getD s 0).toNat).1, (probe C k f (C.dflt.getD s 0).toNat).2 + 1)
/-- the entry of a state and a class, and the probes -/
def look (C : Cmb) (k s : Nat) : Int × Nat := probe C k (s + 1) s

theorem probe_more {C : Cmb} {k : Nat} (hd : ∀ i, i < C.base.length → C.dflt.getD i 0 < i) : ∀ (f s : Nat), s < C.base.length → s < f → probe C k f s = probe C k (s + 1) s := by
  intro f s
  induction s using Nat.strongRecOn generalizing f with
  | ind s ih =>
    intro hs hf
    obtain ⟨f, rfl⟩ : ∃ g, f = g + 1 := ⟨f - 1, by omega⟩
    simp only [probe]
    split
    · rfl
    · split
      · rfl
      · rename_i h1 h2
        have h3 := hd s hs
        have h4 : (C.dflt.getD s 0).toNat < s := by omega
        rw [ih _ h4 f (by omega) (by omega), ih _ h4 s (by omega) h4]
theorem look_hit {C : Cmb} {k s : Nat} (h : hit C k s) : look C k s = (C.next.getD (C.base.getD s 0 + k).toNat 0, 1) := by simp only [look, probe, if_pos h]
theorem look_none {C : Cmb} {k s : Nat} (h : ¬ hit C k s) (hd : C.dflt.getD s 0 < 0) : look C k s = (-1, 1) := by simp only [look, probe, if_neg h, if_pos hd]
theorem look_on {C : Cmb} {k s : Nat} (hd : ∀ i, i < C.base.length → C.dflt.getD i 0 < i) (hs : s < C.base.length) (h : ¬ hit C k s) (h0 : ¬ C.dflt.getD s 0 < 0) :
    look C k s = ((look C k (C.dflt.getD s 0).toNat).1, (look C k (C.dflt.getD s 0).toNat).2 + 1) := by
  have h3 := hd s hs
  have h4 : (C.dflt.getD s 0).toNat < s := by omega
  have h5 := probe_more hd s (C.dflt.getD s 0).toNat (k := k) (by omega) h4
  show probe C k (s + 1) s = _
  rw [probe, if_neg h, if_neg h0, h5]; rfl
theorem look_probes {C : Cmb} {k : Nat} (hd : ∀ i, i < C.base.length → C.dflt.getD i 0 < i) : ∀ s, s < C.base.length → 1 ≤ (look C k s).2 ∧ (look C k s).2 ≤ s + 1 := by
  intro s
  induction s using Nat.strongRecOn with
  | ind s ih =>
    intro hs
    by_cases h : hit C k s
    · rw [look_hit h]; exact ⟨Nat.le_refl _, by omega⟩
    · by_cases h0 : C.dflt.getD s 0 < 0
      · rw [look_none h h0]; exact ⟨Nat.le_refl _, by omega⟩
      · have h3 := hd s hs
        have := ih (C.dflt.getD s 0).toNat (by omega) (by omega)
        rw [look_on hd hs h h0]
        exact ⟨by show 1 ≤ _ + 1; omega, by show _ + 1 ≤ s + 1; omega⟩

/- ---- rows, and what is live ---- -/

def nx (T : Tbl) (s k : Nat) : Int := (T.next.getD s []).getD k 0
def other (T : Tbl) (d : Int) (k : Nat) : Int := if d < 0 then -1 else nx T d.toNat k
def liveB (T : Tbl) (s : Nat) (d : Int) (k : Nat) : Bool := decide (nx T s k ≠ other T d k)
/-- the first classes, of those below n, at which a row is not what another one is -/
def liveN (T : Tbl) (s : Nat) (d : Int) (n : Nat) : List Nat := (List.range n).filter (liveB T s d)
def liveL (T : Tbl) (s : Nat) (d : Int) : List Nat := liveN T s d T.count.toNat
theorem liveN_mem {T : Tbl} {s n k : Nat} {d : Int} : k ∈ liveN T s d n ↔ k < n ∧ nx T s k ≠ other T d k := by simp [liveN, liveB]
theorem liveL_mem {T : Tbl} {s k : Nat} {d : Int} : k ∈ liveL T s d ↔ k < T.count.toNat ∧ nx T s k ≠ other T d k := liveN_mem
theorem liveN_yes {T : Tbl} {s n : Nat} {d : Int} (h : nx T s n ≠ other T d n) : liveN T s d (n + 1) = liveN T s d n ++ [n] := by
  unfold liveN; rw [List.range_succ, List.filter_append, List.filter_cons_of_pos (by simpa [liveB] using h)]; rfl
theorem liveN_no {T : Tbl} {s n : Nat} {d : Int} (h : nx T s n = other T d n) : liveN T s d (n + 1) = liveN T s d n := by
  unfold liveN; rw [List.range_succ, List.filter_append, List.filter_cons_of_neg (by simpa [liveB] using h)]; simp
theorem liveN_len (T : Tbl) (s : Nat) (d : Int) (n : Nat) : (liveN T s d n).length ≤ n := by
  have := List.length_filter_le (liveB T s d) (List.range n); simpa [liveN] using this
theorem liveN_mono (T : Tbl) (s : Nat) (d : Int) {a b : Nat} (h : a ≤ b) : (liveN T s d a).length ≤ (liveN T s d b).length := by
  induction b with
  | zero => obtain rfl : a = 0 := by omega
            exact Nat.le_refl _
  | succ b ih =>
    by_cases e : a = b + 1
    · subst e; exact Nat.le_refl _
    · have h1 := ih (by omega)
      by_cases h2 : nx T s b = other T d b
      · rw [liveN_no h2]; exact h1
      · rw [liveN_yes h2, List.length_append]; simp; omega

/-- so far rows are laid: of the states in D -/
structure Laid (T : Tbl) (D : Nat → Prop) (C : Cmb) : Prop where
  blen : C.base.length = T.next.length
  dlen : C.dflt.length = T.next.length
  clen : C.check.length = C.next.length
  inn : ∀ s, D s → s < T.next.length
  dflt : ∀ s, D s → -1 ≤ C.dflt.getD s 0 ∧ C.dflt.getD s 0 < s
  base : ∀ s, D s → 0 ≤ C.base.getD s 0 ∧ C.base.getD s 0 ≤ C.next.length
  slot : ∀ i, i < C.next.length → (C.check.getD i 0 = -1 ∧ C.next.getD i 0 = -1) ∨ ∃ s k, D s ∧ k ∈ liveL T s (C.dflt.getD s 0) ∧ C.check.getD i 0 = s ∧ (i : Int) = C.base.getD s 0 + k ∧ C.next.getD i 0 = nx T s k
  live : ∀ s, D s → ∀ k ∈ liveL T s (C.dflt.getD s 0), C.base.getD s 0 + k < C.next.length ∧ C.check.getD (C.base.getD s 0 + k).toNat 0 = s
  last : C.next.length = 0 ∨ 0 ≤ C.check.getD (C.next.length - 1) 0
  tight : ∀ s, D s → ∀ a : Nat, (a : Int) < C.base.getD s 0 → ∃ k ∈ liveL T s (C.dflt.getD s 0), a + k < C.next.length ∧ 0 ≤ C.check.getD (a + k) 0 ∧ C.check.getD (a + k) 0 ≠ s

theorem Laid.none {T : Tbl} {C : Cmb} (h1 : C.base.length = T.next.length) (h2 : C.dflt.length = T.next.length) (h3 : C.next = []) (h4 : C.check = []) : Laid T (fun _ => False) C where
  blen := h1
  dlen := h2
  clen := by rw [h3, h4]
  inn := fun _ h => h.elim
  dflt := fun _ h => h.elim
  base := fun _ h => h.elim
  slot := fun i hi => by rw [h3] at hi; exact absurd hi (Nat.not_lt_zero _)
  live := fun _ h => h.elim
  last := .inl (by rw [h3]; rfl)
  tight := fun _ h => h.elim

theorem getD_set_self {l : List Int} {i : Nat} {x : Int} (h : i < l.length) : (l.set i x).getD i 0 = x := by
  rw [List.getD_eq_getElem?_getD, List.getElem?_set_self h]; rfl
theorem getD_set_ne {l : List Int} {i j : Nat} {x : Int} (h : j ≠ i) : (l.set i x).getD j 0 = l.getD j 0 := by
  rw [List.getD_eq_getElem?_getD, List.getElem?_set_ne (Ne.symm h), ← List.getD_eq_getElem?_getD]

/-- a row fits at a place, and at none below -/
structure Fit (check : List Int) (L : List Nat) (b : Nat) : Prop where
  fits : ∀ k ∈ L, b + k < check.length → check.getD (b + k) 0 < 0
  lower : ∀ a, a < b → ∃ k ∈ L, a + k < check.length ∧ 0 ≤ check.getD (a + k) 0
theorem Fit.le {check : List Int} {L : List Nat} {b : Nat} (h : Fit check L b) : b ≤ check.length := by
  rcases Nat.eq_zero_or_pos b with e | e
  · omega
  · obtain ⟨k, _, h1, _⟩ := h.lower (b - 1) (by omega); omega

/-- what the slots are when a part of a row has been laid -/
structure Put (l l' : List Int) (L : List Nat) (b : Nat) (x : Nat → Int) : Prop where
  more : l.length ≤ l'.length
  all : ∀ k ∈ L, b + k < l'.length
  len : l'.length = l.length ∨ ∃ k ∈ L, l'.length = b + k + 1
  new : ∀ k ∈ L, l'.getD (b + k) 0 = x k
  old : ∀ i, i < l.length → (∀ k ∈ L, i ≠ b + k) → l'.getD i 0 = l.getD i 0
  gap : ∀ i, l.length ≤ i → i < l'.length → (∀ k ∈ L, i ≠ b + k) → l'.getD i 0 = -1

theorem Put.none (l : List Int) (b : Nat) (x : Nat → Int) : Put l l [] b x :=
  ⟨Nat.le_refl _, fun _ h => (by cases h), .inl rfl, fun _ h => (by cases h), fun _ _ _ => rfl, fun _ h1 h2 => absurd h2 (by omega)⟩

theorem Laid.lay {T : Tbl} {D : Nat → Prop} {C C' : Cmb} (h : Laid T D C) {s b : Nat} {d : Int} (hs : s < T.next.length) (hD : ¬ D s) (hd : -1 ≤ d ∧ d < s) (hf : Fit C.check (liveL T s d) b)
    (hb : C'.base = C.base.set s (b : Int)) (hdd : C'.dflt = C.dflt.set s d) (hn : Put C.next C'.next (liveL T s d) b (nx T s)) (hc : Put C.check C'.check (liveL T s d) b (fun _ => (s : Int))) :
    Laid T (fun t => D t ∨ t = s) C' := by
  have hne : ∀ t, D t → t ≠ s := fun t ht e => hD (e ▸ ht)
  have hb' : ∀ t, D t → C'.base.getD t 0 = C.base.getD t 0 := fun t ht => by rw [hb, getD_set_ne (hne t ht)]
  have hd' : ∀ t, D t → C'.dflt.getD t 0 = C.dflt.getD t 0 := fun t ht => by rw [hdd, getD_set_ne (hne t ht)]
  have hbs : C'.base.getD s 0 = b := by rw [hb, getD_set_self (by rw [h.blen]; exact hs)]
  have hds : C'.dflt.getD s 0 = d := by rw [hdd, getD_set_self (by rw [h.dlen]; exact hs)]
  have hcl : C'.check.length = C'.next.length := by
    have e := h.clen
    have h1 := hn.more
    have h2 := hc.more
    rcases hn.len with e1 | ⟨k1, m1, e1⟩ <;> rcases hc.len with e2 | ⟨k2, m2, e2⟩
    · omega
    · have := hn.all k2 m2; omega
    · have := hc.all k1 m1; omega
    · have h3 := hn.all k2 m2
      have h4 := hc.all k1 m1
      omega
  have hle := hf.le
  have hcle := h.clen
  have hmore := hn.more
  -- what was owned is as it was
  have keep : ∀ i, i < C.next.length → 0 ≤ C.check.getD i 0 → C'.check.getD i 0 = C.check.getD i 0 ∧ C'.next.getD i 0 = C.next.getD i 0 := fun i hi h0 => by
    have hno : ∀ k ∈ liveL T s d, i ≠ b + k := fun k hk e => by
      have := hf.fits k hk (by rw [← e, hcle]; exact hi)
      rw [← e] at this; omega
    exact ⟨hc.old i (by omega) hno, hn.old i hi hno⟩
  refine ⟨by rw [hb, List.length_set]; exact h.blen, by rw [hdd, List.length_set]; exact h.dlen, hcl, ?_, ?_, ?_, ?_, ?_, ?_, ?_⟩
  · rintro t (ht | rfl)
    · exact h.inn t ht
    · exact hs
  · rintro t (ht | rfl)
    · rw [hd' t ht]; exact h.dflt t ht
    · rw [hds]; exact hd
  · rintro t (ht | rfl)
    · rw [hb' t ht]; have := h.base t ht; omega
    · rw [hbs]; omega
  · intro i hi
    by_cases hk : ∃ k ∈ liveL T s d, i = b + k
    · obtain ⟨k, hk, rfl⟩ := hk
      exact .inr ⟨s, k, .inr rfl, by rw [hds]; exact hk, hc.new k hk, by rw [hbs]; omega, hn.new k hk⟩
    · have hno : ∀ k ∈ liveL T s d, i ≠ b + k := fun k hk' e => hk ⟨k, hk', e⟩
      by_cases hi2 : i < C.next.length
      · rw [hc.old i (by omega) hno, hn.old i hi2 hno]
        rcases h.slot i hi2 with hx | ⟨t, k, ht, hk, e1, e2, e3⟩
        · exact .inl hx
        · exact .inr ⟨t, k, .inl ht, by rw [hd' t ht]; exact hk, e1, by rw [hb' t ht]; exact e2, e3⟩
      · exact .inl ⟨hc.gap i (by omega) (by omega) hno, hn.gap i (by omega) hi hno⟩
  · rintro t (ht | rfl) k hk
    · rw [hd' t ht] at hk
      obtain ⟨h1, h2⟩ := h.live t ht k hk
      have h3 := h.base t ht
      rw [hb' t ht]
      exact ⟨by omega, by rw [(keep _ (by omega) (by rw [h2]; omega)).1]; exact h2⟩
    · rw [hds] at hk
      rw [hbs]
      have := hn.all k hk
      exact ⟨by omega, by rw [show ((b : Int) + (k : Int)).toNat = b + k by omega]; exact hc.new k hk⟩
  · rcases hn.len with e | ⟨k, hk, e⟩
    · rcases h.last with e0 | e0
      · exact .inl (by omega)
      · rcases Nat.eq_zero_or_pos C.next.length with e1 | e1
        · exact .inl (by omega)
        · right
          rw [e, (keep _ (by omega) e0).1]; exact e0
    · right
      rw [e, show b + k + 1 - 1 = b + k by omega, hc.new k hk]; omega
  · rintro t (ht | rfl) a ha
    · rw [hb' t ht] at ha
      obtain ⟨k, hk, h1, h2, h3⟩ := h.tight t ht a ha
      have := (keep _ h1 h2).1
      exact ⟨k, by rw [hd' t ht]; exact hk, by omega, by rw [this]; exact h2, by rw [this]; exact h3⟩
    · rw [hbs] at ha
      obtain ⟨k, hk, h1, h2⟩ := hf.lower a (by omega)
      have := (keep (a + k) (by omega) h2).1
      refine ⟨k, by rw [hds]; exact hk, by omega, by rw [this]; exact h2, ?_⟩
      rw [this]
      rcases h.slot (a + k) (by omega) with ⟨hx, _⟩ | ⟨u, _, hu, _, e1, _⟩
      · omega
      · rw [e1]; intro e; exact hne u hu (by omega)

/-- all rows are laid -/
abbrev Full (T : Tbl) (C : Cmb) : Prop := Laid T (fun s => s < T.next.length) C

theorem nx_range {T : Tbl} (hm : TMay T) {s k : Nat} (hs : s < T.next.length) (hk : k < T.count.toNat) : -1 ≤ nx T s k ∧ nx T s k < T.next.length :=
  hm.dest s k hs (by have := hm.row s hs; omega)

theorem Full.may {T : Tbl} {C : Cmb} (h : Full T C) (hm : TMay T) (hsl : C.next.length ≤ 262144) (h1 : 1 ≤ T.count) (h2 : T.count ≤ 256) : CMay C T.count where
  c1 := h1
  c2 := h2
  pos := by rw [h.blen]; exact hm.pos
  most := by rw [h.blen]; exact hm.most
  slots := hsl
  dlen := by rw [h.dlen, h.blen]
  clen := h.clen
  base := fun i hi => by
    rw [h.blen] at hi
    have a := h.base i hi
    have b := h.dflt i hi
    omega
  slot := fun i hi => by
    rw [h.blen]
    have := hm.pos
    rcases h.slot i hi with ⟨e1, e2⟩ | ⟨s, k, hs, hk, e1, _, e3⟩
    · omega
    · have := nx_range hm hs (liveL_mem.1 hk).1
      omega
  free := fun i hi e => by
    rcases h.slot i hi with ⟨_, e2⟩ | ⟨s, k, hs, hk, e1, _, e3⟩
    · exact e2
    · omega
  near := fun i hi h0 => by
    rcases h.slot i hi with ⟨e1, _⟩ | ⟨s, k, hs, hk, e1, e2, _⟩
    · omega
    · rw [e1]
      have := (liveL_mem.1 hk).1
      simp only [Int.toNat_natCast]
      omega
  last := h.last

theorem Full.entry {T : Tbl} {C : Cmb} (h : Full T C) {k : Nat} (hk : k < T.count.toNat) : ∀ s, s < T.next.length → (look C k s).1 = nx T s k := by
  have hd : ∀ i, i < C.base.length → C.dflt.getD i 0 < i := fun i hi => (h.dflt i (by rw [← h.blen]; exact hi)).2
  intro s
  induction s using Nat.strongRecOn with
  | ind s ih =>
    intro hs
    by_cases hl : nx T s k ≠ other T (C.dflt.getD s 0) k
    · have hm := liveL_mem.2 ⟨hk, hl⟩
      obtain ⟨h1, h2⟩ := h.live s hs k hm
      have h0 := h.base s hs
      have hh : hit C k s := ⟨by rw [h.clen]; exact h1, h2⟩
      rw [look_hit hh]
      show C.next.getD _ 0 = _
      rcases h.slot (C.base.getD s 0 + k).toNat (by omega) with ⟨e, _⟩ | ⟨t, j, ht, hj, e1, e2, e3⟩
      · omega
      · obtain rfl : t = s := by omega
        obtain rfl : j = k := by omega
        exact e3
    · have hl : nx T s k = other T (C.dflt.getD s 0) k := Classical.not_not.1 hl
      have hh : ¬ hit C k s := fun ⟨h1, h2⟩ => by
        have h0 := h.base s hs
        rw [h.clen] at h1
        rcases h.slot (C.base.getD s 0 + k).toNat (by omega) with ⟨e, _⟩ | ⟨t, j, ht, hj, e1, e2, e3⟩
        · omega
        · obtain rfl : t = s := by omega
          obtain rfl : j = k := by omega
          exact (liveL_mem.1 hj).2 hl
      by_cases h0 : C.dflt.getD s 0 < 0
      · rw [look_none hh h0, hl]; unfold other; rw [if_pos h0]
      · have h3 := hd s (by rw [h.blen]; exact hs)
        rw [look_on hd (by rw [h.blen]; exact hs) hh h0, hl]
        unfold other
        rw [if_neg h0]
        exact ih _ (by omega) (by omega)

/- ---- how many slots are whose ---- -/

/-- so many of the first n slots are of a state -/
def ownN (C : Cmb) (s : Int) : Nat → Nat
  | 0 => 0
  | i + 1 => ownN C s i + if C.check.getD i 0 = s then 1 else 0
/-- so many are somebody's -/
def usedN (C : Cmb) : Nat → Nat
  | 0 => 0
  | i + 1 => usedN C i + if 0 ≤ C.check.getD i 0 then 1 else 0
/-- lives of the first s states -/
def livesN (T : Tbl) (C : Cmb) : Nat → Nat
  | 0 => 0
  | s + 1 => livesN T C s + (liveL T s (C.dflt.getD s 0)).length
theorem ownN_le (C : Cmb) (s : Int) : ∀ i, ownN C s i ≤ i
  | 0 => Nat.le_refl _
  | i + 1 => by have := ownN_le C s i; simp only [ownN]; split <;> omega
theorem usedN_le (C : Cmb) : ∀ i, usedN C i ≤ i
  | 0 => Nat.le_refl _
  | i + 1 => by have := usedN_le C i; simp only [usedN]; split <;> omega
theorem ownN_filter (C : Cmb) (s : Int) : ∀ i, ownN C s i = ((List.range i).filter fun j => decide (C.check.getD j 0 = s)).length
  | 0 => rfl
  | i + 1 => by
    rw [List.range_succ, List.filter_append, List.length_append, ← ownN_filter C s i]
    simp only [ownN]
    congr 1
    by_cases e : C.check.getD i 0 = s
    · rw [if_pos e, List.filter_cons_of_pos (by simpa using e)]; rfl
    · rw [if_neg e, List.filter_cons_of_neg (by simpa using e)]; rfl
theorem sorted_eq : ∀ {a b : List Nat}, a.Pairwise (· < ·) → b.Pairwise (· < ·) → (∀ x, x ∈ a ↔ x ∈ b) → a = b
  | [], [], _, _, _ => rfl
  | [], y :: b, _, _, h => absurd ((h y).2 List.mem_cons_self) (by simp)
  | x :: a, [], _, _, h => absurd ((h x).1 List.mem_cons_self) (by simp)
  | x :: a, y :: b, ha, hb, h => by
    have ha' := List.pairwise_cons.1 ha
    have hb' := List.pairwise_cons.1 hb
    have e : x = y := by
      have h1 := (h x).1 List.mem_cons_self
      have h2 := (h y).2 List.mem_cons_self
      rcases List.mem_cons.1 h1 with e | h1
      · exact e
      · rcases List.mem_cons.1 h2 with e | h2
        · exact e.symm
        · have := hb'.1 x h1; have := ha'.1 y h2; omega
    subst e
    rw [sorted_eq ha'.2 hb'.2 fun z => ?_]
    constructor
    · intro hz
      rcases List.mem_cons.1 ((h z).1 (List.mem_cons_of_mem _ hz)) with e | e
      · subst e; have := ha'.1 z hz; omega
      · exact e
    · intro hz
      rcases List.mem_cons.1 ((h z).2 (List.mem_cons_of_mem _ hz)) with e | e
      · subst e; have := hb'.1 z hz; omega
      · exact e
theorem Full.own {T : Tbl} {C : Cmb} (h : Full T C) {s : Nat} (hs : s < T.next.length) : ownN C s C.check.length = (liveL T s (C.dflt.getD s 0)).length := by
  rw [ownN_filter]
  obtain ⟨hb0, _⟩ := h.base s hs
  have e : (List.range C.check.length).filter (fun j => decide (C.check.getD j 0 = (s : Int))) = (liveL T s (C.dflt.getD s 0)).map (fun k => (C.base.getD s 0).toNat + k) := by
    apply sorted_eq
    · exact List.Pairwise.filter _ List.pairwise_lt_range
    · unfold liveL liveN
      rw [List.pairwise_map]
      exact (List.Pairwise.filter _ List.pairwise_lt_range).imp fun hab => by omega
    · intro i
      simp only [List.mem_filter, List.mem_range, decide_eq_true_eq, List.mem_map]
      constructor
      · rintro ⟨h1, h2⟩
        rcases h.slot i (by rw [← h.clen]; exact h1) with ⟨e, _⟩ | ⟨t, k, ht, hk, e1, e2, _⟩
        · omega
        · obtain rfl : t = s := by omega
          exact ⟨k, hk, by omega⟩
      · rintro ⟨k, hk, rfl⟩
        obtain ⟨h1, h2⟩ := h.live s hs k hk
        rw [show (C.base.getD s 0 + k).toNat = (C.base.getD s 0).toNat + k by omega] at h2
        exact ⟨by rw [h.clen]; omega, h2⟩
  rw [e, List.length_map]
def sumN (f : Nat → Nat) : Nat → Nat
  | 0 => 0
  | n + 1 => sumN f n + f n
theorem sumN_add (f g : Nat → Nat) : ∀ n, sumN (fun s => f s + g s) n = sumN f n + sumN g n
  | 0 => rfl
  | n + 1 => by simp only [sumN, sumN_add f g n]; omega
theorem sumN_zero {f : Nat → Nat} : ∀ {n : Nat}, (∀ s, s < n → f s = 0) → sumN f n = 0
  | 0, _ => rfl
  | n + 1, h => by simp only [sumN]; rw [sumN_zero fun s hs => h s (by omega), h n (by omega)]
theorem sumN_one {x n : Nat} (h : x < n) : sumN (fun s => if (x : Int) = (s : Int) then 1 else 0) n = 1 := by
  induction n with
  | zero => omega
  | succ n ih =>
    simp only [sumN]
    by_cases e : x = n
    · subst e
      rw [sumN_zero fun s hs => if_neg (by omega), if_pos rfl]
    · rw [ih (by omega), if_neg (by omega)]
theorem sumN_congr {f g : Nat → Nat} : ∀ {n : Nat}, (∀ s, s < n → f s = g s) → sumN f n = sumN g n
  | 0, _ => rfl
  | n + 1, h => by simp only [sumN]; rw [sumN_congr fun s hs => h s (by omega), h n (by omega)]
theorem used_sum {C : Cmb} {n : Nat} : ∀ {m : Nat}, (∀ i, i < m → C.check.getD i 0 < n) → usedN C m = sumN (fun s => ownN C s m) n
  | 0, _ => (sumN_zero (f := fun s => ownN C s 0) fun s _ => rfl).symm
  | m + 1, h => by
    simp only [usedN, ownN, sumN_add]
    rw [used_sum fun i hi => h i (by omega)]
    congr 1
    have h1 := h m (by omega)
    by_cases e : 0 ≤ C.check.getD m 0
    · obtain ⟨x, hx⟩ : ∃ x : Nat, C.check.getD m 0 = x := ⟨(C.check.getD m 0).toNat, by omega⟩
      rw [if_pos e, hx, sumN_one (by omega)]
    · rw [if_neg e, sumN_zero fun s _ => if_neg (by omega)]
theorem lives_sum (T : Tbl) (C : Cmb) : ∀ n, livesN T C n = sumN (fun s => (liveL T s (C.dflt.getD s 0)).length) n
  | 0 => rfl
  | n + 1 => by simp only [livesN, sumN, lives_sum T C n]
theorem Full.used {T : Tbl} {C : Cmb} (h : Full T C) : usedN C C.check.length = livesN T C T.next.length := by
  rw [lives_sum, used_sum (n := T.next.length) fun i hi => ?_]
  · exact sumN_congr fun s hs => h.own hs
  · rcases h.slot i (by rw [← h.clen]; exact hi) with ⟨e, _⟩ | ⟨t, k, ht, _, e1, _⟩
    · omega
    · have := h.inn t ht; omega

end CB
end Go.Proofs.YtpeipjfmibjoiaaDoor
