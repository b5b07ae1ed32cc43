/- refiner.begin: blocks by labels, of each state and byte those that lead to it, all blocks wait by all bytes. -/
import Derived.Test.YtpeipjfmibjoiaaDoorBegS
import Derived.Test.YtpeipjfmibjoiaaDoorRefine
import Derived.Test.YtpeipjfmibjoiaaDoorDn
namespace Go.Proofs.YtpeipjfmibjoiaaDoor
open Go.RowKit

/-- what begin has told: all that refine asks for -/
def Begun (w rb B mb : Nat) (f : Nat → Value) (d : Dn) (w1 : World) (e : Ending) (w' : World) : Prop :=
  e = .returned (.tuple #[]) ∧ ∃ own f' P Bs hs L n, RfI w' w' rb B f' d.next.length d.aut mb (LM.preL d.aut d.next.length) own f' P Bs hs L n ∧ (∀ i, i < 2 → f' i = f i) ∧ Bl (fun g => B ≤ g) w1 w' ∧ w = w

theorem arr_info : (Tryd.prog.info? 217).map (fun i => (i.zero, i.size, i.bytes)) = some (some (.agg (Array.replicate 256 (.slice none 0 0))), 256, 6144) := by kernel_rfl
theorem made256 {v : Value} {n q : Nat} (h : q < n) : (madeCells (Value.agg (Array.replicate 256 v)).cells n)[q]? = some v := by
  have h2 : q % 256 < 256 := Nat.mod_lt _ (by omega)
  simp [madeCells, Value.cells, h, h2]

theorem beg_added {w wc w4 : World} {rb B : Nat} {own : Nat → Nat} {f : Nat → Value} {k : Nat} {P : Nat → Nat} {Bs : List (List Nat)} {hs : List Value} {mb gM m : Nat} {F : Int → Option Nat} (h : BegS wc rb B own f k P Bs hs mb gM m F) (hB : Bl (fun g => B ≤ g) w wc)
    {b : Nat} {l : List Nat} {hv : Value} (hb : Bs[b]? = some l) (hhb : hs[b]? = some hv) {x gg cap Ln : Nat} (hLn : Ln = l.length) (hown : w4.ownsRow B 3 1 (.slice (some ⟨gg, 0, none⟩) (Ln + 1) cap) (Ln + 1) (natV l ++ [.int .i64 (x : Int)])) {O : Obj}
    (hg : (wc.alloc O).drew.grownBy w4 hv.ownBlock) (hat : hv.ownBlock = some gg ∨ gg = wc.heap.size + 1) {g4 c4 : Nat} (h4 : f 4 = .slice (some ⟨g4, 0, none⟩) Bs.length c4) :
    ∃ own' hs', BegS (w4.setCell ⟨g4, b, none⟩ (.slice (some ⟨gg, 0, none⟩) (Ln + 1) cap)) rb B own' f k P (Bs.set b (l ++ [x])) hs' mb gM m F ∧ Bl (fun g => B ≤ g) w (w4.setCell ⟨g4, b, none⟩ (.slice (some ⟨gg, 0, none⟩) (Ln + 1) cap)) := by
  subst hLn
  obtain ⟨own', h1, _⟩ := h.addTo ((Ext.box wc O).drew) hb hhb (v' := .slice (some ⟨gg, 0, none⟩) (l.length + 1) cap) rfl hown hg (hat.elim .inl fun h => .inr (by have h' : gg = wc.heap.size + 1 := h; show wc.heap.size ≤ gg; omega)) h4
  refine ⟨own', _, h1, ?_⟩
  have hg4 := (h.tab.lt g4 (by rw [h4]; rfl)).1
  exact ((hB.trans (.of_ext (Ext.box wc O).drew)).grown hg (fun g e => .inl ((h.rows b hv l hhb hb).1.lt g e).1)).setCell (.inl hg4) _

def prq (A : LM.Aut) (s c q : Nat) : List Nat := LM.preM A s c (q / 256) (q % 256)
theorem prq_step {A : LM.Aut} {s c t : Nat} (hc : c < 256) (ht : t = A.nx s c) : (fun q' => if q' = t * 256 + c then prq A s c (t * 256 + c) ++ [s] else prq A s c q') = prq A s (c + 1) := by
  funext q'
  unfold prq
  rw [LM.preM_step]
  by_cases e : q' = t * 256 + c
  · subst e
    rw [if_pos rfl, if_pos ⟨by omega, by rw [← ht]; omega⟩]
  · rw [if_neg e, if_neg (by rintro ⟨h1, h2⟩; rw [← ht] at h2; omega)]
set_option maxRecDepth 100000 in
theorem prq_next (A : LM.Aut) (s : Nat) : prq A s 256 = prq A (s + 1) 0 := by
  funext q'
  unfold prq
  rw [LM.preM_full _ _ _ _ (Nat.mod_lt _ (by omega)), LM.preM_zero]
theorem prq_len (A : LM.Aut) (s c q : Nat) : (prq A s c q).length ≤ s + 1 := LM.preM_len _ _ _ _ _

theorem beg_froadd {w wc w4 : World} {rb B : Nat} {own : Nat → Nat} {f : Nat → Value} {k : Nat} {P : Nat → Nat} {Bs : List (List Nat)} {hs : List Value} {mb gM m : Nat} {F : Int → Option Nat} {G N : Nat} {hd : Nat → Value} {pr : Nat → List Nat} (h : BegS wc rb B own f k P Bs hs mb gM m F) (hF : FroS wc B own G N hd pr)
    (hlen : Bs.length ≤ 900) (hB : Bl (fun g => B ≤ g) w wc) {q x gg cap Ln : Nat} (hq : q < N * 256) (hLn : Ln = (pr q).length) (hown : w4.ownsRow B 3 1 (.slice (some ⟨gg, 0, none⟩) (Ln + 1) cap) (Ln + 1) (natV (pr q) ++ [.int .i64 (x : Int)])) {O : Obj}
    (hg : (wc.alloc O).drew.grownBy w4 (hd q).ownBlock) (hat : (hd q).ownBlock = some gg ∨ gg = wc.heap.size + 1) :
    ∃ own' hd', BegS (w4.setCell ⟨G, q, none⟩ (.slice (some ⟨gg, 0, none⟩) (Ln + 1) cap)) rb B own' f k P Bs hs mb gM m F ∧ FroS (w4.setCell ⟨G, q, none⟩ (.slice (some ⟨gg, 0, none⟩) (Ln + 1) cap)) B own' G N hd' (fun q' => if q' = q then pr q ++ [x] else pr q') ∧
      Bl (fun g => B ≤ g) w (w4.setCell ⟨G, q, none⟩ (.slice (some ⟨gg, 0, none⟩) (Ln + 1) cap)) := by
  subst hLn
  obtain ⟨own', h1, h2⟩ := hF.add h hlen ((Ext.box wc O).drew) hq (v' := .slice (some ⟨gg, 0, none⟩) ((pr q).length + 1) cap) rfl hown hg (hat.elim .inl fun h => .inr (by have h' : gg = wc.heap.size + 1 := h; show wc.heap.size ≤ gg; omega))
  exact ⟨own', _, h1, h2, ((hB.trans (.of_ext (Ext.box wc O).drew)).grown hg (fun g e => .inl ((hF.rows q hq).1.lt g e).1)).setCell (.inl hF.gB) _⟩

/-- n splitters have been pushed -/
structure Ph3 (w wr : World) (rb B : Nat) (f0 : Nat → Value) (N : Nat) (P : Nat → Nat) (Bs : List (List Nat)) (hs : List Value) (mb : Nat) (pre : Nat → Nat → List Nat) (own : Nat → Nat) (f : Nat → Value) (L : List (Nat × Nat)) (n : Nat) : Prop where
  ref : RefS wr rb B own f N P Bs hs L mb n pre
  f5 : ∀ i, i ≠ 5 → f i = f0 i
  bl : Bl (fun g => B ≤ g) w wr
  all : ∀ b a, a < 256 → b * 256 + a < n → (b, a) ∈ L
  bd : ∀ p, p ∈ L → p.1 < Bs.length ∧ p.2 < 256
  len : L.length ≤ n

set_option maxRecDepth 100000 in
theorem Ph3.step {w wr w' : World} {rb B : Nat} {f0 : Nat → Value} {N : Nat} {P : Nat → Nat} {Bs : List (List Nat)} {hs : List Value} {mb : Nat} {pre : Nat → Nat → List Nat} {own : Nat → Nat} {f : Nat → Value} {L : List (Nat × Nat)} {b c : Nat} {e : Ending}
    (h : Ph3 w wr rb B f0 N P Bs hs mb pre own f L (b * 256 + c)) (hb : b < Bs.length) (hc : c < 256) (hp : PushR wr rb B own f N P Bs hs L mb (b * 256 + c) pre b c e w') :
    e = .returned (.tuple #[]) ∧ ∃ own' f' L', Ph3 w w' rb B f0 N P Bs hs mb pre own' f' L' (b * 256 + (c + 1)) := by
  obtain ⟨rfl, own', f', L', h1, h2, _, h4, h5, h6, h7, h8, _⟩ := hp
  have hl := h.len
  refine ⟨rfl, own', f', L', h1, fun i hi => (h2 i hi).trans (h.f5 i hi), h.bl.trans h4, fun b' a ha hlt => ?_, fun p hp => ?_, by omega⟩
  · by_cases e : b' * 256 + a < b * 256 + c
    · exact h6 _ (h.all b' a ha e)
    · obtain rfl : b' = b := by omega
      obtain rfl : a = c := by omega
      exact h5
  · rcases h7 p hp with h9 | rfl
    · exact h.bd p h9
    · exact ⟨hb, hc⟩

set_option maxRecDepth 100000 in
set_option maxHeartbeats 8000000 in
theorem begin_c {w0 w : World} {rb mb bn on cn bl ol cl : Nat} {f : Nat → Value} {d : Dn} (hm : May d) (hx : Ext w0 w) (hc : Cells w0 bn on bl ol d) (hrow : w.rowIs rb 160 7 f)
    (h0 : f 0 = .slice (some ⟨bn, on, none⟩) d.next.length cn) (h1 : f 1 = .slice (some ⟨bl, ol, none⟩) d.next.length cl) (h2 : f 2 = .slice none 0 0) (h3 : f 3 = .slice none 0 0) (h4 : f 4 = .slice none 0 0) (h5 : f 5 = .slice none 0 0) (h6 : f 6 = .map (some mb))
    (hB : w0.heap.size ≤ rb) (hBm : w0.heap.size ≤ mb) (hne : rb ≠ mb) (hset : SetM w mb 0 (fun _ _ => False)) :
    Calls Tryd.prog 100 #[.pointer (some ⟨rb, 0, none⟩)] w (Begun 0 rb w0.heap.size mb f d w) := by
  obtain ⟨N, hN⟩ : ∃ N, N = d.next.length := ⟨_, rfl⟩
  have hpos : 0 < N := by rw [hN]; exact hm.pos
  have hN6 : N ≤ 600 := by rw [hN]; exact hm.most
  obtain ⟨B, hBd⟩ : ∃ B, B = w0.heap.size := ⟨_, rfl⟩
  have H0 := Lib.hid (And.intro hm (And.intro hx (And.intro hc (And.intro hN (And.intro hBd (And.intro h2 (And.intro hset (And.intro hB (And.intro hBm hne)))))))))
  have c1 := hrow.cell (i := 1) (by omega)
  rw [h1, ← hN] at c1
  have hmm := @run_makeMap Tryd.prog
  obtain ⟨own0, hS0⟩ := BegS.start (B := B) (Z := w.alloc (.map #[] 0)) (gM := w.heap.size) hrow (by rw [hBd]; exact hB) (by rw [hBd]; exact hBm) hne hset h3 h4 h5 h6 (Ext.box _ _) (Nat.le_refl _) (IntM.made w) (fun _ => 0)
  have H1 := Lib.hid (And.intro h0 h1)
  have HS0 := Lib.hid hS0
  have hsz : w0.heap.size ≤ w.heap.size := hx.size
  have hrl := hrow.lt
  rw [← hBd] at hsz
  clear hm hx hc hrow h0 h1 h2 h3 h4 h5 h6 hB hBm hne hset hN hBd hS0
  go_enter Tryd.func100, Tryd.ntmps100
  go_wp2
  obtain ⟨gM, hgM⟩ : ∃ gM, gM = w.heap.size := ⟨_, rfl⟩
  rw [← hgM] at HS0 ⊢
  clear c1 hmm
  have HW := Lib.hid hgM
  clear hgM
  go_loopw [20] (fun kv wr => ∃ (k : Nat) (own : Nat → Nat) (f' : Nat → Value) (P : Nat → Nat) (Bs : List (List Nat)) (hs : List Value) (F : Int → Option Nat), k ≤ N ∧ kv = .int .i64 k ∧ BegS wr rb B own f' k P Bs hs mb gM Bs.length F ∧ LM.ByLab d.lb k P Bs F ∧ (∀ i, i < 3 → f' i = f i) ∧ Bl (fun g => B ≤ g) w wr) (fun kv _ => N - (intOf kv).toNat)
  case atStart => exact ⟨0, own0, f, fun _ => 0, [], [], fun _ => none, Nat.zero_le _, rfl, HS0.out, .nil _ _, fun _ _ => rfl, .of_ext (Ext.box _ _)⟩
  case round =>
    clear HS0
    obtain ⟨k, own, f1, P, Bs, hs, F, hk, rfl, hS, hL, hf, hbl⟩ := hrel
    by_cases hlt : k < N
    · have hxr : Ext w0 wr := hbl.ext H0.out.2.1 fun g hg => by have := H0.out.2.2.2.2.1; omega
      have hcl := hxr.cell (H0.out.2.2.1.label k (by rw [← H0.out.2.2.2.1]; exact hlt))
      have hlb := H0.out.1.label k (by rw [← H0.out.2.2.2.1]; exact hlt)
      obtain ⟨x, hxd⟩ : ∃ x, x = d.lb k := ⟨_, rfl⟩
      have hxb : -1 ≤ x ∧ x < 200 := by rw [hxd]; exact hlb
      rw [← hxd] at hcl
      have hlook := hS.seen.look (x := x) (by omega) (by omega)
      have hcount := hL.blk.count
      obtain ⟨K, hK⟩ : ∃ K, K = Bs.length := ⟨_, rfl⟩
      have HR := Lib.hid (And.intro hS (And.intro hL (And.intro hf (And.intro hbl (And.intro hxd hK)))))
      rw [← hK] at hcount
      obtain ⟨a4, k4, hv4⟩ := own_shape hS.tab
      have c4 := hS.row.cell (i := 4) (by omega)
      rw [hv4, ← hK] at c4
      have hxi1 : -1 ≤ x := hxb.1
      have hxi2 : x < 200 := hxb.2
      obtain ⟨q, hq⟩ : ∃ q, q = (F x).isSome := ⟨_, rfl⟩
      obtain ⟨y0, hy0⟩ : ∃ y0, y0 = (F x).getD 0 := ⟨_, rfl⟩
      rw [← hq, ← hy0] at hlook
      have HF := Lib.hid (And.intro hq (And.intro hy0 hv4))
      have hrl' := HR.out.1.row.lt
      clear hS hL hf hbl hxd hK hlb hxr hxb hq hy0 hv4
      go_upto_if 32 with fail
      go_cut [5] (fun v5 wx => ∃ (b : Nat) (l : List Nat) (own : Nat → Nat) (f' : Nat → Value) (P : Nat → Nat) (Bs : List (List Nat)) (hs : List Value) (F : Int → Option Nat), v5 = .int .i64 b ∧ BegS wx rb B own f' k P Bs hs mb gM Bs.length F ∧ Bs[b]? = some l ∧ l.length ≤ k ∧ Bs.length ≤ k + 1 ∧
        LM.ByLab d.lb (k + 1) (fun s => if s = k then b else P s) (Bs.set b (l ++ [k])) F ∧ (∀ i, i < 3 → f' i = f i) ∧ Bl (fun g => B ≤ g) w wx)
      case first =>
        cases q with
        | true =>
          go_wp2_with fail
          go_meet
          cases hF : F x with
          | none => have h := HF.out.1; rw [hF] at h; cases h
          | some b =>
            have hb := (HR.out.2.1.back _ _ hF).1
            obtain ⟨l, hl⟩ : ∃ l, Bs[b]? = some l := ⟨_, List.getElem?_eq_getElem hb⟩
            refine ⟨b, l, own, f1, P, Bs, hs, F, by rw [HF.out.2.1, hF]; rfl, HR.out.1, hl, HR.out.2.1.blk.len hl, by have := HR.out.2.1.blk.count; omega, HR.out.2.1.old (by rw [← HR.out.2.2.2.2.1]; exact hF) hl, HR.out.2.2.1, HR.out.2.2.2.1⟩
        | false =>
          have hFn : F x = none := by
            have h := HF.out.1
            cases hF : F x with
            | none => rfl
            | some b => rw [hF] at h; cases h
          have hs1 := HR.out.1.seen
          rw [← HR.out.2.2.2.2.2] at hs1
          obtain ⟨W6, hrun, hs6, ht6⟩ := hs1.store (by unfold maxLen; omega) (x := x) (by omega) (by omega) hFn (y := K) (by omega)
          rw [HR.out.2.2.2.2.2] at hs6
          have hS6 := HR.out.1.see hs6 ht6
          have hbl6 := HR.out.2.2.2.1.grown ht6.grown (fun g e => .inl (by simp only [Option.some.injEq] at e; subst e; exact HR.out.1.seenB))
          have c46 := hS6.row.cell (i := 4) (by omega)
          have hown := hS6.tab.alloc (.cells #[.slice none 0 0] 23)
          rw [HF.out.2.2, ← HR.out.2.2.2.2.2] at c46 hown
          obtain ⟨j0, hj, hw0, hw1, hw2⟩ := info_parts slice_info
          have hcell := cell_one_new W6 (.slice none 0 0) 23
          have h1c : ∀ u ∈ [Value.slice none 0 0], u.oneCell' = true := by intro u hu; simp at hu; subst hu; rfl
          have hbase : B ≤ (W6.alloc (.cells #[.slice none 0 0] 23)).heap.size := by have := hS6.row.lt; have := hS6.rbB; simp; omega
          have hmax : K + 1 ≤ maxLen := by unfold maxLen; omega
          have hrl6 := hS6.row.lt
          have hrw : (f1 4).ownBlock ≠ some rb := fun e => by have h1 := hS6.tabT rb e; have h2 := hS6.rbT; omega
          rw [HF.out.2.2, ← HR.out.2.2.2.2.2] at hrw
          have HS6 := Lib.hid (And.intro hS6 hbl6)
          have HFn := Lib.hid hFn
          clear hs1 hs6 ht6 hFn hS6 hbl6
          go_wp2_with (at_builtin; refine wpList_append_own_at _ rfl _ _ 22 rfl B 23 j0 (.slice none 0 0) 1 24 Tryd.underlying22 hj hw0 hw1 hw2 rfl (by decide) (.slice a4 K k4) K _ rfl hown ⟨W6.heap.size, 0, none⟩ 1 1 [.slice none 0 0] rfl rfl hcell h1c hmax (by omega) hbase ?_; intro v' W hown' hg _ hat; obtain ⟨gg, cap, hv', hgg1, hgg2⟩ := own_slc hown' (by omega); subst hv'; have r4 : W.rowIs rb 160 7 f1 := (HS6.out.1.row.alloc (.cells #[.slice none 0 0] 23)).of_block (hg.block rb (by simp; omega) (Ne.symm hrw)); have c4W := r4.cell (i := 4) (by omega); have f4W := r4.frozen 4)
          go_wp2_with fail
          go_meet
          rw [HR.out.2.2.2.2.2] at hown' hat ⊢
          rw [HR.out.2.2.2.2.2] at hg
          rw [← HF.out.2.2] at hg hat
          obtain ⟨own', hS7, ho⟩ := HS6.out.1.addRow (Ext.box W6 _) hown' hg (by
            rcases hat with h1 | h1
            · exact .inl (by rw [← h1]; rfl)
            · right; simp [Value.ownBlock] at h1; omega)
          have hbl7 : Bl (fun g => B ≤ g) w (W.setCell ⟨rb, 4, none⟩ (.slice (some ⟨gg, 0, none⟩) (Bs.length + 1) cap)) :=
            ((HS6.out.2.trans (.of_ext (Ext.box W6 _))).grown hg (fun g e => .inl (HS6.out.1.tab.lt g e).1)).setCell (.inl HS6.out.1.rbB) _
          refine ⟨Bs.length, [], own', _, P, Bs ++ [[]], hs ++ [.slice none 0 0], fun x' => if x' = x then some Bs.length else F x', rfl, by simpa using hS7, by simp, by simp, by have := HR.out.2.1.blk.count; simp; omega, ?_, fun i hi => ?_, hbl7⟩
          · have h := HR.out.2.1.new (by rw [← HR.out.2.2.2.2.1]; exact HFn.out)
            rw [← HR.out.2.2.2.2.1] at h
            have e : (Bs ++ [[]]).set Bs.length ([] ++ [k]) = Bs ++ [[k]] := by simp
            rw [e]; exact h
          · exact (if_neg (by omega)).trans (HR.out.2.2.1 i hi)
      case rest =>
        clear hlook hcl c4 HF HR hrl'
        obtain ⟨b, l, own, f1, P, Bs, hs, F, rfl, hS, hbl, hll, hBl, hL, hf, hbl'⟩ := hcut
        have hbB := (List.getElem?_eq_some_iff.1 hbl).1
        have hhl := hS.hlen
        obtain ⟨hv, hhv⟩ : ∃ hv, hs[b]? = some hv := ⟨_, List.getElem?_eq_getElem (by rw [hhl]; exact hbB)⟩
        obtain ⟨g4, k4, hf4, hg4, hg4'⟩ := own_slc hS.tab (by omega)
        have c4 := hS.row.cell (i := 4) (by omega)
        rw [hf4] at c4
        have htab := hS.tab
        rw [hf4] at htab
        have ch := (htab.cellAt b (by omega)).trans hhv
        have hown := (hS.rows b hv l hhv hbl).1
        have hrl' := hS.row.lt
        have hrB := hS.rbB
        have hrT := hS.rbT
        have hgT := hS.tabT g4 (by rw [hf4]; rfl)
        have hnr : hv.ownBlock ≠ some rb := fun e => by have := (hS.rows b hv l hhv hbl).2 rb e; omega
        have hn4 : hv.ownBlock ≠ some g4 := fun e => by have := (hS.rows b hv l hhv hbl).2 g4 e; omega
        have hrg : rb ≠ g4 := by rintro rfl; omega
        obtain ⟨K, hK⟩ : ∃ K, K = Bs.length := ⟨_, rfl⟩
        obtain ⟨Ln, hLn⟩ : ∃ Ln, Ln = l.length := ⟨_, rfl⟩
        rw [← hK] at c4 hbB hBl
        rw [← hLn] at hown hll
        have HQ := Lib.hid (And.intro hS (And.intro hbl (And.intro hhv (And.intro hL (And.intro hf (And.intro hbl' (And.intro hK (And.intro hLn hf4))))))))
        have hrow := hS.row
        have f4g := htab.frozenAt b
        have hj1 : (b : Int) < K := by omega
        obtain ⟨i0, hi, hz0, hz1, hz2⟩ := info_parts int_info
        have hbase : B ≤ wc.heap.size := by omega
        have hmax : Ln + 1 ≤ maxLen := by unfold maxLen; omega
        clear hS hbl hhv hL hf hbl' hK hLn hhl htab hf4 hrow
        have hbase' : B ≤ ((wc.alloc (.cells #[.int .i64 (k : Int)] 3)).drew).heap.size := by simp; omega
        go_upto_region 9 with fail
        go_cut [5] (fun s5 wx => s5 = .int .i64 (b : Int) ∧ ∃ own' hs', BegS wx rb B own' f1 k P (Bs.set b (l ++ [k])) hs' mb gM Bs.length F ∧ Bl (fun g => B ≤ g) w wx)
        case first =>
         go_region_law ((refine step_append_lies _ (by rfl) _ _ _ (by rfl) B 3 i0 _ 1 8 Tryd.underlying23 hi hz0 hz1 hz2 rfl (by omega) hv Ln (natV l) (by rfl) ((hown.alloc (.cells #[.int .i64 (k : Int)] 3)).drew) ⟨wc.heap.size, 0, none⟩ 1 1 [.int .i64 (k : Int)] (by rfl) (by rfl) (World.news_of_block (cs := #[.int .i64 (k : Int)]) (t := 3) (fr := (0, 0)) (heap_alloc_new wc _)) (by simp [Value.oneCell']) (by omega) hmax (by omega) (by simp; omega) (wc.heap.size + 1) (by simp) ?_; intro gg cap w4 hown4 hgrow hat hlt4; have r4 := ((HQ.out.1.row.alloc (.cells #[.int .i64 (k : Int)] 3)).drew).of_block (hgrow.block rb (by simp; omega) (Ne.symm hnr)); have c44 : w4.cell? ⟨rb, 4, none⟩ = some (.slice (some ⟨g4, 0, none⟩) K k4) := (by rw [HQ.out.2.2.2.2.2.2.1, ← HQ.out.2.2.2.2.2.2.2.2]; exact r4.cell (by omega)); have hk4 := hgrow.block g4 (by simp; omega) (Ne.symm hn4); have ch4 : w4.cell? ⟨g4, b, none⟩ = some hv := (World.cell?_of_block (a := ⟨g4, b, none⟩) hk4).trans (((Ext.box wc (.cells #[.int .i64 (k : Int)] 3)).drew).cell ch); have fh4 : w4.frozen? ⟨g4, b, none⟩ = false := (World.frozen?_of_block (a := ⟨g4, b, none⟩) hk4).trans ((Below.frozen ((Ext.box wc (.cells #[.int .i64 (k : Int)] 3)).drew) (p := ⟨g4, b, none⟩) hg4').trans f4g)))
         all_goals (go_wp2_with fail; go_meet; exact ⟨rfl, beg_added HQ.out.1 HQ.out.2.2.2.2.2.1 HQ.out.2.1 HQ.out.2.2.1 HQ.out.2.2.2.2.2.2.2.1 hown4 hgrow hat HQ.out.2.2.2.2.2.2.2.2⟩)
        case rest =>
          clear c4 ch hown hgT hrT hnr hn4 hrg f4g hbase hbase' hrl' hg4'
          obtain ⟨rfl, own', hs', hS, hblw⟩ := hcut
          obtain ⟨a3, k3, hv3⟩ := own_shape hS.block
          have c3 := hS.row.cell (i := 3) (by omega)
          have hown := hS.block.alloc (.cells #[.int .i64 (b : Int)] 3)
          rw [hv3] at c3 hown
          have hcell := cell_one_new wc (.int .i64 (b : Int)) 3
          have h1c : ∀ u ∈ [Value.int .i64 (b : Int)], u.oneCell' = true := by intro u hu; simp at hu; subst hu; rfl
          have hrl' := hS.row.lt
          have hbase : B ≤ (wc.alloc (.cells #[.int .i64 (b : Int)] 3)).heap.size := by simp; omega
          have hmax3 : k + 1 ≤ maxLen := by unfold maxLen; omega
          have hrw : (f1 3).ownBlock ≠ some rb := fun e => by have h1 := hS.blockT rb e; have h2 := hS.rbT; omega
          rw [hv3] at hrw
          have HS := Lib.hid (And.intro hS (And.intro hblw hv3))
          clear hS hblw hv3
          go_wp2_with (at_builtin; refine wpList_append_own_at _ rfl _ _ 23 rfl B 3 i0 (.int .i64 0) 1 8 Tryd.underlying23 hi hz0 hz1 hz2 rfl (by decide) (.slice a3 k k3) k _ rfl hown ⟨wc.heap.size, 0, none⟩ 1 1 [.int .i64 (b : Int)] rfl rfl hcell h1c hmax3 (by omega) hbase ?_; intro v' W hown' hg _ hat; obtain ⟨gg, cap, hv', hgg1, hgg2⟩ := own_slc hown' (by omega); subst hv'; have r4 : W.rowIs rb 160 7 f1 := (HS.out.1.row.alloc (.cells #[.int .i64 (b : Int)] 3)).of_block (hg.block rb (by simp; omega) (Ne.symm hrw)); have c3W := r4.cell (i := 3) (by omega); have f3W := r4.frozen 3)
          rw [← HS.out.2.2] at hg hat
          obtain ⟨own'', hS7, ho⟩ := HS.out.1.addBlock (Ext.box wc _) (x := b) hown' hg (by
            rcases hat with h1 | h1
            · exact .inl (by rw [← h1]; rfl)
            · right; simp [Value.ownBlock] at h1; omega)
          have hbl7 : Bl (fun g => B ≤ g) w (W.setCell ⟨rb, 3, none⟩ (.slice (some ⟨gg, 0, none⟩) (k + 1) cap)) :=
            ((HS.out.2.1.trans (.of_ext (Ext.box wc _))).grown hg (fun g e => .inl (HS.out.1.block.lt g e).1)).setCell (.inl HS.out.1.rbB) _
          go_roundw
          case rel =>
            refine ⟨k + 1, own'', _, _, Bs.set b (l ++ [k]), hs', F, by omega, by go_num, by simpa using hS7, HQ.out.2.2.2.1, fun i hi => ?_, hbl7⟩
            exact (if_neg (by omega)).trans (HQ.out.2.2.2.2.1 i hi)
          case measure => simp [intOf]; omega
    · obtain rfl : N = k := by omega
      have hcnt := hL.blk.count
      have hlen : Bs.length ≤ 900 := by omega
      have c0 := hS.row.cell (i := 0) (by omega)
      rw [hf 0 (by omega), H1.out.1, ← H0.out.2.2.2.1] at c0
      have f2r := hS.row.frozen 2
      have c2r := hS.row.cell (i := 2) (by omega)
      have hmk := run_make_any (P := Tryd.prog) 157 217 (.agg (Array.replicate 256 (.slice none 0 0))) 256 6144 Tryd.underlying157 arr_info .i64 .i64 N (by omega) (by omega)
      have hrl' := hS.row.lt
      have hS2 := hS.setFrom (.slice (some ⟨wr.heap.size, 0, none⟩) N N)
      obtain ⟨own2, hS3, hF3⟩ := FroS.start hS2 hlen (Ext.box _ (.cells (madeCells (Value.agg (Array.replicate 256 (.slice none 0 0))).cells (N * 256)) 217)) (G := wr.heap.size) (N := N) (by rw [World.size_setCell]; exact Nat.le_refl _) (fun q hq => by
        have h := new_cell (w := wr.setCell ⟨rb, 2, none⟩ (.slice (some ⟨wr.heap.size, 0, none⟩) N N)) (t := 217) (made256 (v := .slice none 0 0) hq)
        rw [World.size_setCell] at h; exact h) (fun q => by
        have h := new_frozen (wr.setCell ⟨rb, 2, none⟩ (.slice (some ⟨wr.heap.size, 0, none⟩) N N)) (madeCells (Value.agg (Array.replicate 256 (.slice none 0 0))).cells (N * 256)) 217 q
        rw [World.size_setCell] at h; exact h)
      have hbl3 : Bl (fun g => B ≤ g) w ((wr.setCell ⟨rb, 2, none⟩ (.slice (some ⟨wr.heap.size, 0, none⟩) N N)).alloc (.cells (madeCells (Value.agg (Array.replicate 256 (.slice none 0 0))).cells (N * 256)) 217)) :=
        (hbl.setCell (.inl hS.rbB) _).trans (.of_ext (Ext.box _ _))
      have HS3 := Lib.hid (And.intro hS3 (And.intro hF3 (And.intro hbl3 (And.intro hL (And.intro hf hlen)))))
      clear hS hL hf hbl hS2 hS3 hF3 hbl3 hlt hk
      go_upto_region 13 with fail
      rw [show (Value.agg (Array.replicate 256 (Value.slice none 0 0))).cells = Array.replicate 256 (.slice none 0 0) from rfl] at HS3
      generalize World.alloc _ _ = W3 at HS3 ⊢
      obtain ⟨G, hG⟩ : ∃ G, G = wr.heap.size := ⟨_, rfl⟩
      rw [← hG] at HS3
      obtain ⟨f3, hf3⟩ : ∃ f3 : Nat → Value, f3 = (fun i => if i = 2 then .slice (some ⟨G, 0, none⟩) N N else f1 i) := ⟨_, rfl⟩
      rw [← hf3] at HS3
      have hf30 : f3 0 = .slice (some ⟨bn, on, none⟩) N cn := by
        rw [hf3, H0.out.2.2.2.1]
        exact (HS3.out.2.2.2.2.1 0 (by omega)).trans H1.out.1
      have hf32 : f3 2 = .slice (some ⟨G, 0, none⟩) N N := by rw [hf3]; rfl
      have HF3 := Lib.hid (And.intro hf3 (And.intro hf30 hf32))
      have c0 := HS3.out.1.row.cell (i := 0) (by omega)
      rw [hf30] at c0
      have hrl3 := HS3.out.1.row.lt
      clear hf3 hf30 hf32 hG f2r c2r hmk hrl'
      go_wp2
      clear c0
      go_loopw [93] (fun kv wk => ∃ (s : Nat) (own : Nat → Nat) (hd : Nat → Value), s ≤ N ∧ kv = .int .i64 s ∧ BegS wk rb B own f3 N P Bs hs mb gM Bs.length F ∧ FroS wk B own G N hd (prq d.aut s 0) ∧ Bl (fun g => B ≤ g) w wk) (fun kv _ => N - (intOf kv).toNat)
      case atStart => exact ⟨0, own2, _, Nat.zero_le _, rfl, HS3.out.1, HS3.out.2.1, HS3.out.2.2.1⟩
      case round =>
        obtain ⟨s, own, hd, hs', rfl, hS, hF, hbl⟩ := hrel
        by_cases hlt : s < N
        · have hxr : Ext w0 wr := hbl.ext H0.out.2.1 fun g hg => by have := H0.out.2.2.2.2.1; omega
          obtain ⟨br, ro, cr, hcr, hcv⟩ := H0.out.2.2.1.row s (by rw [← H0.out.2.2.2.1]; exact hlt)
          have cr0 := hxr.cell hcr
          have HCV := Lib.hid hcv
          have HZ := Lib.hid (And.intro hS (And.intro hF hbl))
          clear hcr hcv hS hF hbl hxr
          go_wp2
          clear cr0
          go_loopw [100] (fun cv wi => ∃ (c : Nat) (own : Nat → Nat) (hd : Nat → Value), c ≤ 256 ∧ cv = .int .i64 c ∧ BegS wi rb B own f3 N P Bs hs mb gM Bs.length F ∧ FroS wi B own G N hd (prq d.aut s c) ∧ Bl (fun g => B ≤ g) w wi) (fun cv _ => 256 - (intOf cv).toNat)
          case atStart => exact ⟨0, own, hd, Nat.zero_le _, rfl, HZ.out.1, HZ.out.2.1, HZ.out.2.2⟩
          case round =>
            clear HZ
            obtain ⟨c, own, hd, hc', rfl, hS, hF, hbl⟩ := hrel
            by_cases hltc : c < 256
            · have hxr : Ext w0 wr := hbl.ext H0.out.2.1 fun g hg => by have := H0.out.2.2.2.2.1; omega
              obtain ⟨t, ht⟩ : ∃ t, t = d.nx s c := ⟨_, rfl⟩
              have ct := hxr.cell (HCV.out c hltc)
              rw [← ht] at ct
              have htN : t < N := by rw [ht, H0.out.2.2.2.1]; exact H0.out.1.nx_lt (by rw [← H0.out.2.2.2.1]; exact hlt) hltc
              have hq : t * 256 + c < N * 256 := by omega
              have cG := hF.cell _ hq
              have fG := hF.frz (t * 256 + c)
              have hrow := hF.rows _ hq
              have c2 := hS.row.cell (i := 2) (by omega)
              rw [HF3.out.2.2] at c2
              have hrl' := hS.row.lt
              have hrB := hS.rbB
              have hGl := lt_of_cell cG
              obtain ⟨hv, hhv⟩ : ∃ hv, hv = hd (t * 256 + c) := ⟨_, rfl⟩
              have hnr : hv.ownBlock ≠ some rb := fun e => by have h1 := hrow.2 rb (by rw [← hhv]; exact e); have := hS.rbT; omega
              have hnG : hv.ownBlock ≠ some G := fun e => by have h1 := hrow.2 G (by rw [← hhv]; exact e); have := hF.gT; omega
              have hrG : rb ≠ G := by
                have h1 := hS.rbT
                have h2 := hF.gT
                rintro rfl; omega
              obtain ⟨Ln, hLn⟩ : ∃ Ln, Ln = (prq d.aut s c (t * 256 + c)).length := ⟨_, rfl⟩
              have hL6 : Ln ≤ s + 1 := by rw [hLn]; exact prq_len _ _ _ _
              have hown := hrow.1
              rw [← hLn, ← hhv] at hown
              rw [← hhv] at cG
              have HQ := Lib.hid (And.intro hS (And.intro hF (And.intro hbl (And.intro ht (And.intro hhv (And.intro hLn hq))))))
              have hj1 : (t : Int) < N := by omega
              have hj2 : (c : Int) < 256 := by omega
              obtain ⟨i0, hi, hz0, hz1, hz2⟩ := info_parts int_info
              have hbase : B ≤ wr.heap.size := by omega
              have hmax : Ln + 1 ≤ maxLen := by unfold maxLen; omega
              have hbase' : B ≤ ((wr.alloc (.cells #[.int .i64 (s : Int)] 3)).drew).heap.size := by simp; omega
              clear hS hF hbl ht hrow hhv hLn hxr
              go_upto_region 19 with fail
              go_region_law ((refine step_append_lies _ (by rfl) _ _ _ (by rfl) B 3 i0 _ 1 8 Tryd.underlying23 hi hz0 hz1 hz2 rfl (by omega) hv Ln (natV (prq d.aut s c (t * 256 + c))) (by rfl) ((hown.alloc (.cells #[.int .i64 (s : Int)] 3)).drew) ⟨wr.heap.size, 0, none⟩ 1 1 [.int .i64 (s : Int)] (by rfl) (by rfl) (World.news_of_block (cs := #[.int .i64 (s : Int)]) (t := 3) (fr := (0, 0)) (heap_alloc_new wr _)) (by simp [Value.oneCell']) (by omega) hmax (by omega) (by simp; omega) (wr.heap.size + 1) (by simp) ?_; intro gg cap w4 hown4 hgrow hat hlt4; have r4 := ((HQ.out.1.row.alloc (.cells #[.int .i64 (s : Int)] 3)).drew).of_block (hgrow.block rb (by simp; omega) (Ne.symm hnr)); have c24 : w4.cell? ⟨rb, 2, none⟩ = some (.slice (some ⟨G, 0, none⟩) N N) := (by rw [← HF3.out.2.2]; exact r4.cell (by omega)); have hk4 := hgrow.block G (by simp; omega) (Ne.symm hnG); have ch4 : w4.cell? ⟨G, t * 256 + c, none⟩ = some hv := (World.cell?_of_block (a := ⟨G, t * 256 + c, none⟩) hk4).trans (((Ext.box wr (.cells #[.int .i64 (s : Int)] 3)).drew).cell cG); have fh4 : w4.frozen? ⟨G, t * 256 + c, none⟩ = false := (World.frozen?_of_block (a := ⟨G, t * 256 + c, none⟩) hk4).trans ((Below.frozen ((Ext.box wr (.cells #[.int .i64 (s : Int)] 3)).drew) (p := ⟨G, t * 256 + c, none⟩) hGl).trans fG)))
              all_goals
                obtain ⟨own', hd', hS5, hF5, hbl5⟩ := beg_froadd HQ.out.1 HQ.out.2.1 HS3.out.2.2.2.2.2 HQ.out.2.2.1 HQ.out.2.2.2.2.2.2 HQ.out.2.2.2.2.2.1 hown4 (by rw [← HQ.out.2.2.2.2.1]; exact hgrow) (by rw [← HQ.out.2.2.2.2.1]; exact hat)
                rw [prq_step hltc HQ.out.2.2.2.1] at hF5
                have HZ := Lib.hid (And.intro hS5 (And.intro hF5 hbl5))
                clear hS5 hF5 hbl5 ct cG fG c2 hown hbase hbase' hnr hnG hrG hGl hown4 hgrow hat r4 c24 hk4 ch4 fh4
                generalize World.setCell _ _ _ = W5 at HZ ⊢
                go_wp2
                go_roundw
                case rel => exact ⟨c + 1, own', hd', by omega, by go_num, HZ.out⟩
                case measure => simp [intOf]; omega
            · obtain rfl : c = 256 := by omega
              rw [prq_next] at hF
              have HZ := Lib.hid (And.intro hS (And.intro hF hbl))
              clear hS hF hbl
              go_wp2
              go_roundw
              case rel => exact ⟨s + 1, own, hd, by omega, by go_num, HZ.out⟩
              case measure => simp [intOf]; omega
        · obtain rfl : N = s := by omega
          obtain ⟨own3, hR⟩ := hS.done hF hpos HS3.out.2.2.2.2.2 HF3.out.2.2 (pre := LM.preL d.aut N) (fun s a _ ha => by
            unfold prq
            rw [LM.preM_zero, show (s * 256 + a) / 256 = s by omega, show (s * 256 + a) % 256 = a by omega])
          obtain ⟨g4, k4, hf4, _, _⟩ := own_slc hR.tab (by have := HS3.out.2.2.2.1.blk.lt 0 hpos; omega)
          have c4 := hR.row.cell (i := 4) (by omega)
          rw [hf4] at c4
          obtain ⟨K, hK⟩ : ∃ K, K = Bs.length := ⟨_, rfl⟩
          rw [← hK] at c4 hcnt
          have HZ := Lib.hid (And.intro hR (And.intro hbl hK))
          clear hS hF hbl hR hf4 hK hlt hs'
          go_wp2
          clear c4
          go_loopw [132] (fun kv wk => ∃ (b : Nat) (own : Nat → Nat) (f' : Nat → Value) (L : List (Nat × Nat)), b ≤ K ∧ kv = .int .i64 b ∧ Ph3 w wk rb B f3 N P Bs hs mb (LM.preL d.aut N) own f' L (b * 256 + 0)) (fun kv _ => K - (intOf kv).toNat)
          case atStart => exact ⟨0, own3, f3, [], Nat.zero_le _, rfl, HZ.out.1, fun _ _ => rfl, HZ.out.2.1, fun b a _ h => by omega, fun p hp => (by cases hp), Nat.zero_le _⟩
          case round =>
            obtain ⟨b, own, f', L, hb, rfl, hP⟩ := hrel
            by_cases hltb : b < K
            · have HP := Lib.hid hP
              clear hP
              go_wp2
              go_loopw [135] (fun cv wi => ∃ (c : Nat) (own : Nat → Nat) (f' : Nat → Value) (L : List (Nat × Nat)), c ≤ 256 ∧ cv = .int .i64 c ∧ Ph3 w wi rb B f3 N P Bs hs mb (LM.preL d.aut N) own f' L (b * 256 + c)) (fun cv _ => 256 - (intOf cv).toNat)
              case atStart => exact ⟨0, own, f', L, Nat.zero_le _, rfl, HP.out⟩
              case round =>
                clear HP
                obtain ⟨c, own, f', L, hc, rfl, hP⟩ := hrel
                by_cases hltc : c < 256
                · have hp := push_r hP.ref (x := b) (y := c) (by omega) (by omega) (by omega) (by have := hP.len; omega)
                  unfold splV at hp
                  have HPU := Lib.hid (And.intro hp hP)
                  clear hp hP
                  go_wp2_with fail
                  refine HPU.out.1.mono ?_
                  intro e w9 hr
                  obtain ⟨rfl, own9, f9, L9, h9⟩ := HPU.out.2.step (by rw [← HZ.out.2.2]; exact hltb) hltc hr
                  have H9 := Lib.hid h9
                  clear hr h9
                  go_wp2
                  go_roundw
                  case rel => exact ⟨c + 1, own9, f9, L9, by omega, by go_num, H9.out⟩
                  case measure => simp [intOf]; omega
                · obtain rfl : c = 256 := by omega
                  have HP := Lib.hid hP
                  clear hP
                  go_wp2
                  go_roundw
                  case rel => exact ⟨b + 1, own, f', L, by omega, by go_num, by have h := HP.out; rw [show b * 256 + 256 = (b + 1) * 256 + 0 by omega] at h; exact h⟩
                  case measure => simp [intOf]; omega
            · obtain rfl : K = b := by omega
              have HP := Lib.hid hP
              clear hP hltb
              go_wp2
              go_end0
              have hP := HP.out
              have hL := HS3.out.2.2.2.1
              have hKB := HZ.out.2.2
              refine ⟨rfl, own, f', P, Bs, hs, L, K * 256 + 0, ⟨?_, fun _ _ => rfl, .refl _ _, ?_, ?_, hP.bd, by rw [hKB]; omega, hP.len⟩, fun i hi => ?_, ?_, rfl⟩
              · rw [← H0.out.2.2.2.1, ← H0.out.2.2.2.2.1]; exact hP.ref
              · rw [← H0.out.2.2.2.1]; exact hL.blk
              · refine LM.Hop.start H0.out.1.ok (fun s t hs ht => hL.iff (by rw [H0.out.2.2.2.1]; exact hs) (by rw [H0.out.2.2.2.1]; exact ht)) (fun s a hs ha => ?_)
                have h1 := hL.blk.lt s (by rw [H0.out.2.2.2.1]; exact hs)
                exact hP.all _ a ha (by omega)
              · rw [hP.f5 i (by omega), HF3.out.1]
                exact (if_neg (by omega)).trans (HS3.out.2.2.2.2.1 i (by omega))
              · rw [← H0.out.2.2.2.2.1]; exact hP.bl
end Go.Proofs.YtpeipjfmibjoiaaDoor
