/- The sentinels of package fault, as a row lists them; fault.Of and fault.Code of them. By mksents.py. -/
import Derived.Test.YtloooajippcdlaaDoorErrAs
import Derived.Stop.LaidErr
import Derived.LaidHandle
namespace Go.Proofs.YtloooajippcdlaaDoor
open Go.RowKit Go.Extern.Stop Go.Stop Go.Extern

section
variable {P : Program} {W : World} {nm : String} {ti tp te ts : TypeId} {ms : Array (String × TypeId)} {f : Field}
theorem sents_all (hi : P.underlying ti = some (.interface ms)) (hrow : ∀ u, P.typeName? 3 u = some nm → u = tp) (hp : P.underlying tp = some (.pointer te)) (he : P.underlying te = some (.struct #[f])) (hft : f.type = ts) (hfo : f.offset = 0) (hs : P.underlying ts = some .string) (hc : P.cellsOf te = 1) (hcs : P.cellsOf ts = 1) :
    ∀ (L : List (String × DataW Unit)) (ps : List MemPlace), DataW.LaidVars P W L ps → ps.Nodup → (∀ b off, MemPlace.cell b off ∈ ps → (∃ c t, W.heap[b]? = some (.cells c t (0, 0))) ∧ ∀ u v, W.cell? ⟨b, off, none⟩ = some (.iface u v) → Value.okWide P W .any 0 u v) →
      (∀ x ∈ L, ∃ text g, x.2 = .iface nm (.ptr (.agg [.lit (.string text)])) ∧ P.globalNamed x.1 = some g ∧ (P.globals[g]?).map (·.type) = some ti) →
      ∃ a : Nat → Addr, (∀ i x, L[i]? = some x → W.var? P x.1 = some #[.iface tp (.pointer (some (a i)))] ∧ MemPlace.cell (a i).block (a i).off ∈ ps ∧ ∃ c t, W.heap[(a i).block]? = some (.cells c t (0, 0))) ∧ ∀ i j, i < j → j < L.length → a i ≠ a j
  | [], _, _, _, _, _ => ⟨fun _ => ⟨0, 0, none⟩, fun i x h => by simp at h, fun i j _ h => by simp at h⟩
  | x :: r, ps, hl, hnd, hrows, hall => by
    obtain ⟨g, t, cs, fuel, p, q, hg, ht, hv, hd, hr, rfl⟩ := hl
    obtain ⟨text, g', e1, e2, e3⟩ := hall x (List.mem_cons_self ..)
    obtain rfl := Option.some.inj (e2.symm.trans hg)
    obtain rfl := Option.some.inj (e3.symm.trans ht)
    rw [e1] at hd
    obtain ⟨l0⟩ := cs
    have ok0 : ∀ u v, l0 = [.iface u v] → Value.okWide P W .any 0 u v := fun u v e => by
      subst e
      exact (hrows g' 0 (by simp [MemPlace.row])).2 u v (by simpa using World.var?_cell hg hv 0)
    obtain ⟨a0, s0, rfl, _, _, _, rfl⟩ := errorString_of_trod hi hrow hp he hft hfo hs hc hcs hd ok0
    have hb0 := (hrows a0.block a0.off (by simp [MemPlace.row])).1
    have hndq : q.Nodup := (List.nodup_append.1 hnd).2.1
    obtain ⟨a, ha, hne⟩ := sents_all hi hrow hp he hft hfo hs hc hcs r q hr hndq (fun b off h => hrows b off (List.mem_append_right _ h)) (fun y hy => hall y (List.mem_cons_of_mem _ hy))
    refine ⟨fun i => match i with | 0 => a0 | i + 1 => a i, fun i y hy => ?_, fun i j hij hj => ?_⟩
    · match i, hy with
      | 0, hy =>
        obtain rfl : x = y := by simpa using hy
        exact ⟨hv, by simp [MemPlace.row], hb0⟩
      | i + 1, hy =>
        obtain ⟨h1, h2, h3⟩ := ha i y (by simpa using hy)
        exact ⟨h1, List.mem_append_right _ h2, h3⟩
    · match i, j, hij with
      | 0, j + 1, _ =>
        have hj' : j < r.length := by simpa using hj
        obtain ⟨_, h2, _⟩ := ha j _ (List.getElem?_eq_getElem hj')
        intro e
        have e : a0 = a j := e
        subst e
        have h3 := (List.nodup_append.1 hnd).2.2
        exact h3 (MemPlace.cell (a j).block (a j).off) (List.mem_append_right _ (by simp [MemPlace.row])) _ h2 rfl
      | i + 1, j + 1, hij =>
        exact hne i j (by omega) (by simpa using hj)
end

def glN : List Nat := [2, 3, 4, 5, 6, 7, 8, 9, 10, 11, 12, 13, 14, 0, 15, 16]
/-- where the sentinel of a code stands -/
def gl (c : Nat) : Nat := glN.getD (c - 2) 0
structure Sents (W : World) (a : Nat → Addr) : Prop where
  et : W.cell? ⟨1, 0, none⟩ = some (.iface 185 (.agg #[.pointer (some ⟨17, 48, none⟩)]))
  cell : ∀ c, 2 ≤ c → c ≤ 17 → W.cell? ⟨gl c, 0, none⟩ = some (.iface 200 (.pointer (some (a c))))
  blk : ∀ c, 2 ≤ c → c ≤ 17 → ∃ cs t, W.heap[(a c).block]? = some (.cells cs t (0, 0))
  ne : ∀ c d, 2 ≤ c → c < d → d ≤ 17 → a c ≠ a d
theorem Sents.ext {W W' : World} {a : Nat → Addr} (h : Sents W a) (hx : Ext W W') : Sents W' a :=
  ⟨hx.cell h.et, fun c h1 h2 => hx.cell (h.cell c h1 h2), fun c h1 h2 => by
    obtain ⟨cs, t, h3⟩ := h.blk c h1 h2
    refine ⟨cs, t, ?_⟩
    rw [hx.block _ (by have := (Array.getElem?_eq_some_iff.1 h3).1; exact this)]; exact h3, h.ne⟩

theorem gl_of (c : Nat) (h1 : 2 ≤ c) (h2 : c ≤ 17) : (c = 2 ∧ gl c = 2) ∨ (c = 3 ∧ gl c = 3) ∨ (c = 4 ∧ gl c = 4) ∨ (c = 5 ∧ gl c = 5) ∨ (c = 6 ∧ gl c = 6) ∨ (c = 7 ∧ gl c = 7) ∨ (c = 8 ∧ gl c = 8) ∨ (c = 9 ∧ gl c = 9) ∨ (c = 10 ∧ gl c = 10) ∨ (c = 11 ∧ gl c = 11) ∨ (c = 12 ∧ gl c = 12) ∨ (c = 13 ∧ gl c = 13) ∨ (c = 14 ∧ gl c = 14) ∨ (c = 15 ∧ gl c = 0) ∨ (c = 16 ∧ gl c = 15) ∨ (c = 17 ∧ gl c = 16) := by
  rcases (by omega : c = 2 ∨ c = 3 ∨ c = 4 ∨ c = 5 ∨ c = 6 ∨ c = 7 ∨ c = 8 ∨ c = 9 ∨ c = 10 ∨ c = 11 ∨ c = 12 ∨ c = 13 ∨ c = 14 ∨ c = 15 ∨ c = 16 ∨ c = 17) with rfl | rfl | rfl | rfl | rfl | rfl | rfl | rfl | rfl | rfl | rfl | rfl | rfl | rfl | rfl | rfl
  all_goals simp [gl, glN]

set_option maxRecDepth 100000 in
set_option maxHeartbeats 4000000 in
theorem of_c {W : World} {a : Nat → Addr} (h : Sents W a) {c : Nat} (h1 : 2 ≤ c) (h2 : c ≤ 17) : Calls Tryd.prog 96 #[.int .i64 (c : Int)] W fun e w' => e = .returned (.iface 200 (.pointer (some (a c)))) ∧ W = w' := by
  have hc := h.cell c h1 h2
  have hgl := gl_of c h1 h2
  generalize a c = x at *
  clear h
  rcases hgl with hgl | hgl | hgl | hgl | hgl | hgl | hgl | hgl | hgl | hgl | hgl | hgl | hgl | hgl | hgl | hgl
  all_goals
    obtain ⟨rfl, hg⟩ := hgl
    rw [hg] at hc
    clear hg h1 h2
    go_enter Tryd.func96, Tryd.ntmps96
    go_wp2
    go_ret
    exact ⟨rfl, rfl⟩

set_option maxRecDepth 100000 in
set_option maxHeartbeats 1000000 in
/-- fault.Code of a sentinel -/
theorem code_c {W : World} {a : Nat → Addr} (h : Sents W a) {k : Nat} (h1 : 2 ≤ k) (h2 : k ≤ 17) : Calls Tryd.prog 89 #[.iface 200 (.pointer (some (a k)))] W fun e w' => e = .returned (.int .i64 (k : Int)) ∧ W = w' := by
  obtain ⟨x, hx⟩ : ∃ x, x = a k := ⟨_, rfl⟩
  rw [← hx]
  have H := Lib.hid (And.intro h hx)
  clear h hx
  go_enter Tryd.func89, Tryd.ntmps89
  go_wp2
  go_loop [3] (fun cv => ∃ c : Nat, 2 ≤ c ∧ c ≤ k ∧ cv = .int .i64 c) (fun cv => 18 - (intOf cv).toNat)
  case atStart => exact ⟨2, Nat.le_refl _, h1, rfl⟩
  case round =>
    obtain ⟨c, g1, g2, rfl⟩ := hrel
    have hj : (c : Int) ≤ 17 := by omega
    have ho := of_c H.out.1 g1 (by omega)
    obtain ⟨y, hy⟩ : ∃ y, y = a c := ⟨_, rfl⟩
    rw [← hy] at ho
    by_cases e : c = k
    · have hxy : x = y := by rw [hy, H.out.2, e]
      have HO := Lib.hid (And.intro ho (is_same y W))
      have HEQ := Lib.hid e
      clear ho hy e
      subst hxy
      go_wp2_with fail
      refine HO.out.1.mono ?_
      rintro e w1 ⟨rfl, rfl⟩
      go_wp2_with fail
      refine HO.out.2.mono ?_
      rintro e w2 ⟨rfl, rfl⟩
      go_wp2
      go_ret
      exact ⟨by rw [HEQ.out]; rfl, rfl⟩
    · obtain ⟨ca, ta, hb1⟩ := H.out.1.blk k h1 h2
      obtain ⟨cb, tb, hb2⟩ := H.out.1.blk c g1 (by omega)
      have hne := H.out.1.ne c k g1 (by omega) h2
      rw [← hy] at hb2 hne
      rw [← H.out.2] at hb1 hne
      have hlt : c < k := by omega
      have HO := Lib.hid (And.intro ho (is_other x y ca cb ta tb W (fun e => hne e.symm) hb1 hb2))
      clear ho hy hb1 hb2 hne e
      go_wp2_with fail
      refine HO.out.1.mono ?_
      rintro e w1 ⟨rfl, rfl⟩
      go_wp2_with fail
      refine HO.out.2.mono ?_
      rintro e w2 ⟨rfl, rfl⟩
      go_wp2
      go_round
      case rel => exact ⟨c + 1, by omega, by omega, by go_num⟩
      case measure => simp [intOf]; omega
end Go.Proofs.YtloooajippcdlaaDoor
