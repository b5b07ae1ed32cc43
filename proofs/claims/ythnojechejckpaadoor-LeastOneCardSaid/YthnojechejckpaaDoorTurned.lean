/- bolterkit.Within; bolterlaw12.turned. -/
import Derived.Test.YthnojechejckpaaDoorTurnMath
import Derived.Test.YthnojechejckpaaDoorRefOps
import Derived.Test.YthnojechejckpaaDoorFound
import Derived.Test.YthnojechejckpaaDoorOwn
import Derived.Test.YthnojechejckpaaDoorDenseForm
import Derived.Deep.QuietTactic
import Derived.BigQuiet
namespace Go.Proofs.YthnojechejckpaaDoor
open Go.RowKit

set_option maxRecDepth 100000 in
set_option maxHeartbeats 1000000 in
theorem within_c (i : Int) (n : Nat) (w : World) (hn : 1 ≤ n) (hn2 : n ≤ 1000) :
    Calls Tryd.prog 15 #[.int .i64 i, .int .i64 n] w fun e w' => ∃ k : Nat, k < n ∧ e = .returned (.int .i64 k) ∧ Ext w w' := by
  have hn0 : ((n : Int) == 0) = false := by simp; omega
  have h1 : -(n : Int) < Int.tmod i n := by
    have := Int.lt_tmod_of_pos i (show (0 : Int) < n by omega); omega
  have h2 : Int.tmod i n < n := Int.tmod_lt_of_pos i (by omega)
  obtain ⟨m, hm⟩ : ∃ m, m = Int.tmod i n := ⟨_, rfl⟩
  rw [← hm] at h1 h2
  have hw : IntKind.i64.wrap m = m := IntWalk.i64_in _ (by omega)
  by_cases h0 : m < 0
  · have hw2 : IntKind.i64.wrap (m + n) = m + n := IntWalk.i64_in _ (by omega)
    go_enter Tryd.func15, Tryd.ntmps15
    go_wp2
    go_ret
    exact ⟨(m + n).toNat, by omega, ret_int (by omega), Ext.refl _⟩
  · go_enter Tryd.func15, Tryd.ntmps15
    go_wp2
    go_ret
    exact ⟨m.toNat, by omega, ret_int (by omega), Ext.refl _⟩

def TurnedR (w : World) (n : Nat) (cs : List Nat) (p f : Nat → Nat) (e : Ending) (w' : World) : Prop :=
  ∃ (r : List Nat) (v : Value), e = .returned v ∧ r.length = 256 ∧ (∀ c, c < 256 → LM.Rho n cs p (r.getD c 0) (f c)) ∧ w'.ownsRow w.heap.size 3 1 v 256 (natV r) ∧ Ext w w'

set_option maxRecDepth 100000 in
set_option maxHeartbeats 4000000 in
theorem turned_c {w : World} {br ro cr gN cN : Nat} {ca : Option Addr} {cc n salt : Nat} {f p : Nat → Nat} {cs : List Nat} (hP : LM.Perm0 n p) (hn : n ≤ 1000) (hsalt : salt ≤ 1000) (hl : ∀ c, c < 256 → w.cell? ⟨br, ro + c, none⟩ = some (.int .i64 (f c : Nat))) (hf : ∀ c, c < 256 → f c < n)
    (hnum : ∀ t, t < n → w.cell? ⟨gN, t, none⟩ = some (.int .i64 (p t : Nat))) (hm : cs.length ≤ 10) (hcc : 0 < cs.length → ∃ g, ca = some ⟨g, 0, none⟩ ∧ ∀ k, k < cs.length → w.cell? ⟨g, k, none⟩ = some (.int .i64 (cs.getD k 0 : Nat))) :
    Calls Tryd.prog 16 #[.slice (some ⟨br, ro, none⟩) 256 cr, .slice (some ⟨gN, 0, none⟩) n cN, .slice ca cs.length cc, .int .i64 (n : Int), .int .i64 (salt : Int)] w (TurnedR w n cs p f) := by
  obtain ⟨M, hM⟩ : ∃ M, M = cs.length := ⟨_, rfl⟩
  rw [← hM] at hm hcc ⊢
  have H := Lib.hid (And.intro hP (And.intro hl (And.intro hf (And.intro hnum (And.intro hcc hM)))))
  clear hP hl hf hnum hcc hM
  go_enter Tryd.func16, Tryd.ntmps16
  go_wp2
  go_loopw [11, 12] (fun ov cv wr => ∃ (c : Nat) (r : List Nat), c ≤ 256 ∧ cv = .int .i64 c ∧ r.length = c ∧ (∀ j, j < c → LM.Rho n cs p (r.getD j 0) (f j)) ∧ wr.ownsRow w.heap.size 3 1 ov c (natV r) ∧ Ext w wr) (fun _ cv _ => 256 - (intOf cv).toNat)
  case atStart => exact ⟨0, [], Nat.zero_le _, rfl, rfl, fun j hj => by omega, World.ownsRow_nil _ _ _ _, Ext.refl _⟩
  case round =>
    obtain ⟨c, r, hc, rfl, hr, hrho, hown, hx⟩ := hrel
    obtain ⟨ao, co, hov⟩ := own_shp hown
    subst hov
    by_cases hlt : c < 256
    · obtain ⟨t, ht⟩ : ∃ t, t = f c := ⟨_, rfl⟩
      have htn : t < n := by rw [ht]; exact H.out.2.2.1 c hlt
      have c1 := hx.cell (H.out.2.1 c hlt)
      rw [← ht] at c1
      have c2 := hx.cell (H.out.2.2.2.1 t htn)
      obtain ⟨y0, hy0⟩ : ∃ y, y = p t := ⟨_, rfl⟩
      rw [← hy0] at c2
      have hj1 : (t : Int) < n := by omega
      have hj2 : (c : Int) < 256 := by omega
      have HR := Lib.hid (And.intro hr (And.intro hrho (And.intro hown (And.intro hx (And.intro ht hy0)))))
      clear hr hrho hown hx ht hy0
      go_wp2
      clear c1 c2
      go_loopw [13, 14] (fun tv kv wi => ∃ (k y : Nat), k ≤ M ∧ kv = .int .i64 k ∧ tv = .int .i64 y ∧ LM.Rho n cs p y (f c) ∧ wi.ownsRow w.heap.size 3 1 (.slice ao c co) c (natV r) ∧ Ext w wi) (fun _ kv _ => M - (intOf kv).toNat)
      case atStart => exact ⟨0, y0, Nat.zero_le _, rfl, rfl, .inl ⟨by rw [← HR.out.2.2.2.2.1]; exact htn, by rw [HR.out.2.2.2.2.2, HR.out.2.2.2.2.1]⟩, HR.out.2.2.1, HR.out.2.2.2.1⟩
      case round =>
        obtain ⟨k, y, hk, rfl, rfl, hrho, hown, hx⟩ := hrel
        by_cases hltk : k < M
        · obtain ⟨g, hca, hck⟩ := H.out.2.2.2.2.1 (by omega)
          subst hca
          obtain ⟨q, hq⟩ : ∃ q, q = cs.getD k 0 := ⟨_, rfl⟩
          have c1 := hx.cell (H.out.2.1 c hlt)
          rw [← HR.out.2.2.2.2.1] at c1
          have c2 := hx.cell (hck k hltk)
          rw [← hq] at c2
          have hcsk : cs[k]? = some q := by
            rw [hq, List.getD_eq_getElem?_getD, List.getElem?_eq_getElem (by rw [← H.out.2.2.2.2.2]; exact hltk)]; rfl
          have hj3 : (k : Int) < M := by omega
          have HX := Lib.hid (And.intro hrho (And.intro hown (And.intro hx hcsk)))
          clear hrho hown hx hq hcsk hck
          have hsum : IntKind.i64.wrap ((c : Int) + salt) = (c : Int) + salt := IntWalk.i64_in _ (by omega)
          by_cases e : q = t
          · have e' : ((q : Int) == (t : Int)) = true := by simp [e]
            have HE := Lib.hid e
            clear e
            obtain ⟨a, ha⟩ : ∃ a, a = (c + salt) % 3 := ⟨_, rfl⟩
            obtain ⟨b, hb⟩ : ∃ b, b = k % 3 := ⟨_, rfl⟩
            have r1 : Int.tmod ((c : Int) + salt) 3 = (a : Int) := by rw [Int.tmod_eq_emod_of_nonneg (by omega)]; omega
            have r2 : Int.tmod (k : Int) 3 = (b : Int) := by rw [Int.tmod_eq_emod_of_nonneg (by omega)]; omega
            have w1 : IntKind.i64.wrap (a : Int) = a := IntWalk.i64_in _ (by omega)
            have w2 : IntKind.i64.wrap (b : Int) = b := IntWalk.i64_in _ (by omega)
            have w3 : IntKind.i64.wrap ((n : Int) + k) = (n : Int) + k := IntWalk.i64_in _ (by omega)
            by_cases em : a = b
            · have em' : ((a : Int) == (b : Int)) = true := by simp [em]
              clear ha hb em
              go_wp2
              go_quiet (fail)
              go_wp2
              go_roundw
              case rel => exact ⟨k + 1, n + k, by omega, by go_num, by go_num, .inr ⟨k, by rw [HX.out.2.2.2, HE.out, HR.out.2.2.2.2.1], rfl⟩, own_ext ((Ext.refl _).drewN _) HX.out.2.1, HX.out.2.2.1.drewN _⟩
              case measure => simp [intOf]; omega
            · have em' : ((a : Int) == (b : Int)) = false := by simp; omega
              clear ha hb em
              go_wp2
              go_quiet (fail)
              go_wp2
              go_roundw
              case rel => exact ⟨k + 1, y, by omega, by go_num, rfl, HX.out.1, own_ext ((Ext.refl _).drewN _) HX.out.2.1, HX.out.2.2.1.drewN _⟩
              case measure => simp [intOf]; omega
          · have e' : ((q : Int) == (t : Int)) = false := by simp; omega
            have HE := Lib.hid e
            clear e
            go_wp2
            go_quiet (fail)
            go_wp2
            go_roundw
            case rel => exact ⟨k + 1, y, by omega, by go_num, rfl, HX.out.1, own_ext ((Ext.refl _).drewN _) HX.out.2.1, HX.out.2.2.1.drewN _⟩
            case measure => simp [intOf]; omega
        · obtain rfl : M = k := by omega
          obtain ⟨i0, hi, hz0, hz1, hz2⟩ := info_parts int_info
          have hown' := hown.alloc (.cells #[.int .i64 (y : Int)] 3)
          have hcell := cell_one_new wr (.int .i64 (y : Int)) 3
          have h1c : ∀ u ∈ [Value.int .i64 (y : Int)], u.oneCell' = true := by intro u hu; simp at hu; subst hu; rfl
          have hbase : w.heap.size ≤ (wr.alloc (.cells #[.int .i64 (y : Int)] 3)).heap.size := by have := hx.size; simp; omega
          have hmax : c + 1 ≤ maxLen := by unfold maxLen; omega
          have HX := Lib.hid (And.intro hrho (And.intro hown hx))
          clear hrho hown hx hltk
          go_wp2_with (at_builtin; refine wpList_append_own_at _ rfl _ _ 23 rfl w.heap.size 3 i0 (.int .i64 0) 1 8 Tryd.underlying23 hi hz0 hz1 hz2 rfl (by decide) _ _ _ rfl hown' ⟨wr.heap.size, 0, none⟩ 1 1 [.int .i64 (y : Int)] rfl rfl hcell h1c hmax (by omega) hbase ?_; intro v' W hown9 hg _ hat)
          go_roundw
          case rel =>
            refine ⟨c + 1, r ++ [y], by omega, by go_num, by simp [HR.out.1], fun j hj => ?_, by rw [natV_snoc]; exact hown9, Below.grown (HX.out.2.2.trans (Ext.box wr _)) hg hbase (fun g e => (HX.out.2.1.lt g e).1)⟩
            have hrl := HR.out.1
            by_cases ej : j = c
            · subst ej
              rw [List.getD_eq_getElem?_getD, List.getElem?_append_right (by omega), hrl, Nat.sub_self]
              exact HX.out.1
            · rw [List.getD_eq_getElem?_getD, List.getElem?_append_left (by omega), ← List.getD_eq_getElem?_getD]
              exact HR.out.2.1 j (by omega)
          case measure => simp [intOf]; omega
    · obtain rfl : c = 256 := by omega
      have HX := Lib.hid (And.intro hr (And.intro hrho (And.intro hown hx)))
      clear hr hrho hown hx hlt
      go_wp2
      go_ret
      exact ⟨r, _, rfl, HX.out.1, HX.out.2.1, HX.out.2.2.1, HX.out.2.2.2⟩
end Go.Proofs.YthnojechejckpaaDoor
