/- witness.Never where it refuses. -/
import Derived.Test.YtloooajippcdlaaDoorNever1
import Derived.Test.YtloooajippcdlaaDoorDenses
import Derived.Test.YtloooajippcdlaaDoorTell
namespace Go.Proofs.YtloooajippcdlaaDoor
open Go.RowKit Go.Maps

attribute [local go_sem] Oper.semAt_some

set_option maxRecDepth 100000 in
set_option maxHeartbeats 4000000 in
theorem never_no {w : World} {v : Value} {L : List Dn} {rules : Int} {a : Nat → Addr} (h : DensesV w v L) (hno : ¬ ((∀ d ∈ L, May d) ∧ 0 ≤ rules ∧ rules ≤ 200)) (hS : Sents w a) :
    Calls Tryd.prog 17 #[v, .int .i64 rules] w fun e w' => e = .returned (.tuple #[.slice none 0 0, .iface 200 (.pointer (some (a 15)))]) ∧ Ext w w' := by
  obtain ⟨hl0, la, lc, rfl, _, hlo⟩ := h.open
  obtain ⟨LN, hLN⟩ : ∃ N, N = L.length := ⟨_, rfl⟩
  rw [← hLN] at hl0 hlo ⊢
  have hg := hS.cell 15 (by omega) (by omega)
  rw [show gl 15 = 0 from rfl] at hg
  have hcs : ∃ rb : Bool, (rb = true ∧ rules < 0 ∨ rb = true ∧ ¬ rules < 0 ∧ 200 < rules ∨ rb = false ∧ ¬ rules < 0 ∧ ¬ 200 < rules) ∧ (rb = true ∨ ∃ d ∈ L, ¬ May d) := by
    by_cases h1 : rules < 0
    · exact ⟨true, .inl ⟨rfl, h1⟩, .inl rfl⟩
    by_cases h2 : 200 < rules
    · exact ⟨true, .inr (.inl ⟨rfl, h1, h2⟩), .inl rfl⟩
    exact ⟨false, .inr (.inr ⟨rfl, h1, h2⟩), .inr (Classical.byContradiction fun hn => hno ⟨fun d hd => Classical.byContradiction fun hm => hn ⟨d, hd, hm⟩, by omega, by omega⟩)⟩
  obtain ⟨rb, hrb, hbad⟩ := hcs
  obtain ⟨Bd, hB0, hBs, hBn⟩ : ∃ Bd : Nat → Prop, (Bd 0 ↔ rb = true) ∧ (∀ i d, L[i]? = some d → (Bd (i + 1) ↔ Bd i ∨ ¬ May d)) ∧ Bd LN := by
    refine ⟨fun i => rb = true ∨ ∃ d ∈ L.take i, ¬ May d, by simp, fun i d hd => ?_, ?_⟩
    · have e : L.take (i + 1) = L.take i ++ [d] := by rw [List.take_add_one, hd]; rfl
      simp only [e, List.mem_append, List.mem_singleton]
      constructor
      · rintro (h1 | ⟨x, h1 | rfl, h2⟩)
        · exact .inl (.inl h1)
        · exact .inl (.inr ⟨x, h1, h2⟩)
        · exact .inr h2
      · rintro ((h1 | ⟨x, h1, h2⟩) | h1)
        · exact .inl h1
        · exact .inr ⟨x, .inl h1, h2⟩
        · exact .inr ⟨d, .inr rfl, h1⟩
    · dsimp only; rw [hLN, List.take_length]; exact hbad
  have H := Lib.hid (And.intro hlo (And.intro hLN (And.intro hg (And.intro hBs hBn))))
  clear h hno hLN hlo hS hg hbad hBs hBn
  refine (callsIn_wide (n := 5)).1 ?_
  refine callsIn_of_wp_marks Tryd.func17 rfl trivial ?_
  simp only [Tryd.ntmps17, List.size_toArray, List.length_cons, List.length_nil, Nat.reduceAdd, Nat.reduceSub, Array.replicate_succ, Array.replicate_zero, List.push_toArray, List.append_toArray, List.nil_append, List.cons_append]
  refine wpIn_wide.2 ?_
  rcases hrb with ⟨rfl, k1⟩ | ⟨rfl, k1, k2⟩ | ⟨rfl, k1, k2⟩
  all_goals
    have HB := Lib.hid hB0
    clear hB0
    go_wp2_with fail
    go_loopw [6, 25] (fun v6 iv wr => Ext w wr ∧ ∃ (i : Nat) (b : Bool), i ≤ LN ∧ iv = .int .i64 i ∧ v6 = .bool b ∧ (b = true ↔ Bd i)) (fun _ iv _ => LN - (intOf iv).toNat)
    case atStart => exact ⟨Ext.refl _, 0, _, Nat.zero_le _, rfl, rfl, by have := HB.out; simp_all⟩
    case round =>
      obtain ⟨hx, i, b, hi, rfl, rfl, hbd⟩ := hrel
      by_cases hlt : i < LN
      · have hj3 : (i : Int) < LN := by omega
        obtain ⟨lb, lo, rfl, hlc⟩ := H.out.1 (by omega)
        obtain ⟨d, hd⟩ : ∃ d, L[i]? = some d := ⟨_, List.getElem?_eq_getElem (by rw [← H.out.2.1]; exact hlt)⟩
        obtain ⟨an, cn, al, cl, c0, c1, hdv⟩ := hlc i d hd
        have k0 := hx.cell c0
        have k1 := hx.cell c1
        have hck := check_c (hdv.ext (hx.trans (Ext.box wr (.cells #[.slice an d.next.length cn, .slice al d.label.length cl] 25))))
        obtain ⟨m, hm⟩ : ∃ m, m = mayB d := ⟨_, rfl⟩
        rw [← hm] at hck
        generalize d.next.length = n1 at *
        generalize d.label.length = n2 at *
        have HX := Lib.hid (And.intro hck (And.intro hx (And.intro hbd (And.intro hd hm))))
        clear hck hx hdv hlc hd hm c0 c1 hbd
        cases b
        · go_wp2_with fail
          refine HX.out.1.mono ?_
          rintro e w2 ⟨rfl, hx2⟩
          have HX2 := Lib.hid hx2
          clear hx2
          cases m
          all_goals
            go_wp2_with fail
            go_roundw
            case rel =>
              refine ⟨HX.out.2.1.trans ((Ext.box _ _).trans HX2.out), i + 1, _, by omega, by go_num, rfl, ?_⟩
              have h1 := H.out.2.2.2.1 i d HX.out.2.2.2.1
              have h2 := HX.out.2.2.1
              have h3 := HX.out.2.2.2.2
              rw [h1, ← mayB_true, ← h3]
              simp_all
            case measure => simp [intOf]; omega
        · go_wp2_with fail
          go_roundw
          case rel =>
            refine ⟨HX.out.2.1.trans (Ext.box _ _), i + 1, _, by omega, by go_num, rfl, ?_⟩
            have h1 := H.out.2.2.2.1 i d HX.out.2.2.2.1
            have h2 := HX.out.2.2.1
            rw [h1, ← h2]; simp
          case measure => simp [intOf]; omega
      · obtain rfl : i = LN := by omega
        obtain rfl : b = true := hbd.2 H.out.2.2.2.2
        have hj3 : ¬ (i : Int) < i := by omega
        have g0 := hx.cell H.out.2.2.1
        have HX := Lib.hid hx
        clear hx hbd hlt
        go_wp2_with fail
        go_quiet (fail)
        go_wp2_with fail
        exact ⟨_, results_tmp2 rfl _ _ _, rfl, HX.out.drewN _⟩
end Go.Proofs.YtloooajippcdlaaDoor
