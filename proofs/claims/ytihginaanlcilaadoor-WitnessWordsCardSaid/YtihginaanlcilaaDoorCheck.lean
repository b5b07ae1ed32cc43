/- subset.Check and the document's own May: both tell whether an automaton may be. -/
import Derived.Test.YtihginaanlcilaaDoorRows
import Derived.Test.YtihginaanlcilaaDoorBase
namespace Go.Proofs.YtihginaanlcilaaDoor
open Go.RowKit

/-- what a walk over an automaton takes: the cells of its rows and labels -/
structure Opened (w : World) (an al : Option Addr) (d : Dn) : Prop where
  n : d.next.length ≤ 140737488355328
  m : d.label.length ≤ 140737488355328
  next : 0 < d.next.length → ∃ b o, an = some ⟨b, o, none⟩ ∧ ∀ i, i < d.next.length → ∃ r, w.cell? ⟨b, o + i, none⟩ = some r ∧ Ints w r (d.next.getD i [])
  label : 0 < d.label.length → ∃ b o, al = some ⟨b, o, none⟩ ∧ ∀ i, i < d.label.length → w.cell? ⟨b, o + i, none⟩ = some (.int .i64 (d.label.getD i 0))

theorem DenseV.open {w : World} {v : Value} {d : Dn} (h : DenseV w v d) : ∃ an cn al cl, v = .agg #[.slice an d.next.length cn, .slice al d.label.length cl] ∧ Opened w an al d := by
  obtain ⟨vn, vl, rfl, hn, hl⟩ := h
  obtain ⟨h1, an, cn, rfl, _, h2⟩ := hn.open
  obtain ⟨h3, al, cl, rfl, _, h4⟩ := hl.open
  exact ⟨an, cn, al, cl, rfl, h1, h3, h2, h4⟩

set_option maxRecDepth 100000 in
set_option maxHeartbeats 1000000 in
theorem check_no1 (an al : Option Addr) (n m cn cl : Nat) (w : World) (h1 : (n : Int) ≤ 140737488355328) (_ : (m : Int) ≤ 140737488355328) (h : ¬ (1 ≤ n ∧ n ≤ 600 ∧ m = n)) :
    Calls Tryd.prog 31 #[.agg #[.slice an n cn, .slice al m cl]] w fun e w' => e = .returned (.bool false) ∧ Ext w w' := by
  by_cases e1 : n < 1
  · obtain rfl : n = 0 := by omega
    go_enter Tryd.func31, Tryd.ntmps31
    go_wp2
    go_ret
    exact ⟨rfl, Ext.box _ _⟩
  · have e1' : ¬ (n : Int) < 1 := by omega
    by_cases e2 : 600 < n
    · have e2' : (600 : Int) < n := by omega
      go_enter Tryd.func31, Tryd.ntmps31
      go_wp2
      go_ret
      exact ⟨rfl, Ext.box _ _⟩
    · have e2' : ¬ (600 : Int) < n := by omega
      have e3 : ((m : Int) != n) = true := by rw [bne_iff_ne]; omega
      go_enter Tryd.func31, Tryd.ntmps31
      go_wp2
      go_ret
      exact ⟨rfl, Ext.box _ _⟩

/-- the first k rows may be -/
structure Good (d : Dn) (k : Nat) : Prop where
  row : ∀ i, i < k → (d.next.getD i []).length = 256
  label : ∀ i, i < k → -1 ≤ d.label.getD i 0 ∧ d.label.getD i 0 < 200
  to : ∀ i c, i < k → c < 256 → 0 ≤ (d.next.getD i []).getD c 0 ∧ (d.next.getD i []).getD c 0 < d.next.length

set_option maxRecDepth 100000 in
set_option maxHeartbeats 1000000 in
theorem check_go (an al : Option Addr) (cn cl : Nat) (d : Dn) (w : World) (h : Opened w an al d) (h1 : 1 ≤ d.next.length) (h2 : d.next.length ≤ 600) (h3 : d.label.length = d.next.length) :
    Calls Tryd.prog 31 #[.agg #[.slice an d.next.length cn, .slice al d.label.length cl]] w fun e w' => e = .returned (.bool (mayB d)) ∧ Ext w w' := by
  obtain ⟨bn, on, rfl, hn⟩ := h.next (by omega)
  obtain ⟨bl, ol, rfl, hl⟩ := h.label (by omega)
  rw [h3] at hl
  rw [h3]
  obtain ⟨n, hnn⟩ : ∃ n, n = d.next.length := ⟨_, rfl⟩
  have HN := Lib.hid hnn
  have H3 : Hid (d.label.length = n) := h3.trans hnn.symm
  rw [← hnn] at h1 h2 hn hl
  rw [show (List.length d.next) = n from hnn.symm]
  clear hnn h3 h
  have e1 : ¬ (n : Int) < 1 := by omega
  have e2 : ¬ (600 : Int) < n := by omega
  have e3 : ((n : Int) != n) = false := by simp
  go_enter Tryd.func31, Tryd.ntmps31
  go_wp2
  go_loopw [4, 5, 7, 27, 51, 52, 53] (fun _ _ _ i _ _ _ wr => ∃ k : Nat, k ≤ n ∧ i = .int .i64 k ∧ Good d k ∧ Ext w wr ∧ wr.cell? ⟨w.heap.size, 1, none⟩ = some (.slice (some ⟨bl, ol, none⟩) n cl)) (fun _ _ _ i _ _ _ _ => n - (intOf i).toNat)
  case atStart => exact ⟨0, Nat.zero_le _, rfl, ⟨fun i hi => by omega, fun i hi => by omega, fun i c hi => by omega⟩, Ext.box _ _, by simp⟩
  case round =>
    obtain ⟨k, hk, rfl, hg, hx, hbox⟩ := hrel
    by_cases hlt : k < n
    · obtain ⟨r, hr, hrow⟩ := hn k hlt
      obtain ⟨hm, ar, cr, rfl, _, hro⟩ := hrow.open
      have c1 := hx.cell hr
      have c2 := hx.cell (hl k hlt)
      clear hn hl
      obtain ⟨x, hx'⟩ : ∃ x, x = d.label.getD k 0 := ⟨_, rfl⟩
      obtain ⟨row, hrw⟩ : ∃ row, row = d.next.getD k [] := ⟨_, rfl⟩
      rw [← hrw] at hm hro hr hrow
      rw [← hx'] at c2
      rw [← hrw] at c1
      have HX := Lib.hid hx'
      have HR := Lib.hid hrw
      clear hx' hrw hr hrow
      by_cases b1 : row.length = 256
      · have b1' : ((row.length : Int) != 256) = false := by simp; omega
        by_cases b2 : x < -1
        · go_wp2
          go_ret
          exact ⟨ret_bool (mayB_false fun m => by have := (m.label k (by rw [← HN.out]; exact hlt)).1; rw [← HX.out] at this; omega).symm, hx⟩
        · by_cases b3 : 200 ≤ x
          · have b2' : -1 ≤ x := by omega
            go_wp2
            go_ret
            exact ⟨ret_bool (mayB_false fun m => by have := (m.label k (by rw [← HN.out]; exact hlt)).2; rw [← HX.out] at this; omega).symm, hx⟩
          · have b2' : -1 ≤ x := by omega
            have b3' : x < 200 := by omega
            have HL := Lib.hid b1
            obtain ⟨br, ro, rfl, hcell⟩ := hro (by omega)
            have HC := Lib.hid hcell
            clear hcell hro b1
            go_wp2
            go_loopw [7, 53] (fun _ c wi => wi = wr ∧ ∃ q : Nat, q ≤ row.length ∧ c = .int .i64 q ∧ (∀ j, j < q → 0 ≤ row.getD j 0 ∧ row.getD j 0 < n)) (fun _ c _ => row.length - (intOf c).toNat)
            case atStart => exact ⟨rfl, 0, Nat.zero_le _, rfl, fun j hj => by omega⟩
            case round =>
              obtain ⟨rfl, q, hq, rfl, hrows⟩ := hrel
              by_cases hql : q < row.length
              · have c3 := hx.cell (HC.out q hql)
                obtain ⟨y, hy⟩ : ∃ y, y = row.getD q 0 := ⟨_, rfl⟩
                rw [← hy] at c3
                have HY := Lib.hid hy
                clear hy
                have HRS := Lib.hid hrows
                clear hrows
                by_cases b4 : y < 0
                · go_wp2
                  go_ret
                  exact ⟨ret_bool (mayB_false fun m => by have := (m.to k q (by rw [← HN.out]; exact hlt) (by have := HL.out; omega)).1; rw [← HR.out, ← HY.out] at this; omega).symm, hx⟩
                · by_cases b5 : (n : Int) ≤ y
                  · have b4' : 0 ≤ y := by omega
                    go_wp2
                    go_ret
                    exact ⟨ret_bool (mayB_false fun m => by have := (m.to k q (by rw [← HN.out]; exact hlt) (by have := HL.out; omega)).2; rw [← HR.out, ← HY.out, ← HN.out] at this; omega).symm, hx⟩
                  · have b4' : 0 ≤ y := by omega
                    have b5' : y < n := by omega
                    go_wp2
                    go_roundw
                    case rel => exact ⟨trivial, q + 1, by omega, by go_num, fun j hj => by
                      by_cases e : j = q
                      · subst e; rw [← HY.out]; exact ⟨b4', b5'⟩
                      · exact HRS.out j (by omega)⟩
                    case measure => simp [intOf]; omega
              · obtain rfl : q = row.length := by omega
                have HRS := Lib.hid hrows
                clear hrows HC
                go_wp2
                go_roundw
                case rel => exact ⟨k + 1, by omega, by go_num, ⟨fun i hi => by
                    by_cases e : i = k
                    · subst e; rw [← HR.out]; exact HL.out
                    · exact hg.row i (by omega), fun i hi => by
                    by_cases e : i = k
                    · subst e; rw [← HX.out]; exact ⟨b2', b3'⟩
                    · exact hg.label i (by omega), fun i c hi hc => by
                    by_cases e : i = k
                    · subst e; rw [← HR.out, ← HN.out]; exact HRS.out c (by have := HL.out; omega)
                    · exact hg.to i c (by omega) hc⟩, hx, hbox⟩
                case measure => simp [intOf]; omega
      · have b1' : ((row.length : Int) != 256) = true := by simp; omega
        go_wp2
        go_ret
        exact ⟨ret_bool (mayB_false fun m => by have := m.row k (by rw [← HN.out]; exact hlt); rw [← HR.out] at this; omega).symm, hx⟩
    · obtain rfl : k = n := by omega
      clear hn hl
      go_wp2
      go_ret
      exact ⟨ret_bool (mayB_true.2 ⟨by rw [← HN.out]; exact h1, by rw [← HN.out]; exact h2, by rw [← HN.out]; exact H3.out, fun i hi => hg.row i (by rw [HN.out]; exact hi), fun i hi => hg.label i (by rw [HN.out]; exact hi), fun i c hi hc => hg.to i c (by rw [HN.out]; exact hi) hc⟩).symm, hx⟩

theorem check_c {v : Value} {d : Dn} {w : World} (h : DenseV w v d) : Calls Tryd.prog 31 #[v] w fun e w' => e = .returned (.bool (mayB d)) ∧ Ext w w' := by
  obtain ⟨an, cn, al, cl, rfl, ho⟩ := h.open
  by_cases hc : 1 ≤ d.next.length ∧ d.next.length ≤ 600 ∧ d.label.length = d.next.length
  · exact check_go an al cn cl d w ho hc.1 hc.2.1 hc.2.2
  · refine (check_no1 an al _ _ cn cl w (by have := ho.n; omega) (by have := ho.m; omega) hc).mono ?_
    rintro e w' ⟨rfl, h⟩
    exact ⟨ret_bool (mayB_false fun m => hc ⟨m.pos, m.most, m.labels⟩).symm, h⟩
end Go.Proofs.YtihginaanlcilaaDoor
