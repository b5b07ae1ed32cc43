/- The automaton of all words, and great counts, reckoned. -/
import Derived.Test.YtpkngnompkdlnaaDoorPairsMath
namespace Go.Proofs.YtpkngnompkdlnaaDoor

def allD : Dn := { next := [List.replicate 256 0], label := [0] }

theorem all_entry (c : Nat) : (List.replicate 256 (0 : Int)).getD c 0 = 0 := by
  rw [List.getD_eq_getElem?_getD, List.getElem?_replicate]; split <;> rfl
theorem all_may : May allD where
  pos := by decide
  most := by decide
  labels := rfl
  row := fun i hi => by
    match i, hi with
    | 0, _ => exact List.length_replicate
  label := fun i hi => by
    match i, hi with
    | 0, _ => decide
  to := fun i c hi hc => by
    match i, hi with
    | 0, _ => show 0 ≤ (List.replicate 256 (0 : Int)).getD c 0 ∧ (List.replicate 256 (0 : Int)).getD c 0 < 1; rw [all_entry]; decide

theorem all_nx (c : Nat) : allD.nx 0 c = 0 := by
  have : (List.replicate 256 (0 : Int)).getD c 0 = 0 := all_entry c
  show ((List.replicate 256 (0 : Int)).getD c 0).toNat = 0
  rw [this]; rfl

theorem all_ways : ∀ n, allD.ways 0 n 0 = 256 ^ n
  | 0 => by rw [ways_zero]; decide
  | n + 1 => by
    rw [ways_succ, CM.sumTo_congr (g := fun _ => 256 ^ n) (fun c _ => by rw [all_nx, all_ways n]), CM.sumTo_const, Nat.pow_succ, Nat.mul_comm]

theorem all_run : ∀ l : List Nat, CM.run allD.nx 0 l = 0
  | [] => rfl
  | c :: l => by rw [CM.run, List.foldl_cons, all_nx]; exact all_run l
theorem all_lb (l : List Nat) : allD.lb (CM.run allD.nx 0 l) = 0 := by rw [all_run]; rfl

def allN : Nat → Nat → List Nat
  | 0, _ => []
  | n + 1, k => let r := CM.pick (fun _ => 256 ^ n) 256 0 k; r.1 :: allN n r.2

theorem all_nth : ∀ n k, allD.nth 0 n 0 k = allN n k
  | 0, _ => rfl
  | n + 1, k => by
    have hp : CM.pick (fun c => allD.ways 0 n (allD.nx 0 c)) 256 0 k = CM.pick (fun _ => 256 ^ n) 256 0 k := pick_congr 256 0 k fun j _ _ => by rw [all_nx, all_ways]
    rw [nth_step (c := (CM.pick (fun c => allD.ways 0 n (allD.nx 0 c)) 256 0 k).1) (k2 := (CM.pick (fun c => allD.ways 0 n (allD.nx 0 c)) 256 0 k).2) rfl, all_nx, all_nth n, hp, allN]

def allR : List Nat → Nat
  | [] => 0
  | c :: w => c * 256 ^ w.length + allR w

theorem all_rank : ∀ l : List Nat, CM.rankB allD.nx (fun t => allD.lb t == 0) l 0 = allR l
  | [] => rfl
  | c :: l => by
    have h : ∀ i, CM.ways allD.nx (fun t => allD.lb t == 0) l.length (allD.nx 0 i) = 256 ^ l.length := fun i => by rw [all_nx]; exact all_ways l.length
    rw [CM.rankB, CM.sumTo_congr (g := fun _ => 256 ^ l.length) (fun i _ => h i), CM.sumTo_const, all_nx, all_rank l, allR]

theorem all_total (l : List Nat) : allD.total 0 l = CM.sumTo (fun n => 256 ^ n) l.length + allR l := by
  unfold Dn.total
  rw [all_rank, CM.sumTo_congr (g := fun n => 256 ^ n) (fun n _ => all_ways n)]

theorem all_last : allD.nthLen 0 18446744073709551615 = (8, 18374403900871474942) ∧ allD.nth 0 8 0 18374403900871474942 = [254, 254, 254, 254, 254, 254, 254, 254] := by
  refine ⟨?_, by rw [all_nth]; decide +kernel⟩
  unfold Dn.nthLen
  rw [pick_congr (g := fun n => 256 ^ n) 65 0 _ (fun j _ _ => all_ways j)]
  decide +kernel
theorem all_total_last : allD.total 0 [254, 254, 254, 254, 254, 254, 254, 254] = 18446744073709551615 := by
  rw [all_total]; decide +kernel
theorem all_total_far : ¬ allD.total 0 [255, 255, 255, 255, 255, 255, 255, 255] < 18446744073709551616 := by
  rw [all_total]; decide +kernel

/-- the words of a label and those of the others are all -/
theorem pairs_rest : ∀ n s, s < 3 → pairsD.ways (-1) n s + pairsD.ways 0 n s = 256 ^ n
  | 0, s, hs => by
    rw [ways_zero, ways_zero]
    match s, hs with
    | 0, _ => decide
    | 1, _ => decide
    | 2, _ => decide
  | n + 1, s, hs => by
    have hsum : ∀ (f g : Nat → Nat) m, CM.sumTo f m + CM.sumTo g m = CM.sumTo (fun i => f i + g i) m := by
      intro f g m
      induction m with
      | zero => rfl
      | succ m ih => simp only [CM.sumTo]; omega
    rw [ways_succ, ways_succ, hsum, CM.sumTo_congr (g := fun _ => 256 ^ n) (fun c hc => pairs_rest n _ (by rw [pairs_nx s c hs hc]; split <;> omega)), CM.sumTo_const, Nat.pow_succ, Nat.mul_comm]

theorem pairs_minus : pairsD.ways (-1) 8 0 = 18446744073709551360 := by
  have h := pairs_rest 8 0 (by omega)
  rw [pairs_ways 8 0 (by omega)] at h
  have e : pairsW 8 0 = 256 := by decide
  have e2 : 256 ^ 8 = 18446744073709551616 := by decide
  omega

theorem pairs_one (n s : Nat) (hs : s < 3) : pairsD.ways 1 n s = 0 := by
  induction n generalizing s with
  | zero =>
    rw [ways_zero]
    match s, hs with
    | 0, _ => decide
    | 1, _ => decide
    | 2, _ => decide
  | succ n ih =>
    rw [ways_succ, CM.sumTo_congr (g := fun _ => 0) (fun c hc => ih _ (by rw [pairs_nx s c hs hc]; split <;> omega)), CM.sumTo_const]
theorem pairs_one_len : (pairsD.nthLen 1 0).1 = 65 := by
  unfold Dn.nthLen
  rw [pick_congr (g := fun _ => 0) 65 0 _ (fun j _ _ => pairs_one j 0 (by omega))]
  decide +kernel
theorem pairs_half : (pairsD.nthLen 0 9223372036854775808).1 = 63 := by
  rw [pairs_len]; decide +kernel
end Go.Proofs.YtpkngnompkdlnaaDoor
