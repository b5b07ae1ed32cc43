/- The automaton of [ab]+, reckoned. -/
import Derived.Test.YtloooajippcdlaaDoorNth
import Derived.Test.YtloooajippcdlaaDoorRank
import Derived.Test.YtloooajippcdlaaDoorRow14
namespace Go.Proofs.YtloooajippcdlaaDoor

theorem sum_row (x y : Nat) : CM.sumTo (fun c => if c = 97 ∨ c = 98 then x else y) 256 = 2 * x + 254 * y := by
  have h1 := CM.sumTo_add (fun c => if c = 97 ∨ c = 98 then x else y) 97 159
  have h2 := CM.sumTo_add (fun i => if 97 + i = 97 ∨ 97 + i = 98 then x else y) 2 157
  have e1 : CM.sumTo (fun c => if c = 97 ∨ c = 98 then x else y) 97 = 97 * y := by
    rw [← CM.sumTo_const]
    exact CM.sumTo_congr fun i hi => if_neg (by omega)
  have e2 : CM.sumTo (fun i => if 97 + i = 97 ∨ 97 + i = 98 then x else y) 2 = 2 * x := by
    rw [← CM.sumTo_const]
    exact CM.sumTo_congr fun i hi => if_pos (by omega)
  have e3 : CM.sumTo (fun i => if 97 + (2 + i) = 97 ∨ 97 + (2 + i) = 98 then x else y) 157 = 157 * y := by
    rw [← CM.sumTo_const]
    exact CM.sumTo_congr fun i hi => if_neg (by omega)
  rw [e2, e3] at h2
  have h3 : CM.sumTo (fun i => if 97 + i = 97 ∨ 97 + i = 98 then x else y) 159 = 2 * x + 157 * y := h2
  rw [e1, h3] at h1
  have h4 : CM.sumTo (fun c => if c = 97 ∨ c = 98 then x else y) 256 = 97 * y + (2 * x + 157 * y) := h1
  omega

theorem row14_nx (m c : Nat) (hc : c < 256) : ((row14 1 (m : Int)).getD c 0).toNat = if c = 97 ∨ c = 98 then m else 1 := by
  rw [row14_get _ _ _ hc]; split <;> simp

theorem pairs_nx (s c : Nat) (hs : s < 3) (hc : c < 256) : pairsD.nx s c = if s ≠ 1 ∧ (c = 97 ∨ c = 98) then 2 else 1 := by
  unfold Dn.nx pairsD
  match s, hs with
  | 0, _ => have := row14_nx 2 c hc; simpa using this
  | 1, _ => have := row14_nx 1 c hc; simpa using this
  | 2, _ => have := row14_nx 2 c hc; simpa using this

theorem pairs_may : May pairsD where
  pos := by decide
  most := by decide
  labels := rfl
  row := fun i hi => by
    match i, hi with
    | 0, _ => exact row14_length _ _
    | 1, _ => exact row14_length _ _
    | 2, _ => exact row14_length _ _
  label := fun i hi => by
    match i, hi with
    | 0, _ => decide
    | 1, _ => decide
    | 2, _ => decide
  to := fun i c hi hc => by
    match i, hi with
    | 0, _ => show 0 ≤ (row14 1 2).getD c 0 ∧ (row14 1 2).getD c 0 < 3; rw [row14_get _ _ _ hc]; split <;> omega
    | 1, _ => show 0 ≤ (row14 1 1).getD c 0 ∧ (row14 1 1).getD c 0 < 3; rw [row14_get _ _ _ hc]; split <;> omega
    | 2, _ => show 0 ≤ (row14 1 2).getD c 0 ∧ (row14 1 2).getD c 0 < 3; rw [row14_get _ _ _ hc]; split <;> omega

def pairsW (n s : Nat) : Nat := if s = 2 then 2 ^ n else if s = 0 ∧ 0 < n then 2 ^ n else 0

theorem pairs_ways : ∀ n s, s < 3 → pairsD.ways 0 n s = pairsW n s
  | 0, s, hs => by
    rw [ways_zero]
    match s, hs with
    | 0, _ => decide
    | 1, _ => decide
    | 2, _ => decide
  | n + 1, s, hs => by
    rw [ways_succ]
    have h : CM.sumTo (fun c => pairsD.ways 0 n (pairsD.nx s c)) 256 = CM.sumTo (fun c => if c = 97 ∨ c = 98 then pairsW n (if s = 1 then 1 else 2) else pairsW n 1) 256 := by
      refine CM.sumTo_congr fun c hc => ?_
      rw [pairs_nx s c hs hc, pairs_ways n _ (by split <;> omega)]
      by_cases h1 : s = 1 <;> by_cases h2 : c = 97 ∨ c = 98 <;> simp [h1, h2]
    rw [h, sum_row]
    clear h
    have e : s = 0 ∨ s = 1 ∨ s = 2 := by omega
    clear hs
    rcases e with rfl | rfl | rfl
    · simp [pairsW, Nat.pow_succ]; omega
    · simp [pairsW]
    · simp [pairsW, Nat.pow_succ]; omega

theorem pick_congr {f g : Nat → Nat} : ∀ (m i k : Nat), (∀ j, i ≤ j → j < i + m → f j = g j) → CM.pick f m i k = CM.pick g m i k
  | 0, _, _, _ => rfl
  | m + 1, i, k, h => by
    rw [CM.pick, CM.pick, h i (Nat.le_refl _) (by omega), pick_congr m (i + 1) (k - g i) (fun j h1 h2 => h j (by omega) (by omega))]

theorem pairs_len (k : Nat) : pairsD.nthLen 0 k = CM.pick (fun n => pairsW n 0) 65 0 k := by
  unfold Dn.nthLen
  exact pick_congr 65 0 k fun j _ _ => pairs_ways j 0 (by omega)

/-- the word, by the counts in closed form -/
def pairsN : Nat → Nat → Nat → List Nat
  | 0, _, _ => []
  | n + 1, s, k =>
    let r := CM.pick (fun c => if s ≠ 1 ∧ (c = 97 ∨ c = 98) then pairsW n 2 else pairsW n 1) 256 0 k
    r.1 :: pairsN n (if s ≠ 1 ∧ (r.1 = 97 ∨ r.1 = 98) then 2 else 1) r.2

theorem pairs_nth : ∀ n s k, s < 3 → k < pairsD.ways 0 n s → pairsD.nth 0 n s k = pairsN n s k
  | 0, _, _, _, _ => rfl
  | n + 1, s, k, hs, hk => by
    have hp : CM.pick (fun c => pairsD.ways 0 n (pairsD.nx s c)) 256 0 k = CM.pick (fun c => if s ≠ 1 ∧ (c = 97 ∨ c = 98) then pairsW n 2 else pairsW n 1) 256 0 k := by
      refine pick_congr 256 0 k fun j _ hj => ?_
      rw [pairs_nx s j hs (by omega)]
      split
      · exact pairs_ways n 2 (by omega)
      · exact pairs_ways n 1 (by omega)
    have hlt : (CM.pick (fun c => pairsD.ways 0 n (pairsD.nx s c)) 256 0 k).1 < 256 := CM.pick_lt (by rw [ways_succ] at hk; exact hk)
    have hsp := CM.pick_spec (fun c => pairsD.ways 0 n (pairsD.nx s c)) 256 0 k
    simp only [Nat.zero_add] at hsp
    have hk2 := hsp.2.2.2 hlt
    rw [nth_step (c := (CM.pick (fun c => pairsD.ways 0 n (pairsD.nx s c)) 256 0 k).1) (k2 := (CM.pick (fun c => pairsD.ways 0 n (pairsD.nx s c)) 256 0 k).2) rfl,
      pairs_nth n _ _ (by rw [pairs_nx s _ hs hlt]; split <;> omega) hk2, pairs_nx s _ hs hlt, hp, pairsN]

theorem pairs_5 : pairsD.nthLen 0 5 = (2, 3) ∧ pairsD.nth 0 2 0 3 = [98, 98] := by
  refine ⟨by rw [pairs_len]; decide +kernel, ?_⟩
  rw [pairs_nth 2 0 3 (by omega) (by rw [pairs_ways 2 0 (by omega)]; decide)]
  decide +kernel

theorem pairs_rank : pairsD.total 0 [98, 97] = 4 := by
  unfold Dn.total
  have h1 : CM.sumTo (fun n => pairsD.ways 0 n 0) [98, 97].length = 2 := by
    rw [CM.sumTo_congr (g := fun n => pairsW n 0) (fun i _ => pairs_ways i 0 (by omega))]
    decide +kernel
  have h2 : CM.rankB pairsD.nx (fun t => pairsD.lb t == 0) [98, 97] 0 = 2 := by
    rw [CM.rankB, CM.rankB, CM.rankB, pairs_nx 0 98 (by omega) (by omega)]
    have e1 : CM.sumTo (fun c => CM.ways pairsD.nx (fun t => pairsD.lb t == 0) [97].length (pairsD.nx 0 c)) 98 = CM.sumTo (fun c => if c = 97 then 2 else 0) 98 := by
      refine CM.sumTo_congr fun c hc => ?_
      have h := pairs_ways 1 (pairsD.nx 0 c) (by rw [pairs_nx 0 c (by omega) (by omega)]; split <;> omega)
      have h' : CM.ways pairsD.nx (fun t => pairsD.lb t == 0) [97].length (pairsD.nx 0 c) = pairsW 1 (pairsD.nx 0 c) := h
      rw [h', pairs_nx 0 c (by omega) (by omega)]
      by_cases e : c = 97
      · simp [e, pairsW]
      · rw [if_neg e, if_neg (by omega)]; rfl
    have e2 : CM.sumTo (fun c => CM.ways pairsD.nx (fun t => pairsD.lb t == 0) ([] : List Nat).length (pairsD.nx 2 c)) 97 = 0 := by
      rw [CM.sumTo_congr (g := fun _ => 0) (fun c hc => ?_), CM.sumTo_const]
      have h := pairs_ways 0 (pairsD.nx 2 c) (by rw [pairs_nx 2 c (by omega) (by omega)]; split <;> omega)
      have h' : CM.ways pairsD.nx (fun t => pairsD.lb t == 0) ([] : List Nat).length (pairsD.nx 2 c) = pairsW 0 (pairsD.nx 2 c) := h
      rw [h', pairs_nx 2 c (by omega) (by omega), if_neg (by omega)]; rfl
    have e3 : CM.sumTo (fun c => if c = 97 then 2 else 0) 98 = 2 := by decide +kernel
    rw [e1, e3, if_pos (by omega), e2]
  rw [h1, h2]

theorem pairs_run : pairsD.lb (CM.run pairsD.nx 0 [98, 97]) = 0 := by
  unfold CM.run
  rw [List.foldl_cons, List.foldl_cons, List.foldl_nil, pairs_nx 0 98 (by omega) (by omega)]
  show pairsD.lb (pairsD.nx 2 97) = 0
  rw [pairs_nx 2 97 (by omega) (by omega)]
  decide
end Go.Proofs.YtloooajippcdlaaDoor
