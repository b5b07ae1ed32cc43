/- Plain mathematics of numbers by digits of base 256, the lowest first. No program in sight. -/
namespace Go.Proofs.YtloooajippcdlaaDoor.BG

/-- a number without its i lowest digits -/
def hi (n : Nat) : Nat → Nat
  | 0 => n
  | i + 1 => hi n i / 256
theorem hi_shift (n : Nat) : ∀ i, hi n (i + 1) = hi (n / 256) i
  | 0 => rfl
  | i + 1 => by show hi n (i + 1) / 256 = hi (n / 256) i / 256; rw [hi_shift n i]
theorem hi_mono {x y : Nat} (h : x ≤ y) : ∀ i, hi x i ≤ hi y i
  | 0 => h
  | i + 1 => Nat.div_le_div_right (hi_mono h i)
theorem hi_lt {x y i : Nat} (h : hi x i < hi y i) : x < y := by
  rcases Nat.lt_or_ge x y with h1 | h1
  · exact h1
  · have := hi_mono h1 i; omega
theorem hi_anti (n : Nat) {i j : Nat} (h : i ≤ j) : hi n j ≤ hi n i := by
  induction j with
  | zero => obtain rfl : i = 0 := by omega
            exact Nat.le_refl _
  | succ j ih =>
    by_cases e : i = j + 1
    · subst e; exact Nat.le_refl _
    · have h1 := ih (by omega)
      have h2 : hi n (j + 1) ≤ hi n j := Nat.div_le_self _ _
      omega
theorem hi_zero : ∀ i, hi 0 i = 0
  | 0 => rfl
  | i + 1 => by show hi 0 i / 256 = 0; rw [hi_zero i]
theorem hi_pow (n : Nat) : ∀ i, hi n i = n / 256 ^ i
  | 0 => by simp [hi]
  | i + 1 => by show hi n i / 256 = _; rw [hi_pow n i, Nat.div_div_eq_div_mul, Nat.pow_succ]

def dig (n : Nat) : List Nat := if h : n = 0 then [] else n % 256 :: dig (n / 256)
termination_by n
decreasing_by omega
theorem dig_zero : dig 0 = [] := by unfold dig; simp
theorem dig_pos {n : Nat} (h : n ≠ 0) : dig n = n % 256 :: dig (n / 256) := by rw [dig]; simp [h]
theorem dig_get : ∀ (i n : Nat), (dig n)[i]? = if 0 < hi n i then some (hi n i % 256) else none := by
  intro i
  induction i with
  | zero =>
    intro n
    by_cases h : n = 0
    · subst h; rw [dig_zero]; rfl
    · rw [dig_pos h]
      show some (n % 256) = if 0 < n then some (n % 256) else none
      rw [if_pos (by omega)]
  | succ i ih =>
    intro n
    by_cases h : n = 0
    · subst h; rw [dig_zero, hi_zero]; rfl
    · rw [dig_pos h, hi_shift, List.getElem?_cons_succ, ih]
theorem dig_len {n i : Nat} : i < (dig n).length ↔ 0 < hi n i := by
  have h := dig_get i n
  constructor
  · intro h1
    rw [List.getElem?_eq_getElem h1] at h
    by_cases h2 : 0 < hi n i
    · exact h2
    · rw [if_neg h2] at h; cases h
  · intro h1
    rw [if_pos h1] at h
    exact (List.getElem?_eq_some_iff.1 h).1
theorem dig_getD {n i : Nat} (h : i < (dig n).length) : (dig n).getD i 0 = hi n i % 256 := by
  rw [List.getD_eq_getElem?_getD, dig_get, if_pos (dig_len.1 h)]; rfl
theorem dig_le {n k : Nat} (h : n < 256 ^ k) : (dig n).length ≤ k := by
  rcases Nat.lt_or_ge k (dig n).length with h1 | h1
  · have h2 := dig_len.1 h1
    rw [hi_pow, Nat.div_eq_of_lt h] at h2; omega
  · exact h1
theorem dig_take {n i : Nat} (h : 0 < hi n i) : (dig n).take (i + 1) = (dig n).take i ++ [hi n i % 256] := by
  rw [List.take_add_one, dig_get, if_pos h]; rfl
theorem dig_all {n i : Nat} (h : hi n i = 0) : (dig n).take i = dig n := by
  apply List.take_of_length_le
  rcases Nat.lt_or_ge i (dig n).length with h1 | h1
  · have := dig_len.1 h1; omega
  · exact h1
theorem dig_mem {n x : Nat} (h : x ∈ dig n) : x < 256 := by
  obtain ⟨i, hi'⟩ := List.getElem?_of_mem h
  rw [dig_get] at hi'
  split at hi'
  · have := Option.some.inj hi'; omega
  · cases hi'

/-- so many digits, noughts on top too -/
def ds (n i : Nat) : List Nat := (List.range i).map fun j => hi n j % 256
theorem ds_succ (n i : Nat) : ds n (i + 1) = ds n i ++ [hi n i % 256] := by unfold ds; rw [List.range_succ, List.map_append]; rfl
theorem ds_len (n i : Nat) : (ds n i).length = i := by simp [ds]
theorem ds_getD {n i j : Nat} (h : j < i) : (ds n i).getD j 0 = hi n j % 256 := by
  unfold ds
  rw [List.getD_eq_getElem?_getD, List.getElem?_map, List.getElem?_range h]; rfl
theorem ds_take (n : Nat) {i j : Nat} (h : j ≤ i) : (ds n i).take j = ds n j := by
  unfold ds
  rw [← List.map_take, List.take_range, Nat.min_eq_left h]
theorem ds_dig {n i : Nat} (h : hi n i = 0) (hp : i = 0 ∨ hi n (i - 1) % 256 ≠ 0) : ds n i = dig n := by
  apply List.ext_getElem?
  intro j
  rw [dig_get]
  by_cases hj : j < i
  · have h1 : 0 < hi n j := by
      have := hi_anti n (i := j) (j := i - 1) (by omega)
      rcases hp with h2 | h2
      · omega
      · have h3 : hi n (i - 1) ≠ 0 := fun e => h2 (by rw [e])
        omega
    rw [if_pos h1]
    unfold ds
    rw [List.getElem?_map, List.getElem?_range hj]; rfl
  · have h1 := hi_anti n (i := i) (j := j) (by omega)
    rw [if_neg (by omega), List.getElem?_eq_none (by rw [ds_len]; omega)]

/-- adding: the numbers above digit i and the carry -/
theorem add_step {x y i c : Nat} (h : hi (x + y) i = hi x i + hi y i + c) : hi (x + y) (i + 1) = hi x (i + 1) + hi y (i + 1) + (c + hi x i % 256 + hi y i % 256) / 256 ∧ hi (x + y) i % 256 = (c + hi x i % 256 + hi y i % 256) % 256 := by
  constructor
  · show hi (x + y) i / 256 = hi x i / 256 + hi y i / 256 + _
    rw [h]; omega
  · rw [h]; omega
/-- taking away: z + y = x -/
theorem sub_step {x y z i c : Nat} (h : hi x i = hi z i + hi y i + c) (hc : c ≤ 1) :
    (hi x i % 256 < c + hi y i % 256 → hi x (i + 1) = hi z (i + 1) + hi y (i + 1) + 1 ∧ hi x i % 256 + 256 = hi z i % 256 + (c + hi y i % 256)) ∧ (¬ hi x i % 256 < c + hi y i % 256 → hi x (i + 1) = hi z (i + 1) + hi y (i + 1) + 0 ∧ hi x i % 256 = hi z i % 256 + (c + hi y i % 256)) := by
  have e : ∀ n, hi n (i + 1) = hi n i / 256 := fun _ => rfl
  rw [e, e, e]
  constructor <;> intro h1 <;> constructor <;> omega
end Go.Proofs.YtloooajippcdlaaDoor.BG
