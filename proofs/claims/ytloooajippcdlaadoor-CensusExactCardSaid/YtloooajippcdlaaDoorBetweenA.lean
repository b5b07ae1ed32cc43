/- Bytes of the call own: words ahead, words behind. -/
import Derived.Test.YtloooajippcdlaaDoorOwn
import Derived.Test.YtloooajippcdlaaDoorBytesW
import Derived.Test.YtloooajippcdlaaDoorRank
import Derived.Test.YtloooajippcdlaaDoorGrow
import Derived.Laws.OwnMore
namespace Go.Proofs.YtloooajippcdlaaDoor
open Go.RowKit


theorem bytesV_set (l : List Nat) (i c : Nat) : (bytesV l).set i (.int .u8 (c : Int)) = bytesV (l.set i c) := by simp [bytesV, List.map_set]
theorem bytesV_get (l : List Nat) (i : Nat) (h : i < l.length) : (bytesV l)[i]? = some (.int .u8 ((l.getD i 0 : Nat) : Int)) := by
  rw [bytesV, List.getElem?_map, List.getD_eq_getElem?_getD, List.getElem?_eq_getElem h]; rfl

theorem nat_list_eq {a b : List Nat} (hl : a.length = b.length) (h : ∀ j, j < a.length → a.getD j 0 = b.getD j 0) : a = b := by
  refine List.ext_getElem hl fun i h1 h2 => ?_
  have := h i h1
  rw [List.getD_eq_getElem?_getD, List.getD_eq_getElem?_getD, List.getElem?_eq_getElem h1, List.getElem?_eq_getElem h2] at this
  exact this

theorem succB_append : ∀ (a b : List Nat), (CM.succB b).2 = false → CM.succB (a ++ b) = (a ++ (CM.succB b).1, false)
  | [], b, h => by simp only [List.nil_append]; rw [← h]
  | x :: a, b, h => by
    have ih := succB_append a b h
    simp only [List.cons_append, CM.succB, ih]; rfl
theorem succB_all : ∀ n, CM.succB (List.replicate n 255) = (List.replicate n 0, true)
  | 0 => rfl
  | n + 1 => by
    have ih := succB_all n
    rw [List.replicate_succ, CM.succB, ih]
    rfl

/-- the last bytes are 255, the one ahead of them is not -/
theorem succB_mid (l : List Nat) (p : Nat) (hp : p < l.length) (hc : l.getD p 0 < 255) (h : ∀ j, p < j → j < l.length → l.getD j 0 = 255) :
    (CM.succB l).1 = l.take p ++ (l.getD p 0 + 1) :: List.replicate (l.length - (p + 1)) 0 := by
  have e1 : l.drop (p + 1) = List.replicate (l.length - (p + 1)) 255 := by
    refine nat_list_eq (by simp) fun j hj => ?_
    rw [List.length_drop] at hj
    have h1 := h (p + 1 + j) (by omega) (by omega)
    rw [List.getD_eq_getElem?_getD, List.getElem?_drop, List.getD_eq_getElem?_getD, List.getElem?_replicate, if_pos hj]
    rw [List.getD_eq_getElem?_getD] at h1
    exact h1
  have e2 : l = l.take p ++ l.getD p 0 :: List.replicate (l.length - (p + 1)) 255 := by
    rw [← e1, ← drop_cons hp, List.take_append_drop]
  have e3 : (CM.succB (l.getD p 0 :: List.replicate (l.length - (p + 1)) 255)) = ((l.getD p 0 + 1) :: List.replicate (l.length - (p + 1)) 0, false) := by
    rw [CM.succB, succB_all]
    simp only [if_true]
    rw [if_pos hc]
  have e4 := succB_append (l.take p) (l.getD p 0 :: List.replicate (l.length - (p + 1)) 255) (by rw [e3])
  rw [← e2, e3] at e4
  rw [e4]

theorem succB_none (l : List Nat) (h : ∀ j, j < l.length → l.getD j 0 = 255) : (CM.succB l).1 = List.replicate l.length 0 := by
  have e1 : l = List.replicate l.length 255 := by
    refine nat_list_eq (by simp) fun j hj => ?_
    have h1 := h j hj
    rw [h1, List.getD_eq_getElem?_getD, List.getElem?_replicate, if_pos hj]; rfl
  have := succB_all l.length
  rw [← e1] at this
  rw [this]

theorem take_eq {a b : List Nat} {p : Nat} (ha : p ≤ a.length) (hb : p ≤ b.length) (h : ∀ j, j < p → a.getD j 0 = b.getD j 0) : a.take p = b.take p := by
  refine nat_list_eq (by rw [List.length_take, List.length_take]; omega) fun j hj => ?_
  rw [List.length_take] at hj
  have := h j (by omega)
  simp only [List.getD_eq_getElem?_getD, List.getElem?_take] at this ⊢
  rw [if_pos (by omega), if_pos (by omega)]; exact this
theorem drop_zeros {a : List Nat} {p : Nat} (h : ∀ j, p ≤ j → j < a.length → a.getD j 0 = 0) : a.drop p = List.replicate (a.length - p) 0 := by
  refine nat_list_eq (by simp) fun j hj => ?_
  rw [List.length_drop] at hj
  have := h (p + j) (by omega) (by omega)
  simp only [List.getD_eq_getElem?_getD, List.getElem?_drop, List.getElem?_replicate] at this ⊢
  rw [if_pos hj, this]; rfl
theorem set_split {l : List Nat} {p v : Nat} (hp : p < l.length) : l.set p v = l.take p ++ v :: l.drop (p + 1) := by
  rw [List.set_eq_take_append_cons_drop, if_pos hp]

theorem cast_inj {a b : List Nat} (h : a.map (fun (b : Nat) => (b : Int)) = b.map (fun (b : Nat) => (b : Int))) : a = b :=
  (List.map_inj_right (fun x y e => by exact Int.ofNat.inj e)).1 h

theorem own_slice {w : World} {B : Nat} {e : TypeId} {size : Nat} {v : Value} {n : Nat} {xs : List Value} (h : w.ownsRow B e size v n xs) (hn : 0 < n) : ∃ g cap, v = .slice (some ⟨g, 0, none⟩) n cap ∧ B ≤ g ∧ g < w.heap.size := by
  have hlt := h.lt
  obtain ⟨_, h2⟩ := h
  rcases h2 with ⟨_, rfl⟩ | ⟨g, cap, cur, hv, hg, _⟩
  · omega
  · exact ⟨g, cap, hv, hg, (hlt g (by rw [hv]; rfl)).2⟩

theorem own_bytes {w : World} {B : Nat} {e : TypeId} {v : Value} {n : Nat} {l : List Nat} (h : w.ownsRow B e 1 v n (bytesV l)) (hl : n ≤ 140737488355328) : BytesW w v l := by
  refine own_ints (B := B) (e := e) (n := n) ?_ hl
  have : (l.map fun (b : Nat) => (b : Int)).map (Value.int .u8) = bytesV l := by simp [bytesV]
  rw [this]; exact h

theorem set_getD (l : List Nat) (i c j : Nat) (hi : i < l.length) : (l.set i c).getD j 0 = if j = i then c else l.getD j 0 := by
  rw [List.getD_eq_getElem?_getD, List.getElem?_set, List.getD_eq_getElem?_getD]
  by_cases e : i = j
  · subst e; simp [hi]
  · rw [if_neg e, if_neg (fun h => e h.symm)]
end Go.Proofs.YtloooajippcdlaaDoor
