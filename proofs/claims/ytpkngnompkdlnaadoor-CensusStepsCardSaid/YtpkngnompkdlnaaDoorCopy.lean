/- bolterref0.Copy and CopyInts. -/
import Derived.Test.YtpkngnompkdlnaaDoorLab14
import Derived.Test.YtpkngnompkdlnaaDoorNth
import Derived.Test.YtpkngnompkdlnaaDoorRow14
import Derived.Laws.AppendOwnNone
namespace Go.Proofs.YtpkngnompkdlnaaDoor
open Go.RowKit

theorem news_ints {k : IntKind} {w : World} {b o : Nat} {l : List Int} (h : ∀ i, i < l.length → w.cell? ⟨b, o + i, none⟩ = some (.int k (l.getD i 0))) : ∀ j u, (l.map (Value.int k))[j]? = some u → w.cell? ((⟨b, o, none⟩ : Addr).add j) = some u := by
  intro j u hj
  rw [List.getElem?_map, Option.map_eq_some_iff] at hj
  obtain ⟨x, hx, rfl⟩ := hj
  have hi := (List.getElem?_eq_some_iff.1 hx).1
  have := h j hi
  rw [List.getD_eq_getElem?_getD, hx] at this
  unfold Addr.add
  by_cases e : j = 0
  · subst e; rw [if_pos rfl]; exact this
  · rw [if_neg e]; exact this
theorem one_ints (k : IntKind) (l : List Int) : ∀ u ∈ l.map (Value.int k), u.oneCell' = true := by
  intro u hu
  obtain ⟨x, _, rfl⟩ := List.mem_map.1 hu
  rfl

def Copied (E : TypeId) (k : IntKind) (l : List Int) (w : World) (e : Ending) (w' : World) : Prop :=
  ∃ v, e = .returned v ∧ w'.ownsRow w.heap.size E 1 v l.length (l.map (Value.int k)) ∧ Ext w w'

set_option maxHeartbeats 1000000 in
theorem copyBytes_c {va : Value} {la : List Int} {w : World} (ha : IntsK .u8 w va la) :
    Calls Tryd.prog 98 #[va] w (Copied 5 .u8 la w) := by
  obtain ⟨h1, a, ca, rfl, hca, ha2⟩ := ha.open
  obtain ⟨i0, hi, hz0, hz1, hz2⟩ := info_parts byte_info
  cases a with
  | none =>
    have hn : la = [] := by
      cases la with
      | nil => rfl
      | cons x l => obtain ⟨b, o, h, _⟩ := ha2 (by simp); cases h
    subst hn
    obtain rfl := hca.2 rfl
    go_enter Tryd.func98, Tryd.ntmps98
    go_wp2_with (at_builtin; refine wpList_append_own_none rfl _ _ 31 rfl w.heap.size 5 i0 1 Tryd.underlying31 hi _ _ _ rfl (World.ownsRow_nil _ _ _ _) rfl ?_)
    go_ret
    exact ⟨_, rfl, World.ownsRow_nil _ _ _ _, Ext.refl _⟩
  | some ad =>
    by_cases h0 : 0 < la.length
    · obtain ⟨b, o, h, h2⟩ := ha2 h0
      obtain rfl : ad = ⟨b, o, none⟩ := by simpa using h
      have h3 : 0 + la.length ≤ maxLen := by unfold maxLen; omega
      have h4 : (0 + la.length) * 1 ≤ 140737488355328 := by omega
      have h5 := news_ints (k := .u8) h2
      clear h2 ha2 ha
      go_enter Tryd.func98, Tryd.ntmps98
      go_wp2_with (at_builtin; refine wpList_append_own _ rfl _ _ 31 rfl w.heap.size 5 i0 (.int .u8 0) 1 1 Tryd.underlying31 hi hz0 hz1 hz2 rfl (by decide) _ _ _ rfl (World.ownsRow_nil _ _ _ _) ⟨b, o, none⟩ la.length ca (la.map (Value.int .u8)) rfl (by simp) h5 (one_ints _ _) h3 h4 (Nat.le_refl _) ?_; intro v' W hown hg _)
      go_ret
      rw [Nat.zero_add, List.nil_append] at hown
      exact ⟨_, rfl, hown, Below.grown (Ext.refl _) hg (Nat.le_refl _) (fun k hk => by cases hk)⟩
    · have hn : la = [] := List.eq_nil_of_length_eq_zero (by omega)
      subst hn
      go_enter Tryd.func98, Tryd.ntmps98
      go_wp2_with (at_builtin; refine wpList_append_own _ rfl _ _ 31 rfl w.heap.size 5 i0 (.int .u8 0) 1 1 Tryd.underlying31 hi hz0 hz1 hz2 rfl (by decide) _ _ _ rfl (World.ownsRow_nil _ _ _ _) ad 0 ca [] rfl rfl (fun j u h => by simp at h) (fun u h => by simp at h) (by unfold maxLen; omega) (by omega) (Nat.le_refl _) ?_; intro v' W hown hg _)
      go_ret
      exact ⟨_, rfl, hown, Below.grown (Ext.refl _) hg (Nat.le_refl _) (fun k hk => by cases hk)⟩
end Go.Proofs.YtpkngnompkdlnaaDoor
