/- The automaton that begins at another state (both change places): no program in sight. -/
import Derived.Test.YthnojechejckpaaDoorDn
namespace Go.Proofs.YthnojechejckpaaDoor

def sw (s i : Nat) : Nat := if i = 0 then s else if i = s then 0 else i
theorem sw_zero (s : Nat) : sw s 0 = s := by simp [sw]
theorem sw_self (s : Nat) : sw s s = 0 := by unfold sw; split <;> simp_all
theorem sw_sw (s i : Nat) : sw s (sw s i) = i := by
  unfold sw
  by_cases h : i = 0
  · subst h; simp
  · rw [if_neg h]
    by_cases h2 : i = s
    · rw [if_pos h2, if_pos rfl, h2]
    · rw [if_neg h2, if_neg h, if_neg h2]
theorem sw_lt {s i n : Nat} (hs : s < n) (hi : i < n) : sw s i < n := by unfold sw; split; exact hs; split <;> omega
theorem sw_inj {s i j : Nat} (h : sw s i = sw s j) : i = j := by rw [← sw_sw s i, h, sw_sw]

def swI (s : Nat) (x : Int) : Int := if x = 0 then (s : Int) else if x = (s : Int) then 0 else x
theorem swI_nat (s i : Nat) : swI s (i : Int) = (sw s i : Int) := by
  unfold swI sw
  by_cases h : i = 0
  · subst h; simp
  · rw [if_neg (by omega), if_neg h]
    by_cases h2 : i = s
    · rw [if_pos (by omega), if_pos h2]; rfl
    · rw [if_neg (by omega), if_neg h2]

def begunD (d : Dn) (s : Nat) : Dn where
  next := (List.range d.next.length).map fun i => (d.next.getD (sw s i) []).map (swI s)
  label := (List.range d.next.length).map fun i => d.label.getD (sw s i) 0

theorem begun_len (d : Dn) (s : Nat) : (begunD d s).next.length = d.next.length := by simp [begunD]
theorem begun_row {d : Dn} {s i : Nat} (hi : i < d.next.length) : (begunD d s).next.getD i [] = (d.next.getD (sw s i) []).map (swI s) := by
  rw [begunD, List.getD_eq_getElem?_getD, List.getElem?_map, List.getElem?_range hi]; rfl
theorem begun_label {d : Dn} {s i : Nat} (hi : i < d.next.length) : (begunD d s).label.getD i 0 = d.label.getD (sw s i) 0 := by
  rw [begunD, List.getD_eq_getElem?_getD, List.getElem?_map, List.getElem?_range hi]; rfl
theorem begun_entry {d : Dn} (hm : May d) {s i c : Nat} (hs : s < d.next.length) (hi : i < d.next.length) (hc : c < 256) : ((begunD d s).next.getD i []).getD c 0 = (sw s (d.nx (sw s i) c) : Int) := by
  have hr := hm.row (sw s i) (sw_lt hs hi)
  rw [begun_row hi, List.getD_eq_getElem?_getD, List.getElem?_map, List.getElem?_eq_getElem (by omega)]
  have h := hm.nx_int (sw_lt hs hi) hc
  rw [List.getD_eq_getElem?_getD (l := d.next.getD (sw s i) []), List.getElem?_eq_getElem (by omega)] at h
  simp only [Option.getD_some] at h
  simp only [Option.map_some, Option.getD_some]
  rw [h, swI_nat]
theorem begun_nx {d : Dn} (hm : May d) {s i c : Nat} (hs : s < d.next.length) (hi : i < d.next.length) (hc : c < 256) : (begunD d s).nx i c = sw s (d.nx (sw s i) c) := by
  show (((begunD d s).next.getD i []).getD c 0).toNat = _
  rw [begun_entry hm hs hi hc]; simp
theorem begun_lb {d : Dn} {s i : Nat} (hi : i < d.next.length) : (begunD d s).lb i = d.lb (sw s i) := begun_label hi

theorem begun_may {d : Dn} (hm : May d) {s : Nat} (hs : s < d.next.length) : May (begunD d s) where
  pos := by rw [begun_len]; exact hm.pos
  most := by rw [begun_len]; exact hm.most
  labels := by simp [begunD]
  row := fun i hi => by
    rw [begun_len] at hi
    rw [begun_row hi, List.length_map]; exact hm.row _ (sw_lt hs hi)
  label := fun i hi => by
    rw [begun_len] at hi
    rw [begun_label hi]; exact hm.label _ (sw_lt hs hi)
  to := fun i c hi hc => by
    rw [begun_len] at hi ⊢
    rw [begun_entry hm hs hi hc]
    have := sw_lt hs (hm.nx_lt (sw_lt hs hi) hc)
    omega

theorem begun_ways {d : Dn} (hm : May d) {s : Nat} (hs : s < d.next.length) (label : Int) (n : Nat) : (begunD d s).ways label n 0 = d.ways label n s := by
  have h := CM.ways_iso (nx := d.nx) (nx' := (begunD d s).nx) (p := fun t => d.lb t == label) (p' := fun t => (begunD d s).lb t == label) (sw s) d.next.length (fun i c hi hc => hm.nx_lt hi hc)
    (fun i c hi hc => by rw [begun_nx hm hs (sw_lt hs hi) hc, sw_sw]) (fun i hi => by show ((begunD d s).lb (sw s i) == label) = _; rw [begun_lb (sw_lt hs hi), sw_sw]) n s hs
  rw [sw_self] at h
  exact h

theorem begun_xeq {d : Dn} (hm : May d) {s : Nat} (hs : s < d.next.length) {i : Nat} (hi : i < d.next.length) : LM.xeq (begunD d s).aut d.aut (sw s i) i := by
  intro w
  induction w generalizing i with
  | nil => intro _; show (begunD d s).lb (sw s i) = d.lb i; rw [begun_lb (sw_lt hs hi), sw_sw]
  | cons c w ih =>
    intro hw
    have hc := hw c (by simp)
    rw [LM.Aut.run_cons, LM.Aut.run_cons]
    have e : (begunD d s).aut.nx (sw s i) c = sw s (d.nx i c) := by show (begunD d s).nx (sw s i) c = _; rw [begun_nx hm hs (sw_lt hs hi) hc, sw_sw]
    rw [e]
    exact ih (hm.nx_lt hi hc) (fun x hx => hw x (List.mem_cons_of_mem _ hx))
end Go.Proofs.YthnojechejckpaaDoor
