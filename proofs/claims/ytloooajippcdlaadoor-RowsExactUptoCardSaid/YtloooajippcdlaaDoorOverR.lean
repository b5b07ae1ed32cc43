/- bolterkit.OverRows: rows that are full are copied by its appends: nothing old changes, and no two of the copies share memory. -/
import Derived.Test.YtloooajippcdlaaDoorFullR
import Derived.Laws.OwnMore
import Derived.ArgAppend
import Derived.Deep.AppendLies
namespace Go.Proofs.YtloooajippcdlaaDoor
open Go.RowKit

/-- an append to a list that is full: a new block, nothing old changes -/
theorem wpList_append_full {P : Program} (w : World) {ops : Array Oper} {rest : List Oper} {o : Oper} {a : Act} {Q : Exit → Act → World → Prop} (hgd : o.guard = none) (s x : Operand) (t : TypeId)
    (ho : o.op = .call { callee := .builtin .append, args := #[s, x], argTypes := #[t, t] })
    (e : TypeId) (i : TypeInfo) (z : Value) (size bytes : Nat) (ht : P.underlying t = some (.slice e)) (hi : P.info? e = some i) (hz : i.zero = some z)
    (hsize : i.size = size) (hby : i.bytes = bytes) (hzs : z.cells.size = size) (hsz : 0 < size)
    (b : Addr) (n cap : Nat) (olds : List Value) (hs : a.eval s = .slice (some b) n cap) (hlo : olds.length = n * size) (holds : ∀ j u, olds[j]? = some u → w.cell? (b.add j) = some u)
    (ad : Addr) (m c : Nat) (news : List Value) (hx : a.eval x = .slice (some ad) m c) (hl : news.length = m * size) (hnews : ∀ j u, news[j]? = some u → w.cell? (ad.add j) = some u)
    (hg : cap < n + m) (h63 : n + m ≤ maxLen) (hbytes : (n + m) * bytes ≤ 140737488355328)
    (h : ∀ v' w', w'.ownsRow w.heap.size e size v' (n + m) (olds ++ news) → w.grownBy w' none → wpList P ops Q rest (a.put o.dst v') w') :
    wpList P ops Q (o :: rest) a w := by
  refine wpList_plain hgd fun K hK => ?_
  obtain ⟨v', w', hr, h2, h3⟩ := run_append_arg_grows (P := P) w t o.type e i z size bytes ht hi hz hsize hby hzs hsz b n cap olds hlo holds ad m c news hl hnews hg h63 hbytes
  unfold Oper.wp execOp
  simp only [ho, resolve, invoke, builtin, Sem.run_bind, Sem.run_pure, Result.andThen_ok, List.map_toArray, List.map_cons, List.map_nil, hs, hx, hr]
  exact hK _ _ (h v' w' h2 h3)

/-- row i, written over -/
def ovr (L i : Nat) : List Int := List.replicate (L + 2) (-1000 - (i : Int))
def ovrs (L n : Nat) : List (List Int) := (List.range n).map (ovr L)
theorem ovrs_succ (L n : Nat) : ovrs L (n + 1) = ovrs L n ++ [ovr L n] := by simp [ovrs, List.range_succ]
theorem ovrs_len (L n : Nat) : (ovrs L n).length = n := by simp [ovrs]
theorem ovr_len (L n : Nat) : (ovr L n).length = L + 2 := by simp [ovr]
theorem ovr_get {L i k : Nat} (h : k < L + 2) : (intsV (ovr L i))[k]? = some (.int .i64 (-1000 - (i : Int))) := by
  unfold intsV ovr
  rw [List.getElem?_map, List.getElem?_replicate, if_pos h]; rfl
theorem ovrs_get {L n i : Nat} (h : i < n) : (ovrs L n)[i]? = some (ovr L i) := by
  unfold ovrs
  rw [List.getElem?_map, List.getElem?_range h]; rfl

theorem Lst.put {k B n g cap : Nat} {w : World} {own : Nat → Nat} {e : TypeId} {xs : List Value} (h : Lst k w own B e (.slice (some ⟨g, 0, none⟩) n cap) xs) (i : Nat) (u : Value) :
    Lst k (w.setCell ⟨g, i, none⟩ u) own B e (.slice (some ⟨g, 0, none⟩) n cap) (xs.set i u) ∧ Keeps (· ≠ k) w own (w.setCell ⟨g, i, none⟩ u) own := by
  obtain ⟨a, c, hv, hn, _⟩ := own_read h.row
  simp only [Value.slice.injEq] at hv
  obtain ⟨-, rfl, -⟩ := hv
  have h1 := (h.row.stored i u).1
  exact ⟨⟨by rw [List.length_set]; exact h1, h.tag⟩, Keeps.setCell (h.tag g rfl) (by simp)⟩

theorem own_shape9 {w : World} {B : Nat} {e : TypeId} {size n : Nat} {v : Value} {xs : List Value} (h : w.ownsRow B e size v n xs) : ∃ a cap, v = .slice a n cap := by
  rcases h.2 with ⟨h1, h2⟩ | ⟨g, cap, _, hv, _⟩
  · exact ⟨none, 0, by rw [h1, h2]⟩
  · exact ⟨_, cap, hv⟩

/-- the copies: 1 their headers, 2 they themselves (3 the one that is being written over) -/
structure OvrS (w wr : World) (own : Nat → Nat) (av : Value) (hs : List Value) (L i : Nat) : Prop where
  ext : Ext w wr
  hdr : Lst 1 wr own w.heap.size 23 av hs
  rows : Rws 2 wr own w.heap.size hs (ovrs L i)
section
variable {w wr w' w2 w4 : World} {own own' : Nat → Nat} {av v' rv : Value} {hs : List Value} {L i : Nat}
theorem OvrS.len (h : OvrS w wr own av hs L i) : hs.length = i := by have := h.rows.len; rw [ovrs_len] at this; omega
theorem OvrS.keep (h : OvrS w wr own av hs L i) (hx : Ext w w') (hk : Keeps (· ≤ 2) wr own w' own') : OvrS w w' own' av hs L i := ⟨hx, h.hdr.keep hk (by omega), h.rows.keep hk (by omega)⟩
theorem OvrS.more (h : OvrS w wr own av hs L i) (hx : Ext wr w') : OvrS w w' own av hs L i := h.keep (h.ext.trans hx) (.ext hx)
theorem OvrS.new (h : OvrS w wr own av hs L i) (hx : Ext wr w') (k : Nat) : OvrS w w' (newTag wr own k) av hs L i := h.keep (h.ext.trans hx) (.new hx k)
theorem OvrS.row (h : OvrS w wr own av hs L i) (hr : Lst 3 wr own w.heap.size 3 rv (intsV (ovr L i))) (hx : Ext wr w2) (hown : w4.ownsRow w.heap.size 23 1 v' (hs.length + 1) (hs ++ [rv])) (hg : w2.grownBy w4 av.ownBlock)
    (hat : v'.ownBlock = av.ownBlock ∨ v'.ownBlock = some w2.heap.size) : ∃ own', OvrS w w4 own' v' (hs ++ [rv]) L (i + 1) := by
  obtain ⟨h1, h2⟩ := h.hdr.push hx hown hg hat
  have h3 := hr.keep h2 (by omega)
  have hj := Keeps.join w4 (newTag wr own 1) 3 2
  refine ⟨joinTag (newTag wr own 1) 3 2, ⟨h.hdr.push_ext h.ext (Nat.le_refl _) hx hg, h1.keep hj (by omega), ?_⟩⟩
  rw [ovrs_succ]
  exact (h.rows.keep h2 (by omega)).join (by omega) h3
end

set_option maxRecDepth 100000 in
set_option maxHeartbeats 8000000 in
theorem overRows_c {w : World} {v : Value} {n L : Nat} (h : FullRows w v n L) (hn : n ≤ 1000) (hL : L ≤ 1000) : Calls Tryd.prog 30 #[v] w fun e w' => e = .returned (.bool true) ∧ Ext w w' := by
  obtain ⟨a, c, rfl⟩ := h.shape
  have hr := h.rows a c rfl
  have H := Lib.hid hr
  clear h hr
  obtain ⟨i0, hi0, hz0, hz1, hz2⟩ := info_parts int_info
  obtain ⟨j0, hj0, hw0, hw1, hw2⟩ := info_parts slice_info
  go_enter Tryd.func30, Tryd.ntmps30
  go_wp2
  go_loopw [3, 4] (fun av iv wr => ∃ (i : Nat) (own : Nat → Nat) (hs : List Value), i ≤ n ∧ iv = .int .i64 i ∧ OvrS w wr own av hs L i) (fun _ iv _ => n - (intOf iv).toNat)
  case atStart => exact ⟨0, fun _ => 9, [], Nat.zero_le _, rfl, ⟨Ext.refl _, .nil _ _ _ _ _, .nil _ _ _ _⟩⟩
  case round =>
    obtain ⟨i, own, hs, hi, rfl, hS⟩ := hrel
    have hhl := hS.len
    have htop := hS.hdr.row
    rw [hhl] at htop
    obtain ⟨aa, ca, hav⟩ := own_shape9 htop
    subst hav
    by_cases hlt : i < n
    · have hj1 : (i : Int) < n := by omega
      obtain ⟨b, o, rfl, hrow⟩ := H.out (by omega)
      obtain ⟨g, r1, r2⟩ := hrow i hlt
      have c1 := hS.ext.cell r1
      have hl1 := lt_of_cell r1
      obtain ⟨olds, hol, hoc⟩ : ∃ olds : List Value, olds.length = L ∧ (∀ j u, olds[j]? = some u → (∃ x, u = .int .i64 x) ∧ w.cell? ⟨g, j, none⟩ = some u) := by
        refine ⟨(List.range L).map fun k => (w.cell? ⟨g, k, none⟩).getD default, by simp, fun j u hju => ?_⟩
        have hjl := (List.getElem?_eq_some_iff.1 hju).1
        simp only [List.length_map, List.length_range] at hjl
        rw [List.getElem?_map, List.getElem?_range hjl] at hju
        obtain ⟨x, hx⟩ := r2 j hjl
        simp only [Option.map_some, Option.some.injEq, hx, Option.getD_some] at hju
        subst hju
        exact ⟨⟨x, rfl⟩, hx⟩
      have hocW : ∀ j u, olds[j]? = some u → (wr.alloc (.cells #[.int .i64 (-1), .int .i64 (-2)] 3)).cell? ((⟨g, 0, none⟩ : Addr).add j) = some u := fun j u hju => by
        have hadd : (⟨g, 0, none⟩ : Addr).add j = ⟨g, j, none⟩ := by unfold Addr.add; split <;> simp_all
        rw [hadd]
        exact (Ext.box wr _).cell (hS.ext.cell (hoc j u hju).2)
      have hnews : ∀ j u, [Value.int .i64 (-1), .int .i64 (-2)][j]? = some u → (wr.alloc (.cells #[.int .i64 (-1), .int .i64 (-2)] 3)).cell? ((⟨wr.heap.size, 0, none⟩ : Addr).add j) = some u := fun j u hj =>
        World.news_of_block (cs := #[.int .i64 (-1), .int .i64 (-2)]) (t := 3) (fr := (0, 0)) (heap_alloc_new _ _) j u hj
      have hmax : L + 2 ≤ maxLen := by unfold maxLen; omega
      have hol' : olds.length = L * 1 := by omega
      have HS := Lib.hid (And.intro hS (And.intro htop (And.intro hhl (And.intro hol hoc))))
      clear hS htop hhl hrow r1 r2 hol hoc
      go_wp2_with (at_builtin; refine wpList_append_full _ rfl _ _ 23 rfl 3 i0 (.int .i64 0) 1 8 Tryd.underlying23 hi0 hz0 hz1 hz2 rfl (by decide) ⟨g, 0, none⟩ L L olds rfl hol' hocW ⟨wr.heap.size, 0, none⟩ 2 2 [.int .i64 (-1), .int .i64 (-2)] rfl rfl hnews (by omega) hmax (by omega) ?_; intro v' W hown' hg; obtain ⟨gx, cx, hv', hgx, -⟩ := own_slc hown' (by omega); subst hv')
      have hxW : Ext wr W := Below.grown (Ext.box wr (.cells #[.int .i64 (-1), .int .i64 (-2)] 3)) hg (by simp) (fun g e => by cases e)
      have hgx' : wr.heap.size ≤ gx := by simp at hgx; omega
      have hl3 : Lst 3 W (newTag wr own 3) w.heap.size 3 (.slice (some ⟨gx, 0, none⟩) (L + 2) cx) (olds ++ [.int .i64 (-1), .int .i64 (-2)]) := by
        refine ⟨?_, fun g e => ?_⟩
        · rw [show (olds ++ [Value.int .i64 (-1), .int .i64 (-2)]).length = L + 2 by rw [List.length_append, HS.out.2.2.2.1]; rfl]
          exact own_base hown' (by have := HS.out.1.ext.size; simp; omega)
        · simp only [Value.ownBlock, Option.some.injEq] at e
          subst e
          exact newTag_new hgx'
      have hS3 := HS.out.1.new hxW 3
      have hys : ∀ u ∈ olds ++ [Value.int .i64 (-1), .int .i64 (-2)], ∃ x, u = .int .i64 x := fun u hu => by
        rcases List.mem_append.1 hu with hu | hu
        · obtain ⟨j, hj⟩ := List.getElem?_of_mem hu
          exact (HS.out.2.2.2.2 j u hj).1
        · simp at hu
          rcases hu with rfl | rfl <;> exact ⟨_, rfl⟩
      have H3 := Lib.hid (And.intro hl3 (And.intro hS3 (And.intro hys (show (olds ++ [Value.int .i64 (-1), .int .i64 (-2)]).length = L + 2 by rw [List.length_append, HS.out.2.2.2.1]; rfl))))
      generalize newTag wr own 3 = own3 at H3
      clear hl3 hS3 hys hxW hgx hgx' hown' hg hocW hnews hol' hmax c1 hl1
      go_loopw [6] (fun kv wk => ∃ (k : Nat) (ys : List Value), k ≤ L + 2 ∧ kv = .int .i64 k ∧ Lst 3 wk own3 w.heap.size 3 (.slice (some ⟨gx, 0, none⟩) (L + 2) cx) ys ∧ ys.length = L + 2 ∧ (∀ u ∈ ys, ∃ x, u = .int .i64 x) ∧ (∀ j, j < k → ys[j]? = some (.int .i64 (-1000 - (i : Int)))) ∧ OvrS w wk own3 (.slice aa i ca) hs L i) (fun kv _ => L + 2 - (intOf kv).toNat)
      case atStart => exact ⟨0, _, Nat.zero_le _, rfl, H3.out.1, H3.out.2.2.2, H3.out.2.2.1, fun j hj => absurd hj (Nat.not_lt_zero _), H3.out.2.1⟩
      case round =>
        clear H3
        rename World => wk
        obtain ⟨k, ys, hk, rfl, hl, hyl, hyi, hyk, hSk⟩ := hrel
        by_cases hlk : k < L + 2
        · have hj2 : (k : Int) < (L : Int) + 2 := by omega
          obtain ⟨u, hu⟩ : ∃ u, ys[k]? = some u := ⟨_, List.getElem?_eq_getElem (by omega)⟩
          obtain ⟨x, rfl⟩ := hyi u (List.mem_of_getElem? hu)
          have c1 := hl.cell hu
          have f1 : wk.frozen? ⟨gx, k, none⟩ = false := by have h9 := hl.row; rw [hyl] at h9; exact h9.frozenAt k
          obtain ⟨hl2, hk2⟩ := hl.put k (.int .i64 (-1000 - (i : Int)))
          have hx2 : Ext w (wk.setCell ⟨gx, k, none⟩ (.int .i64 (-1000 - (i : Int)))) := Below.setCell hSk.ext (hl.row.lt gx rfl).1 _
          have hS2 := hSk.keep hx2 (hk2.mono fun k (hk : k ≤ 2) => (by omega : k ≠ 3))
          have HK := Lib.hid (And.intro hl2 (And.intro hyl (And.intro hyi (And.intro hyk hS2))))
          clear hl hyl hyi hyk hSk hl2 hk2 hx2 hS2 hu
          go_wp2
          go_roundw
          case rel =>
            refine ⟨k + 1, ys.set k (.int .i64 (-1000 - (i : Int))), by omega, by go_num, HK.out.1, by rw [List.length_set]; exact HK.out.2.1, fun u hu => ?_, fun j hj => ?_, HK.out.2.2.2.2⟩
            · rcases List.mem_or_eq_of_mem_set hu with hu | rfl
              · exact HK.out.2.2.1 u hu
              · exact ⟨_, rfl⟩
            · by_cases e : j = k
              · subst e; rw [List.getElem?_set_self (by rw [HK.out.2.1]; exact hlk)]
              · rw [List.getElem?_set_ne (Ne.symm e)]; exact HK.out.2.2.2.1 j (by omega)
          case measure => simp [intOf]; omega
        · have hj2 : ¬ (k : Int) < (L : Int) + 2 := by omega
          have hyy : ys = intsV (ovr L i) := by
            apply List.ext_getElem?
            intro j
            by_cases hjL : j < L + 2
            · rw [hyk j (by omega), ovr_get hjL]
            · rw [List.getElem?_eq_none (by omega), List.getElem?_eq_none (by simp [intsV, ovr_len]; omega)]
          subst hyy
          have htk := hSk.hdr.row
          rw [hSk.len] at htk
          have hown2 := own_ext (Ext.box wk (.cells #[.slice (some ⟨gx, 0, none⟩) (L + 2) cx] 23)) htk
          have hcell := cell_one_new wk (.slice (some ⟨gx, 0, none⟩) (L + 2) cx) 23
          have h1c : ∀ u ∈ [Value.slice (some ⟨gx, 0, none⟩) (L + 2) cx], u.oneCell' = true := by intro u hu; simp at hu; subst hu; rfl
          have hbase : w.heap.size ≤ (wk.alloc (.cells #[.slice (some ⟨gx, 0, none⟩) (L + 2) cx] 23)).heap.size := by have := hSk.ext.size; simp; omega
          have hmax : i + 1 ≤ maxLen := by unfold maxLen; omega
          have HK := Lib.hid (And.intro hl hSk)
          clear hl hyl hyi hyk hSk htk
          go_wp2_with (at_builtin; refine wpList_append_own_at _ rfl _ _ 22 rfl w.heap.size 23 j0 (.slice none 0 0) 1 24 Tryd.underlying22 hj0 hw0 hw1 hw2 rfl (by decide) (.slice aa i ca) i _ rfl hown2 ⟨wk.heap.size, 0, none⟩ 1 1 [.slice (some ⟨gx, 0, none⟩) (L + 2) cx] rfl rfl hcell h1c hmax (by omega) hbase ?_; intro v' W7 hown' hg _ hat)
          obtain ⟨own', hS'⟩ := HK.out.2.row HK.out.1 (Ext.box wk (.cells #[.slice (some ⟨gx, 0, none⟩) (L + 2) cx] 23)) (by rw [HK.out.2.len]; exact hown') hg hat
          have HF := Lib.hid hS'
          clear hown' hg hat hS' hown2 hcell h1c hbase
          go_roundw
          case rel => exact ⟨i + 1, own', _, by omega, by go_num, HF.out⟩
          case measure => simp [intOf]; omega
    · obtain rfl : n = i := by omega
      have HE := Lib.hid hS
      clear hS htop hhl hlt hi
      go_wp2
      go_loop [7] (fun iv => ∃ i : Nat, i ≤ n ∧ iv = .int .i64 i) (fun iv => n - (intOf iv).toNat)
      case atStart => exact ⟨0, Nat.zero_le _, rfl⟩
      case round =>
        obtain ⟨i, hi, rfl⟩ := hrel
        by_cases hlt : i < n
        · have hj1 : (i : Int) < n := by omega
          have hhl := HE.out.len
          have htop := HE.out.hdr.row
          rw [hhl] at htop
          obtain ⟨ga, ca2, hav, _, _⟩ := own_slc htop (by omega)
          simp only [Value.slice.injEq, true_and] at hav
          obtain ⟨rfl, rfl⟩ := hav
          obtain ⟨hv, hhv⟩ : ∃ hv, hs[i]? = some hv := ⟨_, List.getElem?_eq_getElem (by omega)⟩
          have c1 := HE.out.hdr.cell hhv
          have hrw := HE.out.rows.row i hv _ hhv (ovrs_get hlt)
          have hrl := hrw.row
          rw [show (intsV (ovr L i)).length = L + 2 by simp [intsV, ovr_len]] at hrl
          obtain ⟨gx, cx, rfl, _, _⟩ := own_slc hrl (by omega)
          have hcc : ∀ k, k < L + 2 → wr.cell? ⟨gx, k, none⟩ = some (.int .i64 (-1000 - (i : Int))) := fun k hk => hrw.cell (ovr_get hk)
          have HC := Lib.hid hcc
          clear hhl htop hhv hrw hrl hcc
          go_wp2
          go_loop [8] (fun kv => ∃ k : Nat, k ≤ L + 2 ∧ kv = .int .i64 k) (fun kv => L + 2 - (intOf kv).toNat)
          case atStart => exact ⟨0, Nat.zero_le _, rfl⟩
          case round =>
            obtain ⟨k, hk, rfl⟩ := hrel
            by_cases hlk : k < L + 2
            · have hj2 : (k : Int) < (L : Int) + 2 := by omega
              have c2 := HC.out k hlk
              have hxx : ((-1000 - (i : Int)) != (-1000 - (i : Int))) = false := by simp
              go_wp2
              go_round
              case rel => exact ⟨k + 1, by omega, by go_num⟩
              case measure => simp [intOf]; omega
            · have hj2 : ¬ (k : Int) < (L : Int) + 2 := by omega
              go_wp2
              go_round
              case rel => exact ⟨i + 1, by omega, by go_num⟩
              case measure => simp [intOf]; omega
        · have hj1 : ¬ (i : Int) < n := by omega
          go_wp2
          go_ret
          exact ⟨rfl, HE.out.ext⟩
end Go.Proofs.YtloooajippcdlaaDoor
