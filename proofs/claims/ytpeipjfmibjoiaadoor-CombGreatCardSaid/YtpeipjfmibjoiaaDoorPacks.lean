/- bolterref16.still, bolterref16.Packs: of what Pack tells they answer true. -/
import Derived.Test.YtpeipjfmibjoiaaDoorCombEnt
import Derived.Test.YtpeipjfmibjoiaaDoorCombMay
namespace Go.Proofs.YtpeipjfmibjoiaaDoor
open Go.RowKit

section
variable {w : World} {bb ob bd od n m cb cd cn cc bn on nc K : Nat} {an ac : Option Addr} {C : Cmb} {T : Tbl} {tcv tsv tlv : Value}

/-- both parameters in boxes -/
structure PkB (w W : World) (bb ob bd od : Nat) (an ac : Option Addr) (n m : Nat) (cb cd cn cc bn on nc K : Nat) (tcv tsv tlv : Value) : Prop where
  ext : Ext w W
  c0 : W.cell? ⟨w.heap.size, 0, none⟩ = some (.slice (some ⟨bb, ob, none⟩) n cb)
  c1 : W.cell? ⟨w.heap.size, 1, none⟩ = some (.slice (some ⟨bd, od, none⟩) n cd)
  c2 : W.cell? ⟨w.heap.size, 2, none⟩ = some (.slice an m cn)
  c3 : W.cell? ⟨w.heap.size, 3, none⟩ = some (.slice ac m cc)
  t0 : W.cell? ⟨w.heap.size + 1, 0, none⟩ = some tcv
  t1 : W.cell? ⟨w.heap.size + 1, 1, none⟩ = some (.int .i64 (K : Int))
  t2 : W.cell? ⟨w.heap.size + 1, 2, none⟩ = some tsv
  t3 : W.cell? ⟨w.heap.size + 1, 3, none⟩ = some (.slice (some ⟨bn, on, none⟩) n nc)
  t4 : W.cell? ⟨w.heap.size + 1, 4, none⟩ = some tlv
theorem PkB.made (w : World) (bb ob bd od : Nat) (an ac : Option Addr) (n m cb cd cn cc bn on nc K : Nat) (tcv tsv tlv : Value) :
    PkB w ((w.alloc (.cells #[.slice (some ⟨bb, ob, none⟩) n cb, .slice (some ⟨bd, od, none⟩) n cd, .slice an m cn, .slice ac m cc] 40)).alloc (.cells #[tcv, .int .i64 (K : Int), tsv, .slice (some ⟨bn, on, none⟩) n nc, tlv] 37)) bb ob bd od an ac n m cb cd cn cc bn on nc K tcv tsv tlv := by
  refine ⟨(Ext.box _ _).alloc _, ?_, ?_, ?_, ?_, ?_, ?_, ?_, ?_, ?_⟩ <;> simp

set_option maxRecDepth 100000 in
set_option maxHeartbeats 8000000 in
theorem still_c (h : CIn w bb ob bd od an ac n m C) (hT : TRows w bn on n K T) (hF : CB.Full T C) :
    Calls Tryd.prog 113 #[.agg #[.slice (some ⟨bb, ob, none⟩) n cb, .slice (some ⟨bd, od, none⟩) n cd, .slice an m cn, .slice ac m cc], .agg #[tcv, .int .i64 (K : Int), tsv, .slice (some ⟨bn, on, none⟩) n nc, tlv]] w
      fun e w' => e = .returned (.bool true) ∧ Ext w w' := by
  obtain ⟨W, hW⟩ : ∃ W, W = (w.alloc (.cells #[.slice (some ⟨bb, ob, none⟩) n cb, .slice (some ⟨bd, od, none⟩) n cd, .slice an m cn, .slice ac m cc] 40)).alloc (.cells #[tcv, .int .i64 (K : Int), tsv, .slice (some ⟨bn, on, none⟩) n nc, tlv] 37) := ⟨_, rfl⟩
  have hB := PkB.made w bb ob bd od an ac n m cb cd cn cc bn on nc K tcv tsv tlv
  rw [← hW] at hB
  have hn6 := h.n6
  have hm18 := h.m18
  have hk2 := hT.k2
  obtain ⟨c, hm⟩ := h.may
  have H := Lib.hid (And.intro hB (And.intro (h.ext hB.ext) (And.intro (hT.ext hB.ext) (And.intro hF (And.intro hm (And.intro h hW))))))
  clear hB h hT hF hm hW
  go_enter Tryd.func113, Tryd.ntmps113
  go_wp2
  rw [← H.out.2.2.2.2.2.2]
  go_loopw [5] (fun sv wr => ∃ s : Nat, s ≤ n ∧ sv = .int .i64 s ∧ Ext W wr) (fun sv _ => n - (intOf sv).toNat)
  case atStart => exact ⟨0, Nat.zero_le _, rfl, Ext.refl _⟩
  case round =>
    obtain ⟨s, hs, rfl, hx⟩ := hrel
    have t3 := hx.cell H.out.1.t3
    have HX := Lib.hid hx
    clear hx
    by_cases hlt : s < n
    · have hj1 : (s : Int) < n := by omega
      have hb := H.out.2.2.2.2.1.base s (by rw [H.out.2.1.nlen]; exact hlt)
      obtain ⟨z, hz⟩ : ∃ z : Nat, C.base.getD s 0 = z := ⟨(C.base.getD s 0).toNat, by omega⟩
      have hz1 : (z : Int) ≤ 262144 := by rw [← hz]; exact hb.2.1
      have HZ := Lib.hid hz
      clear hb hz
      go_wp2
      clear t3
      go_loopw [6] (fun av wr2 => ∃ a : Nat, a ≤ z ∧ av = .int .i64 a ∧ Ext W wr2) (fun av _ => z - (intOf av).toNat)
      case atStart => exact ⟨0, Nat.zero_le _, rfl, HX.out⟩
      case round =>
        clear HX
        rename World => wr2
        obtain ⟨a, ha, rfl, hx⟩ := hrel
        have c0 := hx.cell H.out.1.c0
        have b1 := hx.cell (H.out.2.1.base s hlt)
        rw [HZ.out] at b1
        have HX := Lib.hid hx
        clear hx
        by_cases hlt2 : a < z
        · have hj2 : (a : Int) < z := by omega
          go_wp2
          clear c0 b1
          go_loopw [7, 8] (fun fv kv wr3 => ∃ (k : Nat) (fb : Bool), k ≤ K ∧ kv = .int .i64 k ∧ fv = .bool fb ∧ Ext W wr3 ∧ (fb = false → ∀ j, j < k → ¬ (CB.liveB T s (C.dflt.getD s 0) j = true ∧ a + j < m ∧ 0 ≤ C.check.getD (a + j) 0 ∧ C.check.getD (a + j) 0 ≠ s))) (fun _ kv _ => K - (intOf kv).toNat)
          case atStart => exact ⟨0, false, Nat.zero_le _, rfl, rfl, HX.out, fun _ j hj => absurd hj (Nat.not_lt_zero _)⟩
          case round =>
            clear HX
            rename World => wr3
            obtain ⟨k, fb, hk, rfl, rfl, hx, hfb⟩ := hrel
            have t1 := hx.cell H.out.1.t1
            cases fb
            · by_cases hlt3 : k < K
              · have hj3 : (k : Int) < K := by omega
                have c0 := hx.cell H.out.1.c0
                have c1 := hx.cell H.out.1.c1
                have c2 := hx.cell H.out.1.c2
                have c3 := hx.cell H.out.1.c3
                have t3 := hx.cell H.out.1.t3
                obtain ⟨lv, hlv⟩ : ∃ b, b = CB.liveB T s (C.dflt.getD s 0) k := ⟨_, rfl⟩
                have hl := rlive_c (cb := cb) (cd := cd) (cn := cn) (cc := cc) (nc := nc) rfl (H.out.2.1.ext hx) (H.out.2.2.1.ext hx) hlt hlt3
                rw [← hlv] at hl
                obtain ⟨t, ht⟩ : ∃ t, t = a + k := ⟨_, rfl⟩
                have htt : (a : Int) + (k : Int) = (t : Int) := by omega
                have HL := Lib.hid (And.intro hl (And.intro hx (And.intro (hfb rfl) (And.intro hlv ht))))
                clear hl hx hfb hlv ht
                go_wp2_with fail
                refine HL.out.1.mono ?_
                rintro e w5 ⟨rfl, hx5⟩
                have hx05 := HL.out.2.1.trans hx5
                have c3 := hx05.cell H.out.1.c3
                have HX5 := Lib.hid hx05
                clear hx5 hx05 c0 c1 c2 t1 t3
                cases lv
                · go_wp2
                  go_roundw
                  case rel => exact ⟨k + 1, false, by omega, by go_num, rfl, HX5.out, fun _ j hj => by
                    by_cases e : j = k
                    · subst e; rw [← HL.out.2.2.2.1]; simp
                    · exact HL.out.2.2.1 j (by omega)⟩
                  case measure => simp [intOf]; omega
                · by_cases htm : t < m
                  · have htm' : (t : Int) < m := by omega
                    obtain ⟨bc, oc, rfl, cC⟩ := H.out.2.1.check (by omega)
                    have k1 := HX5.out.cell (cC t htm)
                    obtain ⟨x, hx9⟩ : ∃ x, x = C.check.getD t 0 := ⟨_, rfl⟩
                    rw [← hx9] at k1
                    have HK := Lib.hid hx9
                    clear hx9 cC
                    by_cases hx0 : 0 ≤ x
                    · by_cases hxs : x = s
                      · have hxs' : (x != (s : Int)) = false := by simpa using hxs
                        have HS := Lib.hid hxs
                        clear hxs
                        go_wp2
                        go_roundw
                        case rel => exact ⟨k + 1, false, by omega, by go_num, rfl, HX5.out, fun _ j hj => by
                          by_cases e : j = k
                          · subst e; rw [← HL.out.2.2.2.2, ← HK.out]; intro hh; exact hh.2.2.2 HS.out
                          · exact HL.out.2.2.1 j (by omega)⟩
                        case measure => simp [intOf]; omega
                      · have hxs' : (x != (s : Int)) = true := by rw [bne_iff_ne]; exact hxs
                        clear hxs
                        go_wp2
                        go_roundw
                        case rel => exact ⟨k + 1, true, by omega, by go_num, rfl, HX5.out, fun e => by cases e⟩
                        case measure => simp [intOf]; omega
                    · go_wp2
                      go_roundw
                      case rel => exact ⟨k + 1, false, by omega, by go_num, rfl, HX5.out, fun _ j hj => by
                        by_cases e : j = k
                        · subst e; rw [← HL.out.2.2.2.2, ← HK.out]; intro hh; have := hh.2.2.1; omega
                        · exact HL.out.2.2.1 j (by omega)⟩
                      case measure => simp [intOf]; omega
                  · have htm' : ¬ (t : Int) < m := by omega
                    go_wp2
                    go_roundw
                    case rel => exact ⟨k + 1, false, by omega, by go_num, rfl, HX5.out, fun _ j hj => by
                      by_cases e : j = k
                      · subst e; rw [← HL.out.2.2.2.2]; intro hh; exact htm hh.2.1
                      · exact HL.out.2.2.1 j (by omega)⟩
                    case measure => simp [intOf]; omega
              · exfalso
                obtain rfl : K = k := by omega
                have hn := hfb rfl
                obtain ⟨j, hj, h1, h2, h3⟩ := H.out.2.2.2.1.tight s (by rw [H.out.2.2.1.len]; exact hlt) a (by rw [HZ.out]; omega)
                have hjm := CB.liveL_mem.1 hj
                rw [H.out.2.2.1.cnt, Int.toNat_natCast] at hjm
                rw [H.out.2.1.mlen] at h1
                exact hn j hjm.1 ⟨by simpa [CB.liveB] using hjm.2, h1, h2, h3⟩
            · have HX := Lib.hid hx
              clear hx hfb
              by_cases hlt3 : k < K
              · have hj3 : (k : Int) < K := by omega
                go_wp2
                go_roundw
                case rel => exact ⟨a + 1, by omega, by go_num, HX.out⟩
                case measure => simp [intOf]; omega
              · have hj3 : ¬ (k : Int) < K := by omega
                go_wp2
                go_roundw
                case rel => exact ⟨a + 1, by omega, by go_num, HX.out⟩
                case measure => simp [intOf]; omega
        · have hj2 : ¬ (a : Int) < z := by omega
          go_wp2
          go_roundw
          case rel => exact ⟨s + 1, by omega, by go_num, HX.out⟩
          case measure => simp [intOf]; omega
    · have hj1 : ¬ (s : Int) < n := by omega
      go_wp2
      go_ret
      exact ⟨rfl, H.out.1.ext.trans HX.out⟩

set_option maxRecDepth 100000 in
set_option maxHeartbeats 8000000 in
theorem packs_c (hv : CmbV w (.agg #[.slice (some ⟨bb, ob, none⟩) n cb, .slice (some ⟨bd, od, none⟩) n cd, .slice an m cn, .slice ac m cc]) C) (h : CIn w bb ob bd od an ac n m C) (hT : TRows w bn on n K T) (hF : CB.Full T C) (hmK : CB.CMay C (K : Int)) :
    Calls Tryd.prog 60 #[.agg #[.slice (some ⟨bb, ob, none⟩) n cb, .slice (some ⟨bd, od, none⟩) n cd, .slice an m cn, .slice ac m cc], .agg #[tcv, .int .i64 (K : Int), tsv, .slice (some ⟨bn, on, none⟩) n nc, tlv]] w
      fun e w' => e = .returned (.bool true) ∧ Ext w w' := by
  obtain ⟨W, hW⟩ : ∃ W, W = (w.alloc (.cells #[.slice (some ⟨bb, ob, none⟩) n cb, .slice (some ⟨bd, od, none⟩) n cd, .slice an m cn, .slice ac m cc] 40)).alloc (.cells #[tcv, .int .i64 (K : Int), tsv, .slice (some ⟨bn, on, none⟩) n nc, tlv] 37) := ⟨_, rfl⟩
  have hB := PkB.made w bb ob bd od an ac n m cb cd cn cc bn on nc K tcv tsv tlv
  rw [← hW] at hB
  have hn6 := h.n6
  have hm18 := h.m18
  have hk2 := hT.k2
  have hcm := cmay_c (k := (K : Int)) (hv.ext hB.ext)
  rw [CB.mayC_true.2 hmK] at hcm
  have H := Lib.hid (And.intro hB (And.intro (h.ext hB.ext) (And.intro (hT.ext hB.ext) (And.intro hF (And.intro hmK (And.intro hcm hW))))))
  clear hB h hT hF hmK hcm hW hv
  go_enter Tryd.func60, Tryd.ntmps60
  go_wp2_with fail
  rw [← H.out.2.2.2.2.2.2]
  refine H.out.2.2.2.2.2.1.mono ?_
  rintro e w1 ⟨rfl, hx1⟩
  have c0 := hx1.cell H.out.1.c0
  have t3 := hx1.cell H.out.1.t3
  have hnn : ((n : Int) != (n : Int)) = false := by simp
  have HX1 := Lib.hid hx1
  clear hx1
  go_wp2
  clear c0 t3 hnn
  go_loopw [5, 6] (fun ov iv wr => ∃ i : Nat, i ≤ m ∧ iv = .int .i64 i ∧ ov = .int .i64 ((CB.usedN C i : Nat) : Int) ∧ wr = w1) (fun _ iv _ => m - (intOf iv).toNat)
  case atStart => exact ⟨0, Nat.zero_le _, rfl, rfl, rfl⟩
  case round =>
    obtain ⟨i, hi, rfl, rfl, rfl⟩ := hrel
    have c3 := HX1.out.cell H.out.1.c3
    have hu := CB.usedN_le C i
    obtain ⟨u, huu⟩ : ∃ u, u = CB.usedN C i := ⟨_, rfl⟩
    rw [← huu] at hu ⊢
    have HU := Lib.hid huu
    clear huu
    by_cases hlt : i < m
    · have hj1 : (i : Int) < m := by omega
      obtain ⟨bc, oc, rfl, cC⟩ := H.out.2.1.check (by omega)
      have k1 := HX1.out.cell (cC i hlt)
      obtain ⟨x, hx9⟩ : ∃ x, x = C.check.getD i 0 := ⟨_, rfl⟩
      rw [← hx9] at k1
      have HK := Lib.hid hx9
      clear hx9 cC
      by_cases hx0 : 0 ≤ x
      · have hyes : CB.usedN C (i + 1) = u + 1 := by rw [CB.usedN, if_pos (by rw [← HK.out]; exact hx0), ← HU.out]
        have HY := Lib.hid hyes
        clear hyes
        go_wp2
        go_roundw
        case rel => exact ⟨i + 1, by omega, by go_num, by rw [HY.out]; go_num, by trivial⟩
        case measure => simp [intOf]; omega
      · have hno : CB.usedN C (i + 1) = u := by rw [CB.usedN, if_neg (by rw [← HK.out]; exact hx0), ← HU.out]; rfl
        have HY := Lib.hid hno
        clear hno
        go_wp2
        go_roundw
        case rel => exact ⟨i + 1, by omega, by go_num, by rw [HY.out], by trivial⟩
        case measure => simp [intOf]; omega
    · obtain rfl : m = i := by omega
      have hj1 : ¬ (m : Int) < m := by omega
      clear hlt hi
      go_wp2
      clear c3
      go_loopw [7, 8] (fun lv sv wr => ∃ s : Nat, s ≤ n ∧ sv = .int .i64 s ∧ lv = .int .i64 ((CB.livesN T C s : Nat) : Int) ∧ CB.livesN T C s ≤ 256 * s ∧ Ext W wr) (fun _ sv _ => n - (intOf sv).toNat)
      case atStart => exact ⟨0, Nat.zero_le _, rfl, rfl, Nat.zero_le _, HX1.out⟩
      case round =>
        obtain ⟨s, hs, rfl, rfl, hle, hx⟩ := hrel
        have t3 := hx.cell H.out.1.t3
        obtain ⟨L, hL⟩ : ∃ u, u = CB.livesN T C s := ⟨_, rfl⟩
        rw [← hL] at hle ⊢
        have HL := Lib.hid hL
        have HX := Lib.hid hx
        clear hL hx
        by_cases hlt : s < n
        · have hj1 : (s : Int) < n := by omega
          obtain ⟨d, hd⟩ : ∃ d, d = C.dflt.getD s 0 := ⟨_, rfl⟩
          have HD := Lib.hid hd
          clear hd
          go_wp2
          clear t3
          go_loopw [7, 9] (fun lv kv wr2 => ∃ k : Nat, k ≤ K ∧ kv = .int .i64 k ∧ lv = .int .i64 ((L + (CB.liveN T s d k).length : Nat) : Int) ∧ Ext W wr2) (fun _ kv _ => K - (intOf kv).toNat)
          case atStart => exact ⟨0, Nat.zero_le _, rfl, rfl, HX.out⟩
          case round =>
            clear HX
            rename World => wr2
            obtain ⟨k, hk, rfl, rfl, hx⟩ := hrel
            have t1 := hx.cell H.out.1.t1
            have hlk := CB.liveN_len T s d k
            obtain ⟨q, hq⟩ : ∃ q, q = (CB.liveN T s d k).length := ⟨_, rfl⟩
            rw [← hq] at hlk ⊢
            have HQ := Lib.hid hq
            clear hq
            by_cases hlt3 : k < K
            · have hj3 : (k : Int) < K := by omega
              have c0 := hx.cell H.out.1.c0
              have c1 := hx.cell H.out.1.c1
              have c2 := hx.cell H.out.1.c2
              have c3 := hx.cell H.out.1.c3
              have hen := ent_c (cb := cb) (cd := cd) (cn := cn) (cc := cc) (k := k) (s := s) (H.out.2.1.ext hx) hlt (by omega)
              have hentry := H.out.2.2.2.1.entry (k := k) (by rw [H.out.2.2.1.cnt]; simpa using hlt3) s (by rw [H.out.2.2.1.len]; exact hlt)
              obtain ⟨x, hxx⟩ : ∃ x, x = CB.nx T s k := ⟨_, rfl⟩
              rw [hentry, ← hxx] at hen
              generalize (CB.look C k s).2 = pr at hen
              have HE := Lib.hid (And.intro hen (And.intro hx hxx))
              clear hen hx hxx hentry
              go_wp2_with fail
              refine HE.out.1.mono ?_
              rintro e w5 ⟨rfl, hx5⟩
              have hx05 := HE.out.2.1.trans hx5
              obtain ⟨b1, o1, cc1, r1, e1f⟩ := H.out.2.2.1.row s hlt
              have r1 := hx05.cell r1
              have e1 := hx05.cell (e1f k hlt3)
              rw [← HE.out.2.2] at e1
              have t3 := hx05.cell H.out.1.t3
              have hxe : (x != x) = false := by simp
              have c0 := hx05.cell H.out.1.c0
              have c1 := hx05.cell H.out.1.c1
              have c2 := hx05.cell H.out.1.c2
              have c3 := hx05.cell H.out.1.c3
              obtain ⟨lv, hlv⟩ : ∃ b, b = CB.liveB T s d k := ⟨_, rfl⟩
              have hl := rlive_c (cb := cb) (cd := cd) (cn := cn) (cc := cc) (nc := nc) HD.out.symm (H.out.2.1.ext hx05) (H.out.2.2.1.ext hx05) hlt hlt3
              rw [← hlv] at hl
              have HR := Lib.hid (And.intro hl (And.intro hx05 hlv))
              clear hl hx05 hx5 hlv e1f t1
              go_wp2_with fail
              refine HR.out.1.mono ?_
              rintro e w6 ⟨rfl, hx6⟩
              have hx06 := HR.out.2.1.trans hx6
              have c0 := hx06.cell H.out.1.c0
              have c3 := hx06.cell H.out.1.c3
              have HX6 := Lib.hid hx06
              clear hx6 r1 e1 t3 hxe c1 c2
              cases lv
              · have hno : (CB.liveN T s d (k + 1)).length = q := by
                  have := HR.out.2.2
                  rw [CB.liveN_no (by simpa [CB.liveB] using this.symm), ← HQ.out]
                have HN := Lib.hid hno
                clear hno hx06
                go_wp2
                go_roundw
                case rel => exact ⟨k + 1, by omega, by go_num, by rw [HN.out]; exact congrArg (Value.int .i64) (by omega), HX6.out⟩
                case measure => simp [intOf]; omega
              · have hlive : CB.nx T s k ≠ CB.other T d k := by have := HR.out.2.2; simpa [CB.liveB] using this.symm
                have hyes : (CB.liveN T s d (k + 1)).length = q + 1 := by rw [CB.liveN_yes hlive, List.length_append, ← HQ.out]; rfl
                have hin := H.out.2.2.2.1.live s (by rw [H.out.2.2.1.len]; exact hlt) k (CB.liveL_mem.2 ⟨by rw [H.out.2.2.1.cnt]; simpa using hlt3, by rw [← HD.out]; exact hlive⟩)
                have hb := H.out.2.2.2.2.1.base s (by rw [H.out.2.1.nlen]; exact hlt)
                obtain ⟨z, hz⟩ : ∃ z : Nat, C.base.getD s 0 = z := ⟨(C.base.getD s 0).toNat, by omega⟩
                have hz1 : (z : Int) ≤ 262144 := by rw [← hz]; exact hb.2.1
                have b1 := hx06.cell (H.out.2.1.base s hlt)
                rw [hz] at b1 hin
                obtain ⟨t, ht⟩ : ∃ t, t = z + k := ⟨_, rfl⟩
                have htt : (z : Int) + (k : Int) = (t : Int) := by omega
                rw [htt, H.out.2.1.mlen, Int.toNat_natCast] at hin
                have htm : (t : Int) < m := hin.1
                obtain ⟨bc, oc, rfl, cC⟩ := H.out.2.1.check (by omega)
                have k1 := hx06.cell (cC t (by omega))
                rw [hin.2] at k1
                have hss : ((s : Int) != (s : Int)) = false := by simp
                have HN := Lib.hid hyes
                clear hyes hlive hin hb hz ht cC hx06
                go_wp2
                go_roundw
                case rel => exact ⟨k + 1, by omega, by go_num, by rw [HN.out]; exact congrArg (Value.int .i64) (by omega), HX6.out⟩
                case measure => simp [intOf]; omega
            · obtain rfl : K = k := by omega
              have hj3 : ¬ (K : Int) < K := by omega
              have hnext : CB.livesN T C (s + 1) = L + q := by
                rw [CB.livesN, ← HL.out, ← HD.out, HQ.out]
                unfold CB.liveL
                rw [H.out.2.2.1.cnt, Int.toNat_natCast]
              have HN := Lib.hid hnext
              have HX := Lib.hid hx
              clear hnext hx hlt3 hk
              go_wp2
              go_roundw
              case rel => exact ⟨s + 1, by omega, by go_num, by rw [HN.out], by rw [HN.out]; omega, HX.out⟩
              case measure => simp [intOf]; omega
        · obtain rfl : n = s := by omega
          have hj1 : ¬ (n : Int) < n := by omega
          have hused := H.out.2.2.2.1.used
          rw [H.out.2.2.1.len, H.out.2.2.2.1.clen, H.out.2.1.mlen, ← HU.out, ← HL.out] at hused
          subst hused
          have huu : ((u : Int) == (u : Int)) = true := by simp
          have hx := HX.out
          have c0 := hx.cell H.out.1.c0
          have c1 := hx.cell H.out.1.c1
          have c2 := hx.cell H.out.1.c2
          have c3 := hx.cell H.out.1.c3
          have t0 := hx.cell H.out.1.t0
          have t1 := hx.cell H.out.1.t1
          have t2 := hx.cell H.out.1.t2
          have t4 := hx.cell H.out.1.t4
          have hst := still_c (cb := cb) (cd := cd) (cn := cn) (cc := cc) (nc := nc) (tcv := tcv) (tsv := tsv) (tlv := tlv) (H.out.2.1.ext hx) (H.out.2.2.1.ext hx) H.out.2.2.2.1
          have HS := Lib.hid hst
          clear hst hx hlt hs
          go_wp2_with fail
          refine HS.out.mono ?_
          rintro e w9 ⟨rfl, hx9⟩
          have HX9 := Lib.hid (H.out.1.ext.trans (HX.out.trans hx9))
          clear hx9 c0 c1 c2 c3 t0 t1 t2 t3 t4
          go_wp2
          go_ret
          exact ⟨rfl, HX9.out⟩
end
end Go.Proofs.YtpeipjfmibjoiaaDoor
