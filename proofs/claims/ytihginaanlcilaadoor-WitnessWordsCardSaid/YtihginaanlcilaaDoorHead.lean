/- The words of the program's head, and what every card asks of them: read off a list of codes, since the kernel decodes a long string at great cost. By mkhead.py. -/
import Derived.Test.YtihginaanlcilaaDoorLaw
namespace Go.Proofs.YtihginaanlcilaaDoor.Head
open Go.RowKit Go.ChangeShapes Go.WideShapes Go.ChangeAt

set_option maxRecDepth 100000 in
theorem e1 : Tryd.prog.initOrder = String.ofList ([104, 97, 114, 110, 101, 115, 115, 32, 53, 50, 101, 102, 98, 57, 100, 98, 101, 52, 54, 54, 57, 99, 97, 55, 49, 55, 48, 57, 53, 56, 51, 56, 50, 54, 102, 54, 49, 53, 97, 56, 98, 100, 51, 99, 101, 54, 56, 102, 97, 53, 99, 52, 49, 56, 57, 102, 100, 56, 51, 51, 49, 102, 97, 50, 50, 97, 97, 101, 101, 98, 97, 56, 32, 99, 117, 116, 32, 97, 116, 32, 98, 111, 108, 116, 101, 114, 47, 98, 111, 108, 116, 101, 114, 108, 97, 119, 49, 51, 46, 87, 105, 116, 110, 101, 115, 115, 87, 111, 114, 100, 115, 32, 98, 111, 108, 116, 101, 114, 47, 98, 111, 108, 116, 101, 114, 108, 97, 119, 49, 51, 46, 87, 105, 116, 110, 101, 115, 115, 69, 120, 97, 99, 116, 32, 98, 111, 108, 116, 101, 114, 47, 98, 111, 108, 116, 101, 114, 108, 97, 119, 49, 51, 46, 87, 105, 116, 110, 101, 115, 115, 77, 111, 114, 101].map Char.ofNat) := by kernel_rfl
set_option maxRecDepth 100000 in
theorem e2 : Tryd.prog.initOrder.toList = [104, 97, 114, 110, 101, 115, 115, 32, 53, 50, 101, 102, 98, 57, 100, 98, 101, 52, 54, 54, 57, 99, 97, 55, 49, 55, 48, 57, 53, 56, 51, 56, 50, 54, 102, 54, 49, 53, 97, 56, 98, 100, 51, 99, 101, 54, 56, 102, 97, 53, 99, 52, 49, 56, 57, 102, 100, 56, 51, 51, 49, 102, 97, 50, 50, 97, 97, 101, 101, 98, 97, 56, 32, 99, 117, 116, 32, 97, 116, 32, 98, 111, 108, 116, 101, 114, 47, 98, 111, 108, 116, 101, 114, 108, 97, 119, 49, 51, 46, 87, 105, 116, 110, 101, 115, 115, 87, 111, 114, 100, 115, 32, 98, 111, 108, 116, 101, 114, 47, 98, 111, 108, 116, 101, 114, 108, 97, 119, 49, 51, 46, 87, 105, 116, 110, 101, 115, 115, 69, 120, 97, 99, 116, 32, 98, 111, 108, 116, 101, 114, 47, 98, 111, 108, 116, 101, 114, 108, 97, 119, 49, 51, 46, 87, 105, 116, 110, 101, 115, 115, 77, 111, 114, 101].map Char.ofNat := by rw [e1, String.toList_ofList]
set_option maxRecDepth 100000 in
theorem words : wordsSigns Tryd.prog.initOrder.toList = [[104, 97, 114, 110, 101, 115, 115].map Char.ofNat, [53, 50, 101, 102, 98, 57, 100, 98, 101, 52, 54, 54, 57, 99, 97, 55, 49, 55, 48, 57, 53, 56, 51, 56, 50, 54, 102, 54, 49, 53, 97, 56, 98, 100, 51, 99, 101, 54, 56, 102, 97, 53, 99, 52, 49, 56, 57, 102, 100, 56, 51, 51, 49, 102, 97, 50, 50, 97, 97, 101, 101, 98, 97, 56].map Char.ofNat, [99, 117, 116].map Char.ofNat, [97, 116].map Char.ofNat, [98, 111, 108, 116, 101, 114, 47, 98, 111, 108, 116, 101, 114, 108, 97, 119, 49, 51, 46, 87, 105, 116, 110, 101, 115, 115, 87, 111, 114, 100, 115].map Char.ofNat, [98, 111, 108, 116, 101, 114, 47, 98, 111, 108, 116, 101, 114, 108, 97, 119, 49, 51, 46, 87, 105, 116, 110, 101, 115, 115, 69, 120, 97, 99, 116].map Char.ofNat, [98, 111, 108, 116, 101, 114, 47, 98, 111, 108, 116, 101, 114, 108, 97, 119, 49, 51, 46, 87, 105, 116, 110, 101, 115, 115, 77, 111, 114, 101].map Char.ofNat] := by rw [e2]; kernel_rfl

theorem lit_harness : "harness".toList = [104, 97, 114, 110, 101, 115, 115].map Char.ofNat := by
  rw [show "harness" = String.ofList ([104, 97, 114, 110, 101, 115, 115].map Char.ofNat) by kernel_rfl, String.toList_ofList]
theorem lit_ownmain : "ownmain".toList = [111, 119, 110, 109, 97, 105, 110].map Char.ofNat := by
  rw [show "ownmain" = String.ofList ([111, 119, 110, 109, 97, 105, 110].map Char.ofNat) by kernel_rfl, String.toList_ofList]
theorem lit_sum : "52efb9dbe4669ca71709583826f615a8bd3ce68fa5c4189fd8331fa22aaeeba8".toList = [53, 50, 101, 102, 98, 57, 100, 98, 101, 52, 54, 54, 57, 99, 97, 55, 49, 55, 48, 57, 53, 56, 51, 56, 50, 54, 102, 54, 49, 53, 97, 56, 98, 100, 51, 99, 101, 54, 56, 102, 97, 53, 99, 52, 49, 56, 57, 102, 100, 56, 51, 51, 49, 102, 97, 50, 50, 97, 97, 101, 101, 98, 97, 56].map Char.ofNat := by
  rw [show "52efb9dbe4669ca71709583826f615a8bd3ce68fa5c4189fd8331fa22aaeeba8" = String.ofList ([53, 50, 101, 102, 98, 57, 100, 98, 101, 52, 54, 54, 57, 99, 97, 55, 49, 55, 48, 57, 53, 56, 51, 56, 50, 54, 102, 54, 49, 53, 97, 56, 98, 100, 51, 99, 101, 54, 56, 102, 97, 53, 99, 52, 49, 56, 57, 102, 100, 56, 51, 51, 49, 102, 97, 50, 50, 97, 97, 101, 101, 98, 97, 56].map Char.ofNat) by kernel_rfl, String.toList_ofList]
theorem lit_gc : "gc".toList = [103, 99].map Char.ofNat := by
  rw [show "gc" = String.ofList ([103, 99].map Char.ofNat) by kernel_rfl, String.toList_ofList]
theorem lit_spec : "spec".toList = [115, 112, 101, 99].map Char.ofNat := by
  rw [show "spec" = String.ofList ([115, 112, 101, 99].map Char.ofNat) by kernel_rfl, String.toList_ofList]
theorem lit_carried : "carried".toList = [99, 97, 114, 114, 105, 101, 100].map Char.ofNat := by
  rw [show "carried" = String.ofList ([99, 97, 114, 114, 105, 101, 100].map Char.ofNat) by kernel_rfl, String.toList_ofList]
theorem lit_cut : "cut".toList = [99, 117, 116].map Char.ofNat := by
  rw [show "cut" = String.ofList ([99, 117, 116].map Char.ofNat) by kernel_rfl, String.toList_ofList]
theorem lit_stop : "stop".toList = [115, 116, 111, 112].map Char.ofNat := by
  rw [show "stop" = String.ofList ([115, 116, 111, 112].map Char.ofNat) by kernel_rfl, String.toList_ofList]
theorem lit_finals : "finals".toList = [102, 105, 110, 97, 108, 115].map Char.ofNat := by
  rw [show "finals" = String.ofList ([102, 105, 110, 97, 108, 115].map Char.ofNat) by kernel_rfl, String.toList_ofList]
abbrev cutW : List Char := [99, 117, 116].map Char.ofNat
abbrev restW : List (List Char) := [[97, 116].map Char.ofNat, [98, 111, 108, 116, 101, 114, 47, 98, 111, 108, 116, 101, 114, 108, 97, 119, 49, 51, 46, 87, 105, 116, 110, 101, 115, 115, 87, 111, 114, 100, 115].map Char.ofNat, [98, 111, 108, 116, 101, 114, 47, 98, 111, 108, 116, 101, 114, 108, 97, 119, 49, 51, 46, 87, 105, 116, 110, 101, 115, 115, 69, 120, 97, 99, 116].map Char.ofNat, [98, 111, 108, 116, 101, 114, 47, 98, 111, 108, 116, 101, 114, 108, 97, 119, 49, 51, 46, 87, 105, 116, 110, 101, 115, 115, 77, 111, 114, 101].map Char.ofNat]
theorem behind : behindMainWord (wordsSigns Tryd.prog.initOrder.toList) = cutW :: restW := by
  rw [words]; unfold behindMainWord; rw [lit_harness, lit_ownmain]; kernel_rfl
theorem strip_none {w : List Char} {ws : List (List Char)} : ∀ {os : List String}, (∀ o ∈ os, o.toList ≠ w) → stripLifts os (w :: ws) = ([], w :: ws)
  | [], _ => rfl
  | o :: os, h => by
    unfold stripLifts
    rw [if_neg (by simpa using fun e => h o (by simp) (Eq.symm e)), strip_none fun o' h' => h o' (by simp [h'])]
theorem strip : stripLifts liftWords (cutW :: restW) = ([], cutW :: restW) := strip_none fun o ho h => by
  have e : o = "cut" := by
    rw [← String.ofList_toList (s := o), h]; kernel_rfl
  subst e
  simp [liftWords] at ho
theorem mainIs_of {P : Program} {h s : List Char} {r : List (List Char)} (hw : wordsSigns P.initOrder.toList = h :: s :: r) (hs : isSumSigns s = true) (hh : h = "harness".toList) : P.mainIs = some (true, s) := by
  unfold Program.mainIs; rw [hw]; simp only [hs, hh, Bool.not_true, Bool.false_eq_true, if_false, beq_self_eq_true, if_true]
theorem mayEnter_of {P : Program} {c : List Char} {r : List (List Char)} (hb : behindMainWord (wordsSigns P.initOrder.toList) = c :: r) (hs : stripLifts liftWords (c :: r) = ([], c :: r)) (hc : c = "cut".toList)
    (h1 : P.laysLater = false) (h2 : P.bearsReflect = false) (h3 : P.doorFits [] = true) : P.mayEnter = true := by
  unfold Program.mayEnter; rw [hb]; dsimp only; simp only [hs]; simp [hc, h1, h2, h3]
theorem headLifts_of {P : Program} {c : List Char} {r : List (List Char)} (hb : behindMainWord (wordsSigns P.initOrder.toList) = c :: r) (hs : stripLifts liftWords (c :: r) = ([], c :: r)) : P.headLifts = [] := by
  unfold Program.headLifts; rw [hb]; simp [hs]
theorem liftsFinal_of {P : Program} {c : List Char} {r : List (List Char)} (hb : behindMainWord (wordsSigns P.initOrder.toList) = c :: r) (hc : c ≠ "carried".toList) (hh : P.headLifts = []) : P.liftsFinal = false := by
  unfold Program.liftsFinal; rw [hb, hh]
  have : (some c == some "carried".toList) = false := by simpa using hc
  simp only [List.head?_cons, this]; simp
theorem make_of {P : Program} {c : List Char} {r : List (List Char)} (hb : behindMainWord (wordsSigns P.initOrder.toList) = c :: r) (hg : c ≠ "gc".toList) (hp : c ≠ "spec".toList) (hc : c = "cut".toList) : P.make = some .cut := by
  have h1 : (c == "gc".toList) = false := by simpa using hg
  have h2 : (c == "spec".toList) = false := by simpa using hp
  have h3 : (c == "cut".toList) = true := by simpa using hc
  unfold Program.make; rw [hb]; simp only [h1, h2, h3, Bool.or_false, Bool.false_eq_true, if_false, Bool.true_or, if_true]
theorem main : Tryd.prog.mainIs = some (true, "52efb9dbe4669ca71709583826f615a8bd3ce68fa5c4189fd8331fa22aaeeba8".toList) := (mainIs_of words (by kernel_rfl) lit_harness.symm).trans (by rw [lit_sum])
theorem mayEnter : Tryd.prog.mayEnter = true := mayEnter_of behind strip lit_cut.symm (by kernel_rfl) (by kernel_rfl) (by kernel_rfl)
theorem headLifts : Tryd.prog.headLifts = [] := headLifts_of behind strip
theorem liftsFinal : Tryd.prog.liftsFinal = false := liftsFinal_of behind (by rw [lit_carried]; decide) headLifts
theorem make : Tryd.prog.make = some .cut := make_of behind (by rw [lit_gc]; decide) (by rw [lit_spec]; decide) lit_cut.symm
theorem stopsHeard : Tryd.prog.stopsHeard = true := by kernel_rfl
theorem noStops : (Tryd.prog.stops == []) = true := by kernel_rfl
theorem noKnobs : (Tryd.prog.stopKnobs == []) = true := by kernel_rfl
theorem mapsRowed' : mapsRowed Tryd.prog = true := by kernel_rfl

theorem and_mk {a b : Bool} (ha : a = true) (hb : b = true) : (a && b) = true := by rw [ha, hb]; rfl
end Go.Proofs.YtihginaanlcilaaDoor.Head
