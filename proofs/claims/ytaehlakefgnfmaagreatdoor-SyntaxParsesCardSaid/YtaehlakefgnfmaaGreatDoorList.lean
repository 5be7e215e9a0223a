/-
  DERIVED. THE WALK of list: things with commas between, read by a closure.
-/
import Derived.Test.YtaehlakefgnfmaaGreatDoorRd
import Derived.Test.YtaehlakefgnfmaaGreatDoorSyn
import Derived.Deep.LoopGhost
namespace Go.Proofs.YtaehlakefgnfmaaGreatDoor
set_option linter.unusedSimpArgs false
set_option linter.unusedVariables false
set_option maxRecDepth 100000
open Go.RowKit

/-- A closure that reads one thing more: what it keeps (K), what it has laid (I). -/
structure Reads {α : Type} (one : Rd α) (f : FuncId) (fc : Array Value) (br n : Nat) (K : World → Prop) (I : World → List α → Prop) : Prop where
  enters : ∀ w', (callFunc f fc).run Tryz.prog w' = .ok (.enter f fc) w'
  keeps : ∀ {w w'}, K w → Keep [br] w w' → K w'
  stays : ∀ {w w' acc}, I w acc → Keep [br] w w' → I w' acc
  step : ∀ w ts acc, RdAt w br n ts → Wf ts → K w → I w acc → acc.length ≤ 2048 → Calls Tryz.prog f fc w fun e w' => match one ts with
    | .ok a r => e = .returned (.tuple #[]) ∧ I w' (acc ++ [a]) ∧ RdAt w' br n r ∧ K w'
    | .err c r => e = .panicked [faultV c (placeOf n r)] ∧ K w'

theorem listGo_succ {α : Type} (one : Rd α) (f : Nat) (first : Bool) (acc : List α) (ts : List Tok) : listGo one (f + 1) first acc ts =
    if isSign [41] ts then .ok acc ts.tail
    else if first then (one ts).bind fun a r => listGo one f false (acc ++ [a]) r
    else must [44] ts fun ts' => (one ts').bind fun a r => listGo one f false (acc ++ [a]) r := rfl
/-- What list answers. -/
def ListEnds {α : Type} (br n : Nat) (K : World → Prop) (I : World → List α → Prop) (R : Res (List α)) (e : Ending) (w' : World) : Prop :=
  match R with
  | .ok l r => e = .returned (.tuple #[]) ∧ I w' l ∧ RdAt w' br n r ∧ K w'
  | .err c r => e = .panicked [faultV c (placeOf n r)] ∧ K w'
def ListRel {α : Type} (one : Rd α) (br n m : Nat) (K : World → Prop) (I : World → List α → Prop) (R : Res (List α)) (k : Nat) (v : Value) (wr : World) : Prop :=
  ∃ (first : Bool) (acc : List α) (ts : List Tok), v = .bool first ∧ RdAt wr br n ts ∧ Wf ts ∧ K wr ∧ I wr acc ∧ acc.length + ts.length ≤ m ∧ ts.length < k ∧ R = listGo one k first acc ts

set_option maxHeartbeats 2000000 in
theorem list_any {α : Type} {one : Rd α} {f : FuncId} {fc : Array Value} {br n : Nat} {K : World → Prop} {I : World → List α → Prop} (H : Reads one f fc br n K I)
    {sz : α → Nat} {P : α → Prop} (hi : Inv sz P one) (hpos : ∀ a, 1 ≤ sz a) (w : World) (ts : List Tok) (hr : RdAt w br n ts) (hw : Wf ts) (hK : K w) (hI : I w []) :
    Calls Tryz.prog 26 #[.pointer (some ⟨br, 0, none⟩), .func (.func f) #[] fc] w (ListEnds br n K I (listS one ts)) := by
  have hent := H.enters
  have HH := hid H
  have HI := hid (show ListRel one br n ts.length K I (listS one ts) (ts.length + 1) (.bool true) w from ⟨true, [], ts, rfl, hr, hw, hK, hI, by simp, by omega, rfl⟩)
  have hm := hr.len
  clear hK hI H
  generalize listS one ts = R at HI ⊢
  go_enter Tryz.func26, Tryz.ntmps26
  go_wp2_with fail
  go_loopg [4] (ts.length + 1) (fun k v wr => ListRel one br n ts.length K I R k v wr)
  case atStart => exact HI.out
  case round =>
    obtain ⟨first, acc, us, rfl, r0, hwu, k0, i0, hl, hlt, hR⟩ := hrel
    obtain ⟨k, rfl⟩ : ∃ k, gk = k + 1 := ⟨gk - 1, by omega⟩
    have HI0 := hid i0
    have HK0 := hid k0
    clear i0 k0 HI
    cases h1 : isSign [41] us with
    | true =>
      have HR := hid (show R = .ok acc us.tail by rw [hR]; rw [listGo_succ, if_pos h1])
      have H1 := hid h1
      clear hR h1
      go_wp2_with fail
      refine (at0_any _ br n us r0 _).mono ?_
      rintro e w1 ⟨rfl, rfl⟩
      rw [show isSign (ByteArray.mk #[41]).data.toList us = true from H1.out]
      go_wp2_with fail
      refine (musty _ br n us r0 _ H1.out).mono ?_
      rintro e w1 ⟨rfl, r1, k1⟩
      go_wp2_with fail
      go_end0
      rw [HR.out]
      exact ⟨rfl, HH.out.stays HI0.out k1, r1, HH.out.keeps HK0.out k1⟩
    | false =>
      have H1 := hid h1
      cases first with
      | true =>
        have HR := hid (show R = (one us).bind fun a r => listGo one k false (acc ++ [a]) r by rw [hR]; rw [listGo_succ, if_neg (by rw [h1]; decide), if_pos rfl])
        clear hR h1
        go_wp2_with fail
        refine (at0_any _ br n us r0 _).mono ?_
        rintro e w1 ⟨rfl, rfl⟩
        rw [show isSign (ByteArray.mk #[41]).data.toList us = false from H1.out]
        go_wp2_with fail
        refine (HH.out.step _ us acc r0 hwu HK0.out HI0.out (by omega)).mono ?_
        intro e w1
        cases hone : one us with
        | ok a r =>
          rintro ⟨rfl, i1, r1, k1⟩
          have hfine := hi us hwu
          rw [hone] at hfine
          have hpa := hpos a
          have hsz := hfine.1
          have HR2 := hid (show R = listGo one k false (acc ++ [a]) r by rw [HR.out, hone]; rfl)
          have HF := hid hfine
          clear hone hfine
          go_wp2_with fail
          go_roundg k
          case measure => omega
          case rel => exact ⟨false, acc ++ [a], r, rfl, r1, HF.out.2.2, k1, i1, by rw [List.length_append, List.length_singleton]; omega, by omega, HR2.out⟩
        | err c r =>
          rintro ⟨rfl, k1⟩
          have HR2 := hid (show R = .err c r by rw [HR.out, hone]; rfl)
          clear hone
          go_wp2_with fail
          refine ⟨rfl, ?_⟩
          rw [HR2.out]
          exact ⟨rfl, k1⟩
      | false =>
        have HR := hid (show R = must [44] us fun ts' => (one ts').bind fun a r => listGo one k false (acc ++ [a]) r by rw [hR]; rw [listGo_succ, if_neg (by rw [h1]; decide), if_neg (by decide)])
        clear hR h1
        cases h2 : isSign [44] us with
        | true =>
          have HR1 := hid (show R = (one us.tail).bind fun a r => listGo one k false (acc ++ [a]) r by rw [HR.out]; unfold must; rw [if_pos h2])
          have H2 := hid h2
          have hlen := isSign_len h2
          clear HR h2
          go_wp2_with fail
          refine (at0_any _ br n us r0 _).mono ?_
          rintro e w1 ⟨rfl, rfl⟩
          rw [show isSign (ByteArray.mk #[41]).data.toList us = false from H1.out]
          go_wp2_with fail
          refine (musty _ br n us r0 _ H2.out).mono ?_
          rintro e w1 ⟨rfl, r1, k1⟩
          go_wp2_with fail
          refine (HH.out.step _ us.tail acc r1 hwu.tail (HH.out.keeps HK0.out k1) (HH.out.stays HI0.out k1) (by omega)).mono ?_
          intro e w2
          cases hone : one us.tail with
          | ok a r =>
            rintro ⟨rfl, i2, r2, k2⟩
            have hfine := hi us.tail hwu.tail
            rw [hone] at hfine
            have hpa := hpos a
            have hsz := hfine.1
            have HR2 := hid (show R = listGo one k false (acc ++ [a]) r by rw [HR1.out, hone]; rfl)
            have HF := hid hfine
            clear hone hfine
            go_wp2_with fail
            go_roundg k
            case measure => omega
            case rel => exact ⟨false, acc ++ [a], r, rfl, r2, HF.out.2.2, k2, i2, by rw [List.length_append, List.length_singleton]; omega, by omega, HR2.out⟩
          | err c r =>
            rintro ⟨rfl, k2⟩
            have HR2 := hid (show R = .err c r by rw [HR1.out, hone]; rfl)
            clear hone
            go_wp2_with fail
            refine ⟨rfl, ?_⟩
            rw [HR2.out]
            exact ⟨rfl, k2⟩
        | false =>
          have HR1 := hid (show R = .err 41 us by rw [HR.out]; unfold must; rw [if_neg (by rw [h2]; decide)])
          have H2 := hid h2
          clear HR h2
          go_wp2_with fail
          refine (at0_any _ br n us r0 _).mono ?_
          rintro e w1 ⟨rfl, rfl⟩
          rw [show isSign (ByteArray.mk #[41]).data.toList us = false from H1.out]
          go_wp2_with fail
          refine (mustn _ br n us r0 _ H2.out).mono ?_
          rintro e w1 ⟨rfl, k1⟩
          go_wp2_with fail
          refine ⟨rfl, ?_⟩
          rw [HR1.out]
          exact ⟨rfl, HH.out.keeps HK0.out k1⟩
end Go.Proofs.YtaehlakefgnfmaaGreatDoor
