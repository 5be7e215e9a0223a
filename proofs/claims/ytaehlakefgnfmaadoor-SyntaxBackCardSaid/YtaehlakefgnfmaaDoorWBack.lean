/-
  DERIVED. THE LAW SyntaxBack, walked.
-/
import Derived.Test.YtaehlakefgnfmaaDoorHead
import Derived.Test.YtaehlakefgnfmaaDoorSameA
import Derived.Test.YtaehlakefgnfmaaDoorParseStr
namespace Go.Proofs.YtaehlakefgnfmaaDoor
set_option linter.unusedSimpArgs false
set_option linter.unusedVariables false
open Go.RowKit

theorem on_of_st {p q : List Fu} (h : p.map Fu.st = q.map Fu.st) : p.map (Fu.on false) = q.map (Fu.on false) := by
  have e : Fu.on false = Fu.st := funext Fu.on_st
  rw [e, h]
set_option maxRecDepth 100000 in
set_option maxHeartbeats 8000000 in
theorem back_walk (w : World) (ht : Tab w) (a : Option Addr) (s : List UInt8) (cap : Nat) (hs : BytesAt w a s) (hcap : s.length ≤ cap) :
    Calls Tryd.prog 3 #[.slice a s.length cap] w fun e w' => e = .returned (.bool true) ∧ Ext w w' := by
  have hcv := fun (w : World) (s : ByteArray) => run_bytes_of_string (P := Tryd.prog) w 9 22 5 s Tryd.underlying9 Tryd.underlying22 Tryd.underlying5
  have HT := hid ht
  go_enter Tryd.func3, Tryd.ntmps3
  go_wp2_with fail
  refine (head_any w ht).mono ?_
  rintro e w1 ⟨rfl, e1⟩
  clear ht
  cases hpar : parse s with
  | error x =>
    obtain ⟨x, p⟩ := x
    have hc := parse_code hpar
    have hx : ((x : Int) != 0) = true := by rcases hc with rfl | rfl | rfl | rfl | rfl <;> rfl
    clear hc
    have H := hid hpar
    clear hpar
    go_wp2_with fail
    refine (parse_err w1 a s cap (hs.ext e1) hcap x p H.out).mono ?_
    rintro e w2 ⟨rfl, e2⟩
    go_wp2_with fail
    go_ret
    exact ⟨rfl, (e1.trans e2).alloc _⟩
  | ok p =>
    have H := hid hpar
    have hlen := shown_len hpar
    have HW := hid (parse_wf hpar)
    clear hpar
    go_wp2_with fail
    refine (parse_ok w1 a s cap (hs.ext e1) hcap p H.out).mono ?_
    rintro e w2 ⟨⟨fa, fc, rfl, hr⟩, e2⟩
    have E2 := e1.trans e2
    have HR := hid hr
    clear hr
    have hb2 := (Blk.new w2 26 [.slice fa p.length fc]).cell 0
    rw [List.getElem?_cons_zero] at hb2
    go_wp2_with fail
    refine (show_any _ _ p HW.out.1 (by have := HW.out.2; omega) fa fc (rows_ext HR.out ((Ext.refl _).alloc _)) (HT.out.ext (E2.alloc _))).mono ?_
    rintro e w3 ⟨rfl, e3⟩
    have E23 : Ext w2 w3 := ((Ext.refl _).alloc _).trans e3
    have E3 := E2.trans E23
    have hb3 := e3.cell hb2
    clear hb2
    have hsz : (⟨(showP p).toArray⟩ : ByteArray).size = (showP p).length := by simp [ByteArray.size]
    have hd : (⟨(showP p).toArray⟩ : ByteArray).data.toList = showP p := by simp
    rcases back_law H.out with ⟨e, at_, hb, he⟩ | ⟨q, hb, hst, hsh⟩
    · have C := parse_str_err w3 ⟨(showP p).toArray⟩ e at_ (by rw [hd]; exact hb)
      rw [hsz] at C
      have HC := hid C
      clear C hb hsz hd
      go_wp2_with fail
      refine HC.out.mono ?_
      rintro e' w4 ⟨rfl, e4⟩
      have E4 := E3.trans e4
      rcases he with rfl | rfl
      · go_wp2_with fail
        go_ret
        exact ⟨rfl, E4.alloc _⟩
      · go_wp2_with fail
        go_ret
        exact ⟨rfl, E4.alloc _⟩
    · have C := parse_str_ok w3 ⟨(showP p).toArray⟩ q (by rw [hd]; exact hb)
      rw [hsz] at C
      have HC := hid C
      have HQ := hid (parse_wf hb)
      have hst' := on_of_st hst.symm
      have HS := hid hst'
      have HSH := hid hsh
      clear C hb hsz hd hst hst' hsh
      go_wp2_with fail
      refine HC.out.mono ?_
      rintro e' w4 ⟨⟨qa, qc, rfl, hq⟩, e4⟩
      have HQR := hid hq
      clear hq
      have E34 : Ext w2 (w4.alloc (.cells #[.slice qa q.length qc] 26)) := (E23.trans e4).alloc _
      have hb5 : (w4.alloc (.cells #[.slice qa q.length qc] 26)).cell? ⟨w2.heap.size, 0, none⟩ = some (.slice fa p.length fc) := ((Ext.refl _).alloc _).cell (e4.cell hb3)
      have hlt := World.block_lt_of_cell? _ _ (e4.cell hb3)
      clear hb3
      go_wp2_with fail
      refine (same_true false p q (by have := HW.out.2; omega) HS.out _ _ _ fa qa fc qc (rows_ext HR.out E34) (rows_ext HQR.out ((Ext.refl _).alloc _))).mono ?_
      rintro e' w5 ⟨rfl, e5⟩
      have hq5 := e5.cell ((Blk.new w4 26 [.slice qa q.length qc]).cell 0)
      have E5 : Ext w w5 := ((E3.trans e4).alloc _).trans e5
      go_wp2_with fail
      refine (show_any _ _ q HQ.out.1 (by have := HQ.out.2; omega) qa qc (rows_ext HQR.out (((Ext.refl _).alloc _).trans e5)) (HT.out.ext E5)).mono ?_
      rintro e' w6 ⟨rfl, e6⟩
      rw [HSH.out]
      go_wp2_with fail
      go_ret
      exact ⟨rfl, E5.trans e6⟩
end Go.Proofs.YtaehlakefgnfmaaDoor
namespace Go.Proofs.YtaehlakefgnfmaaDoor.syntaxBack
open Go.RowKit
theorem walk (w : World) (ht : Tab w) (a : Option Addr) (s : List UInt8) (cap : Nat) (hs : BytesAt w a s) (hcap : s.length ≤ cap) (_ : cap ≤ 9223372036854775807) (_ : s.length ≤ 140737488355328) :
    Calls Tryd.prog 3 #[.slice a s.length cap] w fun e w' => e = .returned (.bool true) ∧ Ext w w' :=
  back_walk w ht a s cap hs hcap
end Go.Proofs.YtaehlakefgnfmaaDoor.syntaxBack
