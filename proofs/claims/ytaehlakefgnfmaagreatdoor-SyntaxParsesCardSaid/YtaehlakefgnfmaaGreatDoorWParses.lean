/-
  DERIVED. THE LAW SyntaxParses, walked.
-/
import Derived.Test.YtaehlakefgnfmaaGreatDoorHead
import Derived.Test.YtaehlakefgnfmaaGreatDoorSameA
import Derived.Test.YtaehlakefgnfmaaGreatDoorMem
import Derived.Test.YtaehlakefgnfmaaGreatDoorRe16
set_option linter.unusedSimpArgs false
set_option linter.unusedVariables false
namespace Go.Proofs.YtaehlakefgnfmaaGreatDoor.syntaxParses
open Go.RowKit

theorem ext_draws (w : World) (n : Nat) : Ext w (w.drewN n) := ⟨rfl, rfl, rfl, Nat.le_refl _, fun _ _ => rfl⟩
/-- A row of bytes that lies in one block of its own. -/
def Mine (n g : Nat) (w : World) : Prop := ∃ vs : List Value, Blk w g 5 vs ∧ ∀ i, i < n → ∃ x : Int, vs[i]? = some (.int .u8 x)
theorem Mine.ext {n g : Nat} {w w' : World} (h : Mine n g w) (e : Ext w w') : Mine n g w' := by
  obtain ⟨vs, hb, hv⟩ := h
  exact ⟨vs, hb.ext e, hv⟩
theorem Mine.at {n g i : Nat} {w : World} (h : Mine n g w) (hi : i < n) : ∃ x : Int, w.cell? ⟨g, i, none⟩ = some (.int .u8 x) ∧ w.frozen? ⟨g, i, none⟩ = false := by
  obtain ⟨vs, hb, hv⟩ := h
  obtain ⟨x, hx⟩ := hv i hi
  exact ⟨x, by rw [hb.cell, hx], hb.frozen i⟩
theorem Mine.set {n g i : Nat} {w : World} (h : Mine n g w) (y : Int) : Mine n g (w.setCell ⟨g, i, none⟩ (.int .u8 y)) := by
  obtain ⟨vs, hb, hv⟩ := h
  refine ⟨_, hb.set i _, fun j hj => ?_⟩
  obtain ⟨x, hx⟩ := hv j hj
  rw [List.getElem?_set]
  split
  · split
    · exact ⟨y, rfl⟩
    · have := (List.getElem?_eq_some_iff.1 hx).1; omega
  · exact ⟨x, hx⟩
theorem mine_owned {w : World} {base n cap g : Nat} {xs : List UInt8} (h : w.ownsRow base 5 1 (.slice (some ⟨g, 0, none⟩) n cap) n (xs.map B8)) : Mine n g w := by
  obtain ⟨hl, h⟩ := h
  rcases h with ⟨h0, rfl⟩ | ⟨g', cap', cur, hv, hb, hg, hnc, hcm, hcs, htake⟩
  · simp at h0
  · simp only [Value.slice.injEq, Option.some.injEq, Addr.mk.injEq, and_true, true_and] at hv
    obtain ⟨rfl, rfl⟩ := hv
    refine ⟨cur.toList, by unfold Blk; simpa using hg, fun i hi => ?_⟩
    have hlen : xs.length = n := by simpa using hl
    have hx : (xs.map B8)[i]? = some (B8 (xs[i]'(by omega))) := by rw [List.getElem?_map, List.getElem?_eq_getElem (by omega)]; rfl
    refine ⟨((xs[i]'(by omega)).toNat : Int), ?_⟩
    rw [← htake, List.getElem?_take] at hx
    split at hx
    · exact hx
    · simp at hx
theorem cells_set {w : World} {a : Option Addr} {vs : List Value} (h : CellsAt w a vs) {g i : Nat} {v : Value} (hg : ∀ ad, a = some ad → ad.block ≠ g) : CellsAt (w.setCell ⟨g, i, none⟩ v) a vs := by
  intro j u hj
  obtain ⟨b, off, rfl, hc⟩ := h j u hj
  refine ⟨b, off, rfl, ?_⟩
  have := hg _ rfl
  have hne : (⟨g, i, none⟩ : Addr) ≠ ⟨b, off + j, none⟩ := by intro h0; apply this; exact (congrArg Addr.block h0).symm
  exact (World.cell?_setCell_other w _ _ v hne).trans hc

set_option maxRecDepth 100000 in
set_option maxHeartbeats 8000000 in
theorem good (w : World) (ht : Tab w) (a : Option Addr) (s : List UInt8) (cap : Nat) (hs : BytesAt w a s) (hcap : s.length ≤ cap) (hr : s.length ≤ 140737488355328)
    (p : List Fu) (hpa : parse s = .ok p) :
    Calls Tryz.prog 3 #[.slice a s.length cap] w fun e w' => e = .returned (.bool true) ∧ Ext w w' := by
  have H := hid hpa
  clear hpa
  go_enter Tryz.func3, Tryz.ntmps3
  go_wp2_with fail
  refine (head_any w ht).mono ?_
  rintro e w1 ⟨rfl, e1⟩
  clear ht
  have hz0 : (w1.alloc (.cells #[] 5)).ownsRow w1.heap.size 5 1 (.slice (some ⟨w1.heap.size, 0, none⟩) 0 0) 0 (([] : List UInt8).map B8) := owns_new w1 w1.heap.size 5 [] 0 (Nat.le_refl _) rfl (by decide)
  have hs' := (hs.ext e1).ext ((Ext.refl w1).alloc (.cells #[] 5))
  go_wp2_with (at_builtin; refine append_bytes rfl _ _ rfl w1.heap.size _ 0 _ rfl hz0 _ s.length cap s rfl rfl hs' (by omega) (by simp) ?_)
  intro v2 w2 hown2 hgr2
  have e2 : Ext w1 w2 := ((Ext.refl w1).alloc _).grown hz0 (Nat.le_refl _) hgr2
  have hown : w2.ownsRow w1.heap.size 5 1 v2 s.length (s.map B8) := by simpa using hown2
  obtain ⟨a2, c2, rfl, hc2, hb2, hl2⟩ := owned_cells hown
  have hm2 : ∀ g, a2 = some ⟨g, 0, none⟩ → w1.heap.size ≤ g ∧ g < w2.heap.size ∧ Mine s.length g w2 := by
    rintro g rfl
    have hm := mine_owned hown
    refine ⟨hb2 _ rfl, ?_, hm⟩
    obtain ⟨_, hk, _⟩ := hm
    exact hk.lt
  have hat2 : ∀ i, i < s.length → ∃ g, a2 = some ⟨g, 0, none⟩ := by
    intro i hi
    rcases hown.2 with ⟨h0, h1⟩ | ⟨g, cp, cur, hv, _⟩
    · have : s = [] := by simpa using h1
      subst this; simp at hi
    · simp only [Value.slice.injEq] at hv
      exact ⟨g, hv.1⟩
  have HL2 := hid (parse_ok w2 a2 s c2 hc2 hl2 p H.out)
  clear hown hown2 hgr2 hz0 hs' hc2
  go_wp2_with fail
  refine HL2.out.mono ?_
  rintro e w3 ⟨⟨fa, fc, rfl, hp⟩, e3⟩
  have e13 := (e2.trans e3).alloc (.cells #[.slice fa p.length fc] 26)
  have hm3 : ∀ g, a2 = some ⟨g, 0, none⟩ → Mine s.length g (w3.alloc (.cells #[.slice fa p.length fc] 26)) := fun g hg => ((hm2 g hg).2.2.ext e3).ext ((Ext.refl _).alloc _)
  have hb3 := (Blk.new w3 26 [.slice fa p.length fc]).cell 0
  rw [List.getElem?_cons_zero] at hb3
  have h23 := e3.size
  clear HL2
  go_wp2_with fail
  go_loopw [8] (fun i wr => ∃ k : Nat, k ≤ s.length ∧ i = .int .i64 k ∧ Ext w1 wr ∧ (∀ g, a2 = some ⟨g, 0, none⟩ → Mine s.length g wr) ∧ wr.cell? ⟨w3.heap.size, 0, none⟩ = some (.slice fa p.length fc) ∧ RowIs wr (w2.heap.size ≤ ·) (.slice fa p.length fc) p.length (FusIs wr (w2.heap.size ≤ ·) p)) (fun i _ => s.length - (intOf i).toNat)
  case atStart => exact ⟨0, by omega, rfl, e13, hm3, hb3, rows_ext hp ((Ext.refl _).alloc _)⟩
  case round =>
    obtain ⟨k, hk, rfl, he, hmk, hbp, hrow⟩ := hrel
    by_cases hlt : k < s.length
    · obtain ⟨g, rfl⟩ := hat2 k hlt
      have hmg := hmk g rfl
      obtain ⟨hg1, hg2, _⟩ := hm2 g rfl
      obtain ⟨y, hy, hfz⟩ := hmg.at hlt
      have hkc : k < c2 := by omega
      have HM2 := hid hm2
      have HAT := hid hat2
      have HMK := hid hmk
      have HB2 := hid hb2
      have HM3 := hid hm3
      have HROW := hid hrow
      clear hrow hp
      clear hm2 hat2 hmk hb2 hm3
      go_wp2_with fail
      go_roundw
      case rel =>
        refine ⟨k + 1, by omega, by go_num, he.setCell hg1 _, fun g' hg' => ?_, ?_, ?_⟩
        · simp only [Option.some.injEq, Addr.mk.injEq, and_true] at hg'
          subst hg'
          exact hmg.set _
        · exact (World.cell?_setCell_other wr _ _ _ (by intro h0; have := congrArg Addr.block h0; simp only at this; omega)).trans hbp
        · have hK := Keep.set wr ⟨g, k, none⟩ (.int .u8 (IntKind.u8.wrap (y + 1)))
          have c1 : Carry wr (wr.setCell ⟨g, k, none⟩ (.int .u8 (IntKind.u8.wrap (y + 1)))) (w2.heap.size ≤ ·) (w2.heap.size ≤ ·) := Carry.keep hK (fun b hb _ hf => by have hf' : w2.heap.size ≤ b := hf; simp only [List.mem_singleton] at hb; omega) (fun b _ hf => hf)
          exact HROW.out.carry c1 fun ks hk => FusIs.carry c1 _ _ hk
      case measure => simp [intOf]; omega
    · have HL3 := hid (rParse_ok wr a s cap (hs.ext (e1.trans he)) hcap p H.out)
      have HROW := hid hrow
      clear hrow hp
      go_wp2_with fail
      refine HL3.out.mono ?_
      rintro e w4 ⟨⟨qa, qc, rfl, hq⟩, e4⟩
      have HQ := hid hq
      have hpw := (parse_wf H.out).2
      have C := same_true true p p (by omega) rfl (w4.alloc (.cells #[.slice qa p.length qc] 26)) _ _ fa qa fc qc (rows_ext HROW.out (e4.alloc _)) (rows_ext HQ.out ((Ext.refl _).alloc _))
      have HC := hid C
      have hb4 : (w4.alloc (.cells #[.slice qa p.length qc] 26)).cell? ⟨w3.heap.size, 0, none⟩ = some (.slice fa p.length fc) := ((Ext.refl _).alloc _).cell (e4.cell hbp)
      have hlt4 := World.block_lt_of_cell? _ _ (e4.cell hbp)
      clear HL3 hq C hbp hb3
      have e04 := e1.trans (he.trans (e4.alloc (.cells #[.slice qa p.length qc] 26)))
      go_wp2_with fail
      refine HC.out.mono ?_
      rintro e w5 ⟨rfl, e5⟩
      go_wp2_with fail
      go_ret
      exact ⟨by simp, e04.trans e5⟩

set_option maxRecDepth 100000 in
set_option maxHeartbeats 8000000 in
theorem bad (w : World) (ht : Tab w) (a : Option Addr) (s : List UInt8) (cap : Nat) (hs : BytesAt w a s) (hcap : s.length ≤ cap) (hr : s.length ≤ 140737488355328)
    (x pl : Nat) (hpa : parse s = .error (x, pl)) :
    Calls Tryz.prog 3 #[.slice a s.length cap] w fun e w' => e = .returned (.bool true) ∧ Ext w w' := by
  have H := hid hpa
  clear hpa
  go_enter Tryz.func3, Tryz.ntmps3
  go_wp2_with fail
  refine (head_any w ht).mono ?_
  rintro e w1 ⟨rfl, e1⟩
  clear ht
  have hz0 : (w1.alloc (.cells #[] 5)).ownsRow w1.heap.size 5 1 (.slice (some ⟨w1.heap.size, 0, none⟩) 0 0) 0 (([] : List UInt8).map B8) := owns_new w1 w1.heap.size 5 [] 0 (Nat.le_refl _) rfl (by decide)
  have hs' := (hs.ext e1).ext ((Ext.refl w1).alloc (.cells #[] 5))
  go_wp2_with (at_builtin; refine append_bytes rfl _ _ rfl w1.heap.size _ 0 _ rfl hz0 _ s.length cap s rfl rfl hs' (by omega) (by simp) ?_)
  intro v2 w2 hown2 hgr2
  have e2 : Ext w1 w2 := ((Ext.refl w1).alloc _).grown hz0 (Nat.le_refl _) hgr2
  have hown : w2.ownsRow w1.heap.size 5 1 v2 s.length (s.map B8) := by simpa using hown2
  obtain ⟨a2, c2, rfl, hc2, hb2, hl2⟩ := owned_cells hown
  have hm2 : ∀ g, a2 = some ⟨g, 0, none⟩ → w1.heap.size ≤ g ∧ g < w2.heap.size ∧ Mine s.length g w2 := by
    rintro g rfl
    have hm := mine_owned hown
    refine ⟨hb2 _ rfl, ?_, hm⟩
    obtain ⟨_, hk, _⟩ := hm
    exact hk.lt
  have hat2 : ∀ i, i < s.length → ∃ g, a2 = some ⟨g, 0, none⟩ := by
    intro i hi
    rcases hown.2 with ⟨h0, h1⟩ | ⟨g, cp, cur, hv, _⟩
    · have : s = [] := by simpa using h1
      subst this; simp at hi
    · simp only [Value.slice.injEq] at hv
      exact ⟨g, hv.1⟩
  have HL2 := hid (parse_err w2 a2 s c2 hc2 hl2 x pl H.out)
  clear hown hown2 hgr2 hz0 hs' hc2
  go_wp2_with fail
  refine HL2.out.mono ?_
  rintro e w3 ⟨rfl, e3⟩
  have e13 := (e2.trans e3).alloc (.cells #[.slice none 0 0] 26)
  have hm3 : ∀ g, a2 = some ⟨g, 0, none⟩ → Mine s.length g (w3.alloc (.cells #[.slice none 0 0] 26)) := fun g hg => ((hm2 g hg).2.2.ext e3).ext ((Ext.refl _).alloc _)
  have hb3 := (Blk.new w3 26 [.slice none 0 0]).cell 0
  rw [List.getElem?_cons_zero] at hb3
  have h23 := e3.size
  clear HL2
  go_wp2_with fail
  go_loopw [8] (fun i wr => ∃ k : Nat, k ≤ s.length ∧ i = .int .i64 k ∧ Ext w1 wr ∧ (∀ g, a2 = some ⟨g, 0, none⟩ → Mine s.length g wr) ∧ wr.cell? ⟨w3.heap.size, 0, none⟩ = some (.slice none 0 0)) (fun i _ => s.length - (intOf i).toNat)
  case atStart => exact ⟨0, by omega, rfl, e13, hm3, hb3⟩
  case round =>
    obtain ⟨k, hk, rfl, he, hmk, hbp⟩ := hrel
    by_cases hlt : k < s.length
    · obtain ⟨g, rfl⟩ := hat2 k hlt
      have hmg := hmk g rfl
      obtain ⟨hg1, hg2, _⟩ := hm2 g rfl
      obtain ⟨y, hy, hfz⟩ := hmg.at hlt
      have hkc : k < c2 := by omega
      have HM2 := hid hm2
      have HAT := hid hat2
      have HMK := hid hmk
      have HB2 := hid hb2
      have HM3 := hid hm3
      clear hm2 hat2 hmk hb2 hm3
      go_wp2_with fail
      go_roundw
      case rel =>
        refine ⟨k + 1, by omega, by go_num, he.setCell hg1 _, fun g' hg' => ?_, ?_⟩
        · simp only [Option.some.injEq, Addr.mk.injEq, and_true] at hg'
          subst hg'
          exact hmg.set _
        · exact (World.cell?_setCell_other wr _ _ _ (by intro h0; have := congrArg Addr.block h0; simp only at this; omega)).trans hbp
      case measure => simp [intOf]; omega
    · have HL3 := hid (rParse_err wr a s cap (hs.ext (e1.trans he)) hcap x pl H.out)
      go_wp2_with fail
      refine HL3.out.mono ?_
      rintro e w4 ⟨rfl, e4⟩
      have HN : ∀ F : Nat → Prop, RowIs (w4.alloc (.cells #[.slice none 0 0] 26)) F (.slice none ([] : List Fu).length 0) ([] : List Fu).length (FusIs (w4.alloc (.cells #[.slice none 0 0] 26)) F []) := fun F => ⟨none, 0, [], rfl, Nat.le_refl _, CellsIn.nil _ _ _, by simp [FusIs]⟩
      have HC := hid (same_true true [] [] (by simp [sumOf]) rfl (w4.alloc (.cells #[.slice none 0 0] 26)) _ _ none none 0 0 (HN fun _ => True) (HN fun _ => True))
      have hb4 : (w4.alloc (.cells #[.slice none 0 0] 26)).cell? ⟨w3.heap.size, 0, none⟩ = some (.slice none 0 0) := ((Ext.refl _).alloc _).cell (e4.cell hbp)
      have hlt4 := World.block_lt_of_cell? _ _ (e4.cell hbp)
      clear HL3 HN hbp hb3
      have e04 := e1.trans (he.trans (e4.alloc (.cells #[.slice none 0 0] 26)))
      go_wp2_with fail
      refine HC.out.mono ?_
      rintro e w5 ⟨rfl, e5⟩
      go_wp2_with fail
      go_ret
      exact ⟨by simp, e04.trans e5⟩

theorem walk (w : World) (ht : Tab w) (a : Option Addr) (s : List UInt8) (cap : Nat) (hs : BytesAt w a s) (hcap : s.length ≤ cap) (hmax : cap ≤ 9223372036854775807) (hr : s.length ≤ 140737488355328) :
    Calls Tryz.prog 3 #[.slice a s.length cap] w fun e w' => e = .returned (.bool true) ∧ Ext w w' := by
  cases hl : parse s with
  | ok p => exact good w ht a s cap hs hcap hr p hl
  | error xp => obtain ⟨x, pl⟩ := xp; exact bad w ht a s cap hs hcap hr x pl hl
end Go.Proofs.YtaehlakefgnfmaaGreatDoor.syntaxParses
