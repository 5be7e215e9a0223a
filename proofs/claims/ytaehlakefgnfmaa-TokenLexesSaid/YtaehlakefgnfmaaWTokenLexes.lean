/-
  DERIVED. THE LAW TokenLexes, walked.
-/
import Derived.Test.YtaehlakefgnfmaaSame
import Derived.Test.YtaehlakefgnfmaaWTokenWords
import Derived.Test.YtaehlakefgnfmaaAppend
import Derived.Test.YtaehlakefgnfmaaRefe
set_option linter.unusedSimpArgs false
set_option linter.unusedVariables false
namespace Go.Proofs.Ytaehlakefgnfmaa.tokenLexes
open Go.RowKit

theorem ext_draws (w : World) (n : Nat) : Ext w (w.drewN n) := ⟨rfl, rfl, rfl, Nat.le_refl _, fun _ _ => rfl⟩
/-- A row of bytes that lies in one block of its own. -/
def Mine (n g : Nat) (w : World) : Prop := ∃ vs : List Value, Blk w g 5 vs ∧ ∀ i, i < n → ∃ x : Int, vs[i]? = some (.int .u8 x)
theorem Mine.ext {n g : Nat} {w w' : World} (h : Mine n g w) (e : Ext w w') : Mine n g w' := by
  obtain ⟨vs, hb, hv⟩ := h
  exact ⟨vs, hb.ext e, hv⟩
theorem Mine.at {n g i : Nat} {w : World} (h : Mine n g w) (hi : i < n) : ∃ x : Int, w.cell? ⟨g, i, none⟩ = some (.int .u8 x) ∧ w.frozen? ⟨g, i, none⟩ = false := by
  obtain ⟨vs, hb, hv⟩ := h
  obtain ⟨x, hx⟩ := hv i hi
  exact ⟨x, by rw [hb.cell, hx], hb.frozen i⟩
theorem Mine.set {n g i : Nat} {w : World} (h : Mine n g w) (y : Int) : Mine n g (w.setCell ⟨g, i, none⟩ (.int .u8 y)) := by
  obtain ⟨vs, hb, hv⟩ := h
  refine ⟨_, hb.set i _, fun j hj => ?_⟩
  obtain ⟨x, hx⟩ := hv j hj
  rw [List.getElem?_set]
  split
  · split
    · exact ⟨y, rfl⟩
    · have := (List.getElem?_eq_some_iff.1 hx).1; omega
  · exact ⟨x, hx⟩
theorem mine_owned {w : World} {base n cap g : Nat} {xs : List UInt8} (h : w.ownsRow base 5 1 (.slice (some ⟨g, 0, none⟩) n cap) n (xs.map B8)) : Mine n g w := by
  obtain ⟨hl, h⟩ := h
  rcases h with ⟨h0, rfl⟩ | ⟨g', cap', cur, hv, hb, hg, hnc, hcm, hcs, htake⟩
  · simp at h0
  · simp only [Value.slice.injEq, Option.some.injEq, Addr.mk.injEq, and_true, true_and] at hv
    obtain ⟨rfl, rfl⟩ := hv
    refine ⟨cur.toList, by unfold Blk; simpa using hg, fun i hi => ?_⟩
    have hlen : xs.length = n := by simpa using hl
    have hx : (xs.map B8)[i]? = some (B8 (xs[i]'(by omega))) := by rw [List.getElem?_map, List.getElem?_eq_getElem (by omega)]; rfl
    refine ⟨((xs[i]'(by omega)).toNat : Int), ?_⟩
    rw [← htake, List.getElem?_take] at hx
    split at hx
    · exact hx
    · simp at hx
theorem cells_set {w : World} {a : Option Addr} {vs : List Value} (h : CellsAt w a vs) {g i : Nat} {v : Value} (hg : ∀ ad, a = some ad → ad.block ≠ g) : CellsAt (w.setCell ⟨g, i, none⟩ v) a vs := by
  intro j u hj
  obtain ⟨b, off, rfl, hc⟩ := h j u hj
  refine ⟨b, off, rfl, ?_⟩
  have := hg _ rfl
  have hne : (⟨g, i, none⟩ : Addr) ≠ ⟨b, off + j, none⟩ := by intro h0; apply this; exact (congrArg Addr.block h0).symm
  exact (World.cell?_setCell_other w _ _ v hne).trans hc

set_option maxRecDepth 100000 in
set_option maxHeartbeats 4000000 in
theorem good (w : World) (a : Option Addr) (s : List UInt8) (cap : Nat) (hs : BytesAt w a s) (hcap : s.length ≤ cap) (hr : s.length ≤ 140737488355328) (a1 : ByteArray)
    (ts : List Tok) (hlx : lex s = .ok ts) :
    Calls Try.prog 3 #[.slice a s.length cap, .string a1] w fun e w' => e = .returned (.bool true) ∧ Ext w w' := by
  have HLX := hid hlx
  clear hlx
  go_enter Try.func3, Try.ntmps3
  go_wp2_with fail
  refine (head_any w).mono ?_
  rintro e w1 ⟨rfl, e1⟩
  have hz0 : (w1.alloc (.cells #[] 5)).ownsRow w1.heap.size 5 1 (.slice (some ⟨w1.heap.size, 0, none⟩) 0 0) 0 (([] : List UInt8).map B8) := owns_new w1 w1.heap.size 5 [] 0 (Nat.le_refl _) rfl (by decide)
  have hs' := (hs.ext e1).ext ((Ext.refl w1).alloc (.cells #[] 5))
  go_wp2_with (at_builtin; refine append_bytes rfl _ _ rfl w1.heap.size _ 0 _ rfl hz0 _ s.length cap s rfl rfl hs' (by omega) (by simp) ?_)
  intro v2 w2 hown2 hgr2
  have e2 : Ext w1 w2 := ((Ext.refl w1).alloc _).grown hz0 (Nat.le_refl _) hgr2
  have hown : w2.ownsRow w1.heap.size 5 1 v2 s.length (s.map B8) := by simpa using hown2
  obtain ⟨a2, c2, rfl, hc2, hb2, hl2⟩ := owned_cells hown
  have hm2 : ∀ g, a2 = some ⟨g, 0, none⟩ → w1.heap.size ≤ g ∧ g < w2.heap.size ∧ Mine s.length g w2 := by
    rintro g rfl
    have hm := mine_owned hown
    refine ⟨hb2 _ rfl, ?_, hm⟩
    obtain ⟨_, hk, _⟩ := hm
    exact hk.lt
  have hat2 : ∀ i, i < s.length → ∃ g, a2 = some ⟨g, 0, none⟩ := by
    intro i hi
    rcases hown.2 with ⟨h0, h1⟩ | ⟨g, cp, cur, hv, _⟩
    · have : s = [] := by simpa using h1
      subst this; simp at hi
    · simp only [Value.slice.injEq] at hv
      exact ⟨g, hv.1⟩
  have L2 := lex_any w2 a2 s c2 hc2 hl2
  rw [HLX.out] at L2
  have HL2 := hid L2
  clear L2 hown hown2 hgr2 hz0 hs' hc2
  go_wp2_with fail
  refine HL2.out.mono ?_
  rintro e w3 ⟨hlx, e3⟩
  obtain ⟨ax, cx, rfl, hcx, hbx, hlcx⟩ := hlx
  have hlen := lex_len HLX.out
  have e13 := e2.trans e3
  have hm3 : ∀ g, a2 = some ⟨g, 0, none⟩ → Mine s.length g w3 := fun g hg => (hm2 g hg).2.2.ext e3
  clear HL2
  go_wp2_with fail
  go_loopw [10] (fun i wr => ∃ k : Nat, k ≤ s.length ∧ i = .int .i64 k ∧ Ext w1 wr ∧ (∀ g, a2 = some ⟨g, 0, none⟩ → Mine s.length g wr) ∧ CellsAt wr ax (ts.flatMap encTok)) (fun i _ => s.length - (intOf i).toNat)
  case atStart => exact ⟨0, by omega, rfl, e13, hm3, hcx⟩
  case round =>
    obtain ⟨k, hk, rfl, he, hmk, hck⟩ := hrel
    by_cases hlt : k < s.length
    · obtain ⟨g, rfl⟩ := hat2 k hlt
      have hmg := hmk g rfl
      obtain ⟨hg1, hg2, _⟩ := hm2 g rfl
      obtain ⟨y, hy, hfz⟩ := hmg.at hlt
      have hkc : k < c2 := by omega
      have HM2 := hid hm2
      have HAT := hid hat2
      have HMK := hid hmk
      have HB2 := hid hb2
      have HM3 := hid hm3
      clear hm2 hat2 hmk hb2 hm3
      go_wp2_with fail
      go_roundw
      case rel =>
        refine ⟨k + 1, by omega, by go_num, he.setCell hg1 _, fun g' hg' => ?_, cells_set hck fun ad had => ?_⟩
        · simp only [Option.some.injEq, Addr.mk.injEq, and_true] at hg'
          subst hg'
          exact hmg.set _
        · have := hbx ad had
          omega
      case measure => simp [intOf]; omega
    · have L3 := rLex_any wr a s cap (hs.ext (e1.trans he)) hcap
      rw [HLX.out] at L3
      have HL3 := hid L3
      clear L3
      go_wp2_with fail
      refine HL3.out.mono ?_
      rintro e w4 ⟨hlx, e4⟩
      obtain ⟨ay, cy, rfl, hcy, _, hlcy⟩ := hlx
      have hck4 := hck.ext e4
      have HA := hid hck4
      have HB := hid hcy
      clear HL3 hck4 hcy hck hcx
      have e04 := e1.trans (he.trans e4)
      go_wp2_with fail
      refine (same_any w4 ax ay cx cy ts HA.out HB.out (by omega)).mono ?_
      rintro e w5 ⟨rfl, nd, rfl⟩
      go_wp2_with fail
      refine (word_any _ a1).mono ?_
      rintro e w6 ⟨rfl, rfl⟩
      go_wp2_with fail
      refine (rword_any _ a1).mono ?_
      rintro e w6 ⟨rfl, e6⟩
      go_wp2_with fail
      go_ret
      exact ⟨by simp, e04.trans (Ext.trans (ext_draws _ _) e6)⟩

set_option maxRecDepth 100000 in
set_option maxHeartbeats 4000000 in
theorem bad (w : World) (a : Option Addr) (s : List UInt8) (cap : Nat) (hs : BytesAt w a s) (hcap : s.length ≤ cap) (hr : s.length ≤ 140737488355328) (a1 : ByteArray)
    (x p : Nat) (hlx : lex s = .error (x, p)) :
    Calls Try.prog 3 #[.slice a s.length cap, .string a1] w fun e w' => e = .returned (.bool true) ∧ Ext w w' := by
  have HLX := hid hlx
  clear hlx
  go_enter Try.func3, Try.ntmps3
  go_wp2_with fail
  refine (head_any w).mono ?_
  rintro e w1 ⟨rfl, e1⟩
  have hz0 : (w1.alloc (.cells #[] 5)).ownsRow w1.heap.size 5 1 (.slice (some ⟨w1.heap.size, 0, none⟩) 0 0) 0 (([] : List UInt8).map B8) := owns_new w1 w1.heap.size 5 [] 0 (Nat.le_refl _) rfl (by decide)
  have hs' := (hs.ext e1).ext ((Ext.refl w1).alloc (.cells #[] 5))
  go_wp2_with (at_builtin; refine append_bytes rfl _ _ rfl w1.heap.size _ 0 _ rfl hz0 _ s.length cap s rfl rfl hs' (by omega) (by simp) ?_)
  intro v2 w2 hown2 hgr2
  have e2 : Ext w1 w2 := ((Ext.refl w1).alloc _).grown hz0 (Nat.le_refl _) hgr2
  have hown : w2.ownsRow w1.heap.size 5 1 v2 s.length (s.map B8) := by simpa using hown2
  obtain ⟨a2, c2, rfl, hc2, hb2, hl2⟩ := owned_cells hown
  have hm2 : ∀ g, a2 = some ⟨g, 0, none⟩ → w1.heap.size ≤ g ∧ g < w2.heap.size ∧ Mine s.length g w2 := by
    rintro g rfl
    have hm := mine_owned hown
    refine ⟨hb2 _ rfl, ?_, hm⟩
    obtain ⟨_, hk, _⟩ := hm
    exact hk.lt
  have hat2 : ∀ i, i < s.length → ∃ g, a2 = some ⟨g, 0, none⟩ := by
    intro i hi
    rcases hown.2 with ⟨h0, h1⟩ | ⟨g, cp, cur, hv, _⟩
    · have : s = [] := by simpa using h1
      subst this; simp at hi
    · simp only [Value.slice.injEq] at hv
      exact ⟨g, hv.1⟩
  have L2 := lex_any w2 a2 s c2 hc2 hl2
  rw [HLX.out] at L2
  have HL2 := hid L2
  clear L2 hown hown2 hgr2 hz0 hs' hc2
  go_wp2_with fail
  refine HL2.out.mono ?_
  rintro e w3 ⟨hlx, e3⟩
  simp only [lexEnds] at hlx
  subst hlx
  have e13 := e2.trans e3
  have hm3 : ∀ g, a2 = some ⟨g, 0, none⟩ → Mine s.length g w3 := fun g hg => (hm2 g hg).2.2.ext e3
  clear HL2
  go_wp2_with fail
  go_loopw [10] (fun i wr => ∃ k : Nat, k ≤ s.length ∧ i = .int .i64 k ∧ Ext w1 wr ∧ (∀ g, a2 = some ⟨g, 0, none⟩ → Mine s.length g wr)) (fun i _ => s.length - (intOf i).toNat)
  case atStart => exact ⟨0, by omega, rfl, e13, hm3⟩
  case round =>
    obtain ⟨k, hk, rfl, he, hmk⟩ := hrel
    by_cases hlt : k < s.length
    · obtain ⟨g, rfl⟩ := hat2 k hlt
      have hmg := hmk g rfl
      obtain ⟨hg1, hg2, _⟩ := hm2 g rfl
      obtain ⟨y, hy, hfz⟩ := hmg.at hlt
      have hkc : k < c2 := by omega
      have HM2 := hid hm2
      have HAT := hid hat2
      have HMK := hid hmk
      have HB2 := hid hb2
      have HM3 := hid hm3
      clear hm2 hat2 hmk hb2 hm3
      go_wp2_with fail
      go_roundw
      case rel =>
        refine ⟨k + 1, by omega, by go_num, he.setCell hg1 _, fun g' hg' => ?_⟩
        · simp only [Option.some.injEq, Addr.mk.injEq, and_true] at hg'
          subst hg'
          exact hmg.set _
      case measure => simp [intOf]; omega
    · have L3 := rLex_any wr a s cap (hs.ext (e1.trans he)) hcap
      rw [HLX.out] at L3
      have HL3 := hid L3
      clear L3
      go_wp2_with fail
      refine HL3.out.mono ?_
      rintro e w4 ⟨hlx, e4⟩
      simp only [lexEnds] at hlx
      subst hlx
      clear HL3
      have e04 := e1.trans (he.trans e4)
      have HA : Hid (CellsAt w4 none (([] : List Tok).flatMap encTok)) := CellsAt.nil _ _
      go_wp2_with fail
      refine (same_any w4 none none 0 0 [] HA.out HA.out (by simp)).mono ?_
      rintro e w5 ⟨rfl, nd, rfl⟩
      go_wp2_with fail
      refine (word_any _ a1).mono ?_
      rintro e w6 ⟨rfl, rfl⟩
      go_wp2_with fail
      refine (rword_any _ a1).mono ?_
      rintro e w6 ⟨rfl, e6⟩
      go_wp2_with fail
      go_ret
      exact ⟨by simp, e04.trans (Ext.trans (ext_draws _ _) e6)⟩

theorem walk (w : World) (a : Option Addr) (s : List UInt8) (cap : Nat) (hs : BytesAt w a s) (hcap : s.length ≤ cap) (hmax : cap ≤ 9223372036854775807) (hr : s.length ≤ 140737488355328) (a1 : ByteArray) (h1 : a1.size ≤ maxLen) :
    Calls Try.prog 3 #[.slice a s.length cap, .string a1] w fun e w' => e = .returned (.bool true) ∧ Ext w w' := by
  cases hl : lex s with
  | ok ts => exact good w a s cap hs hcap hr a1 ts hl
  | error xp => obtain ⟨x, p⟩ := xp; exact bad w a s cap hs hcap hr a1 x p hl
end Go.Proofs.Ytaehlakefgnfmaa.tokenLexes
