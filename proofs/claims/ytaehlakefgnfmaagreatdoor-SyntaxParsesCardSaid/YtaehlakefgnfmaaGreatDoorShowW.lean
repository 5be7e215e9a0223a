/-
  DERIVED. THE WALKS of typed, nth, expr (printed by gen_showw.py).
-/
import Derived.Test.YtaehlakefgnfmaaGreatDoorJoin
import Derived.Test.YtaehlakefgnfmaaGreatDoorShowP
import Derived.Lib.AppendIntMem
namespace Go.Proofs.YtaehlakefgnfmaaGreatDoor
set_option linter.unusedSimpArgs false
set_option linter.unusedVariables false
set_option maxRecDepth 100000
open Go.RowKit

theorem ret_str {a b : ByteArray} (h : a = b) : Ending.returned (.string a) = .returned (.string b) := by rw [h]
/-- The table of the powers of ten lies as it was laid. -/
def Tab (w : World) : Prop := Lib.TabIs Tryz.prog w "internal/strconv.uint64pow10" .u64 Lib.pow10Tab
theorem Tab.ext {w w' : World} (h : Tab w) (e : Ext w w') : Tab w' := Lib.tabBelow_of_tabIs h w' e
theorem format_any (w : World) (n : Nat) (hn : n ≤ maxNum) (ht : Tab w) : Calls Tryz.prog 95 #[.int .i64 n, .int .i64 10] w fun e w' => e = .returned (.string ⟨(Lib.itoa n).toArray⟩) ∧ Ext w w' :=
  (Tryz.strconv_FormatInt_10 n (by omega) (by unfold maxNum at hn; omega) w ht).mono fun e w' ⟨h1, k, os, h2⟩ => ⟨h1, by subst h2; exact Lib.below_grow _ _ (Nat.le_refl _) k os⟩

set_option maxHeartbeats 1000000 in
theorem typed_any (w : World) (n : Nat) : Calls Tryz.prog 19 #[.int .i64 n] w fun e w' => e = .returned (.string ⟨(typText n).toArray⟩) ∧ w = w' := by
  by_cases h1 : n = 1
  · subst h1
    go_enter Tryz.func19, Tryz.ntmps19
    go_wp2_with fail
    go_ret
    exact ⟨rfl, rfl⟩
  by_cases h2 : n = 2
  · subst h2
    go_enter Tryz.func19, Tryz.ntmps19
    go_wp2_with fail
    go_ret
    exact ⟨rfl, rfl⟩
  by_cases h3 : n = 3
  · subst h3
    go_enter Tryz.func19, Tryz.ntmps19
    go_wp2_with fail
    go_ret
    exact ⟨rfl, rfl⟩
  · have i1 : ((n : Int) == 1) = false := by simp; omega
    have i2 : ((n : Int) == 2) = false := by simp; omega
    have i3 : ((n : Int) == 3) = false := by simp; omega
    have HE := hid (show typText n = [] by unfold typText; rw [if_neg h1, if_neg h2, if_neg h3])
    clear h1 h2 h3
    go_enter Tryz.func19, Tryz.ntmps19
    go_wp2_with fail
    go_ret
    exact ⟨by rw [HE.out]; rfl, rfl⟩

set_option maxHeartbeats 2000000 in
theorem nth_any (w : World) (a : Option Addr) (cap : Nat) (l : List Ex) (F : Nat → Prop) (ks : List Value) (hcap : l.length ≤ cap) (hc : CellsIn w F a ks) (hq : ExsIs w F l ks) (i : Nat) (hi : i ≤ 1)
    (hf : ∀ x ∈ l, TextC 87 exEnc showE w F x) (hn : l.length ≤ 100000) :
    Calls Tryz.prog 73 #[.slice a l.length cap, .int .i64 i] w fun e w' => e = .returned (.string ⟨(nthS (showEs l) i).toArray⟩) ∧ Ext w w' := by
  have HF := hid hf
  clear hf
  by_cases hlt : i < l.length
  · obtain ⟨b, off, vs, rfl, h1, h2⟩ := elem_at exEnc (by decide) ex_cons hc hq hlt
    obtain ⟨op, num, text, ka, kn, kc, at_, rfl⟩ := ex_form h1
    have d0 := h2 0 _ rfl
    have d1 := h2 1 _ rfl
    have d2 := h2 2 _ rfl
    have d3 := h2 3 _ rfl
    have d4 := h2 4 _ rfl
    simp only [exEnc, Nat.add_zero] at d0 d1 d2 d3 d4
    have HT := hid (HF.out l[i] (List.getElem_mem hlt))
    have H1 := hid h1
    have hge : ¬ ((l.length : Int) ≤ i) := by omega
    have hgi : (i : Int) < l.length := by omega
    have HE := hid (show nthS (showEs l) i = showE l[i] by simp [nthS, showEs_map, hlt])
    clear h1 h2
    go_enter Tryz.func73, Tryz.ntmps73
    go_wp2_with fail
    refine (HT.out _ _ (Ext.refl _) H1.out).mono ?_
    rintro e w3 ⟨rfl, e3⟩
    go_wp2_with fail
    go_ret
    exact ⟨by rw [HE.out]; rfl, e3⟩
  · have hge : ((l.length : Int) ≤ i) := by omega
    have HE := hid (show nthS (showEs l) i = [] by
      have : (showEs l)[i]? = none := by rw [showEs_map, List.getElem?_eq_none (by simp; omega)]
      unfold nthS; rw [this])
    go_enter Tryz.func73, Tryz.ntmps73
    go_wp2_with fail
    go_ret
    exact ⟨by rw [HE.out]; rfl, Ext.refl _⟩

set_option maxHeartbeats 4000000 in
theorem expr_num_at (w : World) (n p : Nat) (hn : n ≤ maxNum) (ht : Tab w) (a : Option Addr) (c : Nat) :
    Calls Tryz.prog 87 #[.agg #[.int .i64 1, .int .i64 n, .string ⟨#[]⟩, .slice a 0 c, .int .i64 p]] w fun e w' => e = .returned (.string ⟨(showE (.mk 1 n [] [] p)).toArray⟩) ∧ Ext w w' := by
  have HT := hid ht
  go_enter Tryz.func87, Tryz.ntmps87
  go_wp2_with fail
  refine (format_any _ n hn (HT.out.ext ((Ext.refl _).alloc _))).mono ?_
  rintro e w1 ⟨rfl, e1⟩
  go_wp2_with fail
  go_ret
  exact ⟨ret_str (by apply ByteArray.ext; simp [showE, showOp]), ((Ext.refl _).alloc _).trans e1⟩

set_option maxHeartbeats 4000000 in
theorem expr_bool_at (w : World) (n p : Nat) (hn : n ≤ 1) (a : Option Addr) (c : Nat) :
    Calls Tryz.prog 87 #[.agg #[.int .i64 2, .int .i64 n, .string ⟨#[]⟩, .slice a 0 c, .int .i64 p]] w fun e w' => e = .returned (.string ⟨(showE (.mk 2 n [] [] p)).toArray⟩) ∧ Ext w w' := by
  rcases (by omega : n = 0 ∨ n = 1) with rfl | rfl
  all_goals
    go_enter Tryz.func87, Tryz.ntmps87
    go_wp2_with fail
    go_ret
    exact ⟨ret_str (by apply ByteArray.ext; simp [showE, showOp]), (Ext.refl _).alloc _⟩

set_option maxHeartbeats 4000000 in
theorem expr_text_at (w : World) (s : List UInt8) (p : Nat) (hs : s.length ≤ 1000) (a : Option Addr) (c : Nat) :
    Calls Tryz.prog 87 #[.agg #[.int .i64 3, .int .i64 0, .string ⟨s.toArray⟩, .slice a 0 c, .int .i64 p]] w fun e w' => e = .returned (.string ⟨(showE (.mk 3 0 s [] p)).toArray⟩) ∧ Ext w w' := by
  go_enter Tryz.func87, Tryz.ntmps87
  go_wp2_with fail
  go_ret
  exact ⟨ret_str (by apply ByteArray.ext; simp [showE, showOp]), (Ext.refl _).alloc _⟩

set_option maxHeartbeats 4000000 in
theorem expr_name_at (w : World) (s : List UInt8) (p : Nat) (hs : s.length ≤ 1000) (a : Option Addr) (c : Nat) :
    Calls Tryz.prog 87 #[.agg #[.int .i64 4, .int .i64 0, .string ⟨s.toArray⟩, .slice a 0 c, .int .i64 p]] w fun e w' => e = .returned (.string ⟨(showE (.mk 4 0 s [] p)).toArray⟩) ∧ Ext w w' := by
  go_enter Tryz.func87, Tryz.ntmps87
  go_wp2_with fail
  go_ret
  exact ⟨ret_str (by apply ByteArray.ext; simp [showE, showOp]), (Ext.refl _).alloc _⟩

theorem sizes_len (l : List Ex) : l.length ≤ Ex.sizes l := by
  induction l with
  | nil => simp [Ex.sizes]
  | cons y l ih => have := y.size_pos; simp only [Ex.sizes, List.length_cons]; omega
/-- The text of an expression, wherever it lies. -/
def ExprT (x : Ex) : Prop := ∀ (w : World) (F : Nat → Prop) (vs : List Value), Tab w → ExIs w F x vs → Calls Tryz.prog 87 #[.agg vs.toArray] w fun e w' => e = .returned (.string ⟨(showE x).toArray⟩) ∧ Ext w w'
theorem ExprT.at {x : Ex} (h : ExprT x) {w : World} (ht : Tab w) (F : Nat → Prop) : TextC 87 exEnc showE w F x := fun w' vs e hx => h w' F vs (ht.ext e) hx
theorem expr_enters : ∀ args w', (callFunc 87 args).run Tryz.prog w' = .ok (.enter 87 args) w' := fun _ _ => by simp [go_sem]

set_option maxHeartbeats 4000000 in
theorem expr_call (w : World) (F : Nat → Prop) (s : List UInt8) (hs : s.length ≤ 1000) (ks : List Ex) (p : Nat) (a : Option Addr) (cap : Nat) (kks : List Value) (hcap : ks.length ≤ cap) (hc : CellsIn w F a kks) (hq : ExsIs w F ks kks) (hk : ∀ x ∈ ks, ExprT x) (ht : Tab w) (hn : ks.length ≤ 100000) (hlen : (Lib.join (ks.map showE) [44, 32]).length ≤ 100000000) :
    Calls Tryz.prog 87 #[.agg #[.int .i64 5, .int .i64 0, .string ⟨s.toArray⟩, .slice a ks.length cap, .int .i64 p]] w fun e w' => e = .returned (.string ⟨(showE (.mk 5 0 s ks p)).toArray⟩) ∧ Ext w w' := by
  have HK := hid hk
  have HT := hid ht
  clear hk ht
  go_enter Tryz.func87, Tryz.ntmps87
  go_wp2_with fail
  have hB := (Blk.new w 100 [.int .i64 5, .int .i64 0, .string ⟨s.toArray⟩, .slice a ks.length cap, .int .i64 p]).drew
  have hS : Blk (w.alloc (.cells #[.int .i64 5, .int .i64 0, .string ⟨s.toArray⟩, .slice a ks.length cap, .int .i64 p] 100)).drew w.heap.size 100 [.int .i64 5, .int .i64 0, .string ⟨s.toArray⟩, .slice a ks.length cap, .int .i64 p] := hB
  have hE0 : Ext w (w.alloc (.cells #[.int .i64 5, .int .i64 0, .string ⟨s.toArray⟩, .slice a ks.length cap, .int .i64 p] 100)).drew := ((Ext.refl w).alloc _).drew
  refine phase_begin (fun w' => Blk w' w.heap.size 100 [.int .i64 5, .int .i64 0, .string ⟨s.toArray⟩, .slice a ks.length cap, .int .i64 p]) 9 (by kernel_rfl) ?_
  refine phase_take (i := 0) (v := .pointer (some ⟨w.heap.size, 2, none⟩)) rfl (by kernel_rfl) (by omega) (by kernel_rfl) (by kernel_rfl) (by kernel_rfl) (fun _ _ _ h => h) ⟨by rfl, ?_⟩ hS ?_
  · intro wS hSw
    obtain ⟨s0, s1, s2, s3, s4, sf⟩ := Blk.five hSw
    go_simp
    all_goals omega
  simp only [Act.put, List.getElem_toArray, List.getElem_cons_succ, List.getElem_cons_zero, List.setIfInBounds_toArray, List.set_cons_zero, List.set_cons_succ]
  refine phase_take (i := 1) (v := .string ⟨s.toArray⟩) rfl (by kernel_rfl) (by omega) (by kernel_rfl) (by kernel_rfl) (by kernel_rfl) (fun _ _ _ h => h) ⟨by rfl, ?_⟩ hS ?_
  · intro wS hSw
    obtain ⟨s0, s1, s2, s3, s4, sf⟩ := Blk.five hSw
    go_simp
    all_goals omega
  simp only [Act.put, List.getElem_toArray, List.getElem_cons_succ, List.getElem_cons_zero, List.setIfInBounds_toArray, List.set_cons_zero, List.set_cons_succ]
  refine phase_take (i := 2) (v := .string (⟨s.toArray⟩ ++ ⟨#[40]⟩)) rfl (by kernel_rfl) (by omega) (by kernel_rfl) (by kernel_rfl) (by kernel_rfl) (fun _ _ _ h => h) ⟨by rfl, ?_⟩ hS ?_
  · intro wS hSw
    obtain ⟨s0, s1, s2, s3, s4, sf⟩ := Blk.five hSw
    go_simp
    all_goals omega
  simp only [Act.put, List.getElem_toArray, List.getElem_cons_succ, List.getElem_cons_zero, List.setIfInBounds_toArray, List.set_cons_zero, List.set_cons_succ]
  refine phase_take (i := 3) (v := .pointer (some ⟨w.heap.size, 3, none⟩)) rfl (by kernel_rfl) (by omega) (by kernel_rfl) (by kernel_rfl) (by kernel_rfl) (fun _ _ _ h => h) ⟨by rfl, ?_⟩ hS ?_
  · intro wS hSw
    obtain ⟨s0, s1, s2, s3, s4, sf⟩ := Blk.five hSw
    go_simp
    all_goals omega
  simp only [Act.put, List.getElem_toArray, List.getElem_cons_succ, List.getElem_cons_zero, List.setIfInBounds_toArray, List.set_cons_zero, List.set_cons_succ]
  refine phase_take (i := 4) (v := .slice a ks.length cap) rfl (by kernel_rfl) (by omega) (by kernel_rfl) (by kernel_rfl) (by kernel_rfl) (fun _ _ _ h => h) ⟨by rfl, ?_⟩ hS ?_
  · intro wS hSw
    obtain ⟨s0, s1, s2, s3, s4, sf⟩ := Blk.five hSw
    go_simp
    all_goals omega
  simp only [Act.put, List.getElem_toArray, List.getElem_cons_succ, List.getElem_cons_zero, List.setIfInBounds_toArray, List.set_cons_zero, List.set_cons_succ]
  refine phase_one (i := 5) (by kernel_rfl) (by omega) rfl (by rfl) (fun K hK => ?_)
  go_simp
  refine (joinE_any _ a cap ks F kks hcap (hc.ext hE0) (exEnc.exts hq hE0) [44, 32] 87 showE expr_enters (fun x hx => (HK.out x hx).at (HT.out.ext hE0) F) hn (by omega)).mono ?_
  rintro e w1 ⟨rfl, x1⟩
  have hS1 := Blk.ext hS x1
  refine hK _ _ ⟨hS1, ?_⟩
  clear hK K
  try simp only [Act.put, List.getElem_toArray, List.getElem_cons_succ, List.getElem_cons_zero, List.setIfInBounds_toArray, List.set_cons_zero, List.set_cons_succ]
  refine phase_take (i := 6) (v := .string ((⟨s.toArray⟩ ++ ⟨#[40]⟩) ++ ⟨(Lib.join (ks.map showE) [44, 32]).toArray⟩)) rfl (by kernel_rfl) (by omega) (by kernel_rfl) (by kernel_rfl) (by kernel_rfl) (fun _ _ _ h => h) ⟨by rfl, ?_⟩ hS1 ?_
  · intro wS hSw
    obtain ⟨s0, s1, s2, s3, s4, sf⟩ := Blk.five hSw
    go_simp
    all_goals omega
  simp only [Act.put, List.getElem_toArray, List.getElem_cons_succ, List.getElem_cons_zero, List.setIfInBounds_toArray, List.set_cons_zero, List.set_cons_succ]
  refine phase_take (i := 7) (v := .string (((⟨s.toArray⟩ ++ ⟨#[40]⟩) ++ ⟨(Lib.join (ks.map showE) [44, 32]).toArray⟩) ++ ⟨#[41]⟩)) rfl (by kernel_rfl) (by omega) (by kernel_rfl) (by kernel_rfl) (by kernel_rfl) (fun _ _ _ h => h) ⟨by rfl, ?_⟩ hS1 ?_
  · intro wS hSw
    obtain ⟨s0, s1, s2, s3, s4, sf⟩ := Blk.five hSw
    go_simp
    all_goals omega
  simp only [Act.put, List.getElem_toArray, List.getElem_cons_succ, List.getElem_cons_zero, List.setIfInBounds_toArray, List.set_cons_zero, List.set_cons_succ]
  refine phase_take (i := 8) (v := .string (((⟨s.toArray⟩ ++ ⟨#[40]⟩) ++ ⟨(Lib.join (ks.map showE) [44, 32]).toArray⟩) ++ ⟨#[41]⟩)) rfl (by kernel_rfl) (by omega) (by kernel_rfl) (by kernel_rfl) (by kernel_rfl) (fun _ _ _ h => h) ⟨by rfl, ?_⟩ hS1 ?_
  · intro wS hSw
    obtain ⟨s0, s1, s2, s3, s4, sf⟩ := Blk.five hSw
    go_simp
    all_goals omega
  simp only [Act.put, List.getElem_toArray, List.getElem_cons_succ, List.getElem_cons_zero, List.setIfInBounds_toArray, List.set_cons_zero, List.set_cons_succ]
  refine phase_done (by kernel_rfl) ?_
  go_wp2_with fail
  go_ret
  exact ⟨ret_str (by apply ByteArray.ext; simp [showE, showOp, showEs_map]), hE0.trans x1⟩

set_option maxHeartbeats 4000000 in
theorem expr_two (w : World) (F : Nat → Prop) (s : List UInt8) (hs : s.length ≤ 1000) (x y : Ex) (hlx : (showE x).length ≤ 100000000) (hly : (showE y).length ≤ 100000000) (p : Nat) (a : Option Addr) (cap : Nat) (kks : List Value) (hcap : 2 ≤ cap) (hc : CellsIn w F a kks) (hq : exEnc.all w F [x, y] kks) (hk : ∀ z ∈ [x, y], ExprT z) (ht : Tab w) :
    Calls Tryz.prog 87 #[.agg #[.int .i64 6, .int .i64 0, .string ⟨s.toArray⟩, .slice a 2 cap, .int .i64 p]] w fun e w' => e = .returned (.string ⟨(showE (.mk 6 0 s [x, y] p)).toArray⟩) ∧ Ext w w' := by
  have HK := hid hk
  have HT := hid ht
  clear hk ht
  go_enter Tryz.func87, Tryz.ntmps87
  go_wp2_with fail
  have hB := (Blk.new w 100 [.int .i64 6, .int .i64 0, .string ⟨s.toArray⟩, .slice a 2 cap, .int .i64 p]).drew
  have hS : Blk (w.alloc (.cells #[.int .i64 6, .int .i64 0, .string ⟨s.toArray⟩, .slice a 2 cap, .int .i64 p] 100)).drew w.heap.size 100 [.int .i64 6, .int .i64 0, .string ⟨s.toArray⟩, .slice a 2 cap, .int .i64 p] := hB
  have hE0 : Ext w (w.alloc (.cells #[.int .i64 6, .int .i64 0, .string ⟨s.toArray⟩, .slice a 2 cap, .int .i64 p] 100)).drew := ((Ext.refl w).alloc _).drew
  refine phase_begin (fun w' => Blk w' w.heap.size 100 [.int .i64 6, .int .i64 0, .string ⟨s.toArray⟩, .slice a 2 cap, .int .i64 p]) 15 (by kernel_rfl) ?_
  refine phase_take (i := 0) (v := .pointer (some ⟨w.heap.size, 3, none⟩)) rfl (by kernel_rfl) (by omega) (by kernel_rfl) (by kernel_rfl) (by kernel_rfl) (fun _ _ _ h => h) ⟨by rfl, ?_⟩ hS ?_
  · intro wS hSw
    obtain ⟨s0, s1, s2, s3, s4, sf⟩ := Blk.five hSw
    go_simp
    all_goals omega
  simp only [Act.put, List.getElem_toArray, List.getElem_cons_succ, List.getElem_cons_zero, List.setIfInBounds_toArray, List.set_cons_zero, List.set_cons_succ]
  refine phase_take (i := 1) (v := .slice a 2 cap) rfl (by kernel_rfl) (by omega) (by kernel_rfl) (by kernel_rfl) (by kernel_rfl) (fun _ _ _ h => h) ⟨by rfl, ?_⟩ hS ?_
  · intro wS hSw
    obtain ⟨s0, s1, s2, s3, s4, sf⟩ := Blk.five hSw
    go_simp
    all_goals omega
  simp only [Act.put, List.getElem_toArray, List.getElem_cons_succ, List.getElem_cons_zero, List.setIfInBounds_toArray, List.set_cons_zero, List.set_cons_succ]
  refine phase_take (i := 5) (v := .pointer (some ⟨w.heap.size, 2, none⟩)) rfl (by kernel_rfl) (by omega) (by kernel_rfl) (by kernel_rfl) (by kernel_rfl) (fun _ _ _ h => h) ⟨by rfl, ?_⟩ hS ?_
  · intro wS hSw
    obtain ⟨s0, s1, s2, s3, s4, sf⟩ := Blk.five hSw
    go_simp
    all_goals omega
  simp only [Act.put, List.getElem_toArray, List.getElem_cons_succ, List.getElem_cons_zero, List.setIfInBounds_toArray, List.set_cons_zero, List.set_cons_succ]
  refine phase_take (i := 6) (v := .string ⟨s.toArray⟩) rfl (by kernel_rfl) (by omega) (by kernel_rfl) (by kernel_rfl) (by kernel_rfl) (fun _ _ _ h => h) ⟨by rfl, ?_⟩ hS ?_
  · intro wS hSw
    obtain ⟨s0, s1, s2, s3, s4, sf⟩ := Blk.five hSw
    go_simp
    all_goals omega
  simp only [Act.put, List.getElem_toArray, List.getElem_cons_succ, List.getElem_cons_zero, List.setIfInBounds_toArray, List.set_cons_zero, List.set_cons_succ]
  refine phase_take (i := 9) (v := .pointer (some ⟨w.heap.size, 3, none⟩)) rfl (by kernel_rfl) (by omega) (by kernel_rfl) (by kernel_rfl) (by kernel_rfl) (fun _ _ _ h => h) ⟨by rfl, ?_⟩ hS ?_
  · intro wS hSw
    obtain ⟨s0, s1, s2, s3, s4, sf⟩ := Blk.five hSw
    go_simp
    all_goals omega
  simp only [Act.put, List.getElem_toArray, List.getElem_cons_succ, List.getElem_cons_zero, List.setIfInBounds_toArray, List.set_cons_zero, List.set_cons_succ]
  refine phase_take (i := 10) (v := .slice a 2 cap) rfl (by kernel_rfl) (by omega) (by kernel_rfl) (by kernel_rfl) (by kernel_rfl) (fun _ _ _ h => h) ⟨by rfl, ?_⟩ hS ?_
  · intro wS hSw
    obtain ⟨s0, s1, s2, s3, s4, sf⟩ := Blk.five hSw
    go_simp
    all_goals omega
  simp only [Act.put, List.getElem_toArray, List.getElem_cons_succ, List.getElem_cons_zero, List.setIfInBounds_toArray, List.set_cons_zero, List.set_cons_succ]
  refine phase_one (i := 2) (by kernel_rfl) (by omega) rfl (by rfl) (fun K hK => ?_)
  go_simp
  refine ((show Calls _ _ _ _ fun e w' => e = .returned (.string ⟨(showE x).toArray⟩) ∧ Ext _ w' from nth_any _ a cap [x, y] F kks hcap (hc.ext hE0) (exEnc.exts hq hE0) 0 (by omega) (fun z hz => (HK.out z hz).at (HT.out.ext hE0) F) (by simp))).mono ?_
  rintro e w1 ⟨rfl, x1⟩
  have hS1 := Blk.ext hS x1
  refine hK _ _ ⟨hS1, ?_⟩
  clear hK K
  try simp only [Act.put, List.getElem_toArray, List.getElem_cons_succ, List.getElem_cons_zero, List.setIfInBounds_toArray, List.set_cons_zero, List.set_cons_succ]
  refine phase_take (i := 3) (v := .string (⟨#[40]⟩ ++ ⟨(showE x).toArray⟩)) rfl (by kernel_rfl) (by omega) (by kernel_rfl) (by kernel_rfl) (by kernel_rfl) (fun _ _ _ h => h) ⟨by rfl, ?_⟩ hS1 ?_
  · intro wS hSw
    obtain ⟨s0, s1, s2, s3, s4, sf⟩ := Blk.five hSw
    go_simp
    all_goals omega
  simp only [Act.put, List.getElem_toArray, List.getElem_cons_succ, List.getElem_cons_zero, List.setIfInBounds_toArray, List.set_cons_zero, List.set_cons_succ]
  refine phase_take (i := 4) (v := .string ((⟨#[40]⟩ ++ ⟨(showE x).toArray⟩) ++ ⟨#[32]⟩)) rfl (by kernel_rfl) (by omega) (by kernel_rfl) (by kernel_rfl) (by kernel_rfl) (fun _ _ _ h => h) ⟨by rfl, ?_⟩ hS1 ?_
  · intro wS hSw
    obtain ⟨s0, s1, s2, s3, s4, sf⟩ := Blk.five hSw
    go_simp
    all_goals omega
  simp only [Act.put, List.getElem_toArray, List.getElem_cons_succ, List.getElem_cons_zero, List.setIfInBounds_toArray, List.set_cons_zero, List.set_cons_succ]
  refine phase_take (i := 7) (v := .string (((⟨#[40]⟩ ++ ⟨(showE x).toArray⟩) ++ ⟨#[32]⟩) ++ ⟨s.toArray⟩)) rfl (by kernel_rfl) (by omega) (by kernel_rfl) (by kernel_rfl) (by kernel_rfl) (fun _ _ _ h => h) ⟨by rfl, ?_⟩ hS1 ?_
  · intro wS hSw
    obtain ⟨s0, s1, s2, s3, s4, sf⟩ := Blk.five hSw
    go_simp
    all_goals omega
  simp only [Act.put, List.getElem_toArray, List.getElem_cons_succ, List.getElem_cons_zero, List.setIfInBounds_toArray, List.set_cons_zero, List.set_cons_succ]
  refine phase_take (i := 8) (v := .string ((((⟨#[40]⟩ ++ ⟨(showE x).toArray⟩) ++ ⟨#[32]⟩) ++ ⟨s.toArray⟩) ++ ⟨#[32]⟩)) rfl (by kernel_rfl) (by omega) (by kernel_rfl) (by kernel_rfl) (by kernel_rfl) (fun _ _ _ h => h) ⟨by rfl, ?_⟩ hS1 ?_
  · intro wS hSw
    obtain ⟨s0, s1, s2, s3, s4, sf⟩ := Blk.five hSw
    go_simp
    all_goals omega
  simp only [Act.put, List.getElem_toArray, List.getElem_cons_succ, List.getElem_cons_zero, List.setIfInBounds_toArray, List.set_cons_zero, List.set_cons_succ]
  refine phase_one (i := 11) (by kernel_rfl) (by omega) rfl (by rfl) (fun K hK => ?_)
  go_simp
  refine ((show Calls _ _ _ _ fun e w' => e = .returned (.string ⟨(showE y).toArray⟩) ∧ Ext _ w' from nth_any _ a cap [x, y] F kks hcap (hc.ext (hE0.trans x1)) (exEnc.exts hq (hE0.trans x1)) 1 (by omega) (fun z hz => (HK.out z hz).at (HT.out.ext (hE0.trans x1)) F) (by simp))).mono ?_
  rintro e w2 ⟨rfl, x2⟩
  have hS2 := Blk.ext hS1 x2
  refine hK _ _ ⟨hS2, ?_⟩
  clear hK K
  try simp only [Act.put, List.getElem_toArray, List.getElem_cons_succ, List.getElem_cons_zero, List.setIfInBounds_toArray, List.set_cons_zero, List.set_cons_succ]
  refine phase_take (i := 12) (v := .string (((((⟨#[40]⟩ ++ ⟨(showE x).toArray⟩) ++ ⟨#[32]⟩) ++ ⟨s.toArray⟩) ++ ⟨#[32]⟩) ++ ⟨(showE y).toArray⟩)) rfl (by kernel_rfl) (by omega) (by kernel_rfl) (by kernel_rfl) (by kernel_rfl) (fun _ _ _ h => h) ⟨by rfl, ?_⟩ hS2 ?_
  · intro wS hSw
    obtain ⟨s0, s1, s2, s3, s4, sf⟩ := Blk.five hSw
    go_simp
    all_goals omega
  simp only [Act.put, List.getElem_toArray, List.getElem_cons_succ, List.getElem_cons_zero, List.setIfInBounds_toArray, List.set_cons_zero, List.set_cons_succ]
  refine phase_take (i := 13) (v := .string ((((((⟨#[40]⟩ ++ ⟨(showE x).toArray⟩) ++ ⟨#[32]⟩) ++ ⟨s.toArray⟩) ++ ⟨#[32]⟩) ++ ⟨(showE y).toArray⟩) ++ ⟨#[41]⟩)) rfl (by kernel_rfl) (by omega) (by kernel_rfl) (by kernel_rfl) (by kernel_rfl) (fun _ _ _ h => h) ⟨by rfl, ?_⟩ hS2 ?_
  · intro wS hSw
    obtain ⟨s0, s1, s2, s3, s4, sf⟩ := Blk.five hSw
    go_simp
    all_goals omega
  simp only [Act.put, List.getElem_toArray, List.getElem_cons_succ, List.getElem_cons_zero, List.setIfInBounds_toArray, List.set_cons_zero, List.set_cons_succ]
  refine phase_take (i := 14) (v := .string ((((((⟨#[40]⟩ ++ ⟨(showE x).toArray⟩) ++ ⟨#[32]⟩) ++ ⟨s.toArray⟩) ++ ⟨#[32]⟩) ++ ⟨(showE y).toArray⟩) ++ ⟨#[41]⟩)) rfl (by kernel_rfl) (by omega) (by kernel_rfl) (by kernel_rfl) (by kernel_rfl) (fun _ _ _ h => h) ⟨by rfl, ?_⟩ hS2 ?_
  · intro wS hSw
    obtain ⟨s0, s1, s2, s3, s4, sf⟩ := Blk.five hSw
    go_simp
    all_goals omega
  simp only [Act.put, List.getElem_toArray, List.getElem_cons_succ, List.getElem_cons_zero, List.setIfInBounds_toArray, List.set_cons_zero, List.set_cons_succ]
  refine phase_done (by kernel_rfl) ?_
  go_wp2_with fail
  go_ret
  exact ⟨ret_str (by apply ByteArray.ext; simp [showE, showOp, showEs, nthS]), (hE0.trans x1).trans x2⟩

set_option maxHeartbeats 4000000 in
theorem expr_one (w : World) (F : Nat → Prop) (s : List UInt8) (hs : s.length ≤ 1000) (x : Ex) (hlx : (showE x).length ≤ 100000000) (p : Nat) (a : Option Addr) (cap : Nat) (kks : List Value) (hcap : 1 ≤ cap) (hc : CellsIn w F a kks) (hq : exEnc.all w F [x] kks) (hk : ∀ z ∈ [x], ExprT z) (ht : Tab w) :
    Calls Tryz.prog 87 #[.agg #[.int .i64 7, .int .i64 0, .string ⟨s.toArray⟩, .slice a 1 cap, .int .i64 p]] w fun e w' => e = .returned (.string ⟨(showE (.mk 7 0 s [x] p)).toArray⟩) ∧ Ext w w' := by
  have HK := hid hk
  have HT := hid ht
  clear hk ht
  go_enter Tryz.func87, Tryz.ntmps87
  go_wp2_with fail
  have hB := (Blk.new w 100 [.int .i64 7, .int .i64 0, .string ⟨s.toArray⟩, .slice a 1 cap, .int .i64 p]).drew
  have hS : Blk (w.alloc (.cells #[.int .i64 7, .int .i64 0, .string ⟨s.toArray⟩, .slice a 1 cap, .int .i64 p] 100)).drew w.heap.size 100 [.int .i64 7, .int .i64 0, .string ⟨s.toArray⟩, .slice a 1 cap, .int .i64 p] := hB
  have hE0 : Ext w (w.alloc (.cells #[.int .i64 7, .int .i64 0, .string ⟨s.toArray⟩, .slice a 1 cap, .int .i64 p] 100)).drew := ((Ext.refl w).alloc _).drew
  refine phase_begin (fun w' => Blk w' w.heap.size 100 [.int .i64 7, .int .i64 0, .string ⟨s.toArray⟩, .slice a 1 cap, .int .i64 p]) 7 (by kernel_rfl) ?_
  refine phase_take (i := 0) (v := .pointer (some ⟨w.heap.size, 2, none⟩)) rfl (by kernel_rfl) (by omega) (by kernel_rfl) (by kernel_rfl) (by kernel_rfl) (fun _ _ _ h => h) ⟨by rfl, ?_⟩ hS ?_
  · intro wS hSw
    obtain ⟨s0, s1, s2, s3, s4, sf⟩ := Blk.five hSw
    go_simp
    all_goals omega
  simp only [Act.put, List.getElem_toArray, List.getElem_cons_succ, List.getElem_cons_zero, List.setIfInBounds_toArray, List.set_cons_zero, List.set_cons_succ]
  refine phase_take (i := 1) (v := .string ⟨s.toArray⟩) rfl (by kernel_rfl) (by omega) (by kernel_rfl) (by kernel_rfl) (by kernel_rfl) (fun _ _ _ h => h) ⟨by rfl, ?_⟩ hS ?_
  · intro wS hSw
    obtain ⟨s0, s1, s2, s3, s4, sf⟩ := Blk.five hSw
    go_simp
    all_goals omega
  simp only [Act.put, List.getElem_toArray, List.getElem_cons_succ, List.getElem_cons_zero, List.setIfInBounds_toArray, List.set_cons_zero, List.set_cons_succ]
  refine phase_take (i := 2) (v := .pointer (some ⟨w.heap.size, 3, none⟩)) rfl (by kernel_rfl) (by omega) (by kernel_rfl) (by kernel_rfl) (by kernel_rfl) (fun _ _ _ h => h) ⟨by rfl, ?_⟩ hS ?_
  · intro wS hSw
    obtain ⟨s0, s1, s2, s3, s4, sf⟩ := Blk.five hSw
    go_simp
    all_goals omega
  simp only [Act.put, List.getElem_toArray, List.getElem_cons_succ, List.getElem_cons_zero, List.setIfInBounds_toArray, List.set_cons_zero, List.set_cons_succ]
  refine phase_take (i := 3) (v := .slice a 1 cap) rfl (by kernel_rfl) (by omega) (by kernel_rfl) (by kernel_rfl) (by kernel_rfl) (fun _ _ _ h => h) ⟨by rfl, ?_⟩ hS ?_
  · intro wS hSw
    obtain ⟨s0, s1, s2, s3, s4, sf⟩ := Blk.five hSw
    go_simp
    all_goals omega
  simp only [Act.put, List.getElem_toArray, List.getElem_cons_succ, List.getElem_cons_zero, List.setIfInBounds_toArray, List.set_cons_zero, List.set_cons_succ]
  refine phase_one (i := 4) (by kernel_rfl) (by omega) rfl (by rfl) (fun K hK => ?_)
  go_simp
  refine ((show Calls _ _ _ _ fun e w' => e = .returned (.string ⟨(showE x).toArray⟩) ∧ Ext _ w' from nth_any _ a cap [x] F kks hcap (hc.ext hE0) (exEnc.exts hq hE0) 0 (by omega) (fun z hz => (HK.out z hz).at (HT.out.ext hE0) F) (by simp))).mono ?_
  rintro e w1 ⟨rfl, x1⟩
  have hS1 := Blk.ext hS x1
  refine hK _ _ ⟨hS1, ?_⟩
  clear hK K
  try simp only [Act.put, List.getElem_toArray, List.getElem_cons_succ, List.getElem_cons_zero, List.setIfInBounds_toArray, List.set_cons_zero, List.set_cons_succ]
  refine phase_take (i := 5) (v := .string (⟨s.toArray⟩ ++ ⟨(showE x).toArray⟩)) rfl (by kernel_rfl) (by omega) (by kernel_rfl) (by kernel_rfl) (by kernel_rfl) (fun _ _ _ h => h) ⟨by rfl, ?_⟩ hS1 ?_
  · intro wS hSw
    obtain ⟨s0, s1, s2, s3, s4, sf⟩ := Blk.five hSw
    go_simp
    all_goals omega
  simp only [Act.put, List.getElem_toArray, List.getElem_cons_succ, List.getElem_cons_zero, List.setIfInBounds_toArray, List.set_cons_zero, List.set_cons_succ]
  refine phase_take (i := 6) (v := .string (⟨s.toArray⟩ ++ ⟨(showE x).toArray⟩)) rfl (by kernel_rfl) (by omega) (by kernel_rfl) (by kernel_rfl) (by kernel_rfl) (fun _ _ _ h => h) ⟨by rfl, ?_⟩ hS1 ?_
  · intro wS hSw
    obtain ⟨s0, s1, s2, s3, s4, sf⟩ := Blk.five hSw
    go_simp
    all_goals omega
  simp only [Act.put, List.getElem_toArray, List.getElem_cons_succ, List.getElem_cons_zero, List.setIfInBounds_toArray, List.set_cons_zero, List.set_cons_succ]
  refine phase_done (by kernel_rfl) ?_
  go_wp2_with fail
  go_ret
  exact ⟨ret_str (by apply ByteArray.ext; simp [showE, showOp, showEs, nthS]), hE0.trans x1⟩

set_option maxHeartbeats 4000000 in
theorem expr_get (w : World) (F : Nat → Prop) (x : Ex) (hlx : (showE x).length ≤ 100000000) (p : Nat) (a : Option Addr) (cap : Nat) (kks : List Value) (hcap : 1 ≤ cap) (hc : CellsIn w F a kks) (hq : exEnc.all w F [x] kks) (hk : ∀ z ∈ [x], ExprT z) (ht : Tab w) :
    Calls Tryz.prog 87 #[.agg #[.int .i64 8, .int .i64 0, .string ⟨#[]⟩, .slice a 1 cap, .int .i64 p]] w fun e w' => e = .returned (.string ⟨(showE (.mk 8 0 [] [x] p)).toArray⟩) ∧ Ext w w' := by
  have HK := hid hk
  have HT := hid ht
  have hE0 : Ext w (w.alloc (.cells #[.int .i64 8, .int .i64 0, .string ⟨#[]⟩, .slice a 1 cap, .int .i64 p] 100)) := (Ext.refl w).alloc _
  clear hk ht
  go_enter Tryz.func87, Tryz.ntmps87
  go_wp2_with fail
  refine (show Calls _ _ _ _ fun e w' => e = .returned (.string ⟨(showE x).toArray⟩) ∧ Ext _ w' from nth_any _ a cap [x] F kks hcap (hc.ext hE0) (exEnc.exts hq hE0) 0 (by omega) (fun z hz => (HK.out z hz).at (HT.out.ext hE0) F) (by simp)).mono ?_
  rintro e w1 ⟨rfl, x1⟩
  go_wp2_with fail
  go_ret
  exact ⟨ret_str (by apply ByteArray.ext; simp [showE, showOp, showEs, nthS]), hE0.trans x1⟩

set_option maxHeartbeats 4000000 in
theorem expr_has (w : World) (F : Nat → Prop) (x : Ex) (hlx : (showE x).length ≤ 100000000) (p : Nat) (a : Option Addr) (cap : Nat) (kks : List Value) (hcap : 1 ≤ cap) (hc : CellsIn w F a kks) (hq : exEnc.all w F [x] kks) (hk : ∀ z ∈ [x], ExprT z) (ht : Tab w) :
    Calls Tryz.prog 87 #[.agg #[.int .i64 9, .int .i64 0, .string ⟨#[]⟩, .slice a 1 cap, .int .i64 p]] w fun e w' => e = .returned (.string ⟨(showE (.mk 9 0 [] [x] p)).toArray⟩) ∧ Ext w w' := by
  have HK := hid hk
  have HT := hid ht
  have hE0 : Ext w (w.alloc (.cells #[.int .i64 9, .int .i64 0, .string ⟨#[]⟩, .slice a 1 cap, .int .i64 p] 100)) := (Ext.refl w).alloc _
  clear hk ht
  go_enter Tryz.func87, Tryz.ntmps87
  go_wp2_with fail
  refine (show Calls _ _ _ _ fun e w' => e = .returned (.string ⟨(showE x).toArray⟩) ∧ Ext _ w' from nth_any _ a cap [x] F kks hcap (hc.ext hE0) (exEnc.exts hq hE0) 0 (by omega) (fun z hz => (HK.out z hz).at (HT.out.ext hE0) F) (by simp)).mono ?_
  rintro e w1 ⟨rfl, x1⟩
  go_wp2_with fail
  go_ret
  exact ⟨ret_str (by apply ByteArray.ext; simp [showE, showOp, showEs, nthS]), hE0.trans x1⟩

set_option maxHeartbeats 4000000 in
theorem expr_len (w : World) (F : Nat → Prop) (x : Ex) (hlx : (showE x).length ≤ 100000000) (p : Nat) (a : Option Addr) (cap : Nat) (kks : List Value) (hcap : 1 ≤ cap) (hc : CellsIn w F a kks) (hq : exEnc.all w F [x] kks) (hk : ∀ z ∈ [x], ExprT z) (ht : Tab w) :
    Calls Tryz.prog 87 #[.agg #[.int .i64 10, .int .i64 0, .string ⟨#[]⟩, .slice a 1 cap, .int .i64 p]] w fun e w' => e = .returned (.string ⟨(showE (.mk 10 0 [] [x] p)).toArray⟩) ∧ Ext w w' := by
  have HK := hid hk
  have HT := hid ht
  have hE0 : Ext w (w.alloc (.cells #[.int .i64 10, .int .i64 0, .string ⟨#[]⟩, .slice a 1 cap, .int .i64 p] 100)) := (Ext.refl w).alloc _
  clear hk ht
  go_enter Tryz.func87, Tryz.ntmps87
  go_wp2_with fail
  refine (show Calls _ _ _ _ fun e w' => e = .returned (.string ⟨(showE x).toArray⟩) ∧ Ext _ w' from nth_any _ a cap [x] F kks hcap (hc.ext hE0) (exEnc.exts hq hE0) 0 (by omega) (fun z hz => (HK.out z hz).at (HT.out.ext hE0) F) (by simp)).mono ?_
  rintro e w1 ⟨rfl, x1⟩
  go_wp2_with fail
  go_ret
  exact ⟨ret_str (by apply ByteArray.ext; simp [showE, showOp, showEs, nthS]), hE0.trans x1⟩

/-- EXPR. -/
theorem showE_any (x : Ex) (h : WFx x) : x.size ≤ 100000 → ExprT x := by
  induction h with
  | num n p h =>
    intro _ w F vs ht hv
    simp only [ExIs] at hv
    obtain ⟨v, rfl, a, c, ks, rfl, _, hc, hk⟩ := hv
    simp only [ExsIs] at hk
    exact expr_num_at w n p h ht a c
  | bool n p h =>
    intro _ w F vs ht hv
    simp only [ExIs] at hv
    obtain ⟨v, rfl, a, c, ks, rfl, _, hc, hk⟩ := hv
    exact expr_bool_at w n p h a c
  | text s p h =>
    intro _ w F vs ht hv
    simp only [ExIs] at hv
    obtain ⟨v, rfl, a, c, ks, rfl, _, hc, hk⟩ := hv
    exact expr_text_at w s p (by have := h.2; omega) a c
  | name s p h =>
    intro _ w F vs ht hv
    simp only [ExIs] at hv
    obtain ⟨v, rfl, a, c, ks, rfl, _, hc, hk⟩ := hv
    exact expr_name_at w s p (by have := h.2.2.2; omega) a c
  | call s ks p h hk ih =>
    intro hz w F vs ht hv
    have hl := showE_len (.mk 5 0 s ks p) (.call s ks p h hk)
    simp only [ExIs] at hv
    obtain ⟨v, rfl, a, c, kks, rfl, hc0, hc, hq⟩ := hv
    have hsz : ∀ x ∈ ks, x.size + ks.length ≤ 100001 := by
      intro x hx
      simp only [Ex.size] at hz
      have : ∀ (l : List Ex), x ∈ l → x.size + l.length ≤ Ex.sizes l + 1 := by
        intro l
        induction l with
        | nil => intro h; cases h
        | cons y l ihl =>
          intro h
          simp only [Ex.sizes, List.length_cons]
          have hy := y.size_pos
          rcases List.mem_cons.1 h with rfl | h
          · have : l.length ≤ Ex.sizes l := sizes_len l
            omega
          · have := ihl h
            omega
      have := this ks hx
      omega
    have hkl : ks.length ≤ Ex.sizes ks := sizes_len ks
    refine expr_call w F s (by have := h.2.2.2; omega) ks p a c kks hc0 hc hq (fun x hx => ih x hx (by have := hsz x hx; have : 1 ≤ ks.length := List.length_pos_of_mem hx; omega)) ht (by simp only [Ex.size] at hz; omega) ?_
    simp [showE, showOp, showEs_map] at hl
    omega
  | two s a b p h ha hb iha ihb =>
    intro hz w F vs ht hv
    have hla := showE_len a ha
    have hlb := showE_len b hb
    have h2 := op_len h
    have hpa := a.size_pos
    have hpb := b.size_pos
    simp only [Ex.size, Ex.sizes] at hz
    simp only [ExIs] at hv
    obtain ⟨v, rfl, ka, c, kks, rfl, hc0, hc, hq⟩ := hv
    exact expr_two w F s (by omega) a b (by omega) (by omega) p ka c kks hc0 hc hq (fun z hz' => by
      rcases List.mem_cons.1 hz' with rfl | hz'
      · exact iha (by omega)
      · rw [List.mem_singleton.1 hz']; exact ihb (by omega)) ht
  | one s a p h ha iha =>
    intro hz w F vs ht hv
    have hla := showE_len a ha
    simp only [Ex.size, Ex.sizes] at hz
    simp only [ExIs] at hv
    obtain ⟨v, rfl, ka, c, kks, rfl, hc0, hc, hq⟩ := hv
    exact expr_one w F s (by rcases h with rfl | rfl <;> decide) a (by omega) p ka c kks hc0 hc hq (fun z hz' => by rw [List.mem_singleton.1 hz']; exact iha (by omega)) ht
  | word op a p h ha iha =>
    intro hz w F vs ht hv
    have hla := showE_len a ha
    simp only [Ex.size, Ex.sizes] at hz
    simp only [ExIs] at hv
    obtain ⟨v, rfl, ka, c, kks, rfl, hc0, hc, hq⟩ := hv
    have hk : ∀ z ∈ [a], ExprT z := fun z hz' => by rw [List.mem_singleton.1 hz']; exact iha (by omega)
    rcases h with rfl | rfl | rfl
    · exact expr_get w F a (by omega) p ka c kks hc0 hc hq hk ht
    · exact expr_has w F a (by omega) p ka c kks hc0 hc hq hk ht
    · exact expr_len w F a (by omega) p ka c kks hc0 hc hq hk ht

end Go.Proofs.YtaehlakefgnfmaaGreatDoor
