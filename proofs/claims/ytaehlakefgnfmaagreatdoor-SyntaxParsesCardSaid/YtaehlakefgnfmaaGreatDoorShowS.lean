/-
  DERIVED. THE WALKS of block, its closure, stmt (printed by gen_shows.py).
-/
import Derived.Test.YtaehlakefgnfmaaGreatDoorShowW
namespace Go.Proofs.YtaehlakefgnfmaaGreatDoor
set_option linter.unusedSimpArgs false
set_option linter.unusedVariables false
set_option maxRecDepth 100000
open Go.RowKit

/-- The text of a statement, wherever it lies; of a block. -/
def StmtT (x : St) : Prop := ∀ (w : World) (F : Nat → Prop) (vs : List Value), Tab w → StIs w F x vs → Calls Tryz.prog 44 #[.agg vs.toArray] w fun e w' => e = .returned (.string ⟨(showS x).toArray⟩) ∧ Ext w w'
def BlockT (b : List St) : Prop := ∀ (w : World) (F : Nat → Prop) (a : Option Addr) (cap : Nat) (ks : List Value), Tab w → b.length ≤ cap → CellsIn w F a ks → stEnc.all w F b ks → Calls Tryz.prog 20 #[.slice a b.length cap] w fun e w' => e = .returned (.string ⟨(blockText (showSs b)).toArray⟩) ∧ Ext w w'
theorem block1_enters : ∀ args w', (callFunc 43 args).run Tryz.prog w' = .ok (.enter 43 args) w' := fun _ _ => by simp [go_sem]
set_option maxHeartbeats 2000000 in
theorem block1_any (x : St) (hx : StmtT x) (hl : (showS x).length ≤ 100000000) (w : World) (F : Nat → Prop) (ht : Tab w) : TextC 43 stEnc (fun s => [32] ++ showS s) w F x := by
  intro w' vs hE hv
  have HX := hid hx
  have HT := hid (ht.ext hE)
  have HV := hid hv
  obtain ⟨op, text, ea, en, ec, ba, bn, bc, la, ln, lc, at_, rfl⟩ := st_form hv
  clear hx ht hv
  go_enter Tryz.func43, Tryz.ntmps43
  go_wp2_with fail
  refine (HX.out _ F _ (HT.out.ext ((Ext.refl _).alloc _)) (stEnc.ext HV.out ((Ext.refl _).alloc _))).mono ?_
  rintro e w1 ⟨rfl, x1⟩
  go_wp2_with fail
  go_ret
  exact ⟨ret_str (by apply ByteArray.ext; simp), ((Ext.refl _).alloc _).trans x1⟩
set_option maxHeartbeats 2000000 in
theorem block_text (b : List St) (hb : ∀ x ∈ b, StmtT x ∧ (showS x).length ≤ 100000000) (hn : b.length ≤ 100000) (hl : (blockText (showSs b)).length ≤ 100000000) : BlockT b := by
  intro w F a cap ks ht hcap hc hq
  have HB := hid hb
  have HT := hid ht
  have e1 : (Lib.join (b.map fun s => [32] ++ showS s) []).length ≤ 100000000 := by
    simp only [blockText, showSs_map, List.map_map, Function.comp_def, List.length_append, List.length_cons, List.length_nil] at hl
    omega
  obtain ⟨J, hJ⟩ : ∃ J, J = Lib.join (b.map fun s => [32] ++ showS s) [] := ⟨_, rfl⟩
  rw [← hJ] at e1
  have HJ := hid hJ
  have hC := hid (joinS_any w a cap b F ks hcap hc hq [] 43 (fun s => [32] ++ showS s) block1_enters (fun x hx => block1_any x (HB.out x hx).1 (HB.out x hx).2 w F HT.out) hn (by rw [← hJ]; omega))
  clear hb ht hJ
  go_enter Tryz.func20, Tryz.ntmps20
  go_wp2_with fail
  refine hC.out.mono ?_
  rintro e w1 ⟨rfl, x1⟩
  rw [← HJ.out]
  go_wp2_with fail
  go_ret
  exact ⟨ret_str (by rw [HJ.out]; apply ByteArray.ext; simp [blockText, showSs_map, List.map_map, Function.comp_def]), x1⟩

set_option maxHeartbeats 4000000 in
theorem stmtT_let (w : World) (F : Nat → Prop) (s : List UInt8) (hs : s.length ≤ 1000) (es : List Ex) (hA : (nthS (showEs es) 0).length ≤ 100000000) (hB : (nthS (showEs es) 1).length ≤ 100000000) (hn : es.length ≤ 100000) (ea : Option Addr) (ec : Nat) (ekks : List Value) (hcap : es.length ≤ ec) (hc : CellsIn w F ea ekks) (hq : exEnc.all w F es ekks) (hk : ∀ z ∈ es, ExprT z) (b l : List St) (ba la : Option Addr) (bc lc p : Nat) (ht : Tab w)  :
    Calls Tryz.prog 44 #[.agg #[.int .i64 1, .string ⟨s.toArray⟩, .slice ea es.length ec, .slice ba b.length bc, .slice la l.length lc, .int .i64 p]] w fun e w' => e = .returned (.string ⟨(showS (.mk 1 s es b l p)).toArray⟩) ∧ Ext w w' := by
  have HK := hid hk
  have HT := hid ht
  clear hk ht
  go_enter Tryz.func44, Tryz.ntmps44
  go_wp2_with fail
  have hS : Blk (w.alloc (.cells #[.int .i64 1, .string ⟨s.toArray⟩, .slice ea es.length ec, .slice ba b.length bc, .slice la l.length lc, .int .i64 p] 78)).drew w.heap.size 78 [.int .i64 1, .string ⟨s.toArray⟩, .slice ea es.length ec, .slice ba b.length bc, .slice la l.length lc, .int .i64 p] := (Blk.new w 78 [.int .i64 1, .string ⟨s.toArray⟩, .slice ea es.length ec, .slice ba b.length bc, .slice la l.length lc, .int .i64 p]).drew
  have hE0 : Ext w (w.alloc (.cells #[.int .i64 1, .string ⟨s.toArray⟩, .slice ea es.length ec, .slice ba b.length bc, .slice la l.length lc, .int .i64 p] 78)).drew := ((Ext.refl w).alloc _).drew
  refine phase_begin (fun w' => Blk w' w.heap.size 78 [.int .i64 1, .string ⟨s.toArray⟩, .slice ea es.length ec, .slice ba b.length bc, .slice la l.length lc, .int .i64 p]) 8 (by kernel_rfl) ?_
  refine phase_take (i := 0) (v := .pointer (some ⟨w.heap.size, 2, none⟩)) rfl (by kernel_rfl) (by omega) (by kernel_rfl) (by kernel_rfl) (by kernel_rfl) (fun _ _ _ h => h) ⟨by rfl, ?_⟩ hS ?_
  · intro wS hSw
    obtain ⟨s0, s1, s2, s3, s4, s5, sf⟩ := Blk.six hSw
    go_simp
    all_goals omega
  simp only [Act.put, List.getElem_toArray, List.getElem_cons_succ, List.getElem_cons_zero, List.setIfInBounds_toArray, List.set_cons_zero, List.set_cons_succ]
  refine phase_take (i := 1) (v := .slice ea es.length ec) rfl (by kernel_rfl) (by omega) (by kernel_rfl) (by kernel_rfl) (by kernel_rfl) (fun _ _ _ h => h) ⟨by rfl, ?_⟩ hS ?_
  · intro wS hSw
    obtain ⟨s0, s1, s2, s3, s4, s5, sf⟩ := Blk.six hSw
    go_simp
    all_goals omega
  simp only [Act.put, List.getElem_toArray, List.getElem_cons_succ, List.getElem_cons_zero, List.setIfInBounds_toArray, List.set_cons_zero, List.set_cons_succ]
  refine phase_take (i := 3) (v := .pointer (some ⟨w.heap.size, 2, none⟩)) rfl (by kernel_rfl) (by omega) (by kernel_rfl) (by kernel_rfl) (by kernel_rfl) (fun _ _ _ h => h) ⟨by rfl, ?_⟩ hS ?_
  · intro wS hSw
    obtain ⟨s0, s1, s2, s3, s4, s5, sf⟩ := Blk.six hSw
    go_simp
    all_goals omega
  simp only [Act.put, List.getElem_toArray, List.getElem_cons_succ, List.getElem_cons_zero, List.setIfInBounds_toArray, List.set_cons_zero, List.set_cons_succ]
  refine phase_take (i := 4) (v := .slice ea es.length ec) rfl (by kernel_rfl) (by omega) (by kernel_rfl) (by kernel_rfl) (by kernel_rfl) (fun _ _ _ h => h) ⟨by rfl, ?_⟩ hS ?_
  · intro wS hSw
    obtain ⟨s0, s1, s2, s3, s4, s5, sf⟩ := Blk.six hSw
    go_simp
    all_goals omega
  simp only [Act.put, List.getElem_toArray, List.getElem_cons_succ, List.getElem_cons_zero, List.setIfInBounds_toArray, List.set_cons_zero, List.set_cons_succ]
  refine phase_one (i := 2) (by kernel_rfl) (by omega) rfl (by rfl) (fun K hK => ?_)
  go_simp
  refine (nth_any _ ea ec es F ekks hcap (hc.ext hE0) (exEnc.exts hq hE0) 0 (by omega) (fun z hz => (HK.out z hz).at (HT.out.ext hE0) F) hn).mono ?_
  rintro e w1 ⟨rfl, x1⟩
  have hS1 := Blk.ext hS x1
  refine hK _ _ ⟨hS1, ?_⟩
  clear hK K
  try simp only [Act.put, List.getElem_toArray, List.getElem_cons_succ, List.getElem_cons_zero, List.setIfInBounds_toArray, List.set_cons_zero, List.set_cons_succ]
  refine phase_one (i := 5) (by kernel_rfl) (by omega) rfl (by rfl) (fun K hK => ?_)
  go_simp
  refine (nth_any _ ea ec es F ekks hcap (hc.ext (hE0.trans x1)) (exEnc.exts hq (hE0.trans x1)) 1 (by omega) (fun z hz => (HK.out z hz).at (HT.out.ext (hE0.trans x1)) F) hn).mono ?_
  rintro e w2 ⟨rfl, x2⟩
  have hS2 := Blk.ext hS1 x2
  refine hK _ _ ⟨hS2, ?_⟩
  clear hK K
  try simp only [Act.put, List.getElem_toArray, List.getElem_cons_succ, List.getElem_cons_zero, List.setIfInBounds_toArray, List.set_cons_zero, List.set_cons_succ]
  refine phase_take (i := 6) (v := .string ⟨(nthS (showEs es) 0).toArray⟩) rfl (by kernel_rfl) (by omega) (by kernel_rfl) (by kernel_rfl) (by kernel_rfl) (fun _ _ _ h => h) ⟨by rfl, ?_⟩ hS2 ?_
  · intro wS hSw
    obtain ⟨s0, s1, s2, s3, s4, s5, sf⟩ := Blk.six hSw
    go_simp
    all_goals omega
  simp only [Act.put, List.getElem_toArray, List.getElem_cons_succ, List.getElem_cons_zero, List.setIfInBounds_toArray, List.set_cons_zero, List.set_cons_succ]
  refine phase_take (i := 7) (v := .string ⟨(nthS (showEs es) 1).toArray⟩) rfl (by kernel_rfl) (by omega) (by kernel_rfl) (by kernel_rfl) (by kernel_rfl) (fun _ _ _ h => h) ⟨by rfl, ?_⟩ hS2 ?_
  · intro wS hSw
    obtain ⟨s0, s1, s2, s3, s4, s5, sf⟩ := Blk.six hSw
    go_simp
    all_goals omega
  simp only [Act.put, List.getElem_toArray, List.getElem_cons_succ, List.getElem_cons_zero, List.setIfInBounds_toArray, List.set_cons_zero, List.set_cons_succ]
  have x02 := (hE0.trans x1).trans x2
  obtain ⟨s0, s1, s2, s3, s4, s5, sf⟩ := Blk.six hS2
  have lS2 := Blk.lt hS2
  refine phase_done (by kernel_rfl) ?_
  go_wp2_with fail
  go_ret
  exact ⟨ret_str (by apply ByteArray.ext; simp [showS, stmtText]), x02⟩

set_option maxHeartbeats 4000000 in
theorem stmtT_set (w : World) (F : Nat → Prop) (s : List UInt8) (hs : s.length ≤ 1000) (es : List Ex) (hA : (nthS (showEs es) 0).length ≤ 100000000) (hB : (nthS (showEs es) 1).length ≤ 100000000) (hn : es.length ≤ 100000) (ea : Option Addr) (ec : Nat) (ekks : List Value) (hcap : es.length ≤ ec) (hc : CellsIn w F ea ekks) (hq : exEnc.all w F es ekks) (hk : ∀ z ∈ es, ExprT z) (b l : List St) (ba la : Option Addr) (bc lc p : Nat) (ht : Tab w)  :
    Calls Tryz.prog 44 #[.agg #[.int .i64 2, .string ⟨s.toArray⟩, .slice ea es.length ec, .slice ba b.length bc, .slice la l.length lc, .int .i64 p]] w fun e w' => e = .returned (.string ⟨(showS (.mk 2 s es b l p)).toArray⟩) ∧ Ext w w' := by
  have HK := hid hk
  have HT := hid ht
  clear hk ht
  go_enter Tryz.func44, Tryz.ntmps44
  go_wp2_with fail
  have hS : Blk (w.alloc (.cells #[.int .i64 2, .string ⟨s.toArray⟩, .slice ea es.length ec, .slice ba b.length bc, .slice la l.length lc, .int .i64 p] 78)).drew w.heap.size 78 [.int .i64 2, .string ⟨s.toArray⟩, .slice ea es.length ec, .slice ba b.length bc, .slice la l.length lc, .int .i64 p] := (Blk.new w 78 [.int .i64 2, .string ⟨s.toArray⟩, .slice ea es.length ec, .slice ba b.length bc, .slice la l.length lc, .int .i64 p]).drew
  have hE0 : Ext w (w.alloc (.cells #[.int .i64 2, .string ⟨s.toArray⟩, .slice ea es.length ec, .slice ba b.length bc, .slice la l.length lc, .int .i64 p] 78)).drew := ((Ext.refl w).alloc _).drew
  refine phase_begin (fun w' => Blk w' w.heap.size 78 [.int .i64 2, .string ⟨s.toArray⟩, .slice ea es.length ec, .slice ba b.length bc, .slice la l.length lc, .int .i64 p]) 8 (by kernel_rfl) ?_
  refine phase_take (i := 0) (v := .pointer (some ⟨w.heap.size, 2, none⟩)) rfl (by kernel_rfl) (by omega) (by kernel_rfl) (by kernel_rfl) (by kernel_rfl) (fun _ _ _ h => h) ⟨by rfl, ?_⟩ hS ?_
  · intro wS hSw
    obtain ⟨s0, s1, s2, s3, s4, s5, sf⟩ := Blk.six hSw
    go_simp
    all_goals omega
  simp only [Act.put, List.getElem_toArray, List.getElem_cons_succ, List.getElem_cons_zero, List.setIfInBounds_toArray, List.set_cons_zero, List.set_cons_succ]
  refine phase_take (i := 1) (v := .slice ea es.length ec) rfl (by kernel_rfl) (by omega) (by kernel_rfl) (by kernel_rfl) (by kernel_rfl) (fun _ _ _ h => h) ⟨by rfl, ?_⟩ hS ?_
  · intro wS hSw
    obtain ⟨s0, s1, s2, s3, s4, s5, sf⟩ := Blk.six hSw
    go_simp
    all_goals omega
  simp only [Act.put, List.getElem_toArray, List.getElem_cons_succ, List.getElem_cons_zero, List.setIfInBounds_toArray, List.set_cons_zero, List.set_cons_succ]
  refine phase_take (i := 3) (v := .pointer (some ⟨w.heap.size, 2, none⟩)) rfl (by kernel_rfl) (by omega) (by kernel_rfl) (by kernel_rfl) (by kernel_rfl) (fun _ _ _ h => h) ⟨by rfl, ?_⟩ hS ?_
  · intro wS hSw
    obtain ⟨s0, s1, s2, s3, s4, s5, sf⟩ := Blk.six hSw
    go_simp
    all_goals omega
  simp only [Act.put, List.getElem_toArray, List.getElem_cons_succ, List.getElem_cons_zero, List.setIfInBounds_toArray, List.set_cons_zero, List.set_cons_succ]
  refine phase_take (i := 4) (v := .slice ea es.length ec) rfl (by kernel_rfl) (by omega) (by kernel_rfl) (by kernel_rfl) (by kernel_rfl) (fun _ _ _ h => h) ⟨by rfl, ?_⟩ hS ?_
  · intro wS hSw
    obtain ⟨s0, s1, s2, s3, s4, s5, sf⟩ := Blk.six hSw
    go_simp
    all_goals omega
  simp only [Act.put, List.getElem_toArray, List.getElem_cons_succ, List.getElem_cons_zero, List.setIfInBounds_toArray, List.set_cons_zero, List.set_cons_succ]
  refine phase_one (i := 2) (by kernel_rfl) (by omega) rfl (by rfl) (fun K hK => ?_)
  go_simp
  refine (nth_any _ ea ec es F ekks hcap (hc.ext hE0) (exEnc.exts hq hE0) 0 (by omega) (fun z hz => (HK.out z hz).at (HT.out.ext hE0) F) hn).mono ?_
  rintro e w1 ⟨rfl, x1⟩
  have hS1 := Blk.ext hS x1
  refine hK _ _ ⟨hS1, ?_⟩
  clear hK K
  try simp only [Act.put, List.getElem_toArray, List.getElem_cons_succ, List.getElem_cons_zero, List.setIfInBounds_toArray, List.set_cons_zero, List.set_cons_succ]
  refine phase_one (i := 5) (by kernel_rfl) (by omega) rfl (by rfl) (fun K hK => ?_)
  go_simp
  refine (nth_any _ ea ec es F ekks hcap (hc.ext (hE0.trans x1)) (exEnc.exts hq (hE0.trans x1)) 1 (by omega) (fun z hz => (HK.out z hz).at (HT.out.ext (hE0.trans x1)) F) hn).mono ?_
  rintro e w2 ⟨rfl, x2⟩
  have hS2 := Blk.ext hS1 x2
  refine hK _ _ ⟨hS2, ?_⟩
  clear hK K
  try simp only [Act.put, List.getElem_toArray, List.getElem_cons_succ, List.getElem_cons_zero, List.setIfInBounds_toArray, List.set_cons_zero, List.set_cons_succ]
  refine phase_take (i := 6) (v := .string ⟨(nthS (showEs es) 0).toArray⟩) rfl (by kernel_rfl) (by omega) (by kernel_rfl) (by kernel_rfl) (by kernel_rfl) (fun _ _ _ h => h) ⟨by rfl, ?_⟩ hS2 ?_
  · intro wS hSw
    obtain ⟨s0, s1, s2, s3, s4, s5, sf⟩ := Blk.six hSw
    go_simp
    all_goals omega
  simp only [Act.put, List.getElem_toArray, List.getElem_cons_succ, List.getElem_cons_zero, List.setIfInBounds_toArray, List.set_cons_zero, List.set_cons_succ]
  refine phase_take (i := 7) (v := .string ⟨(nthS (showEs es) 1).toArray⟩) rfl (by kernel_rfl) (by omega) (by kernel_rfl) (by kernel_rfl) (by kernel_rfl) (fun _ _ _ h => h) ⟨by rfl, ?_⟩ hS2 ?_
  · intro wS hSw
    obtain ⟨s0, s1, s2, s3, s4, s5, sf⟩ := Blk.six hSw
    go_simp
    all_goals omega
  simp only [Act.put, List.getElem_toArray, List.getElem_cons_succ, List.getElem_cons_zero, List.setIfInBounds_toArray, List.set_cons_zero, List.set_cons_succ]
  have x02 := (hE0.trans x1).trans x2
  obtain ⟨s0, s1, s2, s3, s4, s5, sf⟩ := Blk.six hS2
  have lS2 := Blk.lt hS2
  refine phase_done (by kernel_rfl) ?_
  go_wp2_with fail
  go_ret
  exact ⟨ret_str (by apply ByteArray.ext; simp [showS, stmtText]), x02⟩

set_option maxHeartbeats 4000000 in
theorem stmtT_put (w : World) (F : Nat → Prop) (s : List UInt8) (hs : s.length ≤ 1000) (es : List Ex) (hA : (nthS (showEs es) 0).length ≤ 100000000) (hB : (nthS (showEs es) 1).length ≤ 100000000) (hn : es.length ≤ 100000) (ea : Option Addr) (ec : Nat) (ekks : List Value) (hcap : es.length ≤ ec) (hc : CellsIn w F ea ekks) (hq : exEnc.all w F es ekks) (hk : ∀ z ∈ es, ExprT z) (b l : List St) (ba la : Option Addr) (bc lc p : Nat) (ht : Tab w)  :
    Calls Tryz.prog 44 #[.agg #[.int .i64 6, .string ⟨s.toArray⟩, .slice ea es.length ec, .slice ba b.length bc, .slice la l.length lc, .int .i64 p]] w fun e w' => e = .returned (.string ⟨(showS (.mk 6 s es b l p)).toArray⟩) ∧ Ext w w' := by
  have HK := hid hk
  have HT := hid ht
  clear hk ht
  go_enter Tryz.func44, Tryz.ntmps44
  go_wp2_with fail
  have hS : Blk (w.alloc (.cells #[.int .i64 6, .string ⟨s.toArray⟩, .slice ea es.length ec, .slice ba b.length bc, .slice la l.length lc, .int .i64 p] 78)).drew w.heap.size 78 [.int .i64 6, .string ⟨s.toArray⟩, .slice ea es.length ec, .slice ba b.length bc, .slice la l.length lc, .int .i64 p] := (Blk.new w 78 [.int .i64 6, .string ⟨s.toArray⟩, .slice ea es.length ec, .slice ba b.length bc, .slice la l.length lc, .int .i64 p]).drew
  have hE0 : Ext w (w.alloc (.cells #[.int .i64 6, .string ⟨s.toArray⟩, .slice ea es.length ec, .slice ba b.length bc, .slice la l.length lc, .int .i64 p] 78)).drew := ((Ext.refl w).alloc _).drew
  refine phase_begin (fun w' => Blk w' w.heap.size 78 [.int .i64 6, .string ⟨s.toArray⟩, .slice ea es.length ec, .slice ba b.length bc, .slice la l.length lc, .int .i64 p]) 8 (by kernel_rfl) ?_
  refine phase_take (i := 0) (v := .pointer (some ⟨w.heap.size, 2, none⟩)) rfl (by kernel_rfl) (by omega) (by kernel_rfl) (by kernel_rfl) (by kernel_rfl) (fun _ _ _ h => h) ⟨by rfl, ?_⟩ hS ?_
  · intro wS hSw
    obtain ⟨s0, s1, s2, s3, s4, s5, sf⟩ := Blk.six hSw
    go_simp
    all_goals omega
  simp only [Act.put, List.getElem_toArray, List.getElem_cons_succ, List.getElem_cons_zero, List.setIfInBounds_toArray, List.set_cons_zero, List.set_cons_succ]
  refine phase_take (i := 1) (v := .slice ea es.length ec) rfl (by kernel_rfl) (by omega) (by kernel_rfl) (by kernel_rfl) (by kernel_rfl) (fun _ _ _ h => h) ⟨by rfl, ?_⟩ hS ?_
  · intro wS hSw
    obtain ⟨s0, s1, s2, s3, s4, s5, sf⟩ := Blk.six hSw
    go_simp
    all_goals omega
  simp only [Act.put, List.getElem_toArray, List.getElem_cons_succ, List.getElem_cons_zero, List.setIfInBounds_toArray, List.set_cons_zero, List.set_cons_succ]
  refine phase_take (i := 3) (v := .pointer (some ⟨w.heap.size, 2, none⟩)) rfl (by kernel_rfl) (by omega) (by kernel_rfl) (by kernel_rfl) (by kernel_rfl) (fun _ _ _ h => h) ⟨by rfl, ?_⟩ hS ?_
  · intro wS hSw
    obtain ⟨s0, s1, s2, s3, s4, s5, sf⟩ := Blk.six hSw
    go_simp
    all_goals omega
  simp only [Act.put, List.getElem_toArray, List.getElem_cons_succ, List.getElem_cons_zero, List.setIfInBounds_toArray, List.set_cons_zero, List.set_cons_succ]
  refine phase_take (i := 4) (v := .slice ea es.length ec) rfl (by kernel_rfl) (by omega) (by kernel_rfl) (by kernel_rfl) (by kernel_rfl) (fun _ _ _ h => h) ⟨by rfl, ?_⟩ hS ?_
  · intro wS hSw
    obtain ⟨s0, s1, s2, s3, s4, s5, sf⟩ := Blk.six hSw
    go_simp
    all_goals omega
  simp only [Act.put, List.getElem_toArray, List.getElem_cons_succ, List.getElem_cons_zero, List.setIfInBounds_toArray, List.set_cons_zero, List.set_cons_succ]
  refine phase_one (i := 2) (by kernel_rfl) (by omega) rfl (by rfl) (fun K hK => ?_)
  go_simp
  refine (nth_any _ ea ec es F ekks hcap (hc.ext hE0) (exEnc.exts hq hE0) 0 (by omega) (fun z hz => (HK.out z hz).at (HT.out.ext hE0) F) hn).mono ?_
  rintro e w1 ⟨rfl, x1⟩
  have hS1 := Blk.ext hS x1
  refine hK _ _ ⟨hS1, ?_⟩
  clear hK K
  try simp only [Act.put, List.getElem_toArray, List.getElem_cons_succ, List.getElem_cons_zero, List.setIfInBounds_toArray, List.set_cons_zero, List.set_cons_succ]
  refine phase_one (i := 5) (by kernel_rfl) (by omega) rfl (by rfl) (fun K hK => ?_)
  go_simp
  refine (nth_any _ ea ec es F ekks hcap (hc.ext (hE0.trans x1)) (exEnc.exts hq (hE0.trans x1)) 1 (by omega) (fun z hz => (HK.out z hz).at (HT.out.ext (hE0.trans x1)) F) hn).mono ?_
  rintro e w2 ⟨rfl, x2⟩
  have hS2 := Blk.ext hS1 x2
  refine hK _ _ ⟨hS2, ?_⟩
  clear hK K
  try simp only [Act.put, List.getElem_toArray, List.getElem_cons_succ, List.getElem_cons_zero, List.setIfInBounds_toArray, List.set_cons_zero, List.set_cons_succ]
  refine phase_take (i := 6) (v := .string ⟨(nthS (showEs es) 0).toArray⟩) rfl (by kernel_rfl) (by omega) (by kernel_rfl) (by kernel_rfl) (by kernel_rfl) (fun _ _ _ h => h) ⟨by rfl, ?_⟩ hS2 ?_
  · intro wS hSw
    obtain ⟨s0, s1, s2, s3, s4, s5, sf⟩ := Blk.six hSw
    go_simp
    all_goals omega
  simp only [Act.put, List.getElem_toArray, List.getElem_cons_succ, List.getElem_cons_zero, List.setIfInBounds_toArray, List.set_cons_zero, List.set_cons_succ]
  refine phase_take (i := 7) (v := .string ⟨(nthS (showEs es) 1).toArray⟩) rfl (by kernel_rfl) (by omega) (by kernel_rfl) (by kernel_rfl) (by kernel_rfl) (fun _ _ _ h => h) ⟨by rfl, ?_⟩ hS2 ?_
  · intro wS hSw
    obtain ⟨s0, s1, s2, s3, s4, s5, sf⟩ := Blk.six hSw
    go_simp
    all_goals omega
  simp only [Act.put, List.getElem_toArray, List.getElem_cons_succ, List.getElem_cons_zero, List.setIfInBounds_toArray, List.set_cons_zero, List.set_cons_succ]
  have x02 := (hE0.trans x1).trans x2
  obtain ⟨s0, s1, s2, s3, s4, s5, sf⟩ := Blk.six hS2
  have lS2 := Blk.lt hS2
  refine phase_done (by kernel_rfl) ?_
  go_wp2_with fail
  go_ret
  exact ⟨ret_str (by apply ByteArray.ext; simp [showS, stmtText]), x02⟩

set_option maxHeartbeats 4000000 in
theorem stmtT_del (w : World) (F : Nat → Prop) (s : List UInt8) (hs : s.length ≤ 1000) (es : List Ex) (hA : (nthS (showEs es) 0).length ≤ 100000000) (hB : (nthS (showEs es) 1).length ≤ 100000000) (hn : es.length ≤ 100000) (ea : Option Addr) (ec : Nat) (ekks : List Value) (hcap : es.length ≤ ec) (hc : CellsIn w F ea ekks) (hq : exEnc.all w F es ekks) (hk : ∀ z ∈ es, ExprT z) (b l : List St) (ba la : Option Addr) (bc lc p : Nat) (ht : Tab w)  :
    Calls Tryz.prog 44 #[.agg #[.int .i64 7, .string ⟨s.toArray⟩, .slice ea es.length ec, .slice ba b.length bc, .slice la l.length lc, .int .i64 p]] w fun e w' => e = .returned (.string ⟨(showS (.mk 7 s es b l p)).toArray⟩) ∧ Ext w w' := by
  have HK := hid hk
  have HT := hid ht
  clear hk ht
  go_enter Tryz.func44, Tryz.ntmps44
  go_wp2_with fail
  have hS : Blk (w.alloc (.cells #[.int .i64 7, .string ⟨s.toArray⟩, .slice ea es.length ec, .slice ba b.length bc, .slice la l.length lc, .int .i64 p] 78)).drew w.heap.size 78 [.int .i64 7, .string ⟨s.toArray⟩, .slice ea es.length ec, .slice ba b.length bc, .slice la l.length lc, .int .i64 p] := (Blk.new w 78 [.int .i64 7, .string ⟨s.toArray⟩, .slice ea es.length ec, .slice ba b.length bc, .slice la l.length lc, .int .i64 p]).drew
  have hE0 : Ext w (w.alloc (.cells #[.int .i64 7, .string ⟨s.toArray⟩, .slice ea es.length ec, .slice ba b.length bc, .slice la l.length lc, .int .i64 p] 78)).drew := ((Ext.refl w).alloc _).drew
  refine phase_begin (fun w' => Blk w' w.heap.size 78 [.int .i64 7, .string ⟨s.toArray⟩, .slice ea es.length ec, .slice ba b.length bc, .slice la l.length lc, .int .i64 p]) 8 (by kernel_rfl) ?_
  refine phase_take (i := 0) (v := .pointer (some ⟨w.heap.size, 2, none⟩)) rfl (by kernel_rfl) (by omega) (by kernel_rfl) (by kernel_rfl) (by kernel_rfl) (fun _ _ _ h => h) ⟨by rfl, ?_⟩ hS ?_
  · intro wS hSw
    obtain ⟨s0, s1, s2, s3, s4, s5, sf⟩ := Blk.six hSw
    go_simp
    all_goals omega
  simp only [Act.put, List.getElem_toArray, List.getElem_cons_succ, List.getElem_cons_zero, List.setIfInBounds_toArray, List.set_cons_zero, List.set_cons_succ]
  refine phase_take (i := 1) (v := .slice ea es.length ec) rfl (by kernel_rfl) (by omega) (by kernel_rfl) (by kernel_rfl) (by kernel_rfl) (fun _ _ _ h => h) ⟨by rfl, ?_⟩ hS ?_
  · intro wS hSw
    obtain ⟨s0, s1, s2, s3, s4, s5, sf⟩ := Blk.six hSw
    go_simp
    all_goals omega
  simp only [Act.put, List.getElem_toArray, List.getElem_cons_succ, List.getElem_cons_zero, List.setIfInBounds_toArray, List.set_cons_zero, List.set_cons_succ]
  refine phase_take (i := 3) (v := .pointer (some ⟨w.heap.size, 2, none⟩)) rfl (by kernel_rfl) (by omega) (by kernel_rfl) (by kernel_rfl) (by kernel_rfl) (fun _ _ _ h => h) ⟨by rfl, ?_⟩ hS ?_
  · intro wS hSw
    obtain ⟨s0, s1, s2, s3, s4, s5, sf⟩ := Blk.six hSw
    go_simp
    all_goals omega
  simp only [Act.put, List.getElem_toArray, List.getElem_cons_succ, List.getElem_cons_zero, List.setIfInBounds_toArray, List.set_cons_zero, List.set_cons_succ]
  refine phase_take (i := 4) (v := .slice ea es.length ec) rfl (by kernel_rfl) (by omega) (by kernel_rfl) (by kernel_rfl) (by kernel_rfl) (fun _ _ _ h => h) ⟨by rfl, ?_⟩ hS ?_
  · intro wS hSw
    obtain ⟨s0, s1, s2, s3, s4, s5, sf⟩ := Blk.six hSw
    go_simp
    all_goals omega
  simp only [Act.put, List.getElem_toArray, List.getElem_cons_succ, List.getElem_cons_zero, List.setIfInBounds_toArray, List.set_cons_zero, List.set_cons_succ]
  refine phase_one (i := 2) (by kernel_rfl) (by omega) rfl (by rfl) (fun K hK => ?_)
  go_simp
  refine (nth_any _ ea ec es F ekks hcap (hc.ext hE0) (exEnc.exts hq hE0) 0 (by omega) (fun z hz => (HK.out z hz).at (HT.out.ext hE0) F) hn).mono ?_
  rintro e w1 ⟨rfl, x1⟩
  have hS1 := Blk.ext hS x1
  refine hK _ _ ⟨hS1, ?_⟩
  clear hK K
  try simp only [Act.put, List.getElem_toArray, List.getElem_cons_succ, List.getElem_cons_zero, List.setIfInBounds_toArray, List.set_cons_zero, List.set_cons_succ]
  refine phase_one (i := 5) (by kernel_rfl) (by omega) rfl (by rfl) (fun K hK => ?_)
  go_simp
  refine (nth_any _ ea ec es F ekks hcap (hc.ext (hE0.trans x1)) (exEnc.exts hq (hE0.trans x1)) 1 (by omega) (fun z hz => (HK.out z hz).at (HT.out.ext (hE0.trans x1)) F) hn).mono ?_
  rintro e w2 ⟨rfl, x2⟩
  have hS2 := Blk.ext hS1 x2
  refine hK _ _ ⟨hS2, ?_⟩
  clear hK K
  try simp only [Act.put, List.getElem_toArray, List.getElem_cons_succ, List.getElem_cons_zero, List.setIfInBounds_toArray, List.set_cons_zero, List.set_cons_succ]
  refine phase_take (i := 6) (v := .string ⟨(nthS (showEs es) 0).toArray⟩) rfl (by kernel_rfl) (by omega) (by kernel_rfl) (by kernel_rfl) (by kernel_rfl) (fun _ _ _ h => h) ⟨by rfl, ?_⟩ hS2 ?_
  · intro wS hSw
    obtain ⟨s0, s1, s2, s3, s4, s5, sf⟩ := Blk.six hSw
    go_simp
    all_goals omega
  simp only [Act.put, List.getElem_toArray, List.getElem_cons_succ, List.getElem_cons_zero, List.setIfInBounds_toArray, List.set_cons_zero, List.set_cons_succ]
  refine phase_take (i := 7) (v := .string ⟨(nthS (showEs es) 1).toArray⟩) rfl (by kernel_rfl) (by omega) (by kernel_rfl) (by kernel_rfl) (by kernel_rfl) (fun _ _ _ h => h) ⟨by rfl, ?_⟩ hS2 ?_
  · intro wS hSw
    obtain ⟨s0, s1, s2, s3, s4, s5, sf⟩ := Blk.six hSw
    go_simp
    all_goals omega
  simp only [Act.put, List.getElem_toArray, List.getElem_cons_succ, List.getElem_cons_zero, List.setIfInBounds_toArray, List.set_cons_zero, List.set_cons_succ]
  have x02 := (hE0.trans x1).trans x2
  obtain ⟨s0, s1, s2, s3, s4, s5, sf⟩ := Blk.six hS2
  have lS2 := Blk.lt hS2
  refine phase_done (by kernel_rfl) ?_
  go_wp2_with fail
  go_ret
  exact ⟨ret_str (by apply ByteArray.ext; simp [showS, stmtText]), x02⟩

set_option maxHeartbeats 4000000 in
theorem stmtT_do (w : World) (F : Nat → Prop) (s : List UInt8) (hs : s.length ≤ 1000) (es : List Ex) (hA : (nthS (showEs es) 0).length ≤ 100000000) (hB : (nthS (showEs es) 1).length ≤ 100000000) (hn : es.length ≤ 100000) (ea : Option Addr) (ec : Nat) (ekks : List Value) (hcap : es.length ≤ ec) (hc : CellsIn w F ea ekks) (hq : exEnc.all w F es ekks) (hk : ∀ z ∈ es, ExprT z) (b l : List St) (ba la : Option Addr) (bc lc p : Nat) (ht : Tab w)  :
    Calls Tryz.prog 44 #[.agg #[.int .i64 8, .string ⟨s.toArray⟩, .slice ea es.length ec, .slice ba b.length bc, .slice la l.length lc, .int .i64 p]] w fun e w' => e = .returned (.string ⟨(showS (.mk 8 s es b l p)).toArray⟩) ∧ Ext w w' := by
  have HK := hid hk
  have HT := hid ht
  clear hk ht
  go_enter Tryz.func44, Tryz.ntmps44
  go_wp2_with fail
  have hS : Blk (w.alloc (.cells #[.int .i64 8, .string ⟨s.toArray⟩, .slice ea es.length ec, .slice ba b.length bc, .slice la l.length lc, .int .i64 p] 78)).drew w.heap.size 78 [.int .i64 8, .string ⟨s.toArray⟩, .slice ea es.length ec, .slice ba b.length bc, .slice la l.length lc, .int .i64 p] := (Blk.new w 78 [.int .i64 8, .string ⟨s.toArray⟩, .slice ea es.length ec, .slice ba b.length bc, .slice la l.length lc, .int .i64 p]).drew
  have hE0 : Ext w (w.alloc (.cells #[.int .i64 8, .string ⟨s.toArray⟩, .slice ea es.length ec, .slice ba b.length bc, .slice la l.length lc, .int .i64 p] 78)).drew := ((Ext.refl w).alloc _).drew
  refine phase_begin (fun w' => Blk w' w.heap.size 78 [.int .i64 8, .string ⟨s.toArray⟩, .slice ea es.length ec, .slice ba b.length bc, .slice la l.length lc, .int .i64 p]) 8 (by kernel_rfl) ?_
  refine phase_take (i := 0) (v := .pointer (some ⟨w.heap.size, 2, none⟩)) rfl (by kernel_rfl) (by omega) (by kernel_rfl) (by kernel_rfl) (by kernel_rfl) (fun _ _ _ h => h) ⟨by rfl, ?_⟩ hS ?_
  · intro wS hSw
    obtain ⟨s0, s1, s2, s3, s4, s5, sf⟩ := Blk.six hSw
    go_simp
    all_goals omega
  simp only [Act.put, List.getElem_toArray, List.getElem_cons_succ, List.getElem_cons_zero, List.setIfInBounds_toArray, List.set_cons_zero, List.set_cons_succ]
  refine phase_take (i := 1) (v := .slice ea es.length ec) rfl (by kernel_rfl) (by omega) (by kernel_rfl) (by kernel_rfl) (by kernel_rfl) (fun _ _ _ h => h) ⟨by rfl, ?_⟩ hS ?_
  · intro wS hSw
    obtain ⟨s0, s1, s2, s3, s4, s5, sf⟩ := Blk.six hSw
    go_simp
    all_goals omega
  simp only [Act.put, List.getElem_toArray, List.getElem_cons_succ, List.getElem_cons_zero, List.setIfInBounds_toArray, List.set_cons_zero, List.set_cons_succ]
  refine phase_take (i := 3) (v := .pointer (some ⟨w.heap.size, 2, none⟩)) rfl (by kernel_rfl) (by omega) (by kernel_rfl) (by kernel_rfl) (by kernel_rfl) (fun _ _ _ h => h) ⟨by rfl, ?_⟩ hS ?_
  · intro wS hSw
    obtain ⟨s0, s1, s2, s3, s4, s5, sf⟩ := Blk.six hSw
    go_simp
    all_goals omega
  simp only [Act.put, List.getElem_toArray, List.getElem_cons_succ, List.getElem_cons_zero, List.setIfInBounds_toArray, List.set_cons_zero, List.set_cons_succ]
  refine phase_take (i := 4) (v := .slice ea es.length ec) rfl (by kernel_rfl) (by omega) (by kernel_rfl) (by kernel_rfl) (by kernel_rfl) (fun _ _ _ h => h) ⟨by rfl, ?_⟩ hS ?_
  · intro wS hSw
    obtain ⟨s0, s1, s2, s3, s4, s5, sf⟩ := Blk.six hSw
    go_simp
    all_goals omega
  simp only [Act.put, List.getElem_toArray, List.getElem_cons_succ, List.getElem_cons_zero, List.setIfInBounds_toArray, List.set_cons_zero, List.set_cons_succ]
  refine phase_one (i := 2) (by kernel_rfl) (by omega) rfl (by rfl) (fun K hK => ?_)
  go_simp
  refine (nth_any _ ea ec es F ekks hcap (hc.ext hE0) (exEnc.exts hq hE0) 0 (by omega) (fun z hz => (HK.out z hz).at (HT.out.ext hE0) F) hn).mono ?_
  rintro e w1 ⟨rfl, x1⟩
  have hS1 := Blk.ext hS x1
  refine hK _ _ ⟨hS1, ?_⟩
  clear hK K
  try simp only [Act.put, List.getElem_toArray, List.getElem_cons_succ, List.getElem_cons_zero, List.setIfInBounds_toArray, List.set_cons_zero, List.set_cons_succ]
  refine phase_one (i := 5) (by kernel_rfl) (by omega) rfl (by rfl) (fun K hK => ?_)
  go_simp
  refine (nth_any _ ea ec es F ekks hcap (hc.ext (hE0.trans x1)) (exEnc.exts hq (hE0.trans x1)) 1 (by omega) (fun z hz => (HK.out z hz).at (HT.out.ext (hE0.trans x1)) F) hn).mono ?_
  rintro e w2 ⟨rfl, x2⟩
  have hS2 := Blk.ext hS1 x2
  refine hK _ _ ⟨hS2, ?_⟩
  clear hK K
  try simp only [Act.put, List.getElem_toArray, List.getElem_cons_succ, List.getElem_cons_zero, List.setIfInBounds_toArray, List.set_cons_zero, List.set_cons_succ]
  refine phase_take (i := 6) (v := .string ⟨(nthS (showEs es) 0).toArray⟩) rfl (by kernel_rfl) (by omega) (by kernel_rfl) (by kernel_rfl) (by kernel_rfl) (fun _ _ _ h => h) ⟨by rfl, ?_⟩ hS2 ?_
  · intro wS hSw
    obtain ⟨s0, s1, s2, s3, s4, s5, sf⟩ := Blk.six hSw
    go_simp
    all_goals omega
  simp only [Act.put, List.getElem_toArray, List.getElem_cons_succ, List.getElem_cons_zero, List.setIfInBounds_toArray, List.set_cons_zero, List.set_cons_succ]
  refine phase_take (i := 7) (v := .string ⟨(nthS (showEs es) 1).toArray⟩) rfl (by kernel_rfl) (by omega) (by kernel_rfl) (by kernel_rfl) (by kernel_rfl) (fun _ _ _ h => h) ⟨by rfl, ?_⟩ hS2 ?_
  · intro wS hSw
    obtain ⟨s0, s1, s2, s3, s4, s5, sf⟩ := Blk.six hSw
    go_simp
    all_goals omega
  simp only [Act.put, List.getElem_toArray, List.getElem_cons_succ, List.getElem_cons_zero, List.setIfInBounds_toArray, List.set_cons_zero, List.set_cons_succ]
  have x02 := (hE0.trans x1).trans x2
  obtain ⟨s0, s1, s2, s3, s4, s5, sf⟩ := Blk.six hS2
  have lS2 := Blk.lt hS2
  refine phase_done (by kernel_rfl) ?_
  go_wp2_with fail
  go_ret
  exact ⟨ret_str (by apply ByteArray.ext; simp [showS, stmtText]), x02⟩

set_option maxHeartbeats 4000000 in
theorem stmtT_ret0 (w : World) (F : Nat → Prop) (s : List UInt8) (hs : s.length ≤ 1000) (es : List Ex) (hA : (nthS (showEs es) 0).length ≤ 100000000) (hB : (nthS (showEs es) 1).length ≤ 100000000) (hn : es.length ≤ 100000) (ea : Option Addr) (ec : Nat) (ekks : List Value) (hcap : es.length ≤ ec) (hc : CellsIn w F ea ekks) (hq : exEnc.all w F es ekks) (hk : ∀ z ∈ es, ExprT z) (b l : List St) (ba la : Option Addr) (bc lc p : Nat) (ht : Tab w) (he : es = []) :
    Calls Tryz.prog 44 #[.agg #[.int .i64 5, .string ⟨s.toArray⟩, .slice ea es.length ec, .slice ba b.length bc, .slice la l.length lc, .int .i64 p]] w fun e w' => e = .returned (.string ⟨(showS (.mk 5 s es b l p)).toArray⟩) ∧ Ext w w' := by
  have HK := hid hk
  have HT := hid ht
  have HE := hid he
  have hlp : ((es.length : Int) == 0) = true := by rw [he]; rfl
  clear hk ht he
  go_enter Tryz.func44, Tryz.ntmps44
  go_wp2_with fail
  have hS : Blk (w.alloc (.cells #[.int .i64 5, .string ⟨s.toArray⟩, .slice ea es.length ec, .slice ba b.length bc, .slice la l.length lc, .int .i64 p] 78)).drew w.heap.size 78 [.int .i64 5, .string ⟨s.toArray⟩, .slice ea es.length ec, .slice ba b.length bc, .slice la l.length lc, .int .i64 p] := (Blk.new w 78 [.int .i64 5, .string ⟨s.toArray⟩, .slice ea es.length ec, .slice ba b.length bc, .slice la l.length lc, .int .i64 p]).drew
  have hE0 : Ext w (w.alloc (.cells #[.int .i64 5, .string ⟨s.toArray⟩, .slice ea es.length ec, .slice ba b.length bc, .slice la l.length lc, .int .i64 p] 78)).drew := ((Ext.refl w).alloc _).drew
  refine phase_begin (fun w' => Blk w' w.heap.size 78 [.int .i64 5, .string ⟨s.toArray⟩, .slice ea es.length ec, .slice ba b.length bc, .slice la l.length lc, .int .i64 p]) 8 (by kernel_rfl) ?_
  refine phase_take (i := 0) (v := .pointer (some ⟨w.heap.size, 2, none⟩)) rfl (by kernel_rfl) (by omega) (by kernel_rfl) (by kernel_rfl) (by kernel_rfl) (fun _ _ _ h => h) ⟨by rfl, ?_⟩ hS ?_
  · intro wS hSw
    obtain ⟨s0, s1, s2, s3, s4, s5, sf⟩ := Blk.six hSw
    go_simp
    all_goals omega
  simp only [Act.put, List.getElem_toArray, List.getElem_cons_succ, List.getElem_cons_zero, List.setIfInBounds_toArray, List.set_cons_zero, List.set_cons_succ]
  refine phase_take (i := 1) (v := .slice ea es.length ec) rfl (by kernel_rfl) (by omega) (by kernel_rfl) (by kernel_rfl) (by kernel_rfl) (fun _ _ _ h => h) ⟨by rfl, ?_⟩ hS ?_
  · intro wS hSw
    obtain ⟨s0, s1, s2, s3, s4, s5, sf⟩ := Blk.six hSw
    go_simp
    all_goals omega
  simp only [Act.put, List.getElem_toArray, List.getElem_cons_succ, List.getElem_cons_zero, List.setIfInBounds_toArray, List.set_cons_zero, List.set_cons_succ]
  refine phase_take (i := 3) (v := .pointer (some ⟨w.heap.size, 2, none⟩)) rfl (by kernel_rfl) (by omega) (by kernel_rfl) (by kernel_rfl) (by kernel_rfl) (fun _ _ _ h => h) ⟨by rfl, ?_⟩ hS ?_
  · intro wS hSw
    obtain ⟨s0, s1, s2, s3, s4, s5, sf⟩ := Blk.six hSw
    go_simp
    all_goals omega
  simp only [Act.put, List.getElem_toArray, List.getElem_cons_succ, List.getElem_cons_zero, List.setIfInBounds_toArray, List.set_cons_zero, List.set_cons_succ]
  refine phase_take (i := 4) (v := .slice ea es.length ec) rfl (by kernel_rfl) (by omega) (by kernel_rfl) (by kernel_rfl) (by kernel_rfl) (fun _ _ _ h => h) ⟨by rfl, ?_⟩ hS ?_
  · intro wS hSw
    obtain ⟨s0, s1, s2, s3, s4, s5, sf⟩ := Blk.six hSw
    go_simp
    all_goals omega
  simp only [Act.put, List.getElem_toArray, List.getElem_cons_succ, List.getElem_cons_zero, List.setIfInBounds_toArray, List.set_cons_zero, List.set_cons_succ]
  refine phase_one (i := 2) (by kernel_rfl) (by omega) rfl (by rfl) (fun K hK => ?_)
  go_simp
  refine (nth_any _ ea ec es F ekks hcap (hc.ext hE0) (exEnc.exts hq hE0) 0 (by omega) (fun z hz => (HK.out z hz).at (HT.out.ext hE0) F) hn).mono ?_
  rintro e w1 ⟨rfl, x1⟩
  have hS1 := Blk.ext hS x1
  refine hK _ _ ⟨hS1, ?_⟩
  clear hK K
  try simp only [Act.put, List.getElem_toArray, List.getElem_cons_succ, List.getElem_cons_zero, List.setIfInBounds_toArray, List.set_cons_zero, List.set_cons_succ]
  refine phase_one (i := 5) (by kernel_rfl) (by omega) rfl (by rfl) (fun K hK => ?_)
  go_simp
  refine (nth_any _ ea ec es F ekks hcap (hc.ext (hE0.trans x1)) (exEnc.exts hq (hE0.trans x1)) 1 (by omega) (fun z hz => (HK.out z hz).at (HT.out.ext (hE0.trans x1)) F) hn).mono ?_
  rintro e w2 ⟨rfl, x2⟩
  have hS2 := Blk.ext hS1 x2
  refine hK _ _ ⟨hS2, ?_⟩
  clear hK K
  try simp only [Act.put, List.getElem_toArray, List.getElem_cons_succ, List.getElem_cons_zero, List.setIfInBounds_toArray, List.set_cons_zero, List.set_cons_succ]
  refine phase_take (i := 6) (v := .string ⟨(nthS (showEs es) 0).toArray⟩) rfl (by kernel_rfl) (by omega) (by kernel_rfl) (by kernel_rfl) (by kernel_rfl) (fun _ _ _ h => h) ⟨by rfl, ?_⟩ hS2 ?_
  · intro wS hSw
    obtain ⟨s0, s1, s2, s3, s4, s5, sf⟩ := Blk.six hSw
    go_simp
    all_goals omega
  simp only [Act.put, List.getElem_toArray, List.getElem_cons_succ, List.getElem_cons_zero, List.setIfInBounds_toArray, List.set_cons_zero, List.set_cons_succ]
  refine phase_take (i := 7) (v := .string ⟨(nthS (showEs es) 1).toArray⟩) rfl (by kernel_rfl) (by omega) (by kernel_rfl) (by kernel_rfl) (by kernel_rfl) (fun _ _ _ h => h) ⟨by rfl, ?_⟩ hS2 ?_
  · intro wS hSw
    obtain ⟨s0, s1, s2, s3, s4, s5, sf⟩ := Blk.six hSw
    go_simp
    all_goals omega
  simp only [Act.put, List.getElem_toArray, List.getElem_cons_succ, List.getElem_cons_zero, List.setIfInBounds_toArray, List.set_cons_zero, List.set_cons_succ]
  have x02 := (hE0.trans x1).trans x2
  obtain ⟨s0, s1, s2, s3, s4, s5, sf⟩ := Blk.six hS2
  have lS2 := Blk.lt hS2
  refine phase_done (by kernel_rfl) ?_
  go_wp2_with fail
  go_ret
  exact ⟨ret_str (by apply ByteArray.ext; rw [HE.out]; simp [showS, stmtText, showEs]), x02⟩

set_option maxHeartbeats 4000000 in
theorem stmtT_ret1 (w : World) (F : Nat → Prop) (s : List UInt8) (hs : s.length ≤ 1000) (es : List Ex) (hA : (nthS (showEs es) 0).length ≤ 100000000) (hB : (nthS (showEs es) 1).length ≤ 100000000) (hn : es.length ≤ 100000) (ea : Option Addr) (ec : Nat) (ekks : List Value) (hcap : es.length ≤ ec) (hc : CellsIn w F ea ekks) (hq : exEnc.all w F es ekks) (hk : ∀ z ∈ es, ExprT z) (b l : List St) (ba la : Option Addr) (bc lc p : Nat) (ht : Tab w) (he : es ≠ []) :
    Calls Tryz.prog 44 #[.agg #[.int .i64 5, .string ⟨s.toArray⟩, .slice ea es.length ec, .slice ba b.length bc, .slice la l.length lc, .int .i64 p]] w fun e w' => e = .returned (.string ⟨(showS (.mk 5 s es b l p)).toArray⟩) ∧ Ext w w' := by
  have HK := hid hk
  have HT := hid ht
  have HE := hid (show showEs es ≠ [] by cases es with
    | nil => exact absurd rfl he
    | cons y l => simp [showEs])
  have hlp : ((es.length : Int) == 0) = false := by have := List.length_pos_iff.2 he; simp; omega
  clear hk ht he
  go_enter Tryz.func44, Tryz.ntmps44
  go_wp2_with fail
  have hS : Blk (w.alloc (.cells #[.int .i64 5, .string ⟨s.toArray⟩, .slice ea es.length ec, .slice ba b.length bc, .slice la l.length lc, .int .i64 p] 78)).drew w.heap.size 78 [.int .i64 5, .string ⟨s.toArray⟩, .slice ea es.length ec, .slice ba b.length bc, .slice la l.length lc, .int .i64 p] := (Blk.new w 78 [.int .i64 5, .string ⟨s.toArray⟩, .slice ea es.length ec, .slice ba b.length bc, .slice la l.length lc, .int .i64 p]).drew
  have hE0 : Ext w (w.alloc (.cells #[.int .i64 5, .string ⟨s.toArray⟩, .slice ea es.length ec, .slice ba b.length bc, .slice la l.length lc, .int .i64 p] 78)).drew := ((Ext.refl w).alloc _).drew
  refine phase_begin (fun w' => Blk w' w.heap.size 78 [.int .i64 5, .string ⟨s.toArray⟩, .slice ea es.length ec, .slice ba b.length bc, .slice la l.length lc, .int .i64 p]) 8 (by kernel_rfl) ?_
  refine phase_take (i := 0) (v := .pointer (some ⟨w.heap.size, 2, none⟩)) rfl (by kernel_rfl) (by omega) (by kernel_rfl) (by kernel_rfl) (by kernel_rfl) (fun _ _ _ h => h) ⟨by rfl, ?_⟩ hS ?_
  · intro wS hSw
    obtain ⟨s0, s1, s2, s3, s4, s5, sf⟩ := Blk.six hSw
    go_simp
    all_goals omega
  simp only [Act.put, List.getElem_toArray, List.getElem_cons_succ, List.getElem_cons_zero, List.setIfInBounds_toArray, List.set_cons_zero, List.set_cons_succ]
  refine phase_take (i := 1) (v := .slice ea es.length ec) rfl (by kernel_rfl) (by omega) (by kernel_rfl) (by kernel_rfl) (by kernel_rfl) (fun _ _ _ h => h) ⟨by rfl, ?_⟩ hS ?_
  · intro wS hSw
    obtain ⟨s0, s1, s2, s3, s4, s5, sf⟩ := Blk.six hSw
    go_simp
    all_goals omega
  simp only [Act.put, List.getElem_toArray, List.getElem_cons_succ, List.getElem_cons_zero, List.setIfInBounds_toArray, List.set_cons_zero, List.set_cons_succ]
  refine phase_take (i := 3) (v := .pointer (some ⟨w.heap.size, 2, none⟩)) rfl (by kernel_rfl) (by omega) (by kernel_rfl) (by kernel_rfl) (by kernel_rfl) (fun _ _ _ h => h) ⟨by rfl, ?_⟩ hS ?_
  · intro wS hSw
    obtain ⟨s0, s1, s2, s3, s4, s5, sf⟩ := Blk.six hSw
    go_simp
    all_goals omega
  simp only [Act.put, List.getElem_toArray, List.getElem_cons_succ, List.getElem_cons_zero, List.setIfInBounds_toArray, List.set_cons_zero, List.set_cons_succ]
  refine phase_take (i := 4) (v := .slice ea es.length ec) rfl (by kernel_rfl) (by omega) (by kernel_rfl) (by kernel_rfl) (by kernel_rfl) (fun _ _ _ h => h) ⟨by rfl, ?_⟩ hS ?_
  · intro wS hSw
    obtain ⟨s0, s1, s2, s3, s4, s5, sf⟩ := Blk.six hSw
    go_simp
    all_goals omega
  simp only [Act.put, List.getElem_toArray, List.getElem_cons_succ, List.getElem_cons_zero, List.setIfInBounds_toArray, List.set_cons_zero, List.set_cons_succ]
  refine phase_one (i := 2) (by kernel_rfl) (by omega) rfl (by rfl) (fun K hK => ?_)
  go_simp
  refine (nth_any _ ea ec es F ekks hcap (hc.ext hE0) (exEnc.exts hq hE0) 0 (by omega) (fun z hz => (HK.out z hz).at (HT.out.ext hE0) F) hn).mono ?_
  rintro e w1 ⟨rfl, x1⟩
  have hS1 := Blk.ext hS x1
  refine hK _ _ ⟨hS1, ?_⟩
  clear hK K
  try simp only [Act.put, List.getElem_toArray, List.getElem_cons_succ, List.getElem_cons_zero, List.setIfInBounds_toArray, List.set_cons_zero, List.set_cons_succ]
  refine phase_one (i := 5) (by kernel_rfl) (by omega) rfl (by rfl) (fun K hK => ?_)
  go_simp
  refine (nth_any _ ea ec es F ekks hcap (hc.ext (hE0.trans x1)) (exEnc.exts hq (hE0.trans x1)) 1 (by omega) (fun z hz => (HK.out z hz).at (HT.out.ext (hE0.trans x1)) F) hn).mono ?_
  rintro e w2 ⟨rfl, x2⟩
  have hS2 := Blk.ext hS1 x2
  refine hK _ _ ⟨hS2, ?_⟩
  clear hK K
  try simp only [Act.put, List.getElem_toArray, List.getElem_cons_succ, List.getElem_cons_zero, List.setIfInBounds_toArray, List.set_cons_zero, List.set_cons_succ]
  refine phase_take (i := 6) (v := .string ⟨(nthS (showEs es) 0).toArray⟩) rfl (by kernel_rfl) (by omega) (by kernel_rfl) (by kernel_rfl) (by kernel_rfl) (fun _ _ _ h => h) ⟨by rfl, ?_⟩ hS2 ?_
  · intro wS hSw
    obtain ⟨s0, s1, s2, s3, s4, s5, sf⟩ := Blk.six hSw
    go_simp
    all_goals omega
  simp only [Act.put, List.getElem_toArray, List.getElem_cons_succ, List.getElem_cons_zero, List.setIfInBounds_toArray, List.set_cons_zero, List.set_cons_succ]
  refine phase_take (i := 7) (v := .string ⟨(nthS (showEs es) 1).toArray⟩) rfl (by kernel_rfl) (by omega) (by kernel_rfl) (by kernel_rfl) (by kernel_rfl) (fun _ _ _ h => h) ⟨by rfl, ?_⟩ hS2 ?_
  · intro wS hSw
    obtain ⟨s0, s1, s2, s3, s4, s5, sf⟩ := Blk.six hSw
    go_simp
    all_goals omega
  simp only [Act.put, List.getElem_toArray, List.getElem_cons_succ, List.getElem_cons_zero, List.setIfInBounds_toArray, List.set_cons_zero, List.set_cons_succ]
  have x02 := (hE0.trans x1).trans x2
  obtain ⟨s0, s1, s2, s3, s4, s5, sf⟩ := Blk.six hS2
  have lS2 := Blk.lt hS2
  refine phase_done (by kernel_rfl) ?_
  go_wp2_with fail
  go_ret
  exact ⟨ret_str (by apply ByteArray.ext; simp [showS, stmtText, HE.out]), x02⟩

set_option maxHeartbeats 4000000 in
theorem stmtT_if (w : World) (F : Nat → Prop) (s : List UInt8) (hs : s.length ≤ 1000) (es : List Ex) (hA : (nthS (showEs es) 0).length ≤ 100000000) (hB : (nthS (showEs es) 1).length ≤ 100000000) (hn : es.length ≤ 100000) (ea : Option Addr) (ec : Nat) (ekks : List Value) (hcap : es.length ≤ ec) (hc : CellsIn w F ea ekks) (hq : exEnc.all w F es ekks) (hk : ∀ z ∈ es, ExprT z) (b l : List St) (ba la : Option Addr) (bc lc p : Nat) (ht : Tab w) (hb : BlockT b) (hlb : (blockText (showSs b)).length ≤ 100000000) (bks : List Value) (hcb0 : b.length ≤ bc) (hcb : CellsIn w F ba bks) (hqb : stEnc.all w F b bks) (hnl : l = []) :
    Calls Tryz.prog 44 #[.agg #[.int .i64 3, .string ⟨s.toArray⟩, .slice ea es.length ec, .slice ba b.length bc, .slice la l.length lc, .int .i64 p]] w fun e w' => e = .returned (.string ⟨(showS (.mk 3 s es b l p)).toArray⟩) ∧ Ext w w' := by
  have HK := hid hk
  have HT := hid ht
  have HB := hid hb
  have HN := hid hnl
  have hlp : ¬ ((l.length : Int) > 0) := by rw [hnl]; simp
  have hlq : ((l.length : Int) ≤ 0) := by rw [hnl]; simp
  clear hk ht hb hnl
  go_enter Tryz.func44, Tryz.ntmps44
  go_wp2_with fail
  have hS : Blk (w.alloc (.cells #[.int .i64 3, .string ⟨s.toArray⟩, .slice ea es.length ec, .slice ba b.length bc, .slice la l.length lc, .int .i64 p] 78)).drew w.heap.size 78 [.int .i64 3, .string ⟨s.toArray⟩, .slice ea es.length ec, .slice ba b.length bc, .slice la l.length lc, .int .i64 p] := (Blk.new w 78 [.int .i64 3, .string ⟨s.toArray⟩, .slice ea es.length ec, .slice ba b.length bc, .slice la l.length lc, .int .i64 p]).drew
  have hE0 : Ext w (w.alloc (.cells #[.int .i64 3, .string ⟨s.toArray⟩, .slice ea es.length ec, .slice ba b.length bc, .slice la l.length lc, .int .i64 p] 78)).drew := ((Ext.refl w).alloc _).drew
  refine phase_begin (fun w' => Blk w' w.heap.size 78 [.int .i64 3, .string ⟨s.toArray⟩, .slice ea es.length ec, .slice ba b.length bc, .slice la l.length lc, .int .i64 p]) 8 (by kernel_rfl) ?_
  refine phase_take (i := 0) (v := .pointer (some ⟨w.heap.size, 2, none⟩)) rfl (by kernel_rfl) (by omega) (by kernel_rfl) (by kernel_rfl) (by kernel_rfl) (fun _ _ _ h => h) ⟨by rfl, ?_⟩ hS ?_
  · intro wS hSw
    obtain ⟨s0, s1, s2, s3, s4, s5, sf⟩ := Blk.six hSw
    go_simp
    all_goals omega
  simp only [Act.put, List.getElem_toArray, List.getElem_cons_succ, List.getElem_cons_zero, List.setIfInBounds_toArray, List.set_cons_zero, List.set_cons_succ]
  refine phase_take (i := 1) (v := .slice ea es.length ec) rfl (by kernel_rfl) (by omega) (by kernel_rfl) (by kernel_rfl) (by kernel_rfl) (fun _ _ _ h => h) ⟨by rfl, ?_⟩ hS ?_
  · intro wS hSw
    obtain ⟨s0, s1, s2, s3, s4, s5, sf⟩ := Blk.six hSw
    go_simp
    all_goals omega
  simp only [Act.put, List.getElem_toArray, List.getElem_cons_succ, List.getElem_cons_zero, List.setIfInBounds_toArray, List.set_cons_zero, List.set_cons_succ]
  refine phase_take (i := 3) (v := .pointer (some ⟨w.heap.size, 2, none⟩)) rfl (by kernel_rfl) (by omega) (by kernel_rfl) (by kernel_rfl) (by kernel_rfl) (fun _ _ _ h => h) ⟨by rfl, ?_⟩ hS ?_
  · intro wS hSw
    obtain ⟨s0, s1, s2, s3, s4, s5, sf⟩ := Blk.six hSw
    go_simp
    all_goals omega
  simp only [Act.put, List.getElem_toArray, List.getElem_cons_succ, List.getElem_cons_zero, List.setIfInBounds_toArray, List.set_cons_zero, List.set_cons_succ]
  refine phase_take (i := 4) (v := .slice ea es.length ec) rfl (by kernel_rfl) (by omega) (by kernel_rfl) (by kernel_rfl) (by kernel_rfl) (fun _ _ _ h => h) ⟨by rfl, ?_⟩ hS ?_
  · intro wS hSw
    obtain ⟨s0, s1, s2, s3, s4, s5, sf⟩ := Blk.six hSw
    go_simp
    all_goals omega
  simp only [Act.put, List.getElem_toArray, List.getElem_cons_succ, List.getElem_cons_zero, List.setIfInBounds_toArray, List.set_cons_zero, List.set_cons_succ]
  refine phase_one (i := 2) (by kernel_rfl) (by omega) rfl (by rfl) (fun K hK => ?_)
  go_simp
  refine (nth_any _ ea ec es F ekks hcap (hc.ext hE0) (exEnc.exts hq hE0) 0 (by omega) (fun z hz => (HK.out z hz).at (HT.out.ext hE0) F) hn).mono ?_
  rintro e w1 ⟨rfl, x1⟩
  have hS1 := Blk.ext hS x1
  refine hK _ _ ⟨hS1, ?_⟩
  clear hK K
  try simp only [Act.put, List.getElem_toArray, List.getElem_cons_succ, List.getElem_cons_zero, List.setIfInBounds_toArray, List.set_cons_zero, List.set_cons_succ]
  refine phase_one (i := 5) (by kernel_rfl) (by omega) rfl (by rfl) (fun K hK => ?_)
  go_simp
  refine (nth_any _ ea ec es F ekks hcap (hc.ext (hE0.trans x1)) (exEnc.exts hq (hE0.trans x1)) 1 (by omega) (fun z hz => (HK.out z hz).at (HT.out.ext (hE0.trans x1)) F) hn).mono ?_
  rintro e w2 ⟨rfl, x2⟩
  have hS2 := Blk.ext hS1 x2
  refine hK _ _ ⟨hS2, ?_⟩
  clear hK K
  try simp only [Act.put, List.getElem_toArray, List.getElem_cons_succ, List.getElem_cons_zero, List.setIfInBounds_toArray, List.set_cons_zero, List.set_cons_succ]
  refine phase_take (i := 6) (v := .string ⟨(nthS (showEs es) 0).toArray⟩) rfl (by kernel_rfl) (by omega) (by kernel_rfl) (by kernel_rfl) (by kernel_rfl) (fun _ _ _ h => h) ⟨by rfl, ?_⟩ hS2 ?_
  · intro wS hSw
    obtain ⟨s0, s1, s2, s3, s4, s5, sf⟩ := Blk.six hSw
    go_simp
    all_goals omega
  simp only [Act.put, List.getElem_toArray, List.getElem_cons_succ, List.getElem_cons_zero, List.setIfInBounds_toArray, List.set_cons_zero, List.set_cons_succ]
  refine phase_take (i := 7) (v := .string ⟨(nthS (showEs es) 1).toArray⟩) rfl (by kernel_rfl) (by omega) (by kernel_rfl) (by kernel_rfl) (by kernel_rfl) (fun _ _ _ h => h) ⟨by rfl, ?_⟩ hS2 ?_
  · intro wS hSw
    obtain ⟨s0, s1, s2, s3, s4, s5, sf⟩ := Blk.six hSw
    go_simp
    all_goals omega
  simp only [Act.put, List.getElem_toArray, List.getElem_cons_succ, List.getElem_cons_zero, List.setIfInBounds_toArray, List.set_cons_zero, List.set_cons_succ]
  have x02 := (hE0.trans x1).trans x2
  obtain ⟨s0, s1, s2, s3, s4, s5, sf⟩ := Blk.six hS2
  have lS2 := Blk.lt hS2
  refine phase_done (by kernel_rfl) ?_
  go_wp2_with fail
  refine (HB.out _ F ba bc bks (HT.out.ext x02) hcb0 (hcb.ext x02) (stEnc.exts hqb x02)).mono ?_
  rintro e w3 ⟨rfl, x3⟩
  have hS3 := Blk.ext hS2 x3
  clear s0 s1 s2 s3 s4 s5 sf lS2
  obtain ⟨s0, s1, s2, s3, s4, s5, sf⟩ := Blk.six hS3
  have lS3 := Blk.lt hS3
  go_wp2_with fail
  go_ret
  exact ⟨ret_str (by apply ByteArray.ext; rw [HN.out]; simp [showS, stmtText, showSs]), x02.trans x3⟩

set_option maxHeartbeats 4000000 in
theorem stmtT_ifelse (w : World) (F : Nat → Prop) (s : List UInt8) (hs : s.length ≤ 1000) (es : List Ex) (hA : (nthS (showEs es) 0).length ≤ 100000000) (hB : (nthS (showEs es) 1).length ≤ 100000000) (hn : es.length ≤ 100000) (ea : Option Addr) (ec : Nat) (ekks : List Value) (hcap : es.length ≤ ec) (hc : CellsIn w F ea ekks) (hq : exEnc.all w F es ekks) (hk : ∀ z ∈ es, ExprT z) (b l : List St) (ba la : Option Addr) (bc lc p : Nat) (ht : Tab w) (hb : BlockT b) (hlb : (blockText (showSs b)).length ≤ 100000000) (bks : List Value) (hcb0 : b.length ≤ bc) (hcb : CellsIn w F ba bks) (hqb : stEnc.all w F b bks) (hl : BlockT l) (hll : (blockText (showSs l)).length ≤ 100000000) (lks : List Value) (hcl0 : l.length ≤ lc) (hcl : CellsIn w F la lks) (hql : stEnc.all w F l lks) (hnl : l ≠ []) :
    Calls Tryz.prog 44 #[.agg #[.int .i64 3, .string ⟨s.toArray⟩, .slice ea es.length ec, .slice ba b.length bc, .slice la l.length lc, .int .i64 p]] w fun e w' => e = .returned (.string ⟨(showS (.mk 3 s es b l p)).toArray⟩) ∧ Ext w w' := by
  have HK := hid hk
  have HT := hid ht
  have HB := hid hb
  have HL := hid hl
  have HN := hid (show showSs l ≠ [] by cases l with
    | nil => exact absurd rfl hnl
    | cons y l => simp [showSs])
  have hlp : ((l.length : Int) > 0) := by have := List.length_pos_iff.2 hnl; omega
  have hlq : ¬ ((l.length : Int) ≤ 0) := by omega
  clear hk ht hb hl hnl
  go_enter Tryz.func44, Tryz.ntmps44
  go_wp2_with fail
  have hS : Blk (w.alloc (.cells #[.int .i64 3, .string ⟨s.toArray⟩, .slice ea es.length ec, .slice ba b.length bc, .slice la l.length lc, .int .i64 p] 78)).drew w.heap.size 78 [.int .i64 3, .string ⟨s.toArray⟩, .slice ea es.length ec, .slice ba b.length bc, .slice la l.length lc, .int .i64 p] := (Blk.new w 78 [.int .i64 3, .string ⟨s.toArray⟩, .slice ea es.length ec, .slice ba b.length bc, .slice la l.length lc, .int .i64 p]).drew
  have hE0 : Ext w (w.alloc (.cells #[.int .i64 3, .string ⟨s.toArray⟩, .slice ea es.length ec, .slice ba b.length bc, .slice la l.length lc, .int .i64 p] 78)).drew := ((Ext.refl w).alloc _).drew
  refine phase_begin (fun w' => Blk w' w.heap.size 78 [.int .i64 3, .string ⟨s.toArray⟩, .slice ea es.length ec, .slice ba b.length bc, .slice la l.length lc, .int .i64 p]) 8 (by kernel_rfl) ?_
  refine phase_take (i := 0) (v := .pointer (some ⟨w.heap.size, 2, none⟩)) rfl (by kernel_rfl) (by omega) (by kernel_rfl) (by kernel_rfl) (by kernel_rfl) (fun _ _ _ h => h) ⟨by rfl, ?_⟩ hS ?_
  · intro wS hSw
    obtain ⟨s0, s1, s2, s3, s4, s5, sf⟩ := Blk.six hSw
    go_simp
    all_goals omega
  simp only [Act.put, List.getElem_toArray, List.getElem_cons_succ, List.getElem_cons_zero, List.setIfInBounds_toArray, List.set_cons_zero, List.set_cons_succ]
  refine phase_take (i := 1) (v := .slice ea es.length ec) rfl (by kernel_rfl) (by omega) (by kernel_rfl) (by kernel_rfl) (by kernel_rfl) (fun _ _ _ h => h) ⟨by rfl, ?_⟩ hS ?_
  · intro wS hSw
    obtain ⟨s0, s1, s2, s3, s4, s5, sf⟩ := Blk.six hSw
    go_simp
    all_goals omega
  simp only [Act.put, List.getElem_toArray, List.getElem_cons_succ, List.getElem_cons_zero, List.setIfInBounds_toArray, List.set_cons_zero, List.set_cons_succ]
  refine phase_take (i := 3) (v := .pointer (some ⟨w.heap.size, 2, none⟩)) rfl (by kernel_rfl) (by omega) (by kernel_rfl) (by kernel_rfl) (by kernel_rfl) (fun _ _ _ h => h) ⟨by rfl, ?_⟩ hS ?_
  · intro wS hSw
    obtain ⟨s0, s1, s2, s3, s4, s5, sf⟩ := Blk.six hSw
    go_simp
    all_goals omega
  simp only [Act.put, List.getElem_toArray, List.getElem_cons_succ, List.getElem_cons_zero, List.setIfInBounds_toArray, List.set_cons_zero, List.set_cons_succ]
  refine phase_take (i := 4) (v := .slice ea es.length ec) rfl (by kernel_rfl) (by omega) (by kernel_rfl) (by kernel_rfl) (by kernel_rfl) (fun _ _ _ h => h) ⟨by rfl, ?_⟩ hS ?_
  · intro wS hSw
    obtain ⟨s0, s1, s2, s3, s4, s5, sf⟩ := Blk.six hSw
    go_simp
    all_goals omega
  simp only [Act.put, List.getElem_toArray, List.getElem_cons_succ, List.getElem_cons_zero, List.setIfInBounds_toArray, List.set_cons_zero, List.set_cons_succ]
  refine phase_one (i := 2) (by kernel_rfl) (by omega) rfl (by rfl) (fun K hK => ?_)
  go_simp
  refine (nth_any _ ea ec es F ekks hcap (hc.ext hE0) (exEnc.exts hq hE0) 0 (by omega) (fun z hz => (HK.out z hz).at (HT.out.ext hE0) F) hn).mono ?_
  rintro e w1 ⟨rfl, x1⟩
  have hS1 := Blk.ext hS x1
  refine hK _ _ ⟨hS1, ?_⟩
  clear hK K
  try simp only [Act.put, List.getElem_toArray, List.getElem_cons_succ, List.getElem_cons_zero, List.setIfInBounds_toArray, List.set_cons_zero, List.set_cons_succ]
  refine phase_one (i := 5) (by kernel_rfl) (by omega) rfl (by rfl) (fun K hK => ?_)
  go_simp
  refine (nth_any _ ea ec es F ekks hcap (hc.ext (hE0.trans x1)) (exEnc.exts hq (hE0.trans x1)) 1 (by omega) (fun z hz => (HK.out z hz).at (HT.out.ext (hE0.trans x1)) F) hn).mono ?_
  rintro e w2 ⟨rfl, x2⟩
  have hS2 := Blk.ext hS1 x2
  refine hK _ _ ⟨hS2, ?_⟩
  clear hK K
  try simp only [Act.put, List.getElem_toArray, List.getElem_cons_succ, List.getElem_cons_zero, List.setIfInBounds_toArray, List.set_cons_zero, List.set_cons_succ]
  refine phase_take (i := 6) (v := .string ⟨(nthS (showEs es) 0).toArray⟩) rfl (by kernel_rfl) (by omega) (by kernel_rfl) (by kernel_rfl) (by kernel_rfl) (fun _ _ _ h => h) ⟨by rfl, ?_⟩ hS2 ?_
  · intro wS hSw
    obtain ⟨s0, s1, s2, s3, s4, s5, sf⟩ := Blk.six hSw
    go_simp
    all_goals omega
  simp only [Act.put, List.getElem_toArray, List.getElem_cons_succ, List.getElem_cons_zero, List.setIfInBounds_toArray, List.set_cons_zero, List.set_cons_succ]
  refine phase_take (i := 7) (v := .string ⟨(nthS (showEs es) 1).toArray⟩) rfl (by kernel_rfl) (by omega) (by kernel_rfl) (by kernel_rfl) (by kernel_rfl) (fun _ _ _ h => h) ⟨by rfl, ?_⟩ hS2 ?_
  · intro wS hSw
    obtain ⟨s0, s1, s2, s3, s4, s5, sf⟩ := Blk.six hSw
    go_simp
    all_goals omega
  simp only [Act.put, List.getElem_toArray, List.getElem_cons_succ, List.getElem_cons_zero, List.setIfInBounds_toArray, List.set_cons_zero, List.set_cons_succ]
  have x02 := (hE0.trans x1).trans x2
  obtain ⟨s0, s1, s2, s3, s4, s5, sf⟩ := Blk.six hS2
  have lS2 := Blk.lt hS2
  refine phase_done (by kernel_rfl) ?_
  go_wp2_with fail
  refine (HB.out _ F ba bc bks (HT.out.ext x02) hcb0 (hcb.ext x02) (stEnc.exts hqb x02)).mono ?_
  rintro e w3 ⟨rfl, x3⟩
  have hS3 := Blk.ext hS2 x3
  clear s0 s1 s2 s3 s4 s5 sf lS2
  obtain ⟨s0, s1, s2, s3, s4, s5, sf⟩ := Blk.six hS3
  have lS3 := Blk.lt hS3
  go_wp2_with fail
  refine (HL.out _ F la lc lks (HT.out.ext (x02.trans x3)) hcl0 (hcl.ext (x02.trans x3)) (stEnc.exts hql (x02.trans x3))).mono ?_
  rintro e w4 ⟨rfl, x4⟩
  go_wp2_with fail
  go_ret
  exact ⟨ret_str (by apply ByteArray.ext; simp [showS, stmtText, HN.out]), (x02.trans x3).trans x4⟩

set_option maxHeartbeats 4000000 in
theorem stmtT_for (w : World) (F : Nat → Prop) (s : List UInt8) (hs : s.length ≤ 1000) (es : List Ex) (hA : (nthS (showEs es) 0).length ≤ 100000000) (hB : (nthS (showEs es) 1).length ≤ 100000000) (hn : es.length ≤ 100000) (ea : Option Addr) (ec : Nat) (ekks : List Value) (hcap : es.length ≤ ec) (hc : CellsIn w F ea ekks) (hq : exEnc.all w F es ekks) (hk : ∀ z ∈ es, ExprT z) (b l : List St) (ba la : Option Addr) (bc lc p : Nat) (ht : Tab w) (hb : BlockT b) (hlb : (blockText (showSs b)).length ≤ 100000000) (bks : List Value) (hcb0 : b.length ≤ bc) (hcb : CellsIn w F ba bks) (hqb : stEnc.all w F b bks) :
    Calls Tryz.prog 44 #[.agg #[.int .i64 4, .string ⟨s.toArray⟩, .slice ea es.length ec, .slice ba b.length bc, .slice la l.length lc, .int .i64 p]] w fun e w' => e = .returned (.string ⟨(showS (.mk 4 s es b l p)).toArray⟩) ∧ Ext w w' := by
  have HK := hid hk
  have HT := hid ht
  have HB := hid hb
  clear hk ht hb
  go_enter Tryz.func44, Tryz.ntmps44
  go_wp2_with fail
  have hS : Blk (w.alloc (.cells #[.int .i64 4, .string ⟨s.toArray⟩, .slice ea es.length ec, .slice ba b.length bc, .slice la l.length lc, .int .i64 p] 78)).drew w.heap.size 78 [.int .i64 4, .string ⟨s.toArray⟩, .slice ea es.length ec, .slice ba b.length bc, .slice la l.length lc, .int .i64 p] := (Blk.new w 78 [.int .i64 4, .string ⟨s.toArray⟩, .slice ea es.length ec, .slice ba b.length bc, .slice la l.length lc, .int .i64 p]).drew
  have hE0 : Ext w (w.alloc (.cells #[.int .i64 4, .string ⟨s.toArray⟩, .slice ea es.length ec, .slice ba b.length bc, .slice la l.length lc, .int .i64 p] 78)).drew := ((Ext.refl w).alloc _).drew
  refine phase_begin (fun w' => Blk w' w.heap.size 78 [.int .i64 4, .string ⟨s.toArray⟩, .slice ea es.length ec, .slice ba b.length bc, .slice la l.length lc, .int .i64 p]) 8 (by kernel_rfl) ?_
  refine phase_take (i := 0) (v := .pointer (some ⟨w.heap.size, 2, none⟩)) rfl (by kernel_rfl) (by omega) (by kernel_rfl) (by kernel_rfl) (by kernel_rfl) (fun _ _ _ h => h) ⟨by rfl, ?_⟩ hS ?_
  · intro wS hSw
    obtain ⟨s0, s1, s2, s3, s4, s5, sf⟩ := Blk.six hSw
    go_simp
    all_goals omega
  simp only [Act.put, List.getElem_toArray, List.getElem_cons_succ, List.getElem_cons_zero, List.setIfInBounds_toArray, List.set_cons_zero, List.set_cons_succ]
  refine phase_take (i := 1) (v := .slice ea es.length ec) rfl (by kernel_rfl) (by omega) (by kernel_rfl) (by kernel_rfl) (by kernel_rfl) (fun _ _ _ h => h) ⟨by rfl, ?_⟩ hS ?_
  · intro wS hSw
    obtain ⟨s0, s1, s2, s3, s4, s5, sf⟩ := Blk.six hSw
    go_simp
    all_goals omega
  simp only [Act.put, List.getElem_toArray, List.getElem_cons_succ, List.getElem_cons_zero, List.setIfInBounds_toArray, List.set_cons_zero, List.set_cons_succ]
  refine phase_take (i := 3) (v := .pointer (some ⟨w.heap.size, 2, none⟩)) rfl (by kernel_rfl) (by omega) (by kernel_rfl) (by kernel_rfl) (by kernel_rfl) (fun _ _ _ h => h) ⟨by rfl, ?_⟩ hS ?_
  · intro wS hSw
    obtain ⟨s0, s1, s2, s3, s4, s5, sf⟩ := Blk.six hSw
    go_simp
    all_goals omega
  simp only [Act.put, List.getElem_toArray, List.getElem_cons_succ, List.getElem_cons_zero, List.setIfInBounds_toArray, List.set_cons_zero, List.set_cons_succ]
  refine phase_take (i := 4) (v := .slice ea es.length ec) rfl (by kernel_rfl) (by omega) (by kernel_rfl) (by kernel_rfl) (by kernel_rfl) (fun _ _ _ h => h) ⟨by rfl, ?_⟩ hS ?_
  · intro wS hSw
    obtain ⟨s0, s1, s2, s3, s4, s5, sf⟩ := Blk.six hSw
    go_simp
    all_goals omega
  simp only [Act.put, List.getElem_toArray, List.getElem_cons_succ, List.getElem_cons_zero, List.setIfInBounds_toArray, List.set_cons_zero, List.set_cons_succ]
  refine phase_one (i := 2) (by kernel_rfl) (by omega) rfl (by rfl) (fun K hK => ?_)
  go_simp
  refine (nth_any _ ea ec es F ekks hcap (hc.ext hE0) (exEnc.exts hq hE0) 0 (by omega) (fun z hz => (HK.out z hz).at (HT.out.ext hE0) F) hn).mono ?_
  rintro e w1 ⟨rfl, x1⟩
  have hS1 := Blk.ext hS x1
  refine hK _ _ ⟨hS1, ?_⟩
  clear hK K
  try simp only [Act.put, List.getElem_toArray, List.getElem_cons_succ, List.getElem_cons_zero, List.setIfInBounds_toArray, List.set_cons_zero, List.set_cons_succ]
  refine phase_one (i := 5) (by kernel_rfl) (by omega) rfl (by rfl) (fun K hK => ?_)
  go_simp
  refine (nth_any _ ea ec es F ekks hcap (hc.ext (hE0.trans x1)) (exEnc.exts hq (hE0.trans x1)) 1 (by omega) (fun z hz => (HK.out z hz).at (HT.out.ext (hE0.trans x1)) F) hn).mono ?_
  rintro e w2 ⟨rfl, x2⟩
  have hS2 := Blk.ext hS1 x2
  refine hK _ _ ⟨hS2, ?_⟩
  clear hK K
  try simp only [Act.put, List.getElem_toArray, List.getElem_cons_succ, List.getElem_cons_zero, List.setIfInBounds_toArray, List.set_cons_zero, List.set_cons_succ]
  refine phase_take (i := 6) (v := .string ⟨(nthS (showEs es) 0).toArray⟩) rfl (by kernel_rfl) (by omega) (by kernel_rfl) (by kernel_rfl) (by kernel_rfl) (fun _ _ _ h => h) ⟨by rfl, ?_⟩ hS2 ?_
  · intro wS hSw
    obtain ⟨s0, s1, s2, s3, s4, s5, sf⟩ := Blk.six hSw
    go_simp
    all_goals omega
  simp only [Act.put, List.getElem_toArray, List.getElem_cons_succ, List.getElem_cons_zero, List.setIfInBounds_toArray, List.set_cons_zero, List.set_cons_succ]
  refine phase_take (i := 7) (v := .string ⟨(nthS (showEs es) 1).toArray⟩) rfl (by kernel_rfl) (by omega) (by kernel_rfl) (by kernel_rfl) (by kernel_rfl) (fun _ _ _ h => h) ⟨by rfl, ?_⟩ hS2 ?_
  · intro wS hSw
    obtain ⟨s0, s1, s2, s3, s4, s5, sf⟩ := Blk.six hSw
    go_simp
    all_goals omega
  simp only [Act.put, List.getElem_toArray, List.getElem_cons_succ, List.getElem_cons_zero, List.setIfInBounds_toArray, List.set_cons_zero, List.set_cons_succ]
  have x02 := (hE0.trans x1).trans x2
  obtain ⟨s0, s1, s2, s3, s4, s5, sf⟩ := Blk.six hS2
  have lS2 := Blk.lt hS2
  refine phase_done (by kernel_rfl) ?_
  go_wp2_with fail
  have hE2 := x02.drew
  have hSb : Blk w2.drew w.heap.size 78 [.int .i64 4, .string ⟨s.toArray⟩, .slice ea es.length ec, .slice ba b.length bc, .slice la l.length lc, .int .i64 p] := hS2
  refine phase_begin (fun w' => Blk w' w.heap.size 78 [.int .i64 4, .string ⟨s.toArray⟩, .slice ea es.length ec, .slice ba b.length bc, .slice la l.length lc, .int .i64 p]) 15 (by kernel_rfl) ?_
  refine phase_take (i := 0) (v := .pointer (some ⟨w.heap.size, 1, none⟩)) rfl (by kernel_rfl) (by omega) (by kernel_rfl) (by kernel_rfl) (by kernel_rfl) (fun _ _ _ h => h) ⟨by rfl, ?_⟩ hSb ?_
  · intro wS hSw
    obtain ⟨s0, s1, s2, s3, s4, s5, sf⟩ := Blk.six hSw
    go_simp
    all_goals omega
  simp only [Act.put, List.getElem_toArray, List.getElem_cons_succ, List.getElem_cons_zero, List.setIfInBounds_toArray, List.set_cons_zero, List.set_cons_succ]
  refine phase_take (i := 1) (v := .string ⟨s.toArray⟩) rfl (by kernel_rfl) (by omega) (by kernel_rfl) (by kernel_rfl) (by kernel_rfl) (fun _ _ _ h => h) ⟨by rfl, ?_⟩ hSb ?_
  · intro wS hSw
    obtain ⟨s0, s1, s2, s3, s4, s5, sf⟩ := Blk.six hSw
    go_simp
    all_goals omega
  simp only [Act.put, List.getElem_toArray, List.getElem_cons_succ, List.getElem_cons_zero, List.setIfInBounds_toArray, List.set_cons_zero, List.set_cons_succ]
  refine phase_take (i := 2) (v := .string (⟨#[102, 111, 114, 32]⟩ ++ ⟨s.toArray⟩)) rfl (by kernel_rfl) (by omega) (by kernel_rfl) (by kernel_rfl) (by kernel_rfl) (fun _ _ _ h => h) ⟨by rfl, ?_⟩ hSb ?_
  · intro wS hSw
    obtain ⟨s0, s1, s2, s3, s4, s5, sf⟩ := Blk.six hSw
    go_simp
    all_goals omega
  simp only [Act.put, List.getElem_toArray, List.getElem_cons_succ, List.getElem_cons_zero, List.setIfInBounds_toArray, List.set_cons_zero, List.set_cons_succ]
  refine phase_take (i := 3) (v := .string ((⟨#[102, 111, 114, 32]⟩ ++ ⟨s.toArray⟩) ++ ⟨#[32, 61, 32]⟩)) rfl (by kernel_rfl) (by omega) (by kernel_rfl) (by kernel_rfl) (by kernel_rfl) (fun _ _ _ h => h) ⟨by rfl, ?_⟩ hSb ?_
  · intro wS hSw
    obtain ⟨s0, s1, s2, s3, s4, s5, sf⟩ := Blk.six hSw
    go_simp
    all_goals omega
  simp only [Act.put, List.getElem_toArray, List.getElem_cons_succ, List.getElem_cons_zero, List.setIfInBounds_toArray, List.set_cons_zero, List.set_cons_succ]
  refine phase_take (i := 4) (v := .string ⟨(nthS (showEs es) 0).toArray⟩) rfl (by kernel_rfl) (by omega) (by kernel_rfl) (by kernel_rfl) (by kernel_rfl) (fun _ _ _ h => h) ⟨by rfl, ?_⟩ hSb ?_
  · intro wS hSw
    obtain ⟨s0, s1, s2, s3, s4, s5, sf⟩ := Blk.six hSw
    go_simp
    all_goals omega
  simp only [Act.put, List.getElem_toArray, List.getElem_cons_succ, List.getElem_cons_zero, List.setIfInBounds_toArray, List.set_cons_zero, List.set_cons_succ]
  refine phase_take (i := 5) (v := .string (((⟨#[102, 111, 114, 32]⟩ ++ ⟨s.toArray⟩) ++ ⟨#[32, 61, 32]⟩) ++ ⟨(nthS (showEs es) 0).toArray⟩)) rfl (by kernel_rfl) (by omega) (by kernel_rfl) (by kernel_rfl) (by kernel_rfl) (fun _ _ _ h => h) ⟨by rfl, ?_⟩ hSb ?_
  · intro wS hSw
    obtain ⟨s0, s1, s2, s3, s4, s5, sf⟩ := Blk.six hSw
    go_simp
    all_goals omega
  simp only [Act.put, List.getElem_toArray, List.getElem_cons_succ, List.getElem_cons_zero, List.setIfInBounds_toArray, List.set_cons_zero, List.set_cons_succ]
  refine phase_take (i := 6) (v := .string ((((⟨#[102, 111, 114, 32]⟩ ++ ⟨s.toArray⟩) ++ ⟨#[32, 61, 32]⟩) ++ ⟨(nthS (showEs es) 0).toArray⟩) ++ ⟨#[32, 116, 111, 32]⟩)) rfl (by kernel_rfl) (by omega) (by kernel_rfl) (by kernel_rfl) (by kernel_rfl) (fun _ _ _ h => h) ⟨by rfl, ?_⟩ hSb ?_
  · intro wS hSw
    obtain ⟨s0, s1, s2, s3, s4, s5, sf⟩ := Blk.six hSw
    go_simp
    all_goals omega
  simp only [Act.put, List.getElem_toArray, List.getElem_cons_succ, List.getElem_cons_zero, List.setIfInBounds_toArray, List.set_cons_zero, List.set_cons_succ]
  refine phase_take (i := 7) (v := .string ⟨(nthS (showEs es) 1).toArray⟩) rfl (by kernel_rfl) (by omega) (by kernel_rfl) (by kernel_rfl) (by kernel_rfl) (fun _ _ _ h => h) ⟨by rfl, ?_⟩ hSb ?_
  · intro wS hSw
    obtain ⟨s0, s1, s2, s3, s4, s5, sf⟩ := Blk.six hSw
    go_simp
    all_goals omega
  simp only [Act.put, List.getElem_toArray, List.getElem_cons_succ, List.getElem_cons_zero, List.setIfInBounds_toArray, List.set_cons_zero, List.set_cons_succ]
  refine phase_take (i := 8) (v := .string (((((⟨#[102, 111, 114, 32]⟩ ++ ⟨s.toArray⟩) ++ ⟨#[32, 61, 32]⟩) ++ ⟨(nthS (showEs es) 0).toArray⟩) ++ ⟨#[32, 116, 111, 32]⟩) ++ ⟨(nthS (showEs es) 1).toArray⟩)) rfl (by kernel_rfl) (by omega) (by kernel_rfl) (by kernel_rfl) (by kernel_rfl) (fun _ _ _ h => h) ⟨by rfl, ?_⟩ hSb ?_
  · intro wS hSw
    obtain ⟨s0, s1, s2, s3, s4, s5, sf⟩ := Blk.six hSw
    go_simp
    all_goals omega
  simp only [Act.put, List.getElem_toArray, List.getElem_cons_succ, List.getElem_cons_zero, List.setIfInBounds_toArray, List.set_cons_zero, List.set_cons_succ]
  refine phase_take (i := 9) (v := .string ((((((⟨#[102, 111, 114, 32]⟩ ++ ⟨s.toArray⟩) ++ ⟨#[32, 61, 32]⟩) ++ ⟨(nthS (showEs es) 0).toArray⟩) ++ ⟨#[32, 116, 111, 32]⟩) ++ ⟨(nthS (showEs es) 1).toArray⟩) ++ ⟨#[32]⟩)) rfl (by kernel_rfl) (by omega) (by kernel_rfl) (by kernel_rfl) (by kernel_rfl) (fun _ _ _ h => h) ⟨by rfl, ?_⟩ hSb ?_
  · intro wS hSw
    obtain ⟨s0, s1, s2, s3, s4, s5, sf⟩ := Blk.six hSw
    go_simp
    all_goals omega
  simp only [Act.put, List.getElem_toArray, List.getElem_cons_succ, List.getElem_cons_zero, List.setIfInBounds_toArray, List.set_cons_zero, List.set_cons_succ]
  refine phase_take (i := 10) (v := .pointer (some ⟨w.heap.size, 3, none⟩)) rfl (by kernel_rfl) (by omega) (by kernel_rfl) (by kernel_rfl) (by kernel_rfl) (fun _ _ _ h => h) ⟨by rfl, ?_⟩ hSb ?_
  · intro wS hSw
    obtain ⟨s0, s1, s2, s3, s4, s5, sf⟩ := Blk.six hSw
    go_simp
    all_goals omega
  simp only [Act.put, List.getElem_toArray, List.getElem_cons_succ, List.getElem_cons_zero, List.setIfInBounds_toArray, List.set_cons_zero, List.set_cons_succ]
  refine phase_take (i := 11) (v := .slice ba b.length bc) rfl (by kernel_rfl) (by omega) (by kernel_rfl) (by kernel_rfl) (by kernel_rfl) (fun _ _ _ h => h) ⟨by rfl, ?_⟩ hSb ?_
  · intro wS hSw
    obtain ⟨s0, s1, s2, s3, s4, s5, sf⟩ := Blk.six hSw
    go_simp
    all_goals omega
  simp only [Act.put, List.getElem_toArray, List.getElem_cons_succ, List.getElem_cons_zero, List.setIfInBounds_toArray, List.set_cons_zero, List.set_cons_succ]
  refine phase_one (i := 12) (by kernel_rfl) (by omega) rfl (by rfl) (fun K hK => ?_)
  go_simp
  refine (HB.out _ F ba bc bks (HT.out.ext hE2) hcb0 (hcb.ext hE2) (stEnc.exts hqb hE2)).mono ?_
  rintro e w3 ⟨rfl, x3⟩
  have hS3 := Blk.ext hSb x3
  refine hK _ _ ⟨hS3, ?_⟩
  clear hK K
  try simp only [Act.put, List.getElem_toArray, List.getElem_cons_succ, List.getElem_cons_zero, List.setIfInBounds_toArray, List.set_cons_zero, List.set_cons_succ]
  refine phase_take (i := 13) (v := .string (((((((⟨#[102, 111, 114, 32]⟩ ++ ⟨s.toArray⟩) ++ ⟨#[32, 61, 32]⟩) ++ ⟨(nthS (showEs es) 0).toArray⟩) ++ ⟨#[32, 116, 111, 32]⟩) ++ ⟨(nthS (showEs es) 1).toArray⟩) ++ ⟨#[32]⟩) ++ ⟨(blockText (showSs b)).toArray⟩)) rfl (by kernel_rfl) (by omega) (by kernel_rfl) (by kernel_rfl) (by kernel_rfl) (fun _ _ _ h => h) ⟨by rfl, ?_⟩ hS3 ?_
  · intro wS hSw
    obtain ⟨s0, s1, s2, s3, s4, s5, sf⟩ := Blk.six hSw
    go_simp
    all_goals omega
  simp only [Act.put, List.getElem_toArray, List.getElem_cons_succ, List.getElem_cons_zero, List.setIfInBounds_toArray, List.set_cons_zero, List.set_cons_succ]
  refine phase_take (i := 14) (v := .string (((((((⟨#[102, 111, 114, 32]⟩ ++ ⟨s.toArray⟩) ++ ⟨#[32, 61, 32]⟩) ++ ⟨(nthS (showEs es) 0).toArray⟩) ++ ⟨#[32, 116, 111, 32]⟩) ++ ⟨(nthS (showEs es) 1).toArray⟩) ++ ⟨#[32]⟩) ++ ⟨(blockText (showSs b)).toArray⟩)) rfl (by kernel_rfl) (by omega) (by kernel_rfl) (by kernel_rfl) (by kernel_rfl) (fun _ _ _ h => h) ⟨by rfl, ?_⟩ hS3 ?_
  · intro wS hSw
    obtain ⟨s0, s1, s2, s3, s4, s5, sf⟩ := Blk.six hSw
    go_simp
    all_goals omega
  simp only [Act.put, List.getElem_toArray, List.getElem_cons_succ, List.getElem_cons_zero, List.setIfInBounds_toArray, List.set_cons_zero, List.set_cons_succ]
  refine phase_done (by kernel_rfl) ?_
  go_wp2_with fail
  go_ret
  exact ⟨ret_str (by apply ByteArray.ext; simp [showS, stmtText]), hE2.trans x3⟩
end Go.Proofs.YtaehlakefgnfmaaGreatDoor
