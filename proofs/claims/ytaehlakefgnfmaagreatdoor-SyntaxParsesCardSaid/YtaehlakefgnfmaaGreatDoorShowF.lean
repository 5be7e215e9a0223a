/-
  DERIVED. The texts of all statements; THE WALKS of Show's closures and of Show (printed by gen_showp.py).
-/
import Derived.Test.YtaehlakefgnfmaaGreatDoorShowS
namespace Go.Proofs.YtaehlakefgnfmaaGreatDoor
set_option linter.unusedSimpArgs false
set_option linter.unusedVariables false
set_option maxRecDepth 100000
open Go.RowKit

theorem nth0_one (x : Ex) : nthS (showEs [x]) 0 = showE x := rfl
theorem nth1_one (x : Ex) : nthS (showEs [x]) 1 = [] := rfl
theorem nth0_two (x y : Ex) : nthS (showEs [x, y]) 0 = showE x := rfl
theorem nth1_two (x y : Ex) : nthS (showEs [x, y]) 1 = showE y := rfl
theorem stsizes_len (l : List St) : l.length ≤ St.sizes l := by
  induction l with
  | nil => simp [St.sizes]
  | cons y l ih => have := y.size_pos; simp only [St.sizes, List.length_cons]; omega
theorem stsize_mem {x : St} : ∀ (l : List St), x ∈ l → x.size ≤ St.sizes l := by
  intro l
  induction l with
  | nil => intro h; cases h
  | cons y l ih =>
    intro h
    simp only [St.sizes]
    rcases List.mem_cons.1 h with rfl | h
    · omega
    · have := ih h; omega
theorem blockT_of (b : List St) (hw : ∀ s ∈ b, WFs s) (ih : ∀ s ∈ b, s.size ≤ 100000 → StmtT s) (hz : St.sizes b ≤ 100000) : BlockT b := by
  refine block_text b (fun x hx => ?_) (by have := stsizes_len b; omega) ?_
  · have h1 := stsize_mem b hx
    have h2 := showS_len x (hw x hx)
    exact ⟨ih x hx (by omega), by omega⟩
  · have := block_len b fun s hs => showS_len s (hw s hs)
    omega
/-- STMT. -/
theorem showS_any (x : St) (h : WFs x) : x.size ≤ 100000 → StmtT x := by
  induction h with
  | let_ nm x p h hx =>
    intro hz w F vs ht hv
    have hlx := showE_len x hx
    have hpx := x.size_pos
    simp only [St.size, St.sizes, Ex.sizes] at hz
    simp only [StIs] at hv
    obtain ⟨ve, vb, vl, rfl, ⟨ea, ec, ekks, rfl, hce, hc, hq⟩, ⟨ba, bc, bks, rfl, hcb0, hcb, hqb⟩, ⟨la, lc, lks, rfl, hcl0, hcl, hql⟩⟩ := hv
    have hk : ∀ z ∈ ([x] : List Ex), ExprT z := fun z hz' => by
      rw [List.mem_singleton.1 hz']; exact showE_any x hx (by omega)
    exact stmtT_let w F nm (by have := h.2.2.2; omega) [x] (by rw [nth0_one]; omega) (by rw [nth1_one]; simp) (by simp) ea ec ekks hce hc hq hk [] [] ba la bc lc p ht
  | set_ nm x p h hx =>
    intro hz w F vs ht hv
    have hlx := showE_len x hx
    have hpx := x.size_pos
    simp only [St.size, St.sizes, Ex.sizes] at hz
    simp only [StIs] at hv
    obtain ⟨ve, vb, vl, rfl, ⟨ea, ec, ekks, rfl, hce, hc, hq⟩, ⟨ba, bc, bks, rfl, hcb0, hcb, hqb⟩, ⟨la, lc, lks, rfl, hcl0, hcl, hql⟩⟩ := hv
    have hk : ∀ z ∈ ([x] : List Ex), ExprT z := fun z hz' => by
      rw [List.mem_singleton.1 hz']; exact showE_any x hx (by omega)
    exact stmtT_set w F nm (by have := h.2.2.2; omega) [x] (by rw [nth0_one]; omega) (by rw [nth1_one]; simp) (by simp) ea ec ekks hce hc hq hk [] [] ba la bc lc p ht
  | if_ x b l p hx hb hl ihb ihl =>
    intro hz w F vs ht hv
    have hlx := showE_len x hx
    have hpx := x.size_pos
    simp only [St.size, St.sizes, Ex.sizes] at hz
    simp only [StIs] at hv
    obtain ⟨ve, vb, vl, rfl, ⟨ea, ec, ekks, rfl, hce, hc, hq⟩, ⟨ba, bc, bks, rfl, hcb0, hcb, hqb⟩, ⟨la, lc, lks, rfl, hcl0, hcl, hql⟩⟩ := hv
    have hk : ∀ z ∈ ([x] : List Ex), ExprT z := fun z hz' => by
      rw [List.mem_singleton.1 hz']; exact showE_any x hx (by omega)
    have hB := blockT_of b hb ihb (by omega)
    have hL := blockT_of l hl ihl (by omega)
    have hbl := block_len b fun s hs => showS_len s (hb s hs)
    have hll := block_len l fun s hs => showS_len s (hl s hs)
    by_cases hnl : l = []
    · exact stmtT_if w F [] (by simp) [x] (by rw [nth0_one]; omega) (by rw [nth1_one]; simp) (by simp) ea ec ekks hce hc hq hk b l ba la bc lc p ht hB (by omega) bks hcb0 hcb hqb hnl
    · exact stmtT_ifelse w F [] (by simp) [x] (by rw [nth0_one]; omega) (by rw [nth1_one]; simp) (by simp) ea ec ekks hce hc hq hk b l ba la bc lc p ht hB (by omega) bks hcb0 hcb hqb hL (by omega) lks hcl0 hcl hql hnl
  | for_ nm x y b p h hx hy hb ihb =>
    intro hz w F vs ht hv
    have hlx := showE_len x hx
    have hpx := x.size_pos
    have hly := showE_len y hy
    have hpy := y.size_pos
    simp only [St.size, St.sizes, Ex.sizes] at hz
    simp only [StIs] at hv
    obtain ⟨ve, vb, vl, rfl, ⟨ea, ec, ekks, rfl, hce, hc, hq⟩, ⟨ba, bc, bks, rfl, hcb0, hcb, hqb⟩, ⟨la, lc, lks, rfl, hcl0, hcl, hql⟩⟩ := hv
    have hk : ∀ z ∈ ([x, y] : List Ex), ExprT z := fun z hz' => by
      rcases List.mem_cons.1 hz' with rfl | hz'
      · exact showE_any _ hx (by omega)
      · rw [List.mem_singleton.1 hz']; exact showE_any _ hy (by omega)
    have hB := blockT_of b hb ihb (by omega)
    have hbl := block_len b fun s hs => showS_len s (hb s hs)
    exact stmtT_for w F nm (by have := h.2.2.2; omega) [x, y] (by rw [nth0_two]; omega) (by rw [nth1_two]; omega) (by simp) ea ec ekks hce hc hq hk b [] ba la bc lc p ht hB (by omega) bks hcb0 hcb hqb
  | ret0 p =>
    intro hz w F vs ht hv
    simp only [St.size, St.sizes, Ex.sizes] at hz
    simp only [StIs] at hv
    obtain ⟨ve, vb, vl, rfl, ⟨ea, ec, ekks, rfl, hce, hc, hq⟩, ⟨ba, bc, bks, rfl, hcb0, hcb, hqb⟩, ⟨la, lc, lks, rfl, hcl0, hcl, hql⟩⟩ := hv
    have hk : ∀ z ∈ ([] : List Ex), ExprT z := fun z hz' => by cases hz'
    exact stmtT_ret0 w F [] (by simp) [] (by simp [nthS, showEs]) (by simp [nthS, showEs]) (by simp) ea ec ekks hce hc hq hk [] [] ba la bc lc p ht rfl
  | ret1 x p hx =>
    intro hz w F vs ht hv
    have hlx := showE_len x hx
    have hpx := x.size_pos
    simp only [St.size, St.sizes, Ex.sizes] at hz
    simp only [StIs] at hv
    obtain ⟨ve, vb, vl, rfl, ⟨ea, ec, ekks, rfl, hce, hc, hq⟩, ⟨ba, bc, bks, rfl, hcb0, hcb, hqb⟩, ⟨la, lc, lks, rfl, hcl0, hcl, hql⟩⟩ := hv
    have hk : ∀ z ∈ ([x] : List Ex), ExprT z := fun z hz' => by
      rw [List.mem_singleton.1 hz']; exact showE_any x hx (by omega)
    exact stmtT_ret1 w F [] (by simp) [x] (by rw [nth0_one]; omega) (by rw [nth1_one]; simp) (by simp) ea ec ekks hce hc hq hk [] [] ba la bc lc p ht (by simp)
  | put x y p hx hy =>
    intro hz w F vs ht hv
    have hlx := showE_len x hx
    have hpx := x.size_pos
    have hly := showE_len y hy
    have hpy := y.size_pos
    simp only [St.size, St.sizes, Ex.sizes] at hz
    simp only [StIs] at hv
    obtain ⟨ve, vb, vl, rfl, ⟨ea, ec, ekks, rfl, hce, hc, hq⟩, ⟨ba, bc, bks, rfl, hcb0, hcb, hqb⟩, ⟨la, lc, lks, rfl, hcl0, hcl, hql⟩⟩ := hv
    have hk : ∀ z ∈ ([x, y] : List Ex), ExprT z := fun z hz' => by
      rcases List.mem_cons.1 hz' with rfl | hz'
      · exact showE_any _ hx (by omega)
      · rw [List.mem_singleton.1 hz']; exact showE_any _ hy (by omega)
    exact stmtT_put w F [] (by simp) [x, y] (by rw [nth0_two]; omega) (by rw [nth1_two]; omega) (by simp) ea ec ekks hce hc hq hk [] [] ba la bc lc p ht
  | del x p hx =>
    intro hz w F vs ht hv
    have hlx := showE_len x hx
    have hpx := x.size_pos
    simp only [St.size, St.sizes, Ex.sizes] at hz
    simp only [StIs] at hv
    obtain ⟨ve, vb, vl, rfl, ⟨ea, ec, ekks, rfl, hce, hc, hq⟩, ⟨ba, bc, bks, rfl, hcb0, hcb, hqb⟩, ⟨la, lc, lks, rfl, hcl0, hcl, hql⟩⟩ := hv
    have hk : ∀ z ∈ ([x] : List Ex), ExprT z := fun z hz' => by
      rw [List.mem_singleton.1 hz']; exact showE_any x hx (by omega)
    exact stmtT_del w F [] (by simp) [x] (by rw [nth0_one]; omega) (by rw [nth1_one]; simp) (by simp) ea ec ekks hce hc hq hk [] [] ba la bc lc p ht
  | do_ x p hx =>
    intro hz w F vs ht hv
    have hlx := showE_len x hx
    have hpx := x.size_pos
    simp only [St.size, St.sizes, Ex.sizes] at hz
    simp only [StIs] at hv
    obtain ⟨ve, vb, vl, rfl, ⟨ea, ec, ekks, rfl, hce, hc, hq⟩, ⟨ba, bc, bks, rfl, hcb0, hcb, hqb⟩, ⟨la, lc, lks, rfl, hcl0, hcl, hql⟩⟩ := hv
    have hk : ∀ z ∈ ([x] : List Ex), ExprT z := fun z hz' => by
      rw [List.mem_singleton.1 hz']; exact showE_any x hx (by omega)
    exact stmtT_do w F [] (by simp) [x] (by rw [nth0_one]; omega) (by rw [nth1_one]; simp) (by simp) ea ec ekks hce hc hq hk [] [] ba la bc lc p ht

theorem two_cells {w : World} {b : Nat} {t : TypeId} {v0 v1 : Value} (h : Blk w b t [v0, v1]) : w.cell? ⟨b, 0, none⟩ = some v0 ∧ w.cell? ⟨b, 1, none⟩ = some v1 ∧ (∀ i, w.frozen? ⟨b, i, none⟩ = false) := ⟨h.cell 0, h.cell 1, h.frozen⟩
theorem typed_ext (w : World) (n : Nat) : Calls Tryz.prog 19 #[.int .i64 n] w fun e w' => e = .returned (.string ⟨(typText n).toArray⟩) ∧ Ext w w' := (typed_any w n).mono fun e w' ⟨h1, h2⟩ => ⟨h1, by rw [← h2]; exact Ext.refl _⟩
theorem showP_enters : ∀ args w', (callFunc 18 args).run Tryz.prog w' = .ok (.enter 18 args) w' := fun _ _ => by simp [go_sem]
theorem showF_enters : ∀ args w', (callFunc 16 args).run Tryz.prog w' = .ok (.enter 16 args) w' := fun _ _ => by simp [go_sem]
set_option maxHeartbeats 4000000 in
theorem param_text (w0 : World) (F : Nat → Prop) (x : Pa) (hs : x.name.length ≤ 1000) : TextC 18 paEnc paText w0 F x := by
  intro w vs hE hv
  have hv' : vs = paCells x := hv
  subst hv'
  obtain ⟨nm, ty⟩ := x
  simp only [paCells]
  simp only at hs
  have hT := typ_len ty
  clear hE hv
  go_enter Tryz.func18, Tryz.ntmps18
  go_wp2_with fail
  have hS : Blk (w.alloc (.cells #[.string ⟨nm.toArray⟩, .int .i64 ty] 53)).drew w.heap.size 53 [.string ⟨nm.toArray⟩, .int .i64 ty] := (Blk.new w 53 [.string ⟨nm.toArray⟩, .int .i64 ty]).drew
  have hE0 : Ext w (w.alloc (.cells #[.string ⟨nm.toArray⟩, .int .i64 ty] 53)).drew := ((Ext.refl w).alloc _).drew
  refine phase_begin (fun w' => Blk w' w.heap.size 53 [.string ⟨nm.toArray⟩, .int .i64 ty]) 8 (by kernel_rfl) ?_
  refine phase_take (i := 0) (v := .pointer (some ⟨w.heap.size, 0, none⟩)) rfl (by kernel_rfl) (by omega) (by kernel_rfl) (by kernel_rfl) (by kernel_rfl) (fun _ _ _ h => h) ⟨by rfl, ?_⟩ hS ?_
  · intro wS hSw
    obtain ⟨s0, s1, sf⟩ := two_cells hSw
    go_simp
    all_goals omega
  simp only [Act.put, List.getElem_toArray, List.getElem_cons_succ, List.getElem_cons_zero, List.setIfInBounds_toArray, List.set_cons_zero, List.set_cons_succ]
  refine phase_take (i := 1) (v := .string ⟨nm.toArray⟩) rfl (by kernel_rfl) (by omega) (by kernel_rfl) (by kernel_rfl) (by kernel_rfl) (fun _ _ _ h => h) ⟨by rfl, ?_⟩ hS ?_
  · intro wS hSw
    obtain ⟨s0, s1, sf⟩ := two_cells hSw
    go_simp
    all_goals omega
  simp only [Act.put, List.getElem_toArray, List.getElem_cons_succ, List.getElem_cons_zero, List.setIfInBounds_toArray, List.set_cons_zero, List.set_cons_succ]
  refine phase_take (i := 2) (v := .string (⟨nm.toArray⟩ ++ ⟨#[58, 32]⟩)) rfl (by kernel_rfl) (by omega) (by kernel_rfl) (by kernel_rfl) (by kernel_rfl) (fun _ _ _ h => h) ⟨by rfl, ?_⟩ hS ?_
  · intro wS hSw
    obtain ⟨s0, s1, sf⟩ := two_cells hSw
    go_simp
    all_goals omega
  simp only [Act.put, List.getElem_toArray, List.getElem_cons_succ, List.getElem_cons_zero, List.setIfInBounds_toArray, List.set_cons_zero, List.set_cons_succ]
  refine phase_take (i := 3) (v := .pointer (some ⟨w.heap.size, 1, none⟩)) rfl (by kernel_rfl) (by omega) (by kernel_rfl) (by kernel_rfl) (by kernel_rfl) (fun _ _ _ h => h) ⟨by rfl, ?_⟩ hS ?_
  · intro wS hSw
    obtain ⟨s0, s1, sf⟩ := two_cells hSw
    go_simp
    all_goals omega
  simp only [Act.put, List.getElem_toArray, List.getElem_cons_succ, List.getElem_cons_zero, List.setIfInBounds_toArray, List.set_cons_zero, List.set_cons_succ]
  refine phase_take (i := 4) (v := .int .i64 ty) rfl (by kernel_rfl) (by omega) (by kernel_rfl) (by kernel_rfl) (by kernel_rfl) (fun _ _ _ h => h) ⟨by rfl, ?_⟩ hS ?_
  · intro wS hSw
    obtain ⟨s0, s1, sf⟩ := two_cells hSw
    go_simp
    all_goals omega
  simp only [Act.put, List.getElem_toArray, List.getElem_cons_succ, List.getElem_cons_zero, List.setIfInBounds_toArray, List.set_cons_zero, List.set_cons_succ]
  refine phase_one (i := 5) (by kernel_rfl) (by omega) rfl (by rfl) (fun K hK => ?_)
  go_simp
  refine (typed_ext _ ty).mono ?_
  rintro e w1 ⟨rfl, x1⟩
  have hS1 := Blk.ext hS x1
  refine hK _ _ ⟨hS1, ?_⟩
  clear hK K
  try simp only [Act.put, List.getElem_toArray, List.getElem_cons_succ, List.getElem_cons_zero, List.setIfInBounds_toArray, List.set_cons_zero, List.set_cons_succ]
  refine phase_take (i := 6) (v := .string ((⟨nm.toArray⟩ ++ ⟨#[58, 32]⟩) ++ ⟨(typText ty).toArray⟩)) rfl (by kernel_rfl) (by omega) (by kernel_rfl) (by kernel_rfl) (by kernel_rfl) (fun _ _ _ h => h) ⟨by rfl, ?_⟩ hS1 ?_
  · intro wS hSw
    obtain ⟨s0, s1, sf⟩ := two_cells hSw
    go_simp
    all_goals omega
  simp only [Act.put, List.getElem_toArray, List.getElem_cons_succ, List.getElem_cons_zero, List.setIfInBounds_toArray, List.set_cons_zero, List.set_cons_succ]
  refine phase_take (i := 7) (v := .string ((⟨nm.toArray⟩ ++ ⟨#[58, 32]⟩) ++ ⟨(typText ty).toArray⟩)) rfl (by kernel_rfl) (by omega) (by kernel_rfl) (by kernel_rfl) (by kernel_rfl) (fun _ _ _ h => h) ⟨by rfl, ?_⟩ hS1 ?_
  · intro wS hSw
    obtain ⟨s0, s1, sf⟩ := two_cells hSw
    go_simp
    all_goals omega
  simp only [Act.put, List.getElem_toArray, List.getElem_cons_succ, List.getElem_cons_zero, List.setIfInBounds_toArray, List.set_cons_zero, List.set_cons_succ]
  refine phase_done (by kernel_rfl) ?_
  go_wp2_with fail
  go_ret
  exact ⟨ret_str (by apply ByteArray.ext; simp [paText]), hE0.trans x1⟩

set_option maxHeartbeats 8000000 in
theorem fun_text0 (w0 : World) (F : Nat → Prop) (ht0 : Tab w0) (x : Fu) (hr : x.result = 0) (hw : x.wf) (hz : x.size ≤ 100000) : TextC 16 fuEnc funText w0 F x := by
  intro w vs hE hv
  obtain ⟨nm, ps, rs, bd, at_⟩ := x
  have hlen := fun_len ⟨nm, ps, rs, bd, at_⟩ hw
  obtain ⟨h1, h2, h3, h4⟩ := hw
  have hnm := h1.2.2.2
  have hpl := params_len ps h2
  have hbl := block_len bd fun s hs => showS_len s (h4 s hs)
  simp only [Fu.size] at hz hnm h3
  obtain ⟨vp, vb, rfl, ⟨pa, pc, pks, rfl, hcp0, hcp, hqp⟩, ⟨ba, bc, bks, rfl, hcb0, hcb, hqb⟩⟩ := hv
  have HB := hid (blockT_of bd h4 (fun s hs hz => showS_any s (h4 s hs) hz) (by omega))
  have HT := hid (ht0.ext hE)
  have HP := hid (fun (w0 : World) => fun p hp => param_text w0 F p (by have := (h2 p hp).1.2.2.2; omega))
  have hqp' : paEnc.all w F ps pks := hqp
  have hqb' : stEnc.all w F bd bks := hqb
  have hlj : (Lib.join (ps.map paText) [44, 32]).length ≤ 100000000 := by omega
  have hlb : (blockText (showSs bd)).length ≤ 100000000 := by omega
  clear hlen h1 h2 h4 hE hpl hbl hqp hqb
  simp only at hr
  subst hr
  go_enter Tryz.func16, Tryz.ntmps16
  go_wp2_with fail
  have hS : Blk (w.alloc (.cells #[.string ⟨nm.toArray⟩, .slice pa ps.length pc, .int .i64 0, .slice ba bd.length bc, .int .i64 at_] 36)).drew w.heap.size 36 [.string ⟨nm.toArray⟩, .slice pa ps.length pc, .int .i64 0, .slice ba bd.length bc, .int .i64 at_] := (Blk.new w 36 [.string ⟨nm.toArray⟩, .slice pa ps.length pc, .int .i64 0, .slice ba bd.length bc, .int .i64 at_]).drew
  have hE0 : Ext w (w.alloc (.cells #[.string ⟨nm.toArray⟩, .slice pa ps.length pc, .int .i64 0, .slice ba bd.length bc, .int .i64 at_] 36)).drew := ((Ext.refl w).alloc _).drew
  refine phase_begin (fun w' => Blk w' w.heap.size 36 [.string ⟨nm.toArray⟩, .slice pa ps.length pc, .int .i64 0, .slice ba bd.length bc, .int .i64 at_]) 10 (by kernel_rfl) ?_
  refine phase_take (i := 0) (v := .pointer (some ⟨w.heap.size, 0, none⟩)) rfl (by kernel_rfl) (by omega) (by kernel_rfl) (by kernel_rfl) (by kernel_rfl) (fun _ _ _ h => h) ⟨by rfl, ?_⟩ hS ?_
  · intro wS hSw
    obtain ⟨s0, s1, s2, s3, s4, sf⟩ := Blk.five hSw
    go_simp
    all_goals omega
  simp only [Act.put, List.getElem_toArray, List.getElem_cons_succ, List.getElem_cons_zero, List.setIfInBounds_toArray, List.set_cons_zero, List.set_cons_succ]
  refine phase_take (i := 1) (v := .string ⟨nm.toArray⟩) rfl (by kernel_rfl) (by omega) (by kernel_rfl) (by kernel_rfl) (by kernel_rfl) (fun _ _ _ h => h) ⟨by rfl, ?_⟩ hS ?_
  · intro wS hSw
    obtain ⟨s0, s1, s2, s3, s4, sf⟩ := Blk.five hSw
    go_simp
    all_goals omega
  simp only [Act.put, List.getElem_toArray, List.getElem_cons_succ, List.getElem_cons_zero, List.setIfInBounds_toArray, List.set_cons_zero, List.set_cons_succ]
  refine phase_take (i := 2) (v := .string (⟨#[102, 110, 32]⟩ ++ ⟨nm.toArray⟩)) rfl (by kernel_rfl) (by omega) (by kernel_rfl) (by kernel_rfl) (by kernel_rfl) (fun _ _ _ h => h) ⟨by rfl, ?_⟩ hS ?_
  · intro wS hSw
    obtain ⟨s0, s1, s2, s3, s4, sf⟩ := Blk.five hSw
    go_simp
    all_goals omega
  simp only [Act.put, List.getElem_toArray, List.getElem_cons_succ, List.getElem_cons_zero, List.setIfInBounds_toArray, List.set_cons_zero, List.set_cons_succ]
  refine phase_take (i := 3) (v := .string ((⟨#[102, 110, 32]⟩ ++ ⟨nm.toArray⟩) ++ ⟨#[40]⟩)) rfl (by kernel_rfl) (by omega) (by kernel_rfl) (by kernel_rfl) (by kernel_rfl) (fun _ _ _ h => h) ⟨by rfl, ?_⟩ hS ?_
  · intro wS hSw
    obtain ⟨s0, s1, s2, s3, s4, sf⟩ := Blk.five hSw
    go_simp
    all_goals omega
  simp only [Act.put, List.getElem_toArray, List.getElem_cons_succ, List.getElem_cons_zero, List.setIfInBounds_toArray, List.set_cons_zero, List.set_cons_succ]
  refine phase_take (i := 4) (v := .pointer (some ⟨w.heap.size, 1, none⟩)) rfl (by kernel_rfl) (by omega) (by kernel_rfl) (by kernel_rfl) (by kernel_rfl) (fun _ _ _ h => h) ⟨by rfl, ?_⟩ hS ?_
  · intro wS hSw
    obtain ⟨s0, s1, s2, s3, s4, sf⟩ := Blk.five hSw
    go_simp
    all_goals omega
  simp only [Act.put, List.getElem_toArray, List.getElem_cons_succ, List.getElem_cons_zero, List.setIfInBounds_toArray, List.set_cons_zero, List.set_cons_succ]
  refine phase_take (i := 5) (v := .slice pa ps.length pc) rfl (by kernel_rfl) (by omega) (by kernel_rfl) (by kernel_rfl) (by kernel_rfl) (fun _ _ _ h => h) ⟨by rfl, ?_⟩ hS ?_
  · intro wS hSw
    obtain ⟨s0, s1, s2, s3, s4, sf⟩ := Blk.five hSw
    go_simp
    all_goals omega
  simp only [Act.put, List.getElem_toArray, List.getElem_cons_succ, List.getElem_cons_zero, List.setIfInBounds_toArray, List.set_cons_zero, List.set_cons_succ]
  refine phase_one (i := 6) (by kernel_rfl) (by omega) rfl (by rfl) (fun K hK => ?_)
  go_simp
  refine (joinP_any _ pa pc ps F pks hcp0 (hcp.ext hE0) (paEnc.exts hqp' hE0) [44, 32] 18 paText showP_enters (fun p hp => HP.out _ p hp) (by omega) (by omega)).mono ?_
  rintro e w1 ⟨rfl, x1⟩
  have hS1 := Blk.ext hS x1
  refine hK _ _ ⟨hS1, ?_⟩
  clear hK K
  try simp only [Act.put, List.getElem_toArray, List.getElem_cons_succ, List.getElem_cons_zero, List.setIfInBounds_toArray, List.set_cons_zero, List.set_cons_succ]
  refine phase_take (i := 7) (v := .string (((⟨#[102, 110, 32]⟩ ++ ⟨nm.toArray⟩) ++ ⟨#[40]⟩) ++ ⟨(Lib.join (ps.map paText) [44, 32]).toArray⟩)) rfl (by kernel_rfl) (by omega) (by kernel_rfl) (by kernel_rfl) (by kernel_rfl) (fun _ _ _ h => h) ⟨by rfl, ?_⟩ hS1 ?_
  · intro wS hSw
    obtain ⟨s0, s1, s2, s3, s4, sf⟩ := Blk.five hSw
    go_simp
    all_goals omega
  simp only [Act.put, List.getElem_toArray, List.getElem_cons_succ, List.getElem_cons_zero, List.setIfInBounds_toArray, List.set_cons_zero, List.set_cons_succ]
  refine phase_take (i := 8) (v := .string ((((⟨#[102, 110, 32]⟩ ++ ⟨nm.toArray⟩) ++ ⟨#[40]⟩) ++ ⟨(Lib.join (ps.map paText) [44, 32]).toArray⟩) ++ ⟨#[41]⟩)) rfl (by kernel_rfl) (by omega) (by kernel_rfl) (by kernel_rfl) (by kernel_rfl) (fun _ _ _ h => h) ⟨by rfl, ?_⟩ hS1 ?_
  · intro wS hSw
    obtain ⟨s0, s1, s2, s3, s4, sf⟩ := Blk.five hSw
    go_simp
    all_goals omega
  simp only [Act.put, List.getElem_toArray, List.getElem_cons_succ, List.getElem_cons_zero, List.setIfInBounds_toArray, List.set_cons_zero, List.set_cons_succ]
  refine phase_take (i := 9) (v := .string ((((⟨#[102, 110, 32]⟩ ++ ⟨nm.toArray⟩) ++ ⟨#[40]⟩) ++ ⟨(Lib.join (ps.map paText) [44, 32]).toArray⟩) ++ ⟨#[41]⟩)) rfl (by kernel_rfl) (by omega) (by kernel_rfl) (by kernel_rfl) (by kernel_rfl) (fun _ _ _ h => h) ⟨by rfl, ?_⟩ hS1 ?_
  · intro wS hSw
    obtain ⟨s0, s1, s2, s3, s4, sf⟩ := Blk.five hSw
    go_simp
    all_goals omega
  simp only [Act.put, List.getElem_toArray, List.getElem_cons_succ, List.getElem_cons_zero, List.setIfInBounds_toArray, List.set_cons_zero, List.set_cons_succ]
  have x01 := hE0.trans x1
  obtain ⟨s0, s1, s2, s3, s4, sf⟩ := Blk.five hS1
  refine phase_done (by kernel_rfl) ?_
  go_wp2_with fail
  refine (typed_any w1 0).mono ?_
  rintro e w' ⟨rfl, rfl⟩
  rw [show typText 0 = [] from rfl]
  go_wp2_with fail
  refine (HB.out w1 F ba bc bks (HT.out.ext x01) hcb0 (hcb.ext x01) (stEnc.exts hqb' x01)).mono ?_
  rintro e w3 ⟨rfl, x3⟩
  go_wp2_with fail
  go_ret
  exact ⟨ret_str (by apply ByteArray.ext; simp [funText, typText]), x01.trans x3⟩

set_option maxHeartbeats 8000000 in
theorem fun_text1 (w0 : World) (F : Nat → Prop) (ht0 : Tab w0) (x : Fu) (hr : x.result = 1) (hw : x.wf) (hz : x.size ≤ 100000) : TextC 16 fuEnc funText w0 F x := by
  intro w vs hE hv
  obtain ⟨nm, ps, rs, bd, at_⟩ := x
  have hlen := fun_len ⟨nm, ps, rs, bd, at_⟩ hw
  obtain ⟨h1, h2, h3, h4⟩ := hw
  have hnm := h1.2.2.2
  have hpl := params_len ps h2
  have hbl := block_len bd fun s hs => showS_len s (h4 s hs)
  simp only [Fu.size] at hz hnm h3
  obtain ⟨vp, vb, rfl, ⟨pa, pc, pks, rfl, hcp0, hcp, hqp⟩, ⟨ba, bc, bks, rfl, hcb0, hcb, hqb⟩⟩ := hv
  have HB := hid (blockT_of bd h4 (fun s hs hz => showS_any s (h4 s hs) hz) (by omega))
  have HT := hid (ht0.ext hE)
  have HP := hid (fun (w0 : World) => fun p hp => param_text w0 F p (by have := (h2 p hp).1.2.2.2; omega))
  have hqp' : paEnc.all w F ps pks := hqp
  have hqb' : stEnc.all w F bd bks := hqb
  have hlj : (Lib.join (ps.map paText) [44, 32]).length ≤ 100000000 := by omega
  have hlb : (blockText (showSs bd)).length ≤ 100000000 := by omega
  clear hlen h1 h2 h4 hE hpl hbl hqp hqb
  simp only at hr
  subst hr
  go_enter Tryz.func16, Tryz.ntmps16
  go_wp2_with fail
  have hS : Blk (w.alloc (.cells #[.string ⟨nm.toArray⟩, .slice pa ps.length pc, .int .i64 1, .slice ba bd.length bc, .int .i64 at_] 36)).drew w.heap.size 36 [.string ⟨nm.toArray⟩, .slice pa ps.length pc, .int .i64 1, .slice ba bd.length bc, .int .i64 at_] := (Blk.new w 36 [.string ⟨nm.toArray⟩, .slice pa ps.length pc, .int .i64 1, .slice ba bd.length bc, .int .i64 at_]).drew
  have hE0 : Ext w (w.alloc (.cells #[.string ⟨nm.toArray⟩, .slice pa ps.length pc, .int .i64 1, .slice ba bd.length bc, .int .i64 at_] 36)).drew := ((Ext.refl w).alloc _).drew
  refine phase_begin (fun w' => Blk w' w.heap.size 36 [.string ⟨nm.toArray⟩, .slice pa ps.length pc, .int .i64 1, .slice ba bd.length bc, .int .i64 at_]) 10 (by kernel_rfl) ?_
  refine phase_take (i := 0) (v := .pointer (some ⟨w.heap.size, 0, none⟩)) rfl (by kernel_rfl) (by omega) (by kernel_rfl) (by kernel_rfl) (by kernel_rfl) (fun _ _ _ h => h) ⟨by rfl, ?_⟩ hS ?_
  · intro wS hSw
    obtain ⟨s0, s1, s2, s3, s4, sf⟩ := Blk.five hSw
    go_simp
    all_goals omega
  simp only [Act.put, List.getElem_toArray, List.getElem_cons_succ, List.getElem_cons_zero, List.setIfInBounds_toArray, List.set_cons_zero, List.set_cons_succ]
  refine phase_take (i := 1) (v := .string ⟨nm.toArray⟩) rfl (by kernel_rfl) (by omega) (by kernel_rfl) (by kernel_rfl) (by kernel_rfl) (fun _ _ _ h => h) ⟨by rfl, ?_⟩ hS ?_
  · intro wS hSw
    obtain ⟨s0, s1, s2, s3, s4, sf⟩ := Blk.five hSw
    go_simp
    all_goals omega
  simp only [Act.put, List.getElem_toArray, List.getElem_cons_succ, List.getElem_cons_zero, List.setIfInBounds_toArray, List.set_cons_zero, List.set_cons_succ]
  refine phase_take (i := 2) (v := .string (⟨#[102, 110, 32]⟩ ++ ⟨nm.toArray⟩)) rfl (by kernel_rfl) (by omega) (by kernel_rfl) (by kernel_rfl) (by kernel_rfl) (fun _ _ _ h => h) ⟨by rfl, ?_⟩ hS ?_
  · intro wS hSw
    obtain ⟨s0, s1, s2, s3, s4, sf⟩ := Blk.five hSw
    go_simp
    all_goals omega
  simp only [Act.put, List.getElem_toArray, List.getElem_cons_succ, List.getElem_cons_zero, List.setIfInBounds_toArray, List.set_cons_zero, List.set_cons_succ]
  refine phase_take (i := 3) (v := .string ((⟨#[102, 110, 32]⟩ ++ ⟨nm.toArray⟩) ++ ⟨#[40]⟩)) rfl (by kernel_rfl) (by omega) (by kernel_rfl) (by kernel_rfl) (by kernel_rfl) (fun _ _ _ h => h) ⟨by rfl, ?_⟩ hS ?_
  · intro wS hSw
    obtain ⟨s0, s1, s2, s3, s4, sf⟩ := Blk.five hSw
    go_simp
    all_goals omega
  simp only [Act.put, List.getElem_toArray, List.getElem_cons_succ, List.getElem_cons_zero, List.setIfInBounds_toArray, List.set_cons_zero, List.set_cons_succ]
  refine phase_take (i := 4) (v := .pointer (some ⟨w.heap.size, 1, none⟩)) rfl (by kernel_rfl) (by omega) (by kernel_rfl) (by kernel_rfl) (by kernel_rfl) (fun _ _ _ h => h) ⟨by rfl, ?_⟩ hS ?_
  · intro wS hSw
    obtain ⟨s0, s1, s2, s3, s4, sf⟩ := Blk.five hSw
    go_simp
    all_goals omega
  simp only [Act.put, List.getElem_toArray, List.getElem_cons_succ, List.getElem_cons_zero, List.setIfInBounds_toArray, List.set_cons_zero, List.set_cons_succ]
  refine phase_take (i := 5) (v := .slice pa ps.length pc) rfl (by kernel_rfl) (by omega) (by kernel_rfl) (by kernel_rfl) (by kernel_rfl) (fun _ _ _ h => h) ⟨by rfl, ?_⟩ hS ?_
  · intro wS hSw
    obtain ⟨s0, s1, s2, s3, s4, sf⟩ := Blk.five hSw
    go_simp
    all_goals omega
  simp only [Act.put, List.getElem_toArray, List.getElem_cons_succ, List.getElem_cons_zero, List.setIfInBounds_toArray, List.set_cons_zero, List.set_cons_succ]
  refine phase_one (i := 6) (by kernel_rfl) (by omega) rfl (by rfl) (fun K hK => ?_)
  go_simp
  refine (joinP_any _ pa pc ps F pks hcp0 (hcp.ext hE0) (paEnc.exts hqp' hE0) [44, 32] 18 paText showP_enters (fun p hp => HP.out _ p hp) (by omega) (by omega)).mono ?_
  rintro e w1 ⟨rfl, x1⟩
  have hS1 := Blk.ext hS x1
  refine hK _ _ ⟨hS1, ?_⟩
  clear hK K
  try simp only [Act.put, List.getElem_toArray, List.getElem_cons_succ, List.getElem_cons_zero, List.setIfInBounds_toArray, List.set_cons_zero, List.set_cons_succ]
  refine phase_take (i := 7) (v := .string (((⟨#[102, 110, 32]⟩ ++ ⟨nm.toArray⟩) ++ ⟨#[40]⟩) ++ ⟨(Lib.join (ps.map paText) [44, 32]).toArray⟩)) rfl (by kernel_rfl) (by omega) (by kernel_rfl) (by kernel_rfl) (by kernel_rfl) (fun _ _ _ h => h) ⟨by rfl, ?_⟩ hS1 ?_
  · intro wS hSw
    obtain ⟨s0, s1, s2, s3, s4, sf⟩ := Blk.five hSw
    go_simp
    all_goals omega
  simp only [Act.put, List.getElem_toArray, List.getElem_cons_succ, List.getElem_cons_zero, List.setIfInBounds_toArray, List.set_cons_zero, List.set_cons_succ]
  refine phase_take (i := 8) (v := .string ((((⟨#[102, 110, 32]⟩ ++ ⟨nm.toArray⟩) ++ ⟨#[40]⟩) ++ ⟨(Lib.join (ps.map paText) [44, 32]).toArray⟩) ++ ⟨#[41]⟩)) rfl (by kernel_rfl) (by omega) (by kernel_rfl) (by kernel_rfl) (by kernel_rfl) (fun _ _ _ h => h) ⟨by rfl, ?_⟩ hS1 ?_
  · intro wS hSw
    obtain ⟨s0, s1, s2, s3, s4, sf⟩ := Blk.five hSw
    go_simp
    all_goals omega
  simp only [Act.put, List.getElem_toArray, List.getElem_cons_succ, List.getElem_cons_zero, List.setIfInBounds_toArray, List.set_cons_zero, List.set_cons_succ]
  refine phase_take (i := 9) (v := .string ((((⟨#[102, 110, 32]⟩ ++ ⟨nm.toArray⟩) ++ ⟨#[40]⟩) ++ ⟨(Lib.join (ps.map paText) [44, 32]).toArray⟩) ++ ⟨#[41]⟩)) rfl (by kernel_rfl) (by omega) (by kernel_rfl) (by kernel_rfl) (by kernel_rfl) (fun _ _ _ h => h) ⟨by rfl, ?_⟩ hS1 ?_
  · intro wS hSw
    obtain ⟨s0, s1, s2, s3, s4, sf⟩ := Blk.five hSw
    go_simp
    all_goals omega
  simp only [Act.put, List.getElem_toArray, List.getElem_cons_succ, List.getElem_cons_zero, List.setIfInBounds_toArray, List.set_cons_zero, List.set_cons_succ]
  have x01 := hE0.trans x1
  obtain ⟨s0, s1, s2, s3, s4, sf⟩ := Blk.five hS1
  refine phase_done (by kernel_rfl) ?_
  go_wp2_with fail
  refine (typed_any w1 1).mono ?_
  rintro e w' ⟨rfl, rfl⟩
  rw [show typText 1 = [105, 110, 116] from rfl]
  go_wp2_with fail
  refine (HB.out w1 F ba bc bks (HT.out.ext x01) hcb0 (hcb.ext x01) (stEnc.exts hqb' x01)).mono ?_
  rintro e w3 ⟨rfl, x3⟩
  go_wp2_with fail
  go_ret
  exact ⟨ret_str (by apply ByteArray.ext; simp [funText, typText]), x01.trans x3⟩

set_option maxHeartbeats 8000000 in
theorem fun_text2 (w0 : World) (F : Nat → Prop) (ht0 : Tab w0) (x : Fu) (hr : x.result = 2) (hw : x.wf) (hz : x.size ≤ 100000) : TextC 16 fuEnc funText w0 F x := by
  intro w vs hE hv
  obtain ⟨nm, ps, rs, bd, at_⟩ := x
  have hlen := fun_len ⟨nm, ps, rs, bd, at_⟩ hw
  obtain ⟨h1, h2, h3, h4⟩ := hw
  have hnm := h1.2.2.2
  have hpl := params_len ps h2
  have hbl := block_len bd fun s hs => showS_len s (h4 s hs)
  simp only [Fu.size] at hz hnm h3
  obtain ⟨vp, vb, rfl, ⟨pa, pc, pks, rfl, hcp0, hcp, hqp⟩, ⟨ba, bc, bks, rfl, hcb0, hcb, hqb⟩⟩ := hv
  have HB := hid (blockT_of bd h4 (fun s hs hz => showS_any s (h4 s hs) hz) (by omega))
  have HT := hid (ht0.ext hE)
  have HP := hid (fun (w0 : World) => fun p hp => param_text w0 F p (by have := (h2 p hp).1.2.2.2; omega))
  have hqp' : paEnc.all w F ps pks := hqp
  have hqb' : stEnc.all w F bd bks := hqb
  have hlj : (Lib.join (ps.map paText) [44, 32]).length ≤ 100000000 := by omega
  have hlb : (blockText (showSs bd)).length ≤ 100000000 := by omega
  clear hlen h1 h2 h4 hE hpl hbl hqp hqb
  simp only at hr
  subst hr
  go_enter Tryz.func16, Tryz.ntmps16
  go_wp2_with fail
  have hS : Blk (w.alloc (.cells #[.string ⟨nm.toArray⟩, .slice pa ps.length pc, .int .i64 2, .slice ba bd.length bc, .int .i64 at_] 36)).drew w.heap.size 36 [.string ⟨nm.toArray⟩, .slice pa ps.length pc, .int .i64 2, .slice ba bd.length bc, .int .i64 at_] := (Blk.new w 36 [.string ⟨nm.toArray⟩, .slice pa ps.length pc, .int .i64 2, .slice ba bd.length bc, .int .i64 at_]).drew
  have hE0 : Ext w (w.alloc (.cells #[.string ⟨nm.toArray⟩, .slice pa ps.length pc, .int .i64 2, .slice ba bd.length bc, .int .i64 at_] 36)).drew := ((Ext.refl w).alloc _).drew
  refine phase_begin (fun w' => Blk w' w.heap.size 36 [.string ⟨nm.toArray⟩, .slice pa ps.length pc, .int .i64 2, .slice ba bd.length bc, .int .i64 at_]) 10 (by kernel_rfl) ?_
  refine phase_take (i := 0) (v := .pointer (some ⟨w.heap.size, 0, none⟩)) rfl (by kernel_rfl) (by omega) (by kernel_rfl) (by kernel_rfl) (by kernel_rfl) (fun _ _ _ h => h) ⟨by rfl, ?_⟩ hS ?_
  · intro wS hSw
    obtain ⟨s0, s1, s2, s3, s4, sf⟩ := Blk.five hSw
    go_simp
    all_goals omega
  simp only [Act.put, List.getElem_toArray, List.getElem_cons_succ, List.getElem_cons_zero, List.setIfInBounds_toArray, List.set_cons_zero, List.set_cons_succ]
  refine phase_take (i := 1) (v := .string ⟨nm.toArray⟩) rfl (by kernel_rfl) (by omega) (by kernel_rfl) (by kernel_rfl) (by kernel_rfl) (fun _ _ _ h => h) ⟨by rfl, ?_⟩ hS ?_
  · intro wS hSw
    obtain ⟨s0, s1, s2, s3, s4, sf⟩ := Blk.five hSw
    go_simp
    all_goals omega
  simp only [Act.put, List.getElem_toArray, List.getElem_cons_succ, List.getElem_cons_zero, List.setIfInBounds_toArray, List.set_cons_zero, List.set_cons_succ]
  refine phase_take (i := 2) (v := .string (⟨#[102, 110, 32]⟩ ++ ⟨nm.toArray⟩)) rfl (by kernel_rfl) (by omega) (by kernel_rfl) (by kernel_rfl) (by kernel_rfl) (fun _ _ _ h => h) ⟨by rfl, ?_⟩ hS ?_
  · intro wS hSw
    obtain ⟨s0, s1, s2, s3, s4, sf⟩ := Blk.five hSw
    go_simp
    all_goals omega
  simp only [Act.put, List.getElem_toArray, List.getElem_cons_succ, List.getElem_cons_zero, List.setIfInBounds_toArray, List.set_cons_zero, List.set_cons_succ]
  refine phase_take (i := 3) (v := .string ((⟨#[102, 110, 32]⟩ ++ ⟨nm.toArray⟩) ++ ⟨#[40]⟩)) rfl (by kernel_rfl) (by omega) (by kernel_rfl) (by kernel_rfl) (by kernel_rfl) (fun _ _ _ h => h) ⟨by rfl, ?_⟩ hS ?_
  · intro wS hSw
    obtain ⟨s0, s1, s2, s3, s4, sf⟩ := Blk.five hSw
    go_simp
    all_goals omega
  simp only [Act.put, List.getElem_toArray, List.getElem_cons_succ, List.getElem_cons_zero, List.setIfInBounds_toArray, List.set_cons_zero, List.set_cons_succ]
  refine phase_take (i := 4) (v := .pointer (some ⟨w.heap.size, 1, none⟩)) rfl (by kernel_rfl) (by omega) (by kernel_rfl) (by kernel_rfl) (by kernel_rfl) (fun _ _ _ h => h) ⟨by rfl, ?_⟩ hS ?_
  · intro wS hSw
    obtain ⟨s0, s1, s2, s3, s4, sf⟩ := Blk.five hSw
    go_simp
    all_goals omega
  simp only [Act.put, List.getElem_toArray, List.getElem_cons_succ, List.getElem_cons_zero, List.setIfInBounds_toArray, List.set_cons_zero, List.set_cons_succ]
  refine phase_take (i := 5) (v := .slice pa ps.length pc) rfl (by kernel_rfl) (by omega) (by kernel_rfl) (by kernel_rfl) (by kernel_rfl) (fun _ _ _ h => h) ⟨by rfl, ?_⟩ hS ?_
  · intro wS hSw
    obtain ⟨s0, s1, s2, s3, s4, sf⟩ := Blk.five hSw
    go_simp
    all_goals omega
  simp only [Act.put, List.getElem_toArray, List.getElem_cons_succ, List.getElem_cons_zero, List.setIfInBounds_toArray, List.set_cons_zero, List.set_cons_succ]
  refine phase_one (i := 6) (by kernel_rfl) (by omega) rfl (by rfl) (fun K hK => ?_)
  go_simp
  refine (joinP_any _ pa pc ps F pks hcp0 (hcp.ext hE0) (paEnc.exts hqp' hE0) [44, 32] 18 paText showP_enters (fun p hp => HP.out _ p hp) (by omega) (by omega)).mono ?_
  rintro e w1 ⟨rfl, x1⟩
  have hS1 := Blk.ext hS x1
  refine hK _ _ ⟨hS1, ?_⟩
  clear hK K
  try simp only [Act.put, List.getElem_toArray, List.getElem_cons_succ, List.getElem_cons_zero, List.setIfInBounds_toArray, List.set_cons_zero, List.set_cons_succ]
  refine phase_take (i := 7) (v := .string (((⟨#[102, 110, 32]⟩ ++ ⟨nm.toArray⟩) ++ ⟨#[40]⟩) ++ ⟨(Lib.join (ps.map paText) [44, 32]).toArray⟩)) rfl (by kernel_rfl) (by omega) (by kernel_rfl) (by kernel_rfl) (by kernel_rfl) (fun _ _ _ h => h) ⟨by rfl, ?_⟩ hS1 ?_
  · intro wS hSw
    obtain ⟨s0, s1, s2, s3, s4, sf⟩ := Blk.five hSw
    go_simp
    all_goals omega
  simp only [Act.put, List.getElem_toArray, List.getElem_cons_succ, List.getElem_cons_zero, List.setIfInBounds_toArray, List.set_cons_zero, List.set_cons_succ]
  refine phase_take (i := 8) (v := .string ((((⟨#[102, 110, 32]⟩ ++ ⟨nm.toArray⟩) ++ ⟨#[40]⟩) ++ ⟨(Lib.join (ps.map paText) [44, 32]).toArray⟩) ++ ⟨#[41]⟩)) rfl (by kernel_rfl) (by omega) (by kernel_rfl) (by kernel_rfl) (by kernel_rfl) (fun _ _ _ h => h) ⟨by rfl, ?_⟩ hS1 ?_
  · intro wS hSw
    obtain ⟨s0, s1, s2, s3, s4, sf⟩ := Blk.five hSw
    go_simp
    all_goals omega
  simp only [Act.put, List.getElem_toArray, List.getElem_cons_succ, List.getElem_cons_zero, List.setIfInBounds_toArray, List.set_cons_zero, List.set_cons_succ]
  refine phase_take (i := 9) (v := .string ((((⟨#[102, 110, 32]⟩ ++ ⟨nm.toArray⟩) ++ ⟨#[40]⟩) ++ ⟨(Lib.join (ps.map paText) [44, 32]).toArray⟩) ++ ⟨#[41]⟩)) rfl (by kernel_rfl) (by omega) (by kernel_rfl) (by kernel_rfl) (by kernel_rfl) (fun _ _ _ h => h) ⟨by rfl, ?_⟩ hS1 ?_
  · intro wS hSw
    obtain ⟨s0, s1, s2, s3, s4, sf⟩ := Blk.five hSw
    go_simp
    all_goals omega
  simp only [Act.put, List.getElem_toArray, List.getElem_cons_succ, List.getElem_cons_zero, List.setIfInBounds_toArray, List.set_cons_zero, List.set_cons_succ]
  have x01 := hE0.trans x1
  obtain ⟨s0, s1, s2, s3, s4, sf⟩ := Blk.five hS1
  refine phase_done (by kernel_rfl) ?_
  go_wp2_with fail
  refine (typed_any w1 2).mono ?_
  rintro e w' ⟨rfl, rfl⟩
  rw [show typText 2 = [98, 111, 111, 108] from rfl]
  go_wp2_with fail
  refine (HB.out w1 F ba bc bks (HT.out.ext x01) hcb0 (hcb.ext x01) (stEnc.exts hqb' x01)).mono ?_
  rintro e w3 ⟨rfl, x3⟩
  go_wp2_with fail
  go_ret
  exact ⟨ret_str (by apply ByteArray.ext; simp [funText, typText]), x01.trans x3⟩

set_option maxHeartbeats 8000000 in
theorem fun_text3 (w0 : World) (F : Nat → Prop) (ht0 : Tab w0) (x : Fu) (hr : x.result = 3) (hw : x.wf) (hz : x.size ≤ 100000) : TextC 16 fuEnc funText w0 F x := by
  intro w vs hE hv
  obtain ⟨nm, ps, rs, bd, at_⟩ := x
  have hlen := fun_len ⟨nm, ps, rs, bd, at_⟩ hw
  obtain ⟨h1, h2, h3, h4⟩ := hw
  have hnm := h1.2.2.2
  have hpl := params_len ps h2
  have hbl := block_len bd fun s hs => showS_len s (h4 s hs)
  simp only [Fu.size] at hz hnm h3
  obtain ⟨vp, vb, rfl, ⟨pa, pc, pks, rfl, hcp0, hcp, hqp⟩, ⟨ba, bc, bks, rfl, hcb0, hcb, hqb⟩⟩ := hv
  have HB := hid (blockT_of bd h4 (fun s hs hz => showS_any s (h4 s hs) hz) (by omega))
  have HT := hid (ht0.ext hE)
  have HP := hid (fun (w0 : World) => fun p hp => param_text w0 F p (by have := (h2 p hp).1.2.2.2; omega))
  have hqp' : paEnc.all w F ps pks := hqp
  have hqb' : stEnc.all w F bd bks := hqb
  have hlj : (Lib.join (ps.map paText) [44, 32]).length ≤ 100000000 := by omega
  have hlb : (blockText (showSs bd)).length ≤ 100000000 := by omega
  clear hlen h1 h2 h4 hE hpl hbl hqp hqb
  simp only at hr
  subst hr
  go_enter Tryz.func16, Tryz.ntmps16
  go_wp2_with fail
  have hS : Blk (w.alloc (.cells #[.string ⟨nm.toArray⟩, .slice pa ps.length pc, .int .i64 3, .slice ba bd.length bc, .int .i64 at_] 36)).drew w.heap.size 36 [.string ⟨nm.toArray⟩, .slice pa ps.length pc, .int .i64 3, .slice ba bd.length bc, .int .i64 at_] := (Blk.new w 36 [.string ⟨nm.toArray⟩, .slice pa ps.length pc, .int .i64 3, .slice ba bd.length bc, .int .i64 at_]).drew
  have hE0 : Ext w (w.alloc (.cells #[.string ⟨nm.toArray⟩, .slice pa ps.length pc, .int .i64 3, .slice ba bd.length bc, .int .i64 at_] 36)).drew := ((Ext.refl w).alloc _).drew
  refine phase_begin (fun w' => Blk w' w.heap.size 36 [.string ⟨nm.toArray⟩, .slice pa ps.length pc, .int .i64 3, .slice ba bd.length bc, .int .i64 at_]) 10 (by kernel_rfl) ?_
  refine phase_take (i := 0) (v := .pointer (some ⟨w.heap.size, 0, none⟩)) rfl (by kernel_rfl) (by omega) (by kernel_rfl) (by kernel_rfl) (by kernel_rfl) (fun _ _ _ h => h) ⟨by rfl, ?_⟩ hS ?_
  · intro wS hSw
    obtain ⟨s0, s1, s2, s3, s4, sf⟩ := Blk.five hSw
    go_simp
    all_goals omega
  simp only [Act.put, List.getElem_toArray, List.getElem_cons_succ, List.getElem_cons_zero, List.setIfInBounds_toArray, List.set_cons_zero, List.set_cons_succ]
  refine phase_take (i := 1) (v := .string ⟨nm.toArray⟩) rfl (by kernel_rfl) (by omega) (by kernel_rfl) (by kernel_rfl) (by kernel_rfl) (fun _ _ _ h => h) ⟨by rfl, ?_⟩ hS ?_
  · intro wS hSw
    obtain ⟨s0, s1, s2, s3, s4, sf⟩ := Blk.five hSw
    go_simp
    all_goals omega
  simp only [Act.put, List.getElem_toArray, List.getElem_cons_succ, List.getElem_cons_zero, List.setIfInBounds_toArray, List.set_cons_zero, List.set_cons_succ]
  refine phase_take (i := 2) (v := .string (⟨#[102, 110, 32]⟩ ++ ⟨nm.toArray⟩)) rfl (by kernel_rfl) (by omega) (by kernel_rfl) (by kernel_rfl) (by kernel_rfl) (fun _ _ _ h => h) ⟨by rfl, ?_⟩ hS ?_
  · intro wS hSw
    obtain ⟨s0, s1, s2, s3, s4, sf⟩ := Blk.five hSw
    go_simp
    all_goals omega
  simp only [Act.put, List.getElem_toArray, List.getElem_cons_succ, List.getElem_cons_zero, List.setIfInBounds_toArray, List.set_cons_zero, List.set_cons_succ]
  refine phase_take (i := 3) (v := .string ((⟨#[102, 110, 32]⟩ ++ ⟨nm.toArray⟩) ++ ⟨#[40]⟩)) rfl (by kernel_rfl) (by omega) (by kernel_rfl) (by kernel_rfl) (by kernel_rfl) (fun _ _ _ h => h) ⟨by rfl, ?_⟩ hS ?_
  · intro wS hSw
    obtain ⟨s0, s1, s2, s3, s4, sf⟩ := Blk.five hSw
    go_simp
    all_goals omega
  simp only [Act.put, List.getElem_toArray, List.getElem_cons_succ, List.getElem_cons_zero, List.setIfInBounds_toArray, List.set_cons_zero, List.set_cons_succ]
  refine phase_take (i := 4) (v := .pointer (some ⟨w.heap.size, 1, none⟩)) rfl (by kernel_rfl) (by omega) (by kernel_rfl) (by kernel_rfl) (by kernel_rfl) (fun _ _ _ h => h) ⟨by rfl, ?_⟩ hS ?_
  · intro wS hSw
    obtain ⟨s0, s1, s2, s3, s4, sf⟩ := Blk.five hSw
    go_simp
    all_goals omega
  simp only [Act.put, List.getElem_toArray, List.getElem_cons_succ, List.getElem_cons_zero, List.setIfInBounds_toArray, List.set_cons_zero, List.set_cons_succ]
  refine phase_take (i := 5) (v := .slice pa ps.length pc) rfl (by kernel_rfl) (by omega) (by kernel_rfl) (by kernel_rfl) (by kernel_rfl) (fun _ _ _ h => h) ⟨by rfl, ?_⟩ hS ?_
  · intro wS hSw
    obtain ⟨s0, s1, s2, s3, s4, sf⟩ := Blk.five hSw
    go_simp
    all_goals omega
  simp only [Act.put, List.getElem_toArray, List.getElem_cons_succ, List.getElem_cons_zero, List.setIfInBounds_toArray, List.set_cons_zero, List.set_cons_succ]
  refine phase_one (i := 6) (by kernel_rfl) (by omega) rfl (by rfl) (fun K hK => ?_)
  go_simp
  refine (joinP_any _ pa pc ps F pks hcp0 (hcp.ext hE0) (paEnc.exts hqp' hE0) [44, 32] 18 paText showP_enters (fun p hp => HP.out _ p hp) (by omega) (by omega)).mono ?_
  rintro e w1 ⟨rfl, x1⟩
  have hS1 := Blk.ext hS x1
  refine hK _ _ ⟨hS1, ?_⟩
  clear hK K
  try simp only [Act.put, List.getElem_toArray, List.getElem_cons_succ, List.getElem_cons_zero, List.setIfInBounds_toArray, List.set_cons_zero, List.set_cons_succ]
  refine phase_take (i := 7) (v := .string (((⟨#[102, 110, 32]⟩ ++ ⟨nm.toArray⟩) ++ ⟨#[40]⟩) ++ ⟨(Lib.join (ps.map paText) [44, 32]).toArray⟩)) rfl (by kernel_rfl) (by omega) (by kernel_rfl) (by kernel_rfl) (by kernel_rfl) (fun _ _ _ h => h) ⟨by rfl, ?_⟩ hS1 ?_
  · intro wS hSw
    obtain ⟨s0, s1, s2, s3, s4, sf⟩ := Blk.five hSw
    go_simp
    all_goals omega
  simp only [Act.put, List.getElem_toArray, List.getElem_cons_succ, List.getElem_cons_zero, List.setIfInBounds_toArray, List.set_cons_zero, List.set_cons_succ]
  refine phase_take (i := 8) (v := .string ((((⟨#[102, 110, 32]⟩ ++ ⟨nm.toArray⟩) ++ ⟨#[40]⟩) ++ ⟨(Lib.join (ps.map paText) [44, 32]).toArray⟩) ++ ⟨#[41]⟩)) rfl (by kernel_rfl) (by omega) (by kernel_rfl) (by kernel_rfl) (by kernel_rfl) (fun _ _ _ h => h) ⟨by rfl, ?_⟩ hS1 ?_
  · intro wS hSw
    obtain ⟨s0, s1, s2, s3, s4, sf⟩ := Blk.five hSw
    go_simp
    all_goals omega
  simp only [Act.put, List.getElem_toArray, List.getElem_cons_succ, List.getElem_cons_zero, List.setIfInBounds_toArray, List.set_cons_zero, List.set_cons_succ]
  refine phase_take (i := 9) (v := .string ((((⟨#[102, 110, 32]⟩ ++ ⟨nm.toArray⟩) ++ ⟨#[40]⟩) ++ ⟨(Lib.join (ps.map paText) [44, 32]).toArray⟩) ++ ⟨#[41]⟩)) rfl (by kernel_rfl) (by omega) (by kernel_rfl) (by kernel_rfl) (by kernel_rfl) (fun _ _ _ h => h) ⟨by rfl, ?_⟩ hS1 ?_
  · intro wS hSw
    obtain ⟨s0, s1, s2, s3, s4, sf⟩ := Blk.five hSw
    go_simp
    all_goals omega
  simp only [Act.put, List.getElem_toArray, List.getElem_cons_succ, List.getElem_cons_zero, List.setIfInBounds_toArray, List.set_cons_zero, List.set_cons_succ]
  have x01 := hE0.trans x1
  obtain ⟨s0, s1, s2, s3, s4, sf⟩ := Blk.five hS1
  refine phase_done (by kernel_rfl) ?_
  go_wp2_with fail
  refine (typed_any w1 3).mono ?_
  rintro e w' ⟨rfl, rfl⟩
  rw [show typText 3 = [98, 121, 116, 101, 115] from rfl]
  go_wp2_with fail
  refine (HB.out w1 F ba bc bks (HT.out.ext x01) hcb0 (hcb.ext x01) (stEnc.exts hqb' x01)).mono ?_
  rintro e w3 ⟨rfl, x3⟩
  go_wp2_with fail
  go_ret
  exact ⟨ret_str (by apply ByteArray.ext; simp [funText, typText]), x01.trans x3⟩

theorem fun_text (w0 : World) (F : Nat → Prop) (ht0 : Tab w0) (x : Fu) (hw : x.wf) (hz : x.size ≤ 100000) : TextC 16 fuEnc funText w0 F x := by
  have h3 := hw.2.2.1
  rcases (by omega : x.result = 0 ∨ x.result = 1 ∨ x.result = 2 ∨ x.result = 3) with h | h | h | h
  · exact fun_text0 w0 F ht0 x h hw hz
  · exact fun_text1 w0 F ht0 x h hw hz
  · exact fun_text2 w0 F ht0 x h hw hz
  · exact fun_text3 w0 F ht0 x h hw hz
theorem fusize_mem {x : Fu} : ∀ (l : List Fu), x ∈ l → x.size ≤ sumOf Fu.size l := by
  intro l
  induction l with
  | nil => intro h; cases h
  | cons y l ih =>
    intro h
    simp only [sumOf]
    rcases List.mem_cons.1 h with rfl | h
    · omega
    · have := ih h; omega
theorem fus_len (l : List Fu) : l.length ≤ sumOf Fu.size l := by
  induction l with
  | nil => simp [sumOf]
  | cons y l ih => have := y.size_pos; simp only [sumOf, List.length_cons]; omega
set_option maxHeartbeats 2000000 in
/-- SHOW. -/
theorem show_any (w : World) (F : Nat → Prop) (p : List Fu) (hw : ∀ f ∈ p, f.wf) (hz : sumOf Fu.size p ≤ 100000) (a : Option Addr) (cap : Nat) (hr : RowIs w F (.slice a p.length cap) p.length (FusIs w F p)) (ht : Tab w) :
    Calls Tryz.prog 8 #[.agg #[.slice a p.length cap]] w fun e w' => e = .returned (.string ⟨(showP p).toArray⟩) ∧ Ext w w' := by
  obtain ⟨a', cap', ks, hv, hcap, hc, hq⟩ := hr
  cases hv
  have hl := prog_len p hw
  have e1 : (Lib.join (p.map funText) []).length ≤ 140737488355328 := by unfold showP at hl; omega
  have hE : Ext w (w.alloc (.cells #[.slice a p.length cap] 26)) := (Ext.refl w).alloc _
  have HC := hid (joinF_any (w.alloc (.cells #[.slice a p.length cap] 26)) a cap p F ks hcap (hc.ext hE) (fuEnc.exts hq hE) [] 16 funText showF_enters (fun x hx => fun_text _ F (ht.ext hE) x (hw x hx) (by have := fusize_mem p hx; omega)) (by have := fus_len p; omega) e1)
  clear hl e1 hw
  go_enter Tryz.func8, Tryz.ntmps8
  go_wp2_with fail
  refine HC.out.mono ?_
  rintro e w1 ⟨rfl, x1⟩
  go_wp2_with fail
  go_ret
  exact ⟨rfl, hE.trans x1⟩
end Go.Proofs.YtaehlakefgnfmaaGreatDoor
