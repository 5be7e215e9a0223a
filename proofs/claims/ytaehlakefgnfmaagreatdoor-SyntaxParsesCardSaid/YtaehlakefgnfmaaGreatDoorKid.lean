/-
  DERIVED. THE WALKS of the closures that read one thing more into a row (printed by gen_kid.py).
-/
import Derived.Test.YtaehlakefgnfmaaGreatDoorRd
import Derived.Test.YtaehlakefgnfmaaGreatDoorSyn
import Derived.Deep.AppendLies
import Derived.Test.YtaehlakefgnfmaaGreatDoorPhase
namespace Go.Proofs.YtaehlakefgnfmaaGreatDoor
set_option linter.unusedSimpArgs false
set_option linter.unusedVariables false
set_option maxRecDepth 100000
open Go.RowKit

/-- An expression that lies in new memory. -/
def encX (B : Nat) (w' : World) (x : Ex) (v : Value) : Prop := ∃ vs, v = .agg vs.toArray ∧ ExIs w' (B ≤ ·) x vs
/-- A function that reads expressions so deep. -/
def ExprC (f : FuncId) (d : Nat) (p : Rd Ex) : Prop := ∀ (w : World) (br n : Nat) (ts : List Tok), RdAt w br n ts → Wf ts → Calls Tryz.prog f #[.pointer (some ⟨br, 0, none⟩), .int .i64 d] w (Ans w br n (encX w.heap.size) (p ts))
theorem Tryz.infoExpr : (Tryz.prog.info? 100).map (fun i => (i.zero, i.size, i.bytes)) = some (some (.agg #[.int .i64 0, .int .i64 0, .string ⟨#[]⟩, .slice none 0 0, .int .i64 0]), 5, 64) := by kernel_rfl
theorem elem_cells {w : World} {base : Nat} {T : TypeId} {g cap n : Nat} {ks : List Value} {z0 z1 z2 z3 z4 : Value} (h : w.ownsRow base T 5 (.slice (some ⟨g, 0, none⟩) (n + 1) cap) (n + 1) (ks ++ [z0, z1, z2, z3, z4])) (hl : ks.length = n * 5) :
    w.cell? ⟨g, n * 5, none⟩ = some z0 ∧ w.cell? ⟨g, n * 5 + 1, none⟩ = some z1 ∧ w.cell? ⟨g, n * 5 + 2, none⟩ = some z2 ∧ w.cell? ⟨g, n * 5 + 3, none⟩ = some z3 ∧ w.cell? ⟨g, n * 5 + 4, none⟩ = some z4 ∧ (∀ j, w.frozen? ⟨g, j, none⟩ = false) := by
  refine ⟨?_, ?_, ?_, ?_, ?_, fun j => h.frozenAt j⟩
  all_goals
    rw [h.cellAt _ (by omega), List.getElem?_append_right (by omega), hl]
    simp
theorem set_tail {ks : List Value} {n : Nat} (hl : ks.length = n * 5) (zs : List Value) (j : Nat) (u : Value) : (ks ++ zs).set (n * 5 + j) u = ks ++ zs.set j u := by
  rw [List.set_append_right _ _ (by omega)]
  congr 2
  omega
theorem row_store {w : World} {base : Nat} {T : TypeId} {g cap n : Nat} {ks : List Value} {z0 z1 z2 z3 z4 : Value} (v0 v1 v2 v3 v4 : Value) (h : w.ownsRow base T 5 (.slice (some ⟨g, 0, none⟩) (n + 1) cap) (n + 1) (ks ++ [z0, z1, z2, z3, z4])) (hl : ks.length = n * 5) :
    (((((w.setCell ⟨g, n * 5, none⟩ v0).setCell ⟨g, n * 5 + 1, none⟩ v1).setCell ⟨g, n * 5 + 2, none⟩ v2).setCell ⟨g, n * 5 + 3, none⟩ v3).setCell ⟨g, n * 5 + 4, none⟩ v4).ownsRow base T 5 (.slice (some ⟨g, 0, none⟩) (n + 1) cap) (n + 1) (ks ++ [v0, v1, v2, v3, v4]) := by
  have h0 := (h.stored (n * 5 + 0) v0).1
  rw [set_tail hl] at h0
  have h1 := (h0.stored (n * 5 + 1) v1).1
  rw [set_tail hl] at h1
  have h2 := (h1.stored (n * 5 + 2) v2).1
  rw [set_tail hl] at h2
  have h3 := (h2.stored (n * 5 + 3) v3).1
  rw [set_tail hl] at h3
  have h4 := (h3.stored (n * 5 + 4) v4).1
  rw [set_tail hl] at h4
  exact h4
/-- What such a closure leaves: one thing more in the row; or the panic. -/
def KidPost (T : TypeId) (cells : Value → List Value) (w : World) (br n bx base : Nat) (sv : Value) (acc : List Ex) (R : Res Ex) (e : Ending) (w' : World) : Prop :=
  match R with
  | .ok x r => e = .returned (.tuple #[]) ∧ (∃ sv', Blk w' bx T (cells sv') ∧ OwnX exEnc 100 w' base sv' (acc ++ [x])) ∧ RdAt w' br n r ∧ Keep ([br, bx] ++ ownL sv) w w'
  | .err c r => e = .panicked [faultV c (placeOf n r)] ∧ Keep [br] w w'
theorem kid_close {T : TypeId} {cells : Value → List Value} {w W2 w3 W' : World} {br n bx base g cap : Nat} {sv : Value} {acc : List Ex} {x : Ex} {r : List Tok} {ks vs us : List Value}
    (hrow : w.ownsRow base 100 5 sv acc.length ks) (hall : ExsIs w (fun b => base ≤ b ∧ sv.ownBlock ≠ some b) acc ks) (K2 : Keep [br] w W2) (R2 : RdAt W2 br n r) (hx : ExIs W2 (w.heap.size ≤ ·) x vs)
    (own3 : w3.ownsRow base 100 5 (.slice (some ⟨g, 0, none⟩) (acc.length + 1) cap) (acc.length + 1) us) (hgrow : W2.grownBy w3 sv.ownBlock) (hat : sv.ownBlock = some g ∨ g = W2.heap.size)
    (l1 : bx < base) (l4 : br < base) (lb : base ≤ w.heap.size) (n1 : br < bx)
    (ownE : W'.ownsRow base 100 5 (.slice (some ⟨g, 0, none⟩) (acc.length + 1) cap) (acc.length + 1) (ks ++ vs)) (XE : Blk W' bx T (cells (.slice (some ⟨g, 0, none⟩) (acc.length + 1) cap))) (KE : Keep [bx, g] w3 W') (e : Ending) (he : e = .returned (.tuple #[])) :
    KidPost T cells w br n bx base sv acc (.ok x r) e W' := by
  have lg : base ≤ g := (own3.lt g rfl).1
  have lw := K2.size
  have lown : ∀ k, sv.ownBlock = some k → base ≤ k ∧ k < w.heap.size := fun k hk => hrow.lt k hk
  have k3 := Keep.grownBy hgrow (ownL sv) (fun k hk => mem_ownL.2 hk)
  have gout : ∀ b, b < w.heap.size → sv.ownBlock ≠ some b → b ≠ g := by
    intro b hb hn e
    rcases hat with h | h
    · exact hn (e ▸ h)
    · omega
  have kall : Keep ([br, bx] ++ ownL sv) w W' := by
    refine (K2.mono (T := [br, bx] ++ ownL sv) (by intro y hy; left; simp at hy ⊢; exact .inl hy)).trans ((k3.mono (T := ownL sv ++ [bx, g]) (by intro y hy; left; simp [hy])).trans' (KE.mono (by intro y hy; left; simp at hy ⊢; exact .inr hy))) ?_
    intro y hy
    simp only [List.mem_append, List.mem_cons, List.not_mem_nil, or_false] at hy ⊢
    rcases hy with hy | hy | hy
    · exact .inl (.inr hy)
    · exact .inl (.inl (.inr hy))
    · subst hy
      rcases hat with h | h
      · exact .inl (.inr (mem_ownL.2 h))
      · right; omega
  refine ⟨he, ⟨_, XE, ks ++ vs, by rw [List.length_append, List.length_singleton]; exact ownE, exs_snoc ?_ _ _ ?_⟩, ?_, kall⟩
  · refine ExIs.carry (w := W2) ?_ _ _ hx
    refine ⟨fun b i v hb hc => ?_, fun b hlt hb => ⟨by omega, fun e => ?_⟩⟩
    · have hlt := World.block_lt_of_cell? _ _ hc
      have hno : b ∉ ownL sv := fun hm => by have := (lown b (mem_ownL.1 hm)).2; omega
      refine KE.cellV ?_ (k3.cellV hno hc)
      simp only [List.mem_cons, List.not_mem_nil, or_false, not_or]
      refine ⟨by omega, fun e => ?_⟩
      rcases hat with h | h
      · exact hno (mem_ownL.2 (e ▸ h))
      · simp only at hlt; omega
    · simp only [Value.ownBlock, Option.some.injEq] at e
      rcases hat with h | h
      · have := (lown g h).2; omega
      · omega
  · refine ExsIs.carry (w := w) ?_ _ _ hall
    refine ⟨fun b i v hb hc => ?_, fun b hlt hb => ⟨hb.1, fun e => ?_⟩⟩
    · have hlt := World.block_lt_of_cell? _ _ hc
      simp only at hlt
      refine KE.cellV ?_ (k3.cellV (fun hm => hb.2 (mem_ownL.1 hm)) (K2.cellV (by simp; omega) hc))
      simp only [List.mem_cons, List.not_mem_nil, or_false, not_or]
      exact ⟨by omega, gout b hlt hb.2⟩
    · simp only [Value.ownBlock, Option.some.injEq] at e
      exact gout b hlt hb.2 e.symm
  · exact (R2.keep k3 (fun b hb => by have := (lown b (mem_ownL.1 hb)).1; omega)).keep KE (fun b hb => by simp at hb; omega)

set_option maxHeartbeats 2000000 in
theorem kid_any_ok (d : Nat) (hd : d ≤ 100) (p : Rd Ex) (hC : ExprC 80 (d + 1) p) (w : World) (br n : Nat) (ts : List Tok) (bx b2 b3 base : Nat) (c0 c1 c2 c4 sv : Value) (acc : List Ex)
    (hbx : Blk w bx 100 [c0, c1, c2, sv, c4]) (hb2 : Blk w b2 44 [.pointer (some ⟨br, 0, none⟩)]) (hb3 : Blk w b3 3 [.int .i64 d]) (hown : OwnX exEnc 100 w base sv acc)
    (hr : RdAt w br n ts) (hw : Wf ts) (l1 : bx < base) (l2 : b2 < base) (l3 : b3 < base) (l4 : br < base) (lb : base ≤ w.heap.size) (n1 : br < bx) (n2 : br < b2) (n3 : br < b3) (hacc : acc.length ≤ 100000) (x : Ex) (r : List Tok) (hp : p ts = .ok x r) :
    Calls Tryz.prog 110 #[.pointer (some ⟨bx, 0, none⟩), .pointer (some ⟨b2, 0, none⟩), .pointer (some ⟨b3, 0, none⟩)] w (KidPost 100 (fun sv => [c0, c1, c2, sv, c4]) w br n bx base sv acc (p ts)) := by
  obtain ⟨i0, hi, hz0, hz1, hz2⟩ := info_parts Tryz.infoExpr
  obtain ⟨ks, hrow, hall⟩ := hown
  obtain ⟨sa, scap, rfl, _, _, hcap⟩ := owned_cells hrow
  have x0 := hbx.cell 3
  have y0 := hb2.cell 0
  have z0 := hb3.cell 0
  simp only [List.getElem?_cons_zero, List.getElem?_cons_succ] at x0 y0 z0
  have f0 := hbx.frozen 3
  have hwr : IntKind.i64.wrap ((d : Int) + 1) = ((d + 1 : Nat) : Int) := by rw [IntWalk.i64_in _ (by omega)]; rfl
  have HC := hid (hC)
  clear hC
  have HP := hid hp
  clear hp
  go_enter Tryz.func110, Tryz.ntmps110
  go_wp2_with fail
  refine phase_begin (fun w' : World => w'.cell? ⟨bx, 3, none⟩ = some (.slice sa acc.length scap) ∧ w'.cell? ⟨b2, 0, none⟩ = some (.pointer (some ⟨br, 0, none⟩)) ∧ w'.cell? ⟨b3, 0, none⟩ = some (.int .i64 d)) 8 (by kernel_rfl) ?_
  have hS : (fun w' : World => w'.cell? ⟨bx, 3, none⟩ = some (.slice sa acc.length scap) ∧ w'.cell? ⟨b2, 0, none⟩ = some (.pointer (some ⟨br, 0, none⟩)) ∧ w'.cell? ⟨b3, 0, none⟩ = some (.int .i64 d)) w.drew := ⟨x0, y0, z0⟩
  refine phase_take (i := 0) (v := .pointer (some ⟨bx, 3, none⟩)) rfl (by kernel_rfl) (by omega) (by kernel_rfl) (by kernel_rfl) (by kernel_rfl) (fun _ _ _ h => h) ⟨by rfl, ?_⟩ hS ?_
  · intro wS hSw
    obtain ⟨s1, s2, s3⟩ := hSw
    go_simp
  simp only [Act.put, List.getElem_toArray, List.getElem_cons_succ, List.getElem_cons_zero, List.setIfInBounds_toArray, List.set_cons_zero, List.set_cons_succ]
  refine phase_take (i := 1) (v := .slice sa acc.length scap) rfl (by kernel_rfl) (by omega) (by kernel_rfl) (by kernel_rfl) (by kernel_rfl) (fun _ _ _ h => h) ⟨by rfl, ?_⟩ hS ?_
  · intro wS hSw
    obtain ⟨s1, s2, s3⟩ := hSw
    go_simp
  simp only [Act.put, List.getElem_toArray, List.getElem_cons_succ, List.getElem_cons_zero, List.setIfInBounds_toArray, List.set_cons_zero, List.set_cons_succ]
  refine phase_take (i := 2) (v := .pointer (some ⟨br, 0, none⟩)) rfl (by kernel_rfl) (by omega) (by kernel_rfl) (by kernel_rfl) (by kernel_rfl) (fun _ _ _ h => h) ⟨by rfl, ?_⟩ hS ?_
  · intro wS hSw
    obtain ⟨s1, s2, s3⟩ := hSw
    go_simp
  simp only [Act.put, List.getElem_toArray, List.getElem_cons_succ, List.getElem_cons_zero, List.setIfInBounds_toArray, List.set_cons_zero, List.set_cons_succ]
  refine phase_take (i := 3) (v := .int .i64 d) rfl (by kernel_rfl) (by omega) (by kernel_rfl) (by kernel_rfl) (by kernel_rfl) (fun _ _ _ h => h) ⟨by rfl, ?_⟩ hS ?_
  · intro wS hSw
    obtain ⟨s1, s2, s3⟩ := hSw
    go_simp
  simp only [Act.put, List.getElem_toArray, List.getElem_cons_succ, List.getElem_cons_zero, List.setIfInBounds_toArray, List.set_cons_zero, List.set_cons_succ]
  refine phase_take (i := 4) (v := .int .i64 ((d + 1 : Nat) : Int)) rfl (by kernel_rfl) (by omega) (by kernel_rfl) (by kernel_rfl) (by kernel_rfl) (fun _ _ _ h => h) ⟨by rfl, ?_⟩ hS ?_
  · intro wS hSw
    obtain ⟨s1, s2, s3⟩ := hSw
    go_simp
  simp only [Act.put, List.getElem_toArray, List.getElem_cons_succ, List.getElem_cons_zero, List.setIfInBounds_toArray, List.set_cons_zero, List.set_cons_succ]
  refine phase_take (i := 6) (v := .int .i64 acc.length) rfl (by kernel_rfl) (by omega) (by kernel_rfl) (by kernel_rfl) (by kernel_rfl) (fun _ _ _ h => h) ⟨by rfl, ?_⟩ hS ?_
  · intro wS hSw
    obtain ⟨s1, s2, s3⟩ := hSw
    go_simp
  simp only [Act.put, List.getElem_toArray, List.getElem_cons_succ, List.getElem_cons_zero, List.setIfInBounds_toArray, List.set_cons_zero, List.set_cons_succ]
  refine phase_two (i := 5) (j := 7) (by kernel_rfl) (by omega) (by omega) rfl (by rfl) rfl (by rfl) (fun K hK => ?_) (fun K hK => ?_)
  · have R0 := hr
    have hS0 := hS
    go_simp
    refine (HC.out _ br n ts (R0.ext (Ext.refl _).drew) hw).mono ?_
    rw [HP.out]
    rintro e w1 ⟨v, rfl, ⟨vs, rfl, hx⟩, r1, k1⟩
    have hx' := hx
    obtain ⟨op, num, text, kids, at_⟩ := x
    simp only [ExIs] at hx'
    obtain ⟨kv, rfl, ka, kcap, kks, rfl, _⟩ := hx'
    have S1 : w1.cell? ⟨bx, 3, none⟩ = some (.slice sa acc.length scap) := k1.cellV (by simp; omega) (by simpa using hS0.1)
    have S2 : w1.cell? ⟨b2, 0, none⟩ = some (.pointer (some ⟨br, 0, none⟩)) := k1.cellV (by simp; omega) (by simpa using hS0.2.1)
    have S3 : w1.cell? ⟨b3, 0, none⟩ = some (.int .i64 d) := k1.cellV (by simp; omega) (by simpa using hS0.2.2)
    refine hK _ _ ⟨⟨S1, S2, S3⟩, ?_⟩
    clear hK K
    refine phase_one (i := 7) (by kernel_rfl) (by omega) rfl (by rfl) (fun K hK => ?_)
    have l1' : bx < w1.heap.size := World.block_lt_of_cell? _ _ S1
    have l2' : b2 < w1.heap.size := World.block_lt_of_cell? _ _ S2
    have l3' : b3 < w1.heap.size := World.block_lt_of_cell? _ _ S3
    go_simp
    refine hK _ _ ⟨⟨by go_simp, by go_simp, by go_simp⟩, ?_⟩
    clear hK K
    have R8 := (ownsRow_keep (w := w.drew) hrow k1 (fun b hb _ e => by have := (hrow.lt b e).1; simp at hb; omega)).alloc (.cells #[.int .i64 0, .int .i64 0, .string ⟨#[]⟩, .slice none 0 0, .int .i64 0] 100)
    have Z8 := news_cells w1 w1.heap.size 100 [.int .i64 0, .int .i64 0, .string ⟨#[]⟩, .slice none 0 0, .int .i64 0] rfl
    have K2 := ((Keep.refl [br] w).drew.trans' k1).alloc (.cells #[.int .i64 0, .int .i64 0, .string ⟨#[]⟩, .slice none 0 0, .int .i64 0] 100)
    have R2 := r1.ext ((Ext.refl w1).alloc (.cells #[.int .i64 0, .int .i64 0, .string ⟨#[]⟩, .slice none 0 0, .int .i64 0] 100))
    have HX := ExIs.carry (Carry.keep (.ofExt ((Ext.refl w1).alloc (.cells #[.int .i64 0, .int .i64 0, .string ⟨#[]⟩, .slice none 0 0, .int .i64 0] 100)) : Keep [] w1 _) (by simp) (fun b _ h => h)) _ _ hx
    have B8' : base ≤ (w1.alloc (.cells #[.int .i64 0, .int .i64 0, .string ⟨#[]⟩, .slice none 0 0, .int .i64 0] 100)).heap.size := by have := k1.size; simp at this ⊢; omega
    have X8 := ((hbx.drew.keep k1 (by simp; omega)).alloc (.cells #[.int .i64 0, .int .i64 0, .string ⟨#[]⟩, .slice none 0 0, .int .i64 0] 100))
    refine phase_late (i := 8) (by kernel_rfl) (by omega) rfl (by rfl) (fun K hK => ?_)
    refine wp_append_lies _ (.tmp 4) (.tmp 10) 76 (by rfl) base 100 i0 (.agg #[.int .i64 0, .int .i64 0, .string ⟨#[]⟩, .slice none 0 0, .int .i64 0]) 5 64 Tryz.underlying76 hi hz0 hz1 hz2 rfl (by omega) (.slice sa acc.length scap) acc.length ks (by rfl) R8 ⟨w1.heap.size, 0, none⟩ 1 1
      [.int .i64 0, .int .i64 0, .string ⟨#[]⟩, .slice none 0 0, .int .i64 0] (by rfl) (by rfl) Z8 (by simp [Value.oneCell']) (by omega) (by simp only [maxLen]; omega) (by omega) B8' (w1.heap.size + 1) (by simp) (fun g cap w3 hown3 hgrow hat hlt => ?_)
    refine hK _ _ ?_
    clear hK K
    simp only [Act.put, List.getElem_toArray, List.getElem_cons_succ, List.getElem_cons_zero, List.setIfInBounds_toArray, List.set_cons_zero, List.set_cons_succ]
    have lg : base ≤ g := (hown3.lt g rfl).1
    have kk := Keep.grownBy hgrow (ownL (.slice sa acc.length scap)) (fun k hk => mem_ownL.2 hk)
    have nown : ∀ b, b < base → b ∉ ownL (.slice sa acc.length scap) := fun b hb hm => by have := (hrow.lt b (mem_ownL.1 hm)).1; omega
    have X3 := X8.keep kk (nown bx l1)
    obtain ⟨e0, e1, e2, e3, e4, ef⟩ := elem_cells hown3 hrow.1
    have x3 := X3.cell 3
    have f3 := X3.frozen 3
    simp only [List.getElem?_cons_zero, List.getElem?_cons_succ] at x3
    have hlt : ¬ ((acc.length : Int) + 1 ≤ acc.length) := by omega
    have gb : g ≠ bx := by omega
    have gb' : bx ≠ g := by omega
    have XA1 := ((((((X3.setOther ⟨g, acc.length * 5, none⟩ gb (.int .i64 op)).setOther ⟨g, acc.length * 5 + 1, none⟩ gb (.int .i64 num)).setOther ⟨g, acc.length * 5 + 2, none⟩ gb (.string ⟨text.toArray⟩)).setOther ⟨g, acc.length * 5 + 3, none⟩ gb (.slice ka kids.length kcap)).setOther ⟨g, acc.length * 5 + 4, none⟩ gb (.int .i64 at_)).set 3 (.slice (some ⟨g, 0, none⟩) (acc.length + 1) cap))
    have XB1 := ((((((X3.set 3 (.slice (some ⟨g, 0, none⟩) (acc.length + 1) cap)).setOther ⟨g, acc.length * 5, none⟩ gb (.int .i64 op)).setOther ⟨g, acc.length * 5 + 1, none⟩ gb (.int .i64 num)).setOther ⟨g, acc.length * 5 + 2, none⟩ gb (.string ⟨text.toArray⟩)).setOther ⟨g, acc.length * 5 + 3, none⟩ gb (.slice ka kids.length kcap)).setOther ⟨g, acc.length * 5 + 4, none⟩ gb (.int .i64 at_))
    have KA1 := ((((((Keep.refl [bx, g] w3).setCell (p := ⟨g, acc.length * 5, none⟩) (by simp) (.int .i64 op)).setCell (p := ⟨g, acc.length * 5 + 1, none⟩) (by simp) (.int .i64 num)).setCell (p := ⟨g, acc.length * 5 + 2, none⟩) (by simp) (.string ⟨text.toArray⟩)).setCell (p := ⟨g, acc.length * 5 + 3, none⟩) (by simp) (.slice ka kids.length kcap)).setCell (p := ⟨g, acc.length * 5 + 4, none⟩) (by simp) (.int .i64 at_)).setCell (p := ⟨bx, 3, none⟩) (by simp) (.slice (some ⟨g, 0, none⟩) (acc.length + 1) cap)
    have KB1 := ((((((Keep.refl [bx, g] w3).setCell (p := ⟨bx, 3, none⟩) (by simp) (.slice (some ⟨g, 0, none⟩) (acc.length + 1) cap)).setCell (p := ⟨g, acc.length * 5, none⟩) (by simp) (.int .i64 op)).setCell (p := ⟨g, acc.length * 5 + 1, none⟩) (by simp) (.int .i64 num)).setCell (p := ⟨g, acc.length * 5 + 2, none⟩) (by simp) (.string ⟨text.toArray⟩)).setCell (p := ⟨g, acc.length * 5 + 3, none⟩) (by simp) (.slice ka kids.length kcap)).setCell (p := ⟨g, acc.length * 5 + 4, none⟩) (by simp) (.int .i64 at_)
    have XA := hid XA1
    have XB := hid XB1
    have KA := hid KA1
    have KB := hid KB1
    clear XA1 XB1 KA1 KB1
    refine any_take (i := 9) (v := .pointer (some ⟨g, acc.length * 5, none⟩)) rfl (by kernel_rfl) (by kernel_rfl) (by kernel_rfl) (fun _ _ _ h => h) ⟨by rfl, ?_⟩ ?_
    · intro wS
      go_simp
    simp only [Act.put, List.getElem_toArray, List.getElem_cons_succ, List.getElem_cons_zero, List.setIfInBounds_toArray, List.set_cons_zero, List.set_cons_succ]
    refine any_take (i := 11) (v := .pointer (some ⟨bx, 3, none⟩)) rfl (by kernel_rfl) (by kernel_rfl) (by kernel_rfl) (fun _ _ _ h => h) ⟨by rfl, ?_⟩ ?_
    · intro wS
      go_simp
    simp only [Act.put, List.getElem_toArray, List.getElem_cons_succ, List.getElem_cons_zero, List.setIfInBounds_toArray, List.set_cons_zero, List.set_cons_succ]
    refine any_two (i := 10) (j := 12) (by kernel_rfl) rfl (by rfl) rfl (by rfl) (fun K hK => ?_) (fun K hK => ?_)
    · go_simp
      refine hK _ _ ?_
      clear hK K
      try simp only [Act.put, List.getElem_toArray, List.getElem_cons_succ, List.getElem_cons_zero, List.setIfInBounds_toArray, List.set_cons_zero, List.set_cons_succ]
      refine any_one (i := 12) (by kernel_rfl) rfl (by rfl) (fun K hK => ?_)
      go_simp
      refine hK _ _ ?_
      clear hK K
      try simp only [Act.put, List.getElem_toArray, List.getElem_cons_succ, List.getElem_cons_zero, List.setIfInBounds_toArray, List.set_cons_zero, List.set_cons_succ]
      refine wpAny_done (by kernel_rfl) ?_ _
      go_wp2_with fail
      go_end0
      rw [HP.out]
      refine kid_close (cells := fun sv => [c0, c1, c2, sv, c4]) hrow hall K2 R2 HX hown3 hgrow (by simpa using hat) l1 l4 lb n1 (ownsRow_setCell_below (row_store _ _ _ _ _ hown3 hrow.1) (by exact l1) _) XA.out KA.out _ rfl
    · go_simp
      refine hK _ _ ?_
      clear hK K
      try simp only [Act.put, List.getElem_toArray, List.getElem_cons_succ, List.getElem_cons_zero, List.setIfInBounds_toArray, List.set_cons_zero, List.set_cons_succ]
      refine any_one (i := 10) (by kernel_rfl) rfl (by rfl) (fun K hK => ?_)
      go_simp
      refine hK _ _ ?_
      clear hK K
      try simp only [Act.put, List.getElem_toArray, List.getElem_cons_succ, List.getElem_cons_zero, List.setIfInBounds_toArray, List.set_cons_zero, List.set_cons_succ]
      refine wpAny_done (by kernel_rfl) ?_ _
      go_wp2_with fail
      go_end0
      rw [HP.out]
      refine kid_close (cells := fun sv => [c0, c1, c2, sv, c4]) hrow hall K2 R2 HX hown3 hgrow (by simpa using hat) l1 l4 lb n1 (row_store _ _ _ _ _ (ownsRow_setCell_below hown3 (by exact l1) _) hrow.1) XB.out KB.out _ rfl

  · have l1' : bx < w.heap.size := by omega
    have l2' : b2 < w.heap.size := by omega
    have l3' : b3 < w.heap.size := by omega
    go_simp
    refine hK _ _ ⟨⟨by go_simp, by go_simp, by go_simp⟩, ?_⟩
    clear hK K
    refine phase_one (i := 5) (by kernel_rfl) (by omega) rfl (by rfl) (fun K hK => ?_)
    have R0 := ((hr.ext ((Ext.refl w).alloc (.cells #[.int .i64 0, .int .i64 0, .string ⟨#[]⟩, .slice none 0 0, .int .i64 0] 100))))
    have hS0 : (w.alloc (.cells #[.int .i64 0, .int .i64 0, .string ⟨#[]⟩, .slice none 0 0, .int .i64 0] 100)).cell? ⟨bx, 3, none⟩ = some (.slice sa acc.length scap) ∧ (w.alloc (.cells #[.int .i64 0, .int .i64 0, .string ⟨#[]⟩, .slice none 0 0, .int .i64 0] 100)).cell? ⟨b2, 0, none⟩ = some (.pointer (some ⟨br, 0, none⟩)) ∧ (w.alloc (.cells #[.int .i64 0, .int .i64 0, .string ⟨#[]⟩, .slice none 0 0, .int .i64 0] 100)).cell? ⟨b3, 0, none⟩ = some (.int .i64 d) := ⟨by go_simp, by go_simp, by go_simp⟩
    go_simp
    refine (HC.out _ br n ts (R0.ext (Ext.refl _).drew) hw).mono ?_
    rw [HP.out]
    rintro e w1 ⟨v, rfl, ⟨vs, rfl, hx⟩, r1, k1⟩
    have hx' := hx
    obtain ⟨op, num, text, kids, at_⟩ := x
    simp only [ExIs] at hx'
    obtain ⟨kv, rfl, ka, kcap, kks, rfl, _⟩ := hx'
    have S1 : w1.cell? ⟨bx, 3, none⟩ = some (.slice sa acc.length scap) := k1.cellV (by simp; omega) (by simpa using hS0.1)
    have S2 : w1.cell? ⟨b2, 0, none⟩ = some (.pointer (some ⟨br, 0, none⟩)) := k1.cellV (by simp; omega) (by simpa using hS0.2.1)
    have S3 : w1.cell? ⟨b3, 0, none⟩ = some (.int .i64 d) := k1.cellV (by simp; omega) (by simpa using hS0.2.2)
    refine hK _ _ ⟨⟨S1, S2, S3⟩, ?_⟩
    clear hK K
    have R8 := ownsRow_keep (w := (w.alloc (.cells #[.int .i64 0, .int .i64 0, .string ⟨#[]⟩, .slice none 0 0, .int .i64 0] 100)).drew) (hrow.alloc (.cells #[.int .i64 0, .int .i64 0, .string ⟨#[]⟩, .slice none 0 0, .int .i64 0] 100)) k1 (fun b hb _ e => by have := (hrow.lt b e).1; simp at hb; omega)
    have Z8 : ∀ (j : Nat) (u : Value), [Value.int .i64 0, .int .i64 0, .string ⟨#[]⟩, .slice none 0 0, .int .i64 0][j]? = some u → w1.cell? ((⟨w.heap.size, 0, none⟩ : Addr).add j) = some u := fun j u hu => by
      have h := news_cells w w.heap.size 100 [.int .i64 0, .int .i64 0, .string ⟨#[]⟩, .slice none 0 0, .int .i64 0] rfl j u hu
      rw [add_plain] at h ⊢
      exact k1.cellV (by simp; omega) h
    have X8 := ((hbx.alloc (.cells #[.int .i64 0, .int .i64 0, .string ⟨#[]⟩, .slice none 0 0, .int .i64 0] 100)).drew.keep k1 (by simp; omega))
    have K2 := (((Keep.refl [br] w).alloc (.cells #[.int .i64 0, .int .i64 0, .string ⟨#[]⟩, .slice none 0 0, .int .i64 0] 100)).drew).trans' k1
    have R2 := r1
    have HX := ExIs.carry (Carry.keep (Keep.refl [] w1) (by simp) (fun b _ h => by have h' : (w.alloc (.cells #[.int .i64 0, .int .i64 0, .string ⟨#[]⟩, .slice none 0 0, .int .i64 0] 100)).heap.size ≤ b := h; simp at h'; omega) : Carry w1 w1 _ (w.heap.size ≤ ·)) _ _ hx
    have B8' : base ≤ w1.heap.size := by have := K2.size; omega
    refine phase_late (i := 8) (by kernel_rfl) (by omega) rfl (by rfl) (fun K hK => ?_)
    refine wp_append_lies _ (.tmp 4) (.tmp 10) 76 (by rfl) base 100 i0 (.agg #[.int .i64 0, .int .i64 0, .string ⟨#[]⟩, .slice none 0 0, .int .i64 0]) 5 64 Tryz.underlying76 hi hz0 hz1 hz2 rfl (by omega) (.slice sa acc.length scap) acc.length ks (by rfl) R8 ⟨w.heap.size, 0, none⟩ 1 1
      [.int .i64 0, .int .i64 0, .string ⟨#[]⟩, .slice none 0 0, .int .i64 0] (by rfl) (by rfl) Z8 (by simp [Value.oneCell']) (by omega) (by simp only [maxLen]; omega) (by omega) B8' (w1.heap.size) (by simp) (fun g cap w3 hown3 hgrow hat hlt => ?_)
    refine hK _ _ ?_
    clear hK K
    simp only [Act.put, List.getElem_toArray, List.getElem_cons_succ, List.getElem_cons_zero, List.setIfInBounds_toArray, List.set_cons_zero, List.set_cons_succ]
    have lg : base ≤ g := (hown3.lt g rfl).1
    have kk := Keep.grownBy hgrow (ownL (.slice sa acc.length scap)) (fun k hk => mem_ownL.2 hk)
    have nown : ∀ b, b < base → b ∉ ownL (.slice sa acc.length scap) := fun b hb hm => by have := (hrow.lt b (mem_ownL.1 hm)).1; omega
    have X3 := X8.keep kk (nown bx l1)
    obtain ⟨e0, e1, e2, e3, e4, ef⟩ := elem_cells hown3 hrow.1
    have x3 := X3.cell 3
    have f3 := X3.frozen 3
    simp only [List.getElem?_cons_zero, List.getElem?_cons_succ] at x3
    have hlt : ¬ ((acc.length : Int) + 1 ≤ acc.length) := by omega
    have gb : g ≠ bx := by omega
    have gb' : bx ≠ g := by omega
    have XA1 := ((((((X3.setOther ⟨g, acc.length * 5, none⟩ gb (.int .i64 op)).setOther ⟨g, acc.length * 5 + 1, none⟩ gb (.int .i64 num)).setOther ⟨g, acc.length * 5 + 2, none⟩ gb (.string ⟨text.toArray⟩)).setOther ⟨g, acc.length * 5 + 3, none⟩ gb (.slice ka kids.length kcap)).setOther ⟨g, acc.length * 5 + 4, none⟩ gb (.int .i64 at_)).set 3 (.slice (some ⟨g, 0, none⟩) (acc.length + 1) cap))
    have XB1 := ((((((X3.set 3 (.slice (some ⟨g, 0, none⟩) (acc.length + 1) cap)).setOther ⟨g, acc.length * 5, none⟩ gb (.int .i64 op)).setOther ⟨g, acc.length * 5 + 1, none⟩ gb (.int .i64 num)).setOther ⟨g, acc.length * 5 + 2, none⟩ gb (.string ⟨text.toArray⟩)).setOther ⟨g, acc.length * 5 + 3, none⟩ gb (.slice ka kids.length kcap)).setOther ⟨g, acc.length * 5 + 4, none⟩ gb (.int .i64 at_))
    have KA1 := ((((((Keep.refl [bx, g] w3).setCell (p := ⟨g, acc.length * 5, none⟩) (by simp) (.int .i64 op)).setCell (p := ⟨g, acc.length * 5 + 1, none⟩) (by simp) (.int .i64 num)).setCell (p := ⟨g, acc.length * 5 + 2, none⟩) (by simp) (.string ⟨text.toArray⟩)).setCell (p := ⟨g, acc.length * 5 + 3, none⟩) (by simp) (.slice ka kids.length kcap)).setCell (p := ⟨g, acc.length * 5 + 4, none⟩) (by simp) (.int .i64 at_)).setCell (p := ⟨bx, 3, none⟩) (by simp) (.slice (some ⟨g, 0, none⟩) (acc.length + 1) cap)
    have KB1 := ((((((Keep.refl [bx, g] w3).setCell (p := ⟨bx, 3, none⟩) (by simp) (.slice (some ⟨g, 0, none⟩) (acc.length + 1) cap)).setCell (p := ⟨g, acc.length * 5, none⟩) (by simp) (.int .i64 op)).setCell (p := ⟨g, acc.length * 5 + 1, none⟩) (by simp) (.int .i64 num)).setCell (p := ⟨g, acc.length * 5 + 2, none⟩) (by simp) (.string ⟨text.toArray⟩)).setCell (p := ⟨g, acc.length * 5 + 3, none⟩) (by simp) (.slice ka kids.length kcap)).setCell (p := ⟨g, acc.length * 5 + 4, none⟩) (by simp) (.int .i64 at_)
    have XA := hid XA1
    have XB := hid XB1
    have KA := hid KA1
    have KB := hid KB1
    clear XA1 XB1 KA1 KB1
    refine any_take (i := 9) (v := .pointer (some ⟨g, acc.length * 5, none⟩)) rfl (by kernel_rfl) (by kernel_rfl) (by kernel_rfl) (fun _ _ _ h => h) ⟨by rfl, ?_⟩ ?_
    · intro wS
      go_simp
    simp only [Act.put, List.getElem_toArray, List.getElem_cons_succ, List.getElem_cons_zero, List.setIfInBounds_toArray, List.set_cons_zero, List.set_cons_succ]
    refine any_take (i := 11) (v := .pointer (some ⟨bx, 3, none⟩)) rfl (by kernel_rfl) (by kernel_rfl) (by kernel_rfl) (fun _ _ _ h => h) ⟨by rfl, ?_⟩ ?_
    · intro wS
      go_simp
    simp only [Act.put, List.getElem_toArray, List.getElem_cons_succ, List.getElem_cons_zero, List.setIfInBounds_toArray, List.set_cons_zero, List.set_cons_succ]
    refine any_two (i := 10) (j := 12) (by kernel_rfl) rfl (by rfl) rfl (by rfl) (fun K hK => ?_) (fun K hK => ?_)
    · go_simp
      refine hK _ _ ?_
      clear hK K
      try simp only [Act.put, List.getElem_toArray, List.getElem_cons_succ, List.getElem_cons_zero, List.setIfInBounds_toArray, List.set_cons_zero, List.set_cons_succ]
      refine any_one (i := 12) (by kernel_rfl) rfl (by rfl) (fun K hK => ?_)
      go_simp
      refine hK _ _ ?_
      clear hK K
      try simp only [Act.put, List.getElem_toArray, List.getElem_cons_succ, List.getElem_cons_zero, List.setIfInBounds_toArray, List.set_cons_zero, List.set_cons_succ]
      refine wpAny_done (by kernel_rfl) ?_ _
      go_wp2_with fail
      go_end0
      rw [HP.out]
      refine kid_close (cells := fun sv => [c0, c1, c2, sv, c4]) hrow hall K2 R2 HX hown3 hgrow (by simpa using hat) l1 l4 lb n1 (ownsRow_setCell_below (row_store _ _ _ _ _ hown3 hrow.1) (by exact l1) _) XA.out KA.out _ rfl
    · go_simp
      refine hK _ _ ?_
      clear hK K
      try simp only [Act.put, List.getElem_toArray, List.getElem_cons_succ, List.getElem_cons_zero, List.setIfInBounds_toArray, List.set_cons_zero, List.set_cons_succ]
      refine any_one (i := 10) (by kernel_rfl) rfl (by rfl) (fun K hK => ?_)
      go_simp
      refine hK _ _ ?_
      clear hK K
      try simp only [Act.put, List.getElem_toArray, List.getElem_cons_succ, List.getElem_cons_zero, List.setIfInBounds_toArray, List.set_cons_zero, List.set_cons_succ]
      refine wpAny_done (by kernel_rfl) ?_ _
      go_wp2_with fail
      go_end0
      rw [HP.out]
      refine kid_close (cells := fun sv => [c0, c1, c2, sv, c4]) hrow hall K2 R2 HX hown3 hgrow (by simpa using hat) l1 l4 lb n1 (row_store _ _ _ _ _ (ownsRow_setCell_below hown3 (by exact l1) _) hrow.1) XB.out KB.out _ rfl

set_option maxHeartbeats 2000000 in
theorem kid_any_err (d : Nat) (hd : d ≤ 100) (p : Rd Ex) (hC : ExprC 80 (d + 1) p) (w : World) (br n : Nat) (ts : List Tok) (bx b2 b3 base : Nat) (c0 c1 c2 c4 sv : Value) (acc : List Ex)
    (hbx : Blk w bx 100 [c0, c1, c2, sv, c4]) (hb2 : Blk w b2 44 [.pointer (some ⟨br, 0, none⟩)]) (hb3 : Blk w b3 3 [.int .i64 d]) (hown : OwnX exEnc 100 w base sv acc)
    (hr : RdAt w br n ts) (hw : Wf ts) (l1 : bx < base) (l2 : b2 < base) (l3 : b3 < base) (l4 : br < base) (lb : base ≤ w.heap.size) (n1 : br < bx) (n2 : br < b2) (n3 : br < b3) (hacc : acc.length ≤ 100000) (c : Nat) (r : List Tok) (hp : p ts = .err c r) :
    Calls Tryz.prog 110 #[.pointer (some ⟨bx, 0, none⟩), .pointer (some ⟨b2, 0, none⟩), .pointer (some ⟨b3, 0, none⟩)] w (KidPost 100 (fun sv => [c0, c1, c2, sv, c4]) w br n bx base sv acc (p ts)) := by
  obtain ⟨i0, hi, hz0, hz1, hz2⟩ := info_parts Tryz.infoExpr
  obtain ⟨ks, hrow, hall⟩ := hown
  obtain ⟨sa, scap, rfl, _, _, hcap⟩ := owned_cells hrow
  have x0 := hbx.cell 3
  have y0 := hb2.cell 0
  have z0 := hb3.cell 0
  simp only [List.getElem?_cons_zero, List.getElem?_cons_succ] at x0 y0 z0
  have f0 := hbx.frozen 3
  have hwr : IntKind.i64.wrap ((d : Int) + 1) = ((d + 1 : Nat) : Int) := by rw [IntWalk.i64_in _ (by omega)]; rfl
  have HC := hid (hC)
  clear hC
  have HP := hid hp
  clear hp
  go_enter Tryz.func110, Tryz.ntmps110
  go_wp2_with fail
  refine phase_begin (fun w' : World => w'.cell? ⟨bx, 3, none⟩ = some (.slice sa acc.length scap) ∧ w'.cell? ⟨b2, 0, none⟩ = some (.pointer (some ⟨br, 0, none⟩)) ∧ w'.cell? ⟨b3, 0, none⟩ = some (.int .i64 d)) 8 (by kernel_rfl) ?_
  have hS : (fun w' : World => w'.cell? ⟨bx, 3, none⟩ = some (.slice sa acc.length scap) ∧ w'.cell? ⟨b2, 0, none⟩ = some (.pointer (some ⟨br, 0, none⟩)) ∧ w'.cell? ⟨b3, 0, none⟩ = some (.int .i64 d)) w.drew := ⟨x0, y0, z0⟩
  refine phase_take (i := 0) (v := .pointer (some ⟨bx, 3, none⟩)) rfl (by kernel_rfl) (by omega) (by kernel_rfl) (by kernel_rfl) (by kernel_rfl) (fun _ _ _ h => h) ⟨by rfl, ?_⟩ hS ?_
  · intro wS hSw
    obtain ⟨s1, s2, s3⟩ := hSw
    go_simp
  simp only [Act.put, List.getElem_toArray, List.getElem_cons_succ, List.getElem_cons_zero, List.setIfInBounds_toArray, List.set_cons_zero, List.set_cons_succ]
  refine phase_take (i := 1) (v := .slice sa acc.length scap) rfl (by kernel_rfl) (by omega) (by kernel_rfl) (by kernel_rfl) (by kernel_rfl) (fun _ _ _ h => h) ⟨by rfl, ?_⟩ hS ?_
  · intro wS hSw
    obtain ⟨s1, s2, s3⟩ := hSw
    go_simp
  simp only [Act.put, List.getElem_toArray, List.getElem_cons_succ, List.getElem_cons_zero, List.setIfInBounds_toArray, List.set_cons_zero, List.set_cons_succ]
  refine phase_take (i := 2) (v := .pointer (some ⟨br, 0, none⟩)) rfl (by kernel_rfl) (by omega) (by kernel_rfl) (by kernel_rfl) (by kernel_rfl) (fun _ _ _ h => h) ⟨by rfl, ?_⟩ hS ?_
  · intro wS hSw
    obtain ⟨s1, s2, s3⟩ := hSw
    go_simp
  simp only [Act.put, List.getElem_toArray, List.getElem_cons_succ, List.getElem_cons_zero, List.setIfInBounds_toArray, List.set_cons_zero, List.set_cons_succ]
  refine phase_take (i := 3) (v := .int .i64 d) rfl (by kernel_rfl) (by omega) (by kernel_rfl) (by kernel_rfl) (by kernel_rfl) (fun _ _ _ h => h) ⟨by rfl, ?_⟩ hS ?_
  · intro wS hSw
    obtain ⟨s1, s2, s3⟩ := hSw
    go_simp
  simp only [Act.put, List.getElem_toArray, List.getElem_cons_succ, List.getElem_cons_zero, List.setIfInBounds_toArray, List.set_cons_zero, List.set_cons_succ]
  refine phase_take (i := 4) (v := .int .i64 ((d + 1 : Nat) : Int)) rfl (by kernel_rfl) (by omega) (by kernel_rfl) (by kernel_rfl) (by kernel_rfl) (fun _ _ _ h => h) ⟨by rfl, ?_⟩ hS ?_
  · intro wS hSw
    obtain ⟨s1, s2, s3⟩ := hSw
    go_simp
  simp only [Act.put, List.getElem_toArray, List.getElem_cons_succ, List.getElem_cons_zero, List.setIfInBounds_toArray, List.set_cons_zero, List.set_cons_succ]
  refine phase_take (i := 6) (v := .int .i64 acc.length) rfl (by kernel_rfl) (by omega) (by kernel_rfl) (by kernel_rfl) (by kernel_rfl) (fun _ _ _ h => h) ⟨by rfl, ?_⟩ hS ?_
  · intro wS hSw
    obtain ⟨s1, s2, s3⟩ := hSw
    go_simp
  simp only [Act.put, List.getElem_toArray, List.getElem_cons_succ, List.getElem_cons_zero, List.setIfInBounds_toArray, List.set_cons_zero, List.set_cons_succ]
  refine phase_two (i := 5) (j := 7) (by kernel_rfl) (by omega) (by omega) rfl (by rfl) rfl (by rfl) (fun K hK => ?_) (fun K hK => ?_)
  · go_simp
    refine (HC.out _ br n ts (hr.ext (Ext.refl _).drew) hw).mono ?_
    rw [HP.out]
    rintro e w1 ⟨rfl, k1⟩
    go_wp2_with fail
    refine ⟨rfl, ?_⟩
    rw [HP.out]
    exact ⟨rfl, (Keep.refl [br] w).drew.trans' k1⟩
  · have l1' : bx < w.heap.size := by omega
    have l2' : b2 < w.heap.size := by omega
    have l3' : b3 < w.heap.size := by omega
    go_simp
    refine hK _ _ ⟨⟨by go_simp, by go_simp, by go_simp⟩, ?_⟩
    clear hK K
    refine phase_one (i := 5) (by kernel_rfl) (by omega) rfl (by rfl) (fun K hK => ?_)
    go_simp
    refine (HC.out _ br n ts ((hr.ext ((Ext.refl w).alloc (.cells #[.int .i64 0, .int .i64 0, .string ⟨#[]⟩, .slice none 0 0, .int .i64 0] 100))).ext (Ext.refl _).drew) hw).mono ?_
    rw [HP.out]
    rintro e w1 ⟨rfl, k1⟩
    go_wp2_with fail
    refine ⟨rfl, ?_⟩
    rw [HP.out]
    exact ⟨rfl, ((Keep.refl [br] w).alloc (.cells #[.int .i64 0, .int .i64 0, .string ⟨#[]⟩, .slice none 0 0, .int .i64 0] 100)).drew.trans' k1⟩

set_option maxHeartbeats 2000000 in
theorem kid_any (d : Nat) (hd : d ≤ 100) (p : Rd Ex) (hC : ExprC 80 (d + 1) p) (w : World) (br n : Nat) (ts : List Tok) (bx b2 b3 base : Nat) (c0 c1 c2 c4 sv : Value) (acc : List Ex)
    (hbx : Blk w bx 100 [c0, c1, c2, sv, c4]) (hb2 : Blk w b2 44 [.pointer (some ⟨br, 0, none⟩)]) (hb3 : Blk w b3 3 [.int .i64 d]) (hown : OwnX exEnc 100 w base sv acc)
    (hr : RdAt w br n ts) (hw : Wf ts) (l1 : bx < base) (l2 : b2 < base) (l3 : b3 < base) (l4 : br < base) (lb : base ≤ w.heap.size) (n1 : br < bx) (n2 : br < b2) (n3 : br < b3) (hacc : acc.length ≤ 100000) :
    Calls Tryz.prog 110 #[.pointer (some ⟨bx, 0, none⟩), .pointer (some ⟨b2, 0, none⟩), .pointer (some ⟨b3, 0, none⟩)] w (KidPost 100 (fun sv => [c0, c1, c2, sv, c4]) w br n bx base sv acc (p ts)) := by
  cases hp : p ts with
  | ok x r => have h := kid_any_ok d hd p hC w br n ts bx b2 b3 base c0 c1 c2 c4 sv acc hbx hb2 hb3 hown hr hw l1 l2 l3 l4 lb n1 n2 n3 hacc x r hp; rw [hp] at h; exact h
  | err c r => have h := kid_any_err d hd p hC w br n ts bx b2 b3 base c0 c1 c2 c4 sv acc hbx hb2 hb3 hown hr hw l1 l2 l3 l4 lb n1 n2 n3 hacc c r hp; rw [hp] at h; exact h

set_option maxHeartbeats 2000000 in
theorem exprs_any_ok (d : Nat) (hd : d ≤ 100) (p : Rd Ex) (hC : ExprC 80 (d + 1) p) (w : World) (br n : Nat) (ts : List Tok) (bx b2 b3 base : Nat) (c0 c1 c3 c4 c5 sv : Value) (acc : List Ex)
    (hbx : Blk w bx 78 [c0, c1, sv, c3, c4, c5]) (hb2 : Blk w b2 44 [.pointer (some ⟨br, 0, none⟩)]) (hb3 : Blk w b3 3 [.int .i64 d]) (hown : OwnX exEnc 100 w base sv acc)
    (hr : RdAt w br n ts) (hw : Wf ts) (l1 : bx < base) (l2 : b2 < base) (l3 : b3 < base) (l4 : br < base) (lb : base ≤ w.heap.size) (n1 : br < bx) (n2 : br < b2) (n3 : br < b3) (hacc : acc.length ≤ 100000) (x : Ex) (r : List Tok) (hp : p ts = .ok x r) :
    Calls Tryz.prog 79 #[.pointer (some ⟨bx, 0, none⟩), .pointer (some ⟨b2, 0, none⟩), .pointer (some ⟨b3, 0, none⟩)] w (KidPost 78 (fun sv => [c0, c1, sv, c3, c4, c5]) w br n bx base sv acc (p ts)) := by
  obtain ⟨i0, hi, hz0, hz1, hz2⟩ := info_parts Tryz.infoExpr
  obtain ⟨ks, hrow, hall⟩ := hown
  obtain ⟨sa, scap, rfl, _, _, hcap⟩ := owned_cells hrow
  have x0 := hbx.cell 2
  have y0 := hb2.cell 0
  have z0 := hb3.cell 0
  simp only [List.getElem?_cons_zero, List.getElem?_cons_succ] at x0 y0 z0
  have f0 := hbx.frozen 2
  have hwr : IntKind.i64.wrap ((d : Int) + 1) = ((d + 1 : Nat) : Int) := by rw [IntWalk.i64_in _ (by omega)]; rfl
  have HC := hid (hC)
  clear hC
  have HP := hid hp
  clear hp
  go_enter Tryz.func79, Tryz.ntmps79
  go_wp2_with fail
  refine phase_begin (fun w' : World => w'.cell? ⟨bx, 2, none⟩ = some (.slice sa acc.length scap) ∧ w'.cell? ⟨b2, 0, none⟩ = some (.pointer (some ⟨br, 0, none⟩)) ∧ w'.cell? ⟨b3, 0, none⟩ = some (.int .i64 d)) 8 (by kernel_rfl) ?_
  have hS : (fun w' : World => w'.cell? ⟨bx, 2, none⟩ = some (.slice sa acc.length scap) ∧ w'.cell? ⟨b2, 0, none⟩ = some (.pointer (some ⟨br, 0, none⟩)) ∧ w'.cell? ⟨b3, 0, none⟩ = some (.int .i64 d)) w.drew := ⟨x0, y0, z0⟩
  refine phase_take (i := 0) (v := .pointer (some ⟨bx, 2, none⟩)) rfl (by kernel_rfl) (by omega) (by kernel_rfl) (by kernel_rfl) (by kernel_rfl) (fun _ _ _ h => h) ⟨by rfl, ?_⟩ hS ?_
  · intro wS hSw
    obtain ⟨s1, s2, s3⟩ := hSw
    go_simp
  simp only [Act.put, List.getElem_toArray, List.getElem_cons_succ, List.getElem_cons_zero, List.setIfInBounds_toArray, List.set_cons_zero, List.set_cons_succ]
  refine phase_take (i := 1) (v := .slice sa acc.length scap) rfl (by kernel_rfl) (by omega) (by kernel_rfl) (by kernel_rfl) (by kernel_rfl) (fun _ _ _ h => h) ⟨by rfl, ?_⟩ hS ?_
  · intro wS hSw
    obtain ⟨s1, s2, s3⟩ := hSw
    go_simp
  simp only [Act.put, List.getElem_toArray, List.getElem_cons_succ, List.getElem_cons_zero, List.setIfInBounds_toArray, List.set_cons_zero, List.set_cons_succ]
  refine phase_take (i := 2) (v := .pointer (some ⟨br, 0, none⟩)) rfl (by kernel_rfl) (by omega) (by kernel_rfl) (by kernel_rfl) (by kernel_rfl) (fun _ _ _ h => h) ⟨by rfl, ?_⟩ hS ?_
  · intro wS hSw
    obtain ⟨s1, s2, s3⟩ := hSw
    go_simp
  simp only [Act.put, List.getElem_toArray, List.getElem_cons_succ, List.getElem_cons_zero, List.setIfInBounds_toArray, List.set_cons_zero, List.set_cons_succ]
  refine phase_take (i := 3) (v := .int .i64 d) rfl (by kernel_rfl) (by omega) (by kernel_rfl) (by kernel_rfl) (by kernel_rfl) (fun _ _ _ h => h) ⟨by rfl, ?_⟩ hS ?_
  · intro wS hSw
    obtain ⟨s1, s2, s3⟩ := hSw
    go_simp
  simp only [Act.put, List.getElem_toArray, List.getElem_cons_succ, List.getElem_cons_zero, List.setIfInBounds_toArray, List.set_cons_zero, List.set_cons_succ]
  refine phase_take (i := 4) (v := .int .i64 ((d + 1 : Nat) : Int)) rfl (by kernel_rfl) (by omega) (by kernel_rfl) (by kernel_rfl) (by kernel_rfl) (fun _ _ _ h => h) ⟨by rfl, ?_⟩ hS ?_
  · intro wS hSw
    obtain ⟨s1, s2, s3⟩ := hSw
    go_simp
  simp only [Act.put, List.getElem_toArray, List.getElem_cons_succ, List.getElem_cons_zero, List.setIfInBounds_toArray, List.set_cons_zero, List.set_cons_succ]
  refine phase_take (i := 6) (v := .int .i64 acc.length) rfl (by kernel_rfl) (by omega) (by kernel_rfl) (by kernel_rfl) (by kernel_rfl) (fun _ _ _ h => h) ⟨by rfl, ?_⟩ hS ?_
  · intro wS hSw
    obtain ⟨s1, s2, s3⟩ := hSw
    go_simp
  simp only [Act.put, List.getElem_toArray, List.getElem_cons_succ, List.getElem_cons_zero, List.setIfInBounds_toArray, List.set_cons_zero, List.set_cons_succ]
  refine phase_two (i := 5) (j := 7) (by kernel_rfl) (by omega) (by omega) rfl (by rfl) rfl (by rfl) (fun K hK => ?_) (fun K hK => ?_)
  · have R0 := hr
    have hS0 := hS
    go_simp
    refine (HC.out _ br n ts (R0.ext (Ext.refl _).drew) hw).mono ?_
    rw [HP.out]
    rintro e w1 ⟨v, rfl, ⟨vs, rfl, hx⟩, r1, k1⟩
    have hx' := hx
    obtain ⟨op, num, text, kids, at_⟩ := x
    simp only [ExIs] at hx'
    obtain ⟨kv, rfl, ka, kcap, kks, rfl, _⟩ := hx'
    have S1 : w1.cell? ⟨bx, 2, none⟩ = some (.slice sa acc.length scap) := k1.cellV (by simp; omega) (by simpa using hS0.1)
    have S2 : w1.cell? ⟨b2, 0, none⟩ = some (.pointer (some ⟨br, 0, none⟩)) := k1.cellV (by simp; omega) (by simpa using hS0.2.1)
    have S3 : w1.cell? ⟨b3, 0, none⟩ = some (.int .i64 d) := k1.cellV (by simp; omega) (by simpa using hS0.2.2)
    refine hK _ _ ⟨⟨S1, S2, S3⟩, ?_⟩
    clear hK K
    refine phase_one (i := 7) (by kernel_rfl) (by omega) rfl (by rfl) (fun K hK => ?_)
    have l1' : bx < w1.heap.size := World.block_lt_of_cell? _ _ S1
    have l2' : b2 < w1.heap.size := World.block_lt_of_cell? _ _ S2
    have l3' : b3 < w1.heap.size := World.block_lt_of_cell? _ _ S3
    go_simp
    refine hK _ _ ⟨⟨by go_simp, by go_simp, by go_simp⟩, ?_⟩
    clear hK K
    have R8 := (ownsRow_keep (w := w.drew) hrow k1 (fun b hb _ e => by have := (hrow.lt b e).1; simp at hb; omega)).alloc (.cells #[.int .i64 0, .int .i64 0, .string ⟨#[]⟩, .slice none 0 0, .int .i64 0] 100)
    have Z8 := news_cells w1 w1.heap.size 100 [.int .i64 0, .int .i64 0, .string ⟨#[]⟩, .slice none 0 0, .int .i64 0] rfl
    have K2 := ((Keep.refl [br] w).drew.trans' k1).alloc (.cells #[.int .i64 0, .int .i64 0, .string ⟨#[]⟩, .slice none 0 0, .int .i64 0] 100)
    have R2 := r1.ext ((Ext.refl w1).alloc (.cells #[.int .i64 0, .int .i64 0, .string ⟨#[]⟩, .slice none 0 0, .int .i64 0] 100))
    have HX := ExIs.carry (Carry.keep (.ofExt ((Ext.refl w1).alloc (.cells #[.int .i64 0, .int .i64 0, .string ⟨#[]⟩, .slice none 0 0, .int .i64 0] 100)) : Keep [] w1 _) (by simp) (fun b _ h => h)) _ _ hx
    have B8' : base ≤ (w1.alloc (.cells #[.int .i64 0, .int .i64 0, .string ⟨#[]⟩, .slice none 0 0, .int .i64 0] 100)).heap.size := by have := k1.size; simp at this ⊢; omega
    have X8 := ((hbx.drew.keep k1 (by simp; omega)).alloc (.cells #[.int .i64 0, .int .i64 0, .string ⟨#[]⟩, .slice none 0 0, .int .i64 0] 100))
    refine phase_late (i := 8) (by kernel_rfl) (by omega) rfl (by rfl) (fun K hK => ?_)
    refine wp_append_lies _ (.tmp 4) (.tmp 10) 76 (by rfl) base 100 i0 (.agg #[.int .i64 0, .int .i64 0, .string ⟨#[]⟩, .slice none 0 0, .int .i64 0]) 5 64 Tryz.underlying76 hi hz0 hz1 hz2 rfl (by omega) (.slice sa acc.length scap) acc.length ks (by rfl) R8 ⟨w1.heap.size, 0, none⟩ 1 1
      [.int .i64 0, .int .i64 0, .string ⟨#[]⟩, .slice none 0 0, .int .i64 0] (by rfl) (by rfl) Z8 (by simp [Value.oneCell']) (by omega) (by simp only [maxLen]; omega) (by omega) B8' (w1.heap.size + 1) (by simp) (fun g cap w3 hown3 hgrow hat hlt => ?_)
    refine hK _ _ ?_
    clear hK K
    simp only [Act.put, List.getElem_toArray, List.getElem_cons_succ, List.getElem_cons_zero, List.setIfInBounds_toArray, List.set_cons_zero, List.set_cons_succ]
    have lg : base ≤ g := (hown3.lt g rfl).1
    have kk := Keep.grownBy hgrow (ownL (.slice sa acc.length scap)) (fun k hk => mem_ownL.2 hk)
    have nown : ∀ b, b < base → b ∉ ownL (.slice sa acc.length scap) := fun b hb hm => by have := (hrow.lt b (mem_ownL.1 hm)).1; omega
    have X3 := X8.keep kk (nown bx l1)
    obtain ⟨e0, e1, e2, e3, e4, ef⟩ := elem_cells hown3 hrow.1
    have x3 := X3.cell 2
    have f3 := X3.frozen 2
    simp only [List.getElem?_cons_zero, List.getElem?_cons_succ] at x3
    have hlt : ¬ ((acc.length : Int) + 1 ≤ acc.length) := by omega
    have gb : g ≠ bx := by omega
    have gb' : bx ≠ g := by omega
    have XA1 := ((((((X3.setOther ⟨g, acc.length * 5, none⟩ gb (.int .i64 op)).setOther ⟨g, acc.length * 5 + 1, none⟩ gb (.int .i64 num)).setOther ⟨g, acc.length * 5 + 2, none⟩ gb (.string ⟨text.toArray⟩)).setOther ⟨g, acc.length * 5 + 3, none⟩ gb (.slice ka kids.length kcap)).setOther ⟨g, acc.length * 5 + 4, none⟩ gb (.int .i64 at_)).set 2 (.slice (some ⟨g, 0, none⟩) (acc.length + 1) cap))
    have XB1 := ((((((X3.set 2 (.slice (some ⟨g, 0, none⟩) (acc.length + 1) cap)).setOther ⟨g, acc.length * 5, none⟩ gb (.int .i64 op)).setOther ⟨g, acc.length * 5 + 1, none⟩ gb (.int .i64 num)).setOther ⟨g, acc.length * 5 + 2, none⟩ gb (.string ⟨text.toArray⟩)).setOther ⟨g, acc.length * 5 + 3, none⟩ gb (.slice ka kids.length kcap)).setOther ⟨g, acc.length * 5 + 4, none⟩ gb (.int .i64 at_))
    have KA1 := ((((((Keep.refl [bx, g] w3).setCell (p := ⟨g, acc.length * 5, none⟩) (by simp) (.int .i64 op)).setCell (p := ⟨g, acc.length * 5 + 1, none⟩) (by simp) (.int .i64 num)).setCell (p := ⟨g, acc.length * 5 + 2, none⟩) (by simp) (.string ⟨text.toArray⟩)).setCell (p := ⟨g, acc.length * 5 + 3, none⟩) (by simp) (.slice ka kids.length kcap)).setCell (p := ⟨g, acc.length * 5 + 4, none⟩) (by simp) (.int .i64 at_)).setCell (p := ⟨bx, 2, none⟩) (by simp) (.slice (some ⟨g, 0, none⟩) (acc.length + 1) cap)
    have KB1 := ((((((Keep.refl [bx, g] w3).setCell (p := ⟨bx, 2, none⟩) (by simp) (.slice (some ⟨g, 0, none⟩) (acc.length + 1) cap)).setCell (p := ⟨g, acc.length * 5, none⟩) (by simp) (.int .i64 op)).setCell (p := ⟨g, acc.length * 5 + 1, none⟩) (by simp) (.int .i64 num)).setCell (p := ⟨g, acc.length * 5 + 2, none⟩) (by simp) (.string ⟨text.toArray⟩)).setCell (p := ⟨g, acc.length * 5 + 3, none⟩) (by simp) (.slice ka kids.length kcap)).setCell (p := ⟨g, acc.length * 5 + 4, none⟩) (by simp) (.int .i64 at_)
    have XA := hid XA1
    have XB := hid XB1
    have KA := hid KA1
    have KB := hid KB1
    clear XA1 XB1 KA1 KB1
    refine any_take (i := 9) (v := .pointer (some ⟨g, acc.length * 5, none⟩)) rfl (by kernel_rfl) (by kernel_rfl) (by kernel_rfl) (fun _ _ _ h => h) ⟨by rfl, ?_⟩ ?_
    · intro wS
      go_simp
    simp only [Act.put, List.getElem_toArray, List.getElem_cons_succ, List.getElem_cons_zero, List.setIfInBounds_toArray, List.set_cons_zero, List.set_cons_succ]
    refine any_take (i := 11) (v := .pointer (some ⟨bx, 2, none⟩)) rfl (by kernel_rfl) (by kernel_rfl) (by kernel_rfl) (fun _ _ _ h => h) ⟨by rfl, ?_⟩ ?_
    · intro wS
      go_simp
    simp only [Act.put, List.getElem_toArray, List.getElem_cons_succ, List.getElem_cons_zero, List.setIfInBounds_toArray, List.set_cons_zero, List.set_cons_succ]
    refine any_two (i := 10) (j := 12) (by kernel_rfl) rfl (by rfl) rfl (by rfl) (fun K hK => ?_) (fun K hK => ?_)
    · go_simp
      refine hK _ _ ?_
      clear hK K
      try simp only [Act.put, List.getElem_toArray, List.getElem_cons_succ, List.getElem_cons_zero, List.setIfInBounds_toArray, List.set_cons_zero, List.set_cons_succ]
      refine any_one (i := 12) (by kernel_rfl) rfl (by rfl) (fun K hK => ?_)
      go_simp
      refine hK _ _ ?_
      clear hK K
      try simp only [Act.put, List.getElem_toArray, List.getElem_cons_succ, List.getElem_cons_zero, List.setIfInBounds_toArray, List.set_cons_zero, List.set_cons_succ]
      refine wpAny_done (by kernel_rfl) ?_ _
      go_wp2_with fail
      go_end0
      rw [HP.out]
      refine kid_close (cells := fun sv => [c0, c1, sv, c3, c4, c5]) hrow hall K2 R2 HX hown3 hgrow (by simpa using hat) l1 l4 lb n1 (ownsRow_setCell_below (row_store _ _ _ _ _ hown3 hrow.1) (by exact l1) _) XA.out KA.out _ rfl
    · go_simp
      refine hK _ _ ?_
      clear hK K
      try simp only [Act.put, List.getElem_toArray, List.getElem_cons_succ, List.getElem_cons_zero, List.setIfInBounds_toArray, List.set_cons_zero, List.set_cons_succ]
      refine any_one (i := 10) (by kernel_rfl) rfl (by rfl) (fun K hK => ?_)
      go_simp
      refine hK _ _ ?_
      clear hK K
      try simp only [Act.put, List.getElem_toArray, List.getElem_cons_succ, List.getElem_cons_zero, List.setIfInBounds_toArray, List.set_cons_zero, List.set_cons_succ]
      refine wpAny_done (by kernel_rfl) ?_ _
      go_wp2_with fail
      go_end0
      rw [HP.out]
      refine kid_close (cells := fun sv => [c0, c1, sv, c3, c4, c5]) hrow hall K2 R2 HX hown3 hgrow (by simpa using hat) l1 l4 lb n1 (row_store _ _ _ _ _ (ownsRow_setCell_below hown3 (by exact l1) _) hrow.1) XB.out KB.out _ rfl

  · have l1' : bx < w.heap.size := by omega
    have l2' : b2 < w.heap.size := by omega
    have l3' : b3 < w.heap.size := by omega
    go_simp
    refine hK _ _ ⟨⟨by go_simp, by go_simp, by go_simp⟩, ?_⟩
    clear hK K
    refine phase_one (i := 5) (by kernel_rfl) (by omega) rfl (by rfl) (fun K hK => ?_)
    have R0 := ((hr.ext ((Ext.refl w).alloc (.cells #[.int .i64 0, .int .i64 0, .string ⟨#[]⟩, .slice none 0 0, .int .i64 0] 100))))
    have hS0 : (w.alloc (.cells #[.int .i64 0, .int .i64 0, .string ⟨#[]⟩, .slice none 0 0, .int .i64 0] 100)).cell? ⟨bx, 2, none⟩ = some (.slice sa acc.length scap) ∧ (w.alloc (.cells #[.int .i64 0, .int .i64 0, .string ⟨#[]⟩, .slice none 0 0, .int .i64 0] 100)).cell? ⟨b2, 0, none⟩ = some (.pointer (some ⟨br, 0, none⟩)) ∧ (w.alloc (.cells #[.int .i64 0, .int .i64 0, .string ⟨#[]⟩, .slice none 0 0, .int .i64 0] 100)).cell? ⟨b3, 0, none⟩ = some (.int .i64 d) := ⟨by go_simp, by go_simp, by go_simp⟩
    go_simp
    refine (HC.out _ br n ts (R0.ext (Ext.refl _).drew) hw).mono ?_
    rw [HP.out]
    rintro e w1 ⟨v, rfl, ⟨vs, rfl, hx⟩, r1, k1⟩
    have hx' := hx
    obtain ⟨op, num, text, kids, at_⟩ := x
    simp only [ExIs] at hx'
    obtain ⟨kv, rfl, ka, kcap, kks, rfl, _⟩ := hx'
    have S1 : w1.cell? ⟨bx, 2, none⟩ = some (.slice sa acc.length scap) := k1.cellV (by simp; omega) (by simpa using hS0.1)
    have S2 : w1.cell? ⟨b2, 0, none⟩ = some (.pointer (some ⟨br, 0, none⟩)) := k1.cellV (by simp; omega) (by simpa using hS0.2.1)
    have S3 : w1.cell? ⟨b3, 0, none⟩ = some (.int .i64 d) := k1.cellV (by simp; omega) (by simpa using hS0.2.2)
    refine hK _ _ ⟨⟨S1, S2, S3⟩, ?_⟩
    clear hK K
    have R8 := ownsRow_keep (w := (w.alloc (.cells #[.int .i64 0, .int .i64 0, .string ⟨#[]⟩, .slice none 0 0, .int .i64 0] 100)).drew) (hrow.alloc (.cells #[.int .i64 0, .int .i64 0, .string ⟨#[]⟩, .slice none 0 0, .int .i64 0] 100)) k1 (fun b hb _ e => by have := (hrow.lt b e).1; simp at hb; omega)
    have Z8 : ∀ (j : Nat) (u : Value), [Value.int .i64 0, .int .i64 0, .string ⟨#[]⟩, .slice none 0 0, .int .i64 0][j]? = some u → w1.cell? ((⟨w.heap.size, 0, none⟩ : Addr).add j) = some u := fun j u hu => by
      have h := news_cells w w.heap.size 100 [.int .i64 0, .int .i64 0, .string ⟨#[]⟩, .slice none 0 0, .int .i64 0] rfl j u hu
      rw [add_plain] at h ⊢
      exact k1.cellV (by simp; omega) h
    have X8 := ((hbx.alloc (.cells #[.int .i64 0, .int .i64 0, .string ⟨#[]⟩, .slice none 0 0, .int .i64 0] 100)).drew.keep k1 (by simp; omega))
    have K2 := (((Keep.refl [br] w).alloc (.cells #[.int .i64 0, .int .i64 0, .string ⟨#[]⟩, .slice none 0 0, .int .i64 0] 100)).drew).trans' k1
    have R2 := r1
    have HX := ExIs.carry (Carry.keep (Keep.refl [] w1) (by simp) (fun b _ h => by have h' : (w.alloc (.cells #[.int .i64 0, .int .i64 0, .string ⟨#[]⟩, .slice none 0 0, .int .i64 0] 100)).heap.size ≤ b := h; simp at h'; omega) : Carry w1 w1 _ (w.heap.size ≤ ·)) _ _ hx
    have B8' : base ≤ w1.heap.size := by have := K2.size; omega
    refine phase_late (i := 8) (by kernel_rfl) (by omega) rfl (by rfl) (fun K hK => ?_)
    refine wp_append_lies _ (.tmp 4) (.tmp 10) 76 (by rfl) base 100 i0 (.agg #[.int .i64 0, .int .i64 0, .string ⟨#[]⟩, .slice none 0 0, .int .i64 0]) 5 64 Tryz.underlying76 hi hz0 hz1 hz2 rfl (by omega) (.slice sa acc.length scap) acc.length ks (by rfl) R8 ⟨w.heap.size, 0, none⟩ 1 1
      [.int .i64 0, .int .i64 0, .string ⟨#[]⟩, .slice none 0 0, .int .i64 0] (by rfl) (by rfl) Z8 (by simp [Value.oneCell']) (by omega) (by simp only [maxLen]; omega) (by omega) B8' (w1.heap.size) (by simp) (fun g cap w3 hown3 hgrow hat hlt => ?_)
    refine hK _ _ ?_
    clear hK K
    simp only [Act.put, List.getElem_toArray, List.getElem_cons_succ, List.getElem_cons_zero, List.setIfInBounds_toArray, List.set_cons_zero, List.set_cons_succ]
    have lg : base ≤ g := (hown3.lt g rfl).1
    have kk := Keep.grownBy hgrow (ownL (.slice sa acc.length scap)) (fun k hk => mem_ownL.2 hk)
    have nown : ∀ b, b < base → b ∉ ownL (.slice sa acc.length scap) := fun b hb hm => by have := (hrow.lt b (mem_ownL.1 hm)).1; omega
    have X3 := X8.keep kk (nown bx l1)
    obtain ⟨e0, e1, e2, e3, e4, ef⟩ := elem_cells hown3 hrow.1
    have x3 := X3.cell 2
    have f3 := X3.frozen 2
    simp only [List.getElem?_cons_zero, List.getElem?_cons_succ] at x3
    have hlt : ¬ ((acc.length : Int) + 1 ≤ acc.length) := by omega
    have gb : g ≠ bx := by omega
    have gb' : bx ≠ g := by omega
    have XA1 := ((((((X3.setOther ⟨g, acc.length * 5, none⟩ gb (.int .i64 op)).setOther ⟨g, acc.length * 5 + 1, none⟩ gb (.int .i64 num)).setOther ⟨g, acc.length * 5 + 2, none⟩ gb (.string ⟨text.toArray⟩)).setOther ⟨g, acc.length * 5 + 3, none⟩ gb (.slice ka kids.length kcap)).setOther ⟨g, acc.length * 5 + 4, none⟩ gb (.int .i64 at_)).set 2 (.slice (some ⟨g, 0, none⟩) (acc.length + 1) cap))
    have XB1 := ((((((X3.set 2 (.slice (some ⟨g, 0, none⟩) (acc.length + 1) cap)).setOther ⟨g, acc.length * 5, none⟩ gb (.int .i64 op)).setOther ⟨g, acc.length * 5 + 1, none⟩ gb (.int .i64 num)).setOther ⟨g, acc.length * 5 + 2, none⟩ gb (.string ⟨text.toArray⟩)).setOther ⟨g, acc.length * 5 + 3, none⟩ gb (.slice ka kids.length kcap)).setOther ⟨g, acc.length * 5 + 4, none⟩ gb (.int .i64 at_))
    have KA1 := ((((((Keep.refl [bx, g] w3).setCell (p := ⟨g, acc.length * 5, none⟩) (by simp) (.int .i64 op)).setCell (p := ⟨g, acc.length * 5 + 1, none⟩) (by simp) (.int .i64 num)).setCell (p := ⟨g, acc.length * 5 + 2, none⟩) (by simp) (.string ⟨text.toArray⟩)).setCell (p := ⟨g, acc.length * 5 + 3, none⟩) (by simp) (.slice ka kids.length kcap)).setCell (p := ⟨g, acc.length * 5 + 4, none⟩) (by simp) (.int .i64 at_)).setCell (p := ⟨bx, 2, none⟩) (by simp) (.slice (some ⟨g, 0, none⟩) (acc.length + 1) cap)
    have KB1 := ((((((Keep.refl [bx, g] w3).setCell (p := ⟨bx, 2, none⟩) (by simp) (.slice (some ⟨g, 0, none⟩) (acc.length + 1) cap)).setCell (p := ⟨g, acc.length * 5, none⟩) (by simp) (.int .i64 op)).setCell (p := ⟨g, acc.length * 5 + 1, none⟩) (by simp) (.int .i64 num)).setCell (p := ⟨g, acc.length * 5 + 2, none⟩) (by simp) (.string ⟨text.toArray⟩)).setCell (p := ⟨g, acc.length * 5 + 3, none⟩) (by simp) (.slice ka kids.length kcap)).setCell (p := ⟨g, acc.length * 5 + 4, none⟩) (by simp) (.int .i64 at_)
    have XA := hid XA1
    have XB := hid XB1
    have KA := hid KA1
    have KB := hid KB1
    clear XA1 XB1 KA1 KB1
    refine any_take (i := 9) (v := .pointer (some ⟨g, acc.length * 5, none⟩)) rfl (by kernel_rfl) (by kernel_rfl) (by kernel_rfl) (fun _ _ _ h => h) ⟨by rfl, ?_⟩ ?_
    · intro wS
      go_simp
    simp only [Act.put, List.getElem_toArray, List.getElem_cons_succ, List.getElem_cons_zero, List.setIfInBounds_toArray, List.set_cons_zero, List.set_cons_succ]
    refine any_take (i := 11) (v := .pointer (some ⟨bx, 2, none⟩)) rfl (by kernel_rfl) (by kernel_rfl) (by kernel_rfl) (fun _ _ _ h => h) ⟨by rfl, ?_⟩ ?_
    · intro wS
      go_simp
    simp only [Act.put, List.getElem_toArray, List.getElem_cons_succ, List.getElem_cons_zero, List.setIfInBounds_toArray, List.set_cons_zero, List.set_cons_succ]
    refine any_two (i := 10) (j := 12) (by kernel_rfl) rfl (by rfl) rfl (by rfl) (fun K hK => ?_) (fun K hK => ?_)
    · go_simp
      refine hK _ _ ?_
      clear hK K
      try simp only [Act.put, List.getElem_toArray, List.getElem_cons_succ, List.getElem_cons_zero, List.setIfInBounds_toArray, List.set_cons_zero, List.set_cons_succ]
      refine any_one (i := 12) (by kernel_rfl) rfl (by rfl) (fun K hK => ?_)
      go_simp
      refine hK _ _ ?_
      clear hK K
      try simp only [Act.put, List.getElem_toArray, List.getElem_cons_succ, List.getElem_cons_zero, List.setIfInBounds_toArray, List.set_cons_zero, List.set_cons_succ]
      refine wpAny_done (by kernel_rfl) ?_ _
      go_wp2_with fail
      go_end0
      rw [HP.out]
      refine kid_close (cells := fun sv => [c0, c1, sv, c3, c4, c5]) hrow hall K2 R2 HX hown3 hgrow (by simpa using hat) l1 l4 lb n1 (ownsRow_setCell_below (row_store _ _ _ _ _ hown3 hrow.1) (by exact l1) _) XA.out KA.out _ rfl
    · go_simp
      refine hK _ _ ?_
      clear hK K
      try simp only [Act.put, List.getElem_toArray, List.getElem_cons_succ, List.getElem_cons_zero, List.setIfInBounds_toArray, List.set_cons_zero, List.set_cons_succ]
      refine any_one (i := 10) (by kernel_rfl) rfl (by rfl) (fun K hK => ?_)
      go_simp
      refine hK _ _ ?_
      clear hK K
      try simp only [Act.put, List.getElem_toArray, List.getElem_cons_succ, List.getElem_cons_zero, List.setIfInBounds_toArray, List.set_cons_zero, List.set_cons_succ]
      refine wpAny_done (by kernel_rfl) ?_ _
      go_wp2_with fail
      go_end0
      rw [HP.out]
      refine kid_close (cells := fun sv => [c0, c1, sv, c3, c4, c5]) hrow hall K2 R2 HX hown3 hgrow (by simpa using hat) l1 l4 lb n1 (row_store _ _ _ _ _ (ownsRow_setCell_below hown3 (by exact l1) _) hrow.1) XB.out KB.out _ rfl

set_option maxHeartbeats 2000000 in
theorem exprs_any_err (d : Nat) (hd : d ≤ 100) (p : Rd Ex) (hC : ExprC 80 (d + 1) p) (w : World) (br n : Nat) (ts : List Tok) (bx b2 b3 base : Nat) (c0 c1 c3 c4 c5 sv : Value) (acc : List Ex)
    (hbx : Blk w bx 78 [c0, c1, sv, c3, c4, c5]) (hb2 : Blk w b2 44 [.pointer (some ⟨br, 0, none⟩)]) (hb3 : Blk w b3 3 [.int .i64 d]) (hown : OwnX exEnc 100 w base sv acc)
    (hr : RdAt w br n ts) (hw : Wf ts) (l1 : bx < base) (l2 : b2 < base) (l3 : b3 < base) (l4 : br < base) (lb : base ≤ w.heap.size) (n1 : br < bx) (n2 : br < b2) (n3 : br < b3) (hacc : acc.length ≤ 100000) (c : Nat) (r : List Tok) (hp : p ts = .err c r) :
    Calls Tryz.prog 79 #[.pointer (some ⟨bx, 0, none⟩), .pointer (some ⟨b2, 0, none⟩), .pointer (some ⟨b3, 0, none⟩)] w (KidPost 78 (fun sv => [c0, c1, sv, c3, c4, c5]) w br n bx base sv acc (p ts)) := by
  obtain ⟨i0, hi, hz0, hz1, hz2⟩ := info_parts Tryz.infoExpr
  obtain ⟨ks, hrow, hall⟩ := hown
  obtain ⟨sa, scap, rfl, _, _, hcap⟩ := owned_cells hrow
  have x0 := hbx.cell 2
  have y0 := hb2.cell 0
  have z0 := hb3.cell 0
  simp only [List.getElem?_cons_zero, List.getElem?_cons_succ] at x0 y0 z0
  have f0 := hbx.frozen 2
  have hwr : IntKind.i64.wrap ((d : Int) + 1) = ((d + 1 : Nat) : Int) := by rw [IntWalk.i64_in _ (by omega)]; rfl
  have HC := hid (hC)
  clear hC
  have HP := hid hp
  clear hp
  go_enter Tryz.func79, Tryz.ntmps79
  go_wp2_with fail
  refine phase_begin (fun w' : World => w'.cell? ⟨bx, 2, none⟩ = some (.slice sa acc.length scap) ∧ w'.cell? ⟨b2, 0, none⟩ = some (.pointer (some ⟨br, 0, none⟩)) ∧ w'.cell? ⟨b3, 0, none⟩ = some (.int .i64 d)) 8 (by kernel_rfl) ?_
  have hS : (fun w' : World => w'.cell? ⟨bx, 2, none⟩ = some (.slice sa acc.length scap) ∧ w'.cell? ⟨b2, 0, none⟩ = some (.pointer (some ⟨br, 0, none⟩)) ∧ w'.cell? ⟨b3, 0, none⟩ = some (.int .i64 d)) w.drew := ⟨x0, y0, z0⟩
  refine phase_take (i := 0) (v := .pointer (some ⟨bx, 2, none⟩)) rfl (by kernel_rfl) (by omega) (by kernel_rfl) (by kernel_rfl) (by kernel_rfl) (fun _ _ _ h => h) ⟨by rfl, ?_⟩ hS ?_
  · intro wS hSw
    obtain ⟨s1, s2, s3⟩ := hSw
    go_simp
  simp only [Act.put, List.getElem_toArray, List.getElem_cons_succ, List.getElem_cons_zero, List.setIfInBounds_toArray, List.set_cons_zero, List.set_cons_succ]
  refine phase_take (i := 1) (v := .slice sa acc.length scap) rfl (by kernel_rfl) (by omega) (by kernel_rfl) (by kernel_rfl) (by kernel_rfl) (fun _ _ _ h => h) ⟨by rfl, ?_⟩ hS ?_
  · intro wS hSw
    obtain ⟨s1, s2, s3⟩ := hSw
    go_simp
  simp only [Act.put, List.getElem_toArray, List.getElem_cons_succ, List.getElem_cons_zero, List.setIfInBounds_toArray, List.set_cons_zero, List.set_cons_succ]
  refine phase_take (i := 2) (v := .pointer (some ⟨br, 0, none⟩)) rfl (by kernel_rfl) (by omega) (by kernel_rfl) (by kernel_rfl) (by kernel_rfl) (fun _ _ _ h => h) ⟨by rfl, ?_⟩ hS ?_
  · intro wS hSw
    obtain ⟨s1, s2, s3⟩ := hSw
    go_simp
  simp only [Act.put, List.getElem_toArray, List.getElem_cons_succ, List.getElem_cons_zero, List.setIfInBounds_toArray, List.set_cons_zero, List.set_cons_succ]
  refine phase_take (i := 3) (v := .int .i64 d) rfl (by kernel_rfl) (by omega) (by kernel_rfl) (by kernel_rfl) (by kernel_rfl) (fun _ _ _ h => h) ⟨by rfl, ?_⟩ hS ?_
  · intro wS hSw
    obtain ⟨s1, s2, s3⟩ := hSw
    go_simp
  simp only [Act.put, List.getElem_toArray, List.getElem_cons_succ, List.getElem_cons_zero, List.setIfInBounds_toArray, List.set_cons_zero, List.set_cons_succ]
  refine phase_take (i := 4) (v := .int .i64 ((d + 1 : Nat) : Int)) rfl (by kernel_rfl) (by omega) (by kernel_rfl) (by kernel_rfl) (by kernel_rfl) (fun _ _ _ h => h) ⟨by rfl, ?_⟩ hS ?_
  · intro wS hSw
    obtain ⟨s1, s2, s3⟩ := hSw
    go_simp
  simp only [Act.put, List.getElem_toArray, List.getElem_cons_succ, List.getElem_cons_zero, List.setIfInBounds_toArray, List.set_cons_zero, List.set_cons_succ]
  refine phase_take (i := 6) (v := .int .i64 acc.length) rfl (by kernel_rfl) (by omega) (by kernel_rfl) (by kernel_rfl) (by kernel_rfl) (fun _ _ _ h => h) ⟨by rfl, ?_⟩ hS ?_
  · intro wS hSw
    obtain ⟨s1, s2, s3⟩ := hSw
    go_simp
  simp only [Act.put, List.getElem_toArray, List.getElem_cons_succ, List.getElem_cons_zero, List.setIfInBounds_toArray, List.set_cons_zero, List.set_cons_succ]
  refine phase_two (i := 5) (j := 7) (by kernel_rfl) (by omega) (by omega) rfl (by rfl) rfl (by rfl) (fun K hK => ?_) (fun K hK => ?_)
  · go_simp
    refine (HC.out _ br n ts (hr.ext (Ext.refl _).drew) hw).mono ?_
    rw [HP.out]
    rintro e w1 ⟨rfl, k1⟩
    go_wp2_with fail
    refine ⟨rfl, ?_⟩
    rw [HP.out]
    exact ⟨rfl, (Keep.refl [br] w).drew.trans' k1⟩
  · have l1' : bx < w.heap.size := by omega
    have l2' : b2 < w.heap.size := by omega
    have l3' : b3 < w.heap.size := by omega
    go_simp
    refine hK _ _ ⟨⟨by go_simp, by go_simp, by go_simp⟩, ?_⟩
    clear hK K
    refine phase_one (i := 5) (by kernel_rfl) (by omega) rfl (by rfl) (fun K hK => ?_)
    go_simp
    refine (HC.out _ br n ts ((hr.ext ((Ext.refl w).alloc (.cells #[.int .i64 0, .int .i64 0, .string ⟨#[]⟩, .slice none 0 0, .int .i64 0] 100))).ext (Ext.refl _).drew) hw).mono ?_
    rw [HP.out]
    rintro e w1 ⟨rfl, k1⟩
    go_wp2_with fail
    refine ⟨rfl, ?_⟩
    rw [HP.out]
    exact ⟨rfl, ((Keep.refl [br] w).alloc (.cells #[.int .i64 0, .int .i64 0, .string ⟨#[]⟩, .slice none 0 0, .int .i64 0] 100)).drew.trans' k1⟩

set_option maxHeartbeats 2000000 in
theorem exprs_any (d : Nat) (hd : d ≤ 100) (p : Rd Ex) (hC : ExprC 80 (d + 1) p) (w : World) (br n : Nat) (ts : List Tok) (bx b2 b3 base : Nat) (c0 c1 c3 c4 c5 sv : Value) (acc : List Ex)
    (hbx : Blk w bx 78 [c0, c1, sv, c3, c4, c5]) (hb2 : Blk w b2 44 [.pointer (some ⟨br, 0, none⟩)]) (hb3 : Blk w b3 3 [.int .i64 d]) (hown : OwnX exEnc 100 w base sv acc)
    (hr : RdAt w br n ts) (hw : Wf ts) (l1 : bx < base) (l2 : b2 < base) (l3 : b3 < base) (l4 : br < base) (lb : base ≤ w.heap.size) (n1 : br < bx) (n2 : br < b2) (n3 : br < b3) (hacc : acc.length ≤ 100000) :
    Calls Tryz.prog 79 #[.pointer (some ⟨bx, 0, none⟩), .pointer (some ⟨b2, 0, none⟩), .pointer (some ⟨b3, 0, none⟩)] w (KidPost 78 (fun sv => [c0, c1, sv, c3, c4, c5]) w br n bx base sv acc (p ts)) := by
  cases hp : p ts with
  | ok x r => have h := exprs_any_ok d hd p hC w br n ts bx b2 b3 base c0 c1 c3 c4 c5 sv acc hbx hb2 hb3 hown hr hw l1 l2 l3 l4 lb n1 n2 n3 hacc x r hp; rw [hp] at h; exact h
  | err c r => have h := exprs_any_err d hd p hC w br n ts bx b2 b3 base c0 c1 c3 c4 c5 sv acc hbx hb2 hb3 hown hr hw l1 l2 l3 l4 lb n1 n2 n3 hacc c r hp; rw [hp] at h; exact h
end Go.Proofs.YtaehlakefgnfmaaGreatDoor
