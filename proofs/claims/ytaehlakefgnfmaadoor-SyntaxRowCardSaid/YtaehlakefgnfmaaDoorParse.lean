/-
  DERIVED. THE WALK of Parse.
-/
import Derived.Test.YtaehlakefgnfmaaDoorParse0
namespace Go.Proofs.YtaehlakefgnfmaaDoor
set_option linter.unusedSimpArgs false
set_option linter.unusedVariables false
set_option maxRecDepth 100000
open Go.RowKit

/-- What Parse answers. -/
def parseEnds (o : Except (Nat × Nat) (List Fu)) (B : Nat) (e : Ending) (w' : World) : Prop :=
  match o with
  | .ok p => ∃ v, e = .returned (.tuple #[.agg #[v], .int .i64 0, .int .i64 0]) ∧ RowIs w' (B ≤ ·) v p.length (FusIs w' (B ≤ ·) p)
  | .error (x, p) => e = .returned (.tuple #[.agg #[.slice none 0 0], .int .i64 x, .int .i64 p])
theorem Tryd.infoFunc : (Tryd.prog.info? 47).map (fun i => (i.zero, i.size, i.bytes)) = some (some (.agg #[.string ⟨#[]⟩, .slice none 0 0, .int .i64 0, .slice none 0 0, .int .i64 0]), 5, 80) := by kernel_rfl
theorem lexGo_code : ∀ (f pos : Nat) (l : List UInt8) (cnt : Nat) (x p : Nat), lexGo f pos l cnt = .error (x, p) → x = 2 ∨ x = 31 ∨ x = 32 := by
  intro f
  induction f with
  | zero => intro pos l cnt x p h; simp [lexGo] at h
  | succ f ih =>
    intro pos l cnt x p h
    cases l with
    | nil => simp [lexGo] at h
    | cons c r =>
      simp only [lexGo] at h
      split at h
      · rename_i y hy
        cases h
        rcases nextT_err hy with rfl | rfl <;> simp
      · split at h
        · cases h; simp
        · split at h
          · cases h
          · rename_i e he
            cases h
            exact ih _ _ _ _ _ he
theorem lex_code0 {l : List UInt8} {x p : Nat} (h : lex l = .error (x, p)) : x ≠ 0 := by
  unfold lex at h
  split at h
  · cases h; decide
  · rcases lexGo_code _ _ _ _ _ _ h with rfl | rfl | rfl <;> decide
theorem parse_lexErr {s : List UInt8} {x p : Nat} (h : lex s = .error (x, p)) : parse s = .error (x, p) := by unfold parse; rw [h]
/-- The three results' variables. -/
structure Res3 (w : World) (b : Nat) (v2 v3 v4 : Value) : Prop where
  b2 : Blk w b 26 [v2]
  b3 : Blk w (b + 1) 27 [v3]
  b4 : Blk w (b + 1 + 1) 3 [v4]
theorem Res3.keep {w w' : World} {b : Nat} {v2 v3 v4 : Value} {S : List Nat} (h : Res3 w b v2 v3 v4) (k : Keep S w w') (hS : ∀ q ∈ S, q < b ∨ b + 3 ≤ q) : Res3 w' b v2 v3 v4 :=
  ⟨h.b2.keep k (fun hm => by have := hS _ hm; omega), h.b3.keep k (fun hm => by have := hS _ hm; omega), h.b4.keep k (fun hm => by have := hS _ hm; omega)⟩
theorem Res3.ext {w w' : World} {b : Nat} {v2 v3 v4 : Value} (h : Res3 w b v2 v3 v4) (e : Ext w w') : Res3 w' b v2 v3 v4 := h.keep (S := []) (.ofExt e) (by simp)
theorem Res3.cells {w : World} {b : Nat} {v2 v3 v4 : Value} (h : Res3 w b v2 v3 v4) : (w.cell? ⟨b, 0, none⟩ = some v2 ∧ w.frozen? ⟨b, 0, none⟩ = false) ∧ (w.cell? ⟨b + 1, 0, none⟩ = some v3 ∧ w.frozen? ⟨b + 1, 0, none⟩ = false) ∧ (w.cell? ⟨b + 1 + 1, 0, none⟩ = some v4 ∧ w.frozen? ⟨b + 1 + 1, 0, none⟩ = false) :=
  ⟨⟨h.b2.cell 0, h.b2.frozen 0⟩, ⟨h.b3.cell 0, h.b3.frozen 0⟩, ⟨h.b4.cell 0, h.b4.frozen 0⟩⟩
theorem Res3.set2 {w : World} {b : Nat} {v2 v3 v4 : Value} (h : Res3 w b v2 v3 v4) (u : Value) : Res3 (w.setCell ⟨b, 0, none⟩ u) b u v3 v4 := ⟨h.b2.set 0 u, h.b3.setOther _ (by simp) _, h.b4.setOther _ (show b ≠ b + 1 + 1 by omega) _⟩
theorem Res3.set3 {w : World} {b : Nat} {v2 v3 v4 : Value} (h : Res3 w b v2 v3 v4) (u : Value) : Res3 (w.setCell ⟨b + 1, 0, none⟩ u) b v2 u v4 := ⟨h.b2.setOther _ (by simp) _, h.b3.set 0 u, h.b4.setOther _ (by simp) _⟩
theorem Res3.set4 {w : World} {b : Nat} {v2 v3 v4 : Value} (h : Res3 w b v2 v3 v4) (u : Value) : Res3 (w.setCell ⟨b + 1 + 1, 0, none⟩ u) b v2 v3 u := ⟨h.b2.setOther _ (show b + 1 + 1 ≠ b by omega) _, h.b3.setOther _ (by simp) _, h.b4.set 0 u⟩
theorem res3_begin (w : World) : Res3 (((w.alloc (.cells #[.slice none 0 0] 26)).alloc (.cells #[.int .i64 0] 27)).alloc (.cells #[.int .i64 0] 3)) w.heap.size (.slice none 0 0) (.int .i64 0) (.int .i64 0) := by
  have b2 := ((Blk.new w 26 [.slice none 0 0]).alloc (.cells #[.int .i64 0] 27)).alloc (.cells #[.int .i64 0] 3)
  have b3 := (Blk.new (w.alloc (.cells #[.slice none 0 0] 26)) 27 [.int .i64 0]).alloc (.cells #[.int .i64 0] 3)
  have b4 := Blk.new ((w.alloc (.cells #[.slice none 0 0] 26)).alloc (.cells #[.int .i64 0] 27)) 3 [.int .i64 0]
  simp only [World.size_alloc] at b2 b3 b4
  exact ⟨b2, b3, b4⟩

set_option maxHeartbeats 4000000 in
theorem parse_lexNo (w : World) (a : Option Addr) (s : List UInt8) (cap : Nat) (hs : BytesAt w a s) (hcap : s.length ≤ cap) (x p : Nat) (h : lex s = .error (x, p)) :
    Calls Tryd.prog 9 #[.slice a s.length cap] w fun e w' => e = .returned (.tuple #[.agg #[.slice none 0 0], .int .i64 x, .int .i64 p]) ∧ Ext w w' := by
  have hx0 := lex_code0 h
  have hne : ((x : Int) != 0) = true := by simp; omega
  have R0 := res3_begin w
  have hs3 := hs.ext ((((Ext.refl w).alloc (.cells #[.slice none 0 0] 26)).alloc (.cells #[.int .i64 0] 27)).alloc (.cells #[.int .i64 0] 3))
  have H := hid h
  clear h
  go_enter_defers Tryd.func9, Tryd.ntmps9
  go_wp2_with fail
  refine (lex_any _ a s cap hs3 hcap).mono ?_
  rintro e w1 ⟨hlx, e1⟩
  rw [H.out] at hlx
  simp only [lexEnds] at hlx
  subst hlx
  obtain ⟨⟨c2, f2⟩, ⟨c3, f3⟩, ⟨c4, f4⟩⟩ := (R0.ext e1).cells
  go_wp2_with fail
  go_region
  go_wp2_with fail
  have E1 : Ext w w1 := ((((Ext.refl w).alloc _).alloc _).alloc _).trans e1
  have EF := (((((E1.setCell (p := ⟨w.heap.size + 1, 0, none⟩) (by simp) (.int .i64 x)).setCell (p := ⟨w.heap.size + 1 + 1, 0, none⟩) (show w.heap.size ≤ w.heap.size + 1 + 1 by omega) (.int .i64 p)).setCell (p := ⟨w.heap.size, 0, none⟩) (Nat.le_refl _) (.slice none 0 0)).setCell (p := ⟨w.heap.size + 1, 0, none⟩) (by simp) (.int .i64 x)).setCell (p := ⟨w.heap.size + 1 + 1, 0, none⟩) (show w.heap.size ≤ w.heap.size + 1 + 1 by omega) (.int .i64 p)).drew
  have RF := (((((R0.ext e1).set3 (.int .i64 x)).set4 (.int .i64 p)).set2 (.slice none 0 0)).set3 (.int .i64 x)).set4 (.int .i64 p)
  have RF' := RF.ext (Ext.refl _).drew
  generalize (((((w1.setCell ⟨w.heap.size + 1, 0, none⟩ (.int .i64 x)).setCell ⟨w.heap.size + 1 + 1, 0, none⟩ (.int .i64 p)).setCell ⟨w.heap.size, 0, none⟩ (.slice none 0 0)).setCell ⟨w.heap.size + 1, 0, none⟩ (.int .i64 x)).setCell ⟨w.heap.size + 1 + 1, 0, none⟩ (.int .i64 p)).drew = wF at RF' EF ⊢
  obtain ⟨⟨q2, _⟩, ⟨q3, _⟩, ⟨q4, _⟩⟩ := RF'.cells
  simp [bodyPostD, Leaves, results, Tryd.results9, go_sem, q2, q3, q4, EF]
end Go.Proofs.YtaehlakefgnfmaaDoor
