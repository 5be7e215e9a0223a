/-
  DERIVED. Small notions for the walks: what a slice's cells hold, a world that has only grown, a function value that decides a byte. No program in sight.
-/
import Derived.WalkKit
import Derived.WalkSpells
import Derived.WalkLawsBesides
import Derived.BigQuiet
import Derived.Deep.QuietTactic
import Derived.Deep.RegionWith
namespace Go.Proofs.YtaehlakefgnfmaaDoor
set_option linter.unusedSimpArgs false
set_option linter.unusedVariables false
open Go.RowKit

theorem hid {p : Prop} (h : p) : Hid p := h

/-- w' holds all that w held; it may hold more. -/
def Ext (w w' : World) : Prop := Below w.heap.size w w'
theorem Ext.refl (w : World) : Ext w w := Below.refl _ _
theorem Ext.trans {a b c : World} (h : Ext a b) (k : Ext b c) : Ext a c := Below.trans h (Below.mono k h.size)
theorem Ext.cell {w w' : World} (h : Ext w w') {p : Addr} {v : Value} (hp : w.cell? p = some v) : w'.cell? p = some v := by
  rw [← hp]; exact Below.cell h (World.block_lt_of_cell? _ _ hp)
theorem Ext.alloc {a w : World} (h : Ext a w) (o : Obj) : Ext a (w.alloc o) := Below.alloc h h.size o
theorem Ext.drew {a w : World} (h : Ext a w) : Ext a w.drew := Below.drew h
theorem Ext.setCell {a w : World} (h : Ext a w) {p : Addr} (hp : a.heap.size ≤ p.block) (u : Value) : Ext a (w.setCell p u) := Below.setCell h hp u
theorem Ext.size {a w : World} (h : Ext a w) : a.heap.size ≤ w.heap.size := Below.size h

/-- From a on lie the cells vs. -/
def CellsAt (w : World) (a : Option Addr) (vs : List Value) : Prop :=
  ∀ i v, vs[i]? = some v → ∃ b off, a = some ⟨b, off, none⟩ ∧ w.cell? ⟨b, off + i, none⟩ = some v
theorem CellsAt.ext {w w' : World} {a : Option Addr} {vs : List Value} (h : CellsAt w a vs) (e : Ext w w') : CellsAt w' a vs := by
  intro i v hv
  obtain ⟨b, off, ha, hc⟩ := h i v hv
  exact ⟨b, off, ha, e.cell hc⟩
theorem CellsAt.nil (w : World) (a : Option Addr) : CellsAt w a [] := by intro i v h; simp at h

/-- A block known whole. -/
def Blk (w : World) (b : Nat) (t : TypeId) (vs : List Value) : Prop := w.heap[b]? = some (.cells vs.toArray t (0, 0))
theorem Blk.lt {w : World} {b : Nat} {t : TypeId} {vs : List Value} (h : Blk w b t vs) : b < w.heap.size := (Array.getElem?_eq_some_iff.1 h).1
theorem Blk.ext {w w' : World} {b : Nat} {t : TypeId} {vs : List Value} (h : Blk w b t vs) (e : Ext w w') : Blk w' b t vs := by
  unfold Blk at *
  rw [e.block b (Blk.lt h), h]
theorem Blk.alloc {w : World} {b : Nat} {t : TypeId} {vs : List Value} (h : Blk w b t vs) (o : Obj) : Blk (w.alloc o) b t vs := h.ext ((Ext.refl w).alloc o)
theorem Blk.new (w : World) (t : TypeId) (vs : List Value) : Blk (w.alloc (.cells vs.toArray t)) w.heap.size t vs := by
  unfold Blk World.alloc; simp
theorem Blk.cell {w : World} {b : Nat} {t : TypeId} {vs : List Value} (h : Blk w b t vs) (i : Nat) : w.cell? ⟨b, i, none⟩ = vs[i]? := by
  unfold Blk at h
  simp [World.cell?, h]
theorem Blk.frozen {w : World} {b : Nat} {t : TypeId} {vs : List Value} (h : Blk w b t vs) (i : Nat) : w.frozen? ⟨b, i, none⟩ = false := by
  unfold Blk at h
  simp [World.frozen?, h]
theorem Blk.set {w : World} {b : Nat} {t : TypeId} {vs : List Value} (h : Blk w b t vs) (i : Nat) (v : Value) : Blk (w.setCell ⟨b, i, none⟩ v) b t (vs.set i v) := by
  unfold Blk at *
  simp [World.setCell, Array.getElem?_modify, h]
theorem Blk.setOther {w : World} {b : Nat} {t : TypeId} {vs : List Value} (h : Blk w b t vs) (a : Addr) (ha : a.block ≠ b) (v : Value) : Blk (w.setCell a v) b t vs := by
  unfold Blk at *
  rw [Below.heap_setCell _ _ _ _ (Ne.symm ha), h]
theorem Blk.drew {w : World} {b : Nat} {t : TypeId} {vs : List Value} (h : Blk w b t vs) : Blk w.drew b t vs := h
/-- Four cells, one by one. -/
theorem Blk.four {w : World} {b : Nat} {t : TypeId} {v0 v1 v2 v3 : Value} (h : Blk w b t [v0, v1, v2, v3]) :
    w.cell? ⟨b, 0, none⟩ = some v0 ∧ w.cell? ⟨b, 1, none⟩ = some v1 ∧ w.cell? ⟨b, 2, none⟩ = some v2 ∧ w.cell? ⟨b, 3, none⟩ = some v3 ∧ (∀ i, w.frozen? ⟨b, i, none⟩ = false) :=
  ⟨h.cell 0, h.cell 1, h.cell 2, h.cell 3, h.frozen⟩

theorem CellsAt.new (w : World) (t : TypeId) (vs : List Value) : CellsAt (w.alloc (.cells vs.toArray t)) (some ⟨w.heap.size, 0, none⟩) vs := by
  intro i v hv
  refine ⟨w.heap.size, 0, rfl, ?_⟩
  rw [Nat.zero_add, (Blk.new w t vs).cell i, hv]

/-- A byte as a value. -/
def B8 (c : UInt8) : Value := .int .u8 c.toNat
/-- From a on lie these bytes. -/
def BytesAt (w : World) (a : Option Addr) (s : List UInt8) : Prop := CellsAt w a (s.map B8)
theorem BytesAt.ext {w w' : World} {a : Option Addr} {s : List UInt8} (h : BytesAt w a s) (e : Ext w w') : BytesAt w' a s := CellsAt.ext h e
theorem BytesAt.at {w : World} {a : Option Addr} {s : List UInt8} (h : BytesAt w a s) {i : Nat} (hi : i < s.length) :
    ∃ b off, a = some ⟨b, off, none⟩ ∧ w.cell? ⟨b, off + i, none⟩ = some (.int .u8 (s[i]).toNat) :=
  h i (.int .u8 (s[i]).toNat) (by simp [B8, hi])

/-- The function value 'f with what it captured' answers p of a byte, in whatever world holds what w holds. -/
structure Decides (P : Program) (w : World) (f : FuncId) (cap : Array Value) (p : UInt8 → Bool) : Prop where
  enters : ∀ args w', (callFunc f args).run P w' = .ok (.enter f args) w'
  says : ∀ w', Ext w w' → ∀ c : UInt8, Calls P f (#[.int .u8 c.toNat] ++ cap) w' fun e w'' => e = .returned (.bool (p c)) ∧ Ext w' w''
theorem Decides.ext {P : Program} {w w' : World} {f : FuncId} {cap : Array Value} {p : UInt8 → Bool} (h : Decides P w f cap p) (e : Ext w w') : Decides P w' f cap p :=
  ⟨h.enters, fun w2 h2 c => h.says w2 (e.trans h2) c⟩

/-- A part of a row of bytes. -/
theorem BytesAt.part {w : World} {b off : Nat} {s : List UInt8} (h : BytesAt w (some ⟨b, off, none⟩) s) (k n : Nat) : BytesAt w (some ⟨b, off + k, none⟩) ((s.drop k).take n) := by
  intro i v hv
  have hi : ((s.map B8))[k + i]? = some v := by
    rw [List.getElem?_map, List.getElem?_take] at hv
    split at hv
    · rw [List.getElem?_drop] at hv
      rw [List.getElem?_map]; exact hv
    · simp at hv
  obtain ⟨b', off', ha, hc⟩ := h _ v hi
  simp only [Option.some.injEq, Addr.mk.injEq, and_true] at ha
  obtain ⟨rfl, rfl⟩ := ha
  exact ⟨b, off + k, rfl, by rw [Nat.add_assoc]; exact hc⟩

/-- string(b), b a slice of bytes. -/
theorem run_string_of {P : Program} {w : World} {a : Option Addr} {s : List UInt8} (h : BytesAt w a s) (src e dst : TypeId) (hs : P.underlying src = some (.slice e)) (he : P.underlying e = some (.int .u8)) (hd : P.underlying dst = some .string)
    (len cap : Nat) (hl : s.length = len) : (convert src dst (.slice a len cap)).run P w = .ok (.string ⟨s.toArray⟩) w := by
  cases a with
  | none =>
    have hn : s = [] := by
      rcases Nat.eq_zero_or_pos s.length with h0 | h0
      · exact List.eq_nil_of_length_eq_zero h0
      · obtain ⟨b, off, ha, _⟩ := h.at h0
        simp at ha
    subst hn
    rw [run_convert_bytes_nil (P := P) w src e hs he len cap dst hd]
    rfl
  | some ad =>
    subst hl
    have hl : (loadCells ad s.length).run P w = .ok ((s.map fun c => (c.toNat : Int)).map (Value.int .u8)).toArray w := by
      have := run_loadCells_list (P := P) w ad ((s.map fun c => (c.toNat : Int)).map (Value.int .u8)) (fun j v hj => by
        have hjl : j < s.length := by
          rcases Nat.lt_or_ge j s.length with h | h
          · exact h
          · rw [List.getElem?_eq_none (by simpa using h)] at hj; simp at hj
        obtain ⟨b, off, ha, hc⟩ := h.at hjl
        simp only [Option.some.injEq] at ha
        subst ha
        have hplain : (⟨b, off, none⟩ : Addr).add j = ⟨b, off + j, none⟩ := by unfold Addr.add; split <;> simp_all
        rw [hplain, hc]
        simpa [hjl] using hj)
      simpa using this
    rw [run_convert_bytes_string w src dst e _ s.length cap hs he hd, run_bytesToString w _ s.length cap _ hl, foldl_push_bytes]
    simp [ByteArray.empty, ByteArray.emptyWithCapacity, Function.comp_def]
    rfl

theorem drop_getElem {α : Type} (s : List α) (k : Nat) (h : k < s.length) : s.drop k = s[k] :: s.drop (k + 1) := List.drop_eq_getElem_cons h
end Go.Proofs.YtaehlakefgnfmaaDoor
