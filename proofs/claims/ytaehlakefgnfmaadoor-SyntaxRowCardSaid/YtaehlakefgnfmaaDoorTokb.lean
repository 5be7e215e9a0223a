/-
  DERIVED. THE WALKS of package token, further: the closures that decide a byte.
-/
import Derived.Test.YtaehlakefgnfmaaDoorTok
namespace Go.Proofs.YtaehlakefgnfmaaDoor
set_option linter.unusedSimpArgs false
set_option linter.unusedVariables false
set_option maxRecDepth 100000
open Go.RowKit

set_option maxHeartbeats 400000 in
theorem between1_any (w : World) (c lo hi : UInt8) (p q : Addr) (hp : w.cell? p = some (.int .u8 lo.toNat)) (hq : w.cell? q = some (.int .u8 hi.toNat)) :
    Calls Tryd.prog 59 #[.int .u8 c.toNat, .pointer (some p), .pointer (some q)] w fun e w' =>
      e = .returned (.bool (lo ≤ c && c ≤ hi)) ∧ Ext w w' := by
  go_enter Tryd.func59, Tryd.ntmps59
  go_wp2_with fail
  all_goals
    go_ret
    refine ⟨ret_bool ?_, Ext.refl _⟩
  · rename_i h
    show decide _ = _
    have h1 : lo ≤ c := h
    simp [h1, UInt8.le_iff_toNat_le]
  · rename_i h
    have h1 : ¬ lo ≤ c := h
    simp [h1]

theorem between1_decides (w : World) (lo hi : UInt8) (p q : Addr) (hp : w.cell? p = some (.int .u8 lo.toNat)) (hq : w.cell? q = some (.int .u8 hi.toNat)) :
    Decides Tryd.prog w 59 #[.pointer (some p), .pointer (some q)] (fun c => lo ≤ c && c ≤ hi) :=
  ⟨fun _ _ => by simp [go_sem], fun w' e c => between1_any w' c lo hi p q (e.cell hp) (e.cell hq)⟩

set_option maxHeartbeats 400000 in
theorem between_any (w : World) (lo hi : UInt8) :
    Calls Tryd.prog 42 #[.int .u8 lo.toNat, .int .u8 hi.toNat] w fun e w' =>
      ∃ cap, e = .returned (.func (.func 59) #[] cap) ∧ Decides Tryd.prog w' 59 cap (fun c => lo ≤ c && c ≤ hi) ∧ Ext w w' := by
  have hmf : ∀ (fn : Fn) (first cap : Array Value) (w : World), (Instr.makeFunc fn first cap).run Tryd.prog w = .ok (.func fn first cap) w := fun _ _ _ _ => rfl
  go_enter Tryd.func42, Tryd.ntmps42
  go_wp2_with fail
  go_ret
  refine ⟨_, rfl, between1_decides _ lo hi _ _ ?_ ?_, ((Ext.refl _).alloc _).alloc _⟩
  · rw [World.cell?_alloc_old _ _ _ (by simp)]; simp
  · rw [show w.heap.size + 1 = (w.alloc (.cells #[Value.int IntKind.u8 lo.toNat] 5)).heap.size by simp]; simp

/-- Function values in a row, and what each decides. -/
structure FunRow (P : Program) (w : World) (a : Option Addr) (fs : List (FuncId × Array Value × (UInt8 → Bool))) : Prop where
  cells : CellsAt w a (fs.map fun x => .func (.func x.1) #[] x.2.1)
  each : ∀ x ∈ fs, Decides P w x.1 x.2.1 x.2.2
theorem FunRow.ext {P : Program} {w w' : World} {a : Option Addr} {fs : List (FuncId × Array Value × (UInt8 → Bool))} (h : FunRow P w a fs) (e : Ext w w') : FunRow P w' a fs :=
  ⟨h.cells.ext e, fun x hx => (h.each x hx).ext e⟩

set_option maxHeartbeats 400000 in
theorem either11_any (w : World) (c : UInt8) (q : Addr) (f : FuncId) (fc : Array Value) (p : UInt8 → Bool) (hq : w.cell? q = some (.int .u8 c.toNat)) (hp : Decides Tryd.prog w f fc p) :
    Calls Tryd.prog 62 #[.func (.func f) #[] fc, .pointer (some q)] w fun e w' =>
      e = .returned (.bool (p c)) ∧ Ext w w' := by
  have hent := hp.enters
  have HP := hid (hp.says w (Ext.refl w) c)
  go_enter Tryd.func62, Tryd.ntmps62
  go_wp2_with fail
  refine HP.out.mono ?_
  rintro e w' ⟨rfl, he'⟩
  go_wp2_with fail
  go_ret
  exact ⟨rfl, he'⟩

def anyOf (fs : List (FuncId × Array Value × (UInt8 → Bool))) (c : UInt8) : Bool := fs.any fun x => x.2.2 c
theorem anyOf_take (fs : List (FuncId × Array Value × (UInt8 → Bool))) (c : UInt8) (k : Nat) (hlt : k < fs.length) : anyOf (fs.take (k + 1)) c = (anyOf (fs.take k) c || fs[k].2.2 c) := by
  unfold anyOf
  rw [List.take_succ_eq_append_getElem hlt, List.any_append]
  simp only [List.any_cons, List.any_nil, Bool.or_false]
set_option maxHeartbeats 400000 in
theorem indexFunc_any (w : World) (a : Option Addr) (cap : Nat) (fs : List (FuncId × Array Value × (UInt8 → Bool))) (c : UInt8) (q : Addr) (hlen : fs.length ≤ 1000)
    (hq : w.cell? q = some (.int .u8 c.toNat)) (hp : FunRow Tryd.prog w a fs) :
    Calls Tryd.prog 69 #[.slice a fs.length cap, .func (.func 62) #[] #[.pointer (some q)]] w fun e w' =>
      ∃ r : Int, e = .returned (.int .i64 r) ∧ decide (0 ≤ r) = anyOf fs c ∧ Ext w w' := by
  go_enter Tryd.func69, Tryd.ntmps69
  go_wp2_with fail
  go_loopw [8] (fun i wr => ∃ k : Nat, k ≤ fs.length ∧ i = .int .i64 k ∧ Ext w wr ∧ Hid (anyOf (fs.take k) c = false)) (fun i _ => fs.length - (intOf i).toNat)
  case atStart => exact ⟨0, by omega, rfl, Ext.refl w, rfl⟩
  case round =>
    obtain ⟨k, hk, rfl, he, hsum⟩ := hrel
    by_cases hlt : k < fs.length
    · obtain ⟨b, off, rfl, hc⟩ := (hp.cells.ext he) k (.func (.func fs[k].1) #[] fs[k].2.1) (by simp [hlt])
      have hX := hid (either11_any wr c q fs[k].1 fs[k].2.1 fs[k].2.2 (he.cell hq) ((hp.each fs[k] (by simp)).ext he))
      have hsn := anyOf_take fs c k hlt
      have hin : fs[k].2.2 c = true → anyOf fs c = true := fun h => List.any_eq_true.2 ⟨fs[k], by simp, h⟩
      have HS := hid hsn
      have HI := hid hin
      clear hsn hin
      go_wp2_with fail
      refine hX.out.mono ?_
      rintro e w' ⟨rfl, he'⟩
      go_wp2_with fail
      · have hpt : fs[k].2.2 c = true := by assumption
        go_ret
        exact ⟨k, rfl, by rw [HI.out hpt]; simp, he.trans he'⟩
      · have hpf : fs[k].2.2 c = false := by assumption
        go_roundw
        case rel => exact ⟨k + 1, by omega, by go_num, he.trans he', by show _ = _; rw [HS.out, hsum.out, hpf]; rfl⟩
        case measure => simp [intOf]; omega
    · go_wp2_with fail
      go_ret
      exact ⟨-1, rfl, by have h := hsum.out; rw [List.take_of_length_le (by omega)] at h; rw [h]; rfl, he⟩

set_option maxHeartbeats 400000 in
theorem containsFunc_any (w : World) (a : Option Addr) (cap : Nat) (fs : List (FuncId × Array Value × (UInt8 → Bool))) (c : UInt8) (q : Addr) (hlen : fs.length ≤ 1000)
    (hq : w.cell? q = some (.int .u8 c.toNat)) (hp : FunRow Tryd.prog w a fs) :
    Calls Tryd.prog 61 #[.slice a fs.length cap, .func (.func 62) #[] #[.pointer (some q)]] w fun e w' =>
      e = .returned (.bool (anyOf fs c)) ∧ Ext w w' := by
  go_enter Tryd.func61, Tryd.ntmps61
  go_wp2_with fail
  refine (indexFunc_any w a cap fs c q hlen hq hp).mono ?_
  rintro e w' ⟨r, rfl, hr, he⟩
  have HR := hid hr
  clear hr
  go_wp2_with fail
  go_ret
  exact ⟨ret_bool HR.out, he⟩

set_option maxHeartbeats 400000 in
theorem either1_any (w : World) (a : Option Addr) (cap : Nat) (fs : List (FuncId × Array Value × (UInt8 → Bool))) (c : UInt8) (q : Addr) (hlen : fs.length ≤ 1000)
    (hq : w.cell? q = some (.slice a fs.length cap)) (hp : FunRow Tryd.prog w a fs) :
    Calls Tryd.prog 60 #[.int .u8 c.toNat, .pointer (some q)] w fun e w' =>
      e = .returned (.bool (anyOf fs c)) ∧ Ext w w' := by
  have hmf : ∀ (fn : Fn) (first cap : Array Value) (w : World), (Instr.makeFunc fn first cap).run Tryd.prog w = .ok (.func fn first cap) w := fun _ _ _ _ => rfl
  have hlt := World.block_lt_of_cell? _ _ hq
  have hq' : ∀ o, (w.alloc o).cell? q = some (.slice a fs.length cap) := fun o => by rw [World.cell?_alloc_lt _ _ _ hlt]; exact hq
  go_enter Tryd.func60, Tryd.ntmps60
  go_wp2_with fail
  refine (containsFunc_any _ a cap fs c _ hlen ?_ (hp.ext ((Ext.refl _).alloc _))).mono ?_
  · simp
  rintro e w' ⟨rfl, he⟩
  go_wp2_with fail
  go_ret
  exact ⟨rfl, ((Ext.refl _).alloc _).trans he⟩

set_option maxHeartbeats 400000 in
theorem either_any (w : World) (a : Option Addr) (cap : Nat) (fs : List (FuncId × Array Value × (UInt8 → Bool))) (hlen : fs.length ≤ 1000) (hp : FunRow Tryd.prog w a fs) :
    Calls Tryd.prog 43 #[.slice a fs.length cap] w fun e w' =>
      ∃ cap, e = .returned (.func (.func 60) #[] cap) ∧ Decides Tryd.prog w' 60 cap (anyOf fs) ∧ Ext w w' := by
  have hmf : ∀ (fn : Fn) (first cap : Array Value) (w : World), (Instr.makeFunc fn first cap).run Tryd.prog w = .ok (.func fn first cap) w := fun _ _ _ _ => rfl
  go_enter Tryd.func43, Tryd.ntmps43
  go_wp2_with fail
  go_ret
  refine ⟨_, rfl, ⟨fun _ _ => by simp [go_sem], fun w' e c => either1_any w' a cap fs c _ hlen (e.cell ?_) (hp.ext (((Ext.refl _).alloc _).trans e))⟩, (Ext.refl _).alloc _⟩
  simp

theorem u8_le (c d : UInt8) : (decide ((d.toNat : Int) ≤ c.toNat)) = decide (d ≤ c) := by
  rw [Bool.eq_iff_iff]; simp [UInt8.le_iff_toNat_le]
theorem isText_nat (c : UInt8) : isTextByte c = decide (32 ≤ (c.toNat : Int) ∧ (c.toNat : Int) ≤ 126 ∧ (c.toNat : Int) ≠ 34 ∧ (c.toNat : Int) ≠ 92) := by
  rw [Bool.eq_iff_iff]
  simp [isTextByte, UInt8.le_iff_toNat_le, ← UInt8.toNat_inj]
  omega
set_option maxHeartbeats 400000 in
theorem next1_any (w : World) (c : UInt8) :
    Calls Tryd.prog 46 #[.int .u8 c.toNat] w fun e w' =>
      e = .returned (.bool (isTextByte c)) ∧ Ext w w' := by
  have HN := hid (isText_nat c)
  generalize hn : (c.toNat : Int) = n at HN ⊢
  clear hn
  go_enter Tryd.func46, Tryd.ntmps46
  go_wp2_with fail
  all_goals
    go_ret
    refine ⟨ret_bool ?_, Ext.refl _⟩
    rw [HN.out, Bool.eq_iff_iff]
    simp
    omega

theorem next1_decides (w : World) : Decides Tryd.prog w 46 #[] isTextByte :=
  ⟨fun _ _ => by simp [go_sem], fun w' _ c => next1_any w' c⟩
end Go.Proofs.YtaehlakefgnfmaaDoor
