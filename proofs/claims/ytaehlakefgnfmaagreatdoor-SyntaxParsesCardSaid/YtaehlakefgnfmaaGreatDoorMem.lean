/-
  DERIVED. More small notions on memory: a row that grows, its cells.
-/
import Derived.Test.YtaehlakefgnfmaaGreatDoorBase
import Derived.Lib.SlBytesConst
import Derived.Test.YtaehlakefgnfmaaGreatDoorRows
namespace Go.Proofs.YtaehlakefgnfmaaGreatDoor
set_option linter.unusedSimpArgs false
set_option linter.unusedVariables false
open Go.RowKit

theorem add_plain (b o j : Nat) : (⟨b, o, none⟩ : Addr).add j = ⟨b, o + j, none⟩ := by unfold Addr.add; split <;> simp_all
/-- The cells of a block that was laid just now, as append asks for them. -/
theorem news_cells (w : World) (b : Nat) (t : TypeId) (vs : List Value) (hb : b = w.heap.size) : ∀ j u, vs[j]? = some u → (w.alloc (.cells vs.toArray t)).cell? ((⟨b, 0, none⟩ : Addr).add j) = some u := by
  intro j u hu
  subst hb
  rw [add_plain, Nat.zero_add, (Blk.new w t vs).cell j, hu]
theorem owned_cells {w : World} {base : Nat} {e : TypeId} {size : Nat} {v : Value} {n : Nat} {xs : List Value} (h : w.ownsRow base e size v n xs) :
    ∃ a cap, v = .slice a n cap ∧ CellsAt w a xs ∧ (∀ ad, a = some ad → base ≤ ad.block) ∧ n ≤ cap := by
  obtain ⟨hl, h⟩ := h
  rcases h with ⟨rfl, rfl⟩ | ⟨g, cap, cur, rfl, hb, hg, hnc, hcm, hcs, htake⟩
  · have hx : xs = [] := List.eq_nil_of_length_eq_zero (by simpa using hl)
    subst hx
    exact ⟨none, 0, rfl, CellsAt.nil _ _, by simp, Nat.le_refl _⟩
  · refine ⟨some ⟨g, 0, none⟩, cap, rfl, ?_, ?_, hnc⟩
    · intro i v hv
      refine ⟨g, 0, rfl, ?_⟩
      rw [← htake, List.getElem?_take] at hv
      split at hv
      · simp only [World.cell?, hg, Nat.zero_add]
        simpa using hv
      · simp at hv
    · intro ad had
      cases had
      exact hb
theorem owned_cap {w : World} {base : Nat} {e : TypeId} {size : Nat} {a : Option Addr} {n n' cap : Nat} {xs : List Value} (h : w.ownsRow base e size (.slice a n' cap) n xs) : cap ≤ 9223372036854775807 := by
  rcases h.2 with ⟨h, _⟩ | ⟨g, c, cur, h, _, _, _, hm, _⟩
  · cases h; omega
  · cases h; simpa [maxLen] using hm
theorem ownsRow_ext {w w' : World} {base : Nat} {e : TypeId} {size : Nat} {v : Value} {n : Nat} {xs : List Value} (h : w.ownsRow base e size v n xs) (x : Ext w w') : w'.ownsRow base e size v n xs :=
  h.kept (row := none) ⟨x.os, x.tape, x.output, x.size, fun k hk _ => x.block k hk⟩ (by cases v.ownBlock <;> simp)
/-- Behind an append to a row of one's own: of what was there when all began nothing has turned. -/
theorem Ext.grown {a w w' : World} {base : Nat} {e : TypeId} {size : Nat} {v : Value} {n : Nat} {xs : List Value} (h : Ext a w) (ho : w.ownsRow base e size v n xs) (hb : a.heap.size ≤ base) (g : w.grownBy w' v.ownBlock) : Ext a w' :=
  Below.grown h g h.size (fun k hk => Nat.le_trans hb (ho.lt k hk).1)
end Go.Proofs.YtaehlakefgnfmaaGreatDoor
/-
  DERIVED. A constant text as bytes; a text of one's own.
-/
namespace Go.Proofs.YtaehlakefgnfmaaGreatDoor
set_option linter.unusedSimpArgs false
set_option linter.unusedVariables false
open Go.RowKit

theorem CellsAt.frozenNew (w : World) (t : TypeId) (vs : List Value) (fr : Nat × Nat) : CellsAt (w.alloc (.cells vs.toArray t fr)) (some ⟨w.heap.size, 0, none⟩) vs := by
  intro i v hv
  refine ⟨w.heap.size, 0, rfl, ?_⟩
  have : (w.alloc (.cells vs.toArray t fr)).heap[w.heap.size]? = some (.cells vs.toArray t fr) := by
    show (w.heap.push _)[w.heap.size]? = _
    simp
  simp only [World.cell?, this, Nat.zero_add]
  simpa using hv
theorem CellsAt.left {w : World} {a : Option Addr} {vs us : List Value} (h : CellsAt w a (vs ++ us)) : CellsAt w a vs := by
  intro i v hv
  exact h i v (by rw [List.getElem?_append_left (List.getElem?_eq_some_iff.1 hv).1]; exact hv)
end Go.Proofs.YtaehlakefgnfmaaGreatDoor
/-
  DERIVED. What the laws' frames share: a slice of bytes that came in, as a list of bytes.
-/
namespace Go.Proofs.YtaehlakefgnfmaaGreatDoor
set_option linter.unusedSimpArgs false
set_option linter.unusedVariables false
open Go.RowKit

/-- What the walk is told of a slice of integers that came in. -/
def IsRow (k : IntKind) (w : World) (a : Option Addr) (len cap : Nat) (zs : List Int) : Prop :=
  (a = none ∧ len = 0 ∧ cap = 0 ∧ zs = []) ∨
  ∃ x, a = some x ∧ len ≤ cap ∧ cap ≤ maxLen ∧ zs.length = cap ∧ (∀ i, i < zs.length → w.cell? (x.add i) = some (.int k (zs.getD i 0))) ∧ ∀ n ∈ zs, (Lit.int k n).wf = true

theorem bytes_of_row {w : World} {a : Option Addr} {len cap : Nat} {zs : List Int} (h : IsRow .u8 w a len cap zs) : ∃ s : List UInt8, s.length = len ∧ BytesAt w a s ∧ len ≤ cap ∧ cap ≤ 9223372036854775807 := by
  rcases h with ⟨rfl, rfl, rfl, rfl⟩ | ⟨x, rfl, hl, hm, hz, hc, hwf⟩
  · exact ⟨[], rfl, CellsAt.nil _ _, Nat.le_refl _, by omega⟩
  · refine ⟨(zs.take len).map fun n => UInt8.ofNat n.toNat, by simp; omega, ?_, hl, by simpa [maxLen] using hm⟩
    intro i v hv
    have hi : i < len := by
      have := (List.getElem?_eq_some_iff.1 hv).1
      rw [List.length_map, List.length_map, List.length_take] at this
      omega
    have hiz : i < zs.length := by omega
    have hci := hc i hiz
    have h0 := hc 0 (by omega)
    obtain ⟨b, off, spot⟩ := x
    have hsp : spot = none := by
      cases spot with
      | none => rfl
      | some q =>
        simp only [Addr.add, if_true, World.cell?, Option.isSome] at h0
        split at h0 <;> simp at h0
    subst hsp
    refine ⟨b, off, rfl, ?_⟩
    rw [add_plain] at hci
    rw [hci]
    have hw := hwf zs[i] (by simp)
    have hb : 0 ≤ zs[i] ∧ zs[i] ≤ 255 := by
      simp [Lit.wf, IntKind.min, IntKind.max, IntKind.bits, IntKind.signed] at hw
      omega
    have hg : zs.getD i 0 = zs[i] := by simp [List.getD, hiz]
    rw [hg, ← hv]
    simp [hi, hiz, B8]
    omega
end Go.Proofs.YtaehlakefgnfmaaGreatDoor
/-
  DERIVED. 'append' of bytes to a row of one's own, whatever the source (nil, empty or not).
-/
set_option linter.unusedSimpArgs false
set_option linter.unusedVariables false
namespace Go.Proofs.YtaehlakefgnfmaaGreatDoor
open Go.RowKit

theorem Tryz.infoByte : (Tryz.prog.info? 5).map (fun i => (i.zero, i.size, i.bytes)) = some (some (.int .u8 0), 1, 1) := by kernel_rfl

theorem run_append_nothing {P : Program} {w : World} (base : Nat) (t ty e : TypeId) (i : TypeInfo) (size : Nat) (ht : P.underlying t = some (.slice e)) (hi : P.info? e = some i)
    (v : Value) (n : Nat) (xs : List Value) (hown : w.ownsRow base e size v n xs) (c : Nat) :
    (Builtin.append_ #[t, t] ty #[v, .slice none 0 c]).run P w = .ok v w := by
  rcases hown.2 with ⟨rfl, rfl⟩ | ⟨g, cap, cur, rfl, _, _, hnc, _⟩
  · simp [Builtin.append_, run_underlying ht, sizeOf, typeInfo, hi, Builtin.lenOf, Builtin.firstCells]
  · simp [Builtin.append_, run_underlying ht, sizeOf, typeInfo, hi, Builtin.lenOf, Builtin.firstCells, hnc, storeCells]

theorem append_bytes {w : World} {ops : Array Oper} {rest : List Oper} {o : Oper} {a : Act} {Q : Exit → Act → World → Prop} (hgd : o.guard = none) (s x : Operand)
    (ho : o.op = .call { callee := .builtin .append, args := #[s, x], argTypes := #[22, 22] })
    (base : Nat) (v : Value) (n : Nat) (xs : List UInt8) (hs : a.eval s = v) (hown : w.ownsRow base 5 1 v n (xs.map B8))
    (ao : Option Addr) (m c : Nat) (news : List UInt8) (hx : a.eval x = .slice ao m c) (hl : news.length = m) (hb : BytesAt w ao news)
    (hbytes : n + m ≤ 140737488355328) (hbase : base ≤ w.heap.size)
    (h : ∀ v' w', w'.ownsRow base 5 1 v' (n + m) ((xs ++ news).map B8) → w.grownBy w' v.ownBlock → wpList Tryz.prog ops Q rest (a.put o.dst v') w') :
    wpList Tryz.prog ops Q (o :: rest) a w := by
  obtain ⟨i0, hi, hz0, hz1, hz2⟩ := info_parts Tryz.infoByte
  by_cases hm : m = 0
  · have hn : news = [] := List.eq_nil_of_length_eq_zero (by omega)
    subst hn
    subst hm
    have h' := h v w (by simpa using hown) (World.grownBy.refl _ _)
    refine wpList_plain hgd fun K hK => ?_
    cases ao with
    | none =>
      have hrun := run_append_nothing (P := Tryz.prog) base 22 o.type 5 i0 1 Tryz.underlying22 hi v n _ hown c
      unfold Oper.wp execOp
      simp only [ho, resolve, invoke, builtin, Sem.run_bind, Sem.run_pure, Result.andThen_ok, List.map_toArray, List.map_cons, List.map_nil, hs, hx, hrun]
      exact hK _ _ h'
    | some ad =>
      have hrun : (Builtin.append_ #[22, 22] o.type #[v, .slice (some ad) 0 c]).run Tryz.prog w = .ok v w := by
        rcases hown.2 with ⟨rfl, rfl⟩ | ⟨g, cap, cur, rfl, _, _, hnc, _⟩
        · simp [Builtin.append_, run_underlying Tryz.underlying22, sizeOf, typeInfo, hi, Builtin.lenOf, Builtin.firstCells, loadCells, loadCellsFrom]
        · simp [Builtin.append_, run_underlying Tryz.underlying22, sizeOf, typeInfo, hi, Builtin.lenOf, Builtin.firstCells, hnc, storeCells, loadCells, loadCellsFrom]
      unfold Oper.wp execOp
      simp only [ho, resolve, invoke, builtin, Sem.run_bind, Sem.run_pure, Result.andThen_ok, List.map_toArray, List.map_cons, List.map_nil, hs, hx, hrun]
      exact hK _ _ h'
  · obtain ⟨b, off, rfl, _⟩ := hb.at (i := 0) (by omega)
    refine wpList_append_own w hgd s x 22 ho base 5 i0 (.int .u8 0) 1 1 Tryz.underlying22 hi hz0 hz1 hz2 rfl (by decide) v n _ hs hown ⟨b, off, none⟩ m c (news.map B8) hx (by simp [hl]) ?_ ?_ ?_ (by omega) hbase fun v' w' h1 h2 _ => h v' w' (by rw [List.map_append]; exact h1) h2
    · intro j u hu
      rw [add_plain]
      obtain ⟨b', off', hbb, hc⟩ := hb j u hu
      simp only [Option.some.injEq, Addr.mk.injEq, and_true] at hbb
      obtain ⟨rfl, rfl⟩ := hbb
      exact hc
    · intro u hu
      obtain ⟨c, _, rfl⟩ := List.mem_map.1 hu
      rfl
    · simp only [maxLen]; omega
/-- A row that was laid just now is one's own. -/
theorem owns_new (w : World) (base : Nat) (e : TypeId) (vs : List Value) (n : Nat) (hb : base ≤ w.heap.size) (hn : vs.length = n) (hm : n ≤ maxLen) :
    (w.alloc (.cells vs.toArray e)).ownsRow base e 1 (.slice (some ⟨w.heap.size, 0, none⟩) n n) n vs :=
  ⟨by simp [hn], .inr ⟨w.heap.size, n, vs.toArray, rfl, hb, Blk.new w e vs, Nat.le_refl _, hm, by simp [hn], by simp [← hn]⟩⟩
end Go.Proofs.YtaehlakefgnfmaaGreatDoor
