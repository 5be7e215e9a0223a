/-
  DERIVED. 'append' of bytes to a row of one's own, whatever the source (nil, empty or not).
-/
import Derived.Test.YtaehlakefgnfmaaDoorConst
import Derived.Test.YtaehlakefgnfmaaDoorRows
set_option linter.unusedSimpArgs false
set_option linter.unusedVariables false
namespace Go.Proofs.YtaehlakefgnfmaaDoor
open Go.RowKit

theorem Tryd.infoByte : (Tryd.prog.info? 5).map (fun i => (i.zero, i.size, i.bytes)) = some (some (.int .u8 0), 1, 1) := by kernel_rfl

theorem run_append_nothing {P : Program} {w : World} (base : Nat) (t ty e : TypeId) (i : TypeInfo) (size : Nat) (ht : P.underlying t = some (.slice e)) (hi : P.info? e = some i)
    (v : Value) (n : Nat) (xs : List Value) (hown : w.ownsRow base e size v n xs) (c : Nat) :
    (Builtin.append_ #[t, t] ty #[v, .slice none 0 c]).run P w = .ok v w := by
  rcases hown.2 with ⟨rfl, rfl⟩ | ⟨g, cap, cur, rfl, _, _, hnc, _⟩
  · simp [Builtin.append_, run_underlying ht, sizeOf, typeInfo, hi, Builtin.lenOf, Builtin.firstCells]
  · simp [Builtin.append_, run_underlying ht, sizeOf, typeInfo, hi, Builtin.lenOf, Builtin.firstCells, hnc, storeCells]

theorem append_bytes {w : World} {ops : Array Oper} {rest : List Oper} {o : Oper} {a : Act} {Q : Exit → Act → World → Prop} (hgd : o.guard = none) (s x : Operand)
    (ho : o.op = .call { callee := .builtin .append, args := #[s, x], argTypes := #[22, 22] })
    (base : Nat) (v : Value) (n : Nat) (xs : List UInt8) (hs : a.eval s = v) (hown : w.ownsRow base 5 1 v n (xs.map B8))
    (ao : Option Addr) (m c : Nat) (news : List UInt8) (hx : a.eval x = .slice ao m c) (hl : news.length = m) (hb : BytesAt w ao news)
    (hbytes : n + m ≤ 140737488355328) (hbase : base ≤ w.heap.size)
    (h : ∀ v' w', w'.ownsRow base 5 1 v' (n + m) ((xs ++ news).map B8) → w.grownBy w' v.ownBlock → wpList Tryd.prog ops Q rest (a.put o.dst v') w') :
    wpList Tryd.prog ops Q (o :: rest) a w := by
  obtain ⟨i0, hi, hz0, hz1, hz2⟩ := info_parts Tryd.infoByte
  by_cases hm : m = 0
  · have hn : news = [] := List.eq_nil_of_length_eq_zero (by omega)
    subst hn
    subst hm
    have h' := h v w (by simpa using hown) (World.grownBy.refl _ _)
    refine wpList_plain hgd fun K hK => ?_
    cases ao with
    | none =>
      have hrun := run_append_nothing (P := Tryd.prog) base 22 o.type 5 i0 1 Tryd.underlying22 hi v n _ hown c
      unfold Oper.wp execOp
      simp only [ho, resolve, invoke, builtin, Sem.run_bind, Sem.run_pure, Result.andThen_ok, List.map_toArray, List.map_cons, List.map_nil, hs, hx, hrun]
      exact hK _ _ h'
    | some ad =>
      have hrun : (Builtin.append_ #[22, 22] o.type #[v, .slice (some ad) 0 c]).run Tryd.prog w = .ok v w := by
        rcases hown.2 with ⟨rfl, rfl⟩ | ⟨g, cap, cur, rfl, _, _, hnc, _⟩
        · simp [Builtin.append_, run_underlying Tryd.underlying22, sizeOf, typeInfo, hi, Builtin.lenOf, Builtin.firstCells, loadCells, loadCellsFrom]
        · simp [Builtin.append_, run_underlying Tryd.underlying22, sizeOf, typeInfo, hi, Builtin.lenOf, Builtin.firstCells, hnc, storeCells, loadCells, loadCellsFrom]
      unfold Oper.wp execOp
      simp only [ho, resolve, invoke, builtin, Sem.run_bind, Sem.run_pure, Result.andThen_ok, List.map_toArray, List.map_cons, List.map_nil, hs, hx, hrun]
      exact hK _ _ h'
  · obtain ⟨b, off, rfl, _⟩ := hb.at (i := 0) (by omega)
    refine wpList_append_own w hgd s x 22 ho base 5 i0 (.int .u8 0) 1 1 Tryd.underlying22 hi hz0 hz1 hz2 rfl (by decide) v n _ hs hown ⟨b, off, none⟩ m c (news.map B8) hx (by simp [hl]) ?_ ?_ ?_ (by omega) hbase fun v' w' h1 h2 _ => h v' w' (by rw [List.map_append]; exact h1) h2
    · intro j u hu
      rw [add_plain]
      obtain ⟨b', off', hbb, hc⟩ := hb j u hu
      simp only [Option.some.injEq, Addr.mk.injEq, and_true] at hbb
      obtain ⟨rfl, rfl⟩ := hbb
      exact hc
    · intro u hu
      obtain ⟨c, _, rfl⟩ := List.mem_map.1 hu
      rfl
    · simp only [maxLen]; omega
/-- A row that was laid just now is one's own. -/
theorem owns_new (w : World) (base : Nat) (e : TypeId) (vs : List Value) (n : Nat) (hb : base ≤ w.heap.size) (hn : vs.length = n) (hm : n ≤ maxLen) :
    (w.alloc (.cells vs.toArray e)).ownsRow base e 1 (.slice (some ⟨w.heap.size, 0, none⟩) n n) n vs :=
  ⟨by simp [hn], .inr ⟨w.heap.size, n, vs.toArray, rfl, hb, Blk.new w e vs, Nat.le_refl _, hm, by simp [hn], by simp [← hn]⟩⟩
end Go.Proofs.YtaehlakefgnfmaaDoor
