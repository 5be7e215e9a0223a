/-
  DERIVED. THE LAW SyntaxDeep, walked.
-/
import Derived.Test.YtaehlakefgnfmaaDoorHead
import Derived.Test.YtaehlakefgnfmaaDoorDeep
import Derived.Test.YtaehlakefgnfmaaDoorAppend
import Derived.Lib.AppendStr
import Derived.ArgAppend
namespace Go.Proofs.YtaehlakefgnfmaaDoor
set_option linter.unusedSimpArgs false
set_option linter.unusedVariables false
open Go.RowKit

/-- The first statement's first expression of a program's first function. -/
theorem deep_cells {w : World} {F : Nat → Prop} {fa : Option Addr} {fc n k : Nat} (h : RowIs w F (.slice fa n fc) n (FusIs w F [deepFu k])) :
    ∃ b off b1 o1 c1 b2 o2 c2, fa = some ⟨b, off, none⟩ ∧ w.cell? ⟨b, off + 3, none⟩ = some (.slice (some ⟨b1, o1, none⟩) 1 c1) ∧ w.cell? ⟨b1, o1 + 2, none⟩ = some (.slice (some ⟨b2, o2, none⟩) 1 c2) ∧ w.cell? ⟨b2, o2, none⟩ = some (.int .i64 1) ∧ n ≤ fc ∧ 1 ≤ c1 ∧ 1 ≤ c2 := by
  obtain ⟨a', cap', ks, hv, hcap, hc, hq⟩ := h
  cases hv
  obtain ⟨b, off, vs, rfl, h1, h2⟩ := elem_at fuEnc (by decide) fu_cons (l := [deepFu k]) hc (show fuEnc.all _ _ [deepFu k] _ from hq) (i := 0) (Nat.zero_lt_one)
  obtain ⟨vp, vb, rfl, ⟨pa, pc, pks, rfl, _⟩, ⟨ba, bc, bks, rfl, hbc, hb1, hb2⟩⟩ := h1
  have d3 : w.cell? ⟨b, off + 3, none⟩ = some (.slice ba 1 bc) := h2 3 _ rfl
  obtain ⟨b1, o1, us, rfl, h3, h4⟩ := elem_at stEnc (by decide) st_cons (l := [.mk 2 [120] [deepEx k] [] [] 9]) hb1 hb2 (i := 0) (Nat.zero_lt_one)
  simp only [List.getElem_cons_zero, stEnc, StIs] at h3
  obtain ⟨ve, vb, vl, rfl, ⟨ea, ec, eks, rfl, hec, he1, he2⟩, _⟩ := h3
  have d2 : w.cell? ⟨b1, o1 + 2, none⟩ = some (.slice ea 1 ec) := h4 2 _ rfl
  obtain ⟨b2, o2, xs, rfl, h5, h6⟩ := elem_at exEnc (by decide) ex_cons (l := [deepEx k]) he1 he2 (i := 0) (Nat.zero_lt_one)
  simp only [List.getElem_cons_zero, exEnc, deepEx, ExIs] at h5
  obtain ⟨v, rfl, _⟩ := h5
  exact ⟨b, off, b1, o1, bc, b2, o2, ec, rfl, d3, d2, h6 0 _ rfl, hcap, hbc, hec⟩

/-- A row of bytes that is full, or one's own. -/
def Growing (w : World) (base : Nat) (v : Value) (n : Nat) (xs : List UInt8) : Prop :=
  (∃ b, v = .slice (some ⟨b, 0, none⟩) n n ∧ xs.length = n ∧ BytesAt w (some ⟨b, 0, none⟩) xs) ∨ w.ownsRow base 5 1 v n (xs.map B8)
theorem ownsRow_down {w : World} {base base' : Nat} {e : TypeId} {size : Nat} {v : Value} {n : Nat} {xs : List Value} (h : w.ownsRow base e size v n xs) (hb : base' ≤ base) : w.ownsRow base' e size v n xs := by
  obtain ⟨hl, h⟩ := h
  refine ⟨hl, ?_⟩
  rcases h with h | ⟨g, cap, cur, h1, h2, h3⟩
  · exact .inl h
  · exact .inr ⟨g, cap, cur, h1, Nat.le_trans hb h2, h3⟩
theorem cells_of {w : World} {a : Option Addr} {vs us : List Value} (h : CellsAt w a vs) (e : vs = us) : CellsAt w a us := e ▸ h
theorem Growing.bytes {w : World} {base : Nat} {v : Value} {n : Nat} {xs : List UInt8} (h : Growing w base v n xs) : ∃ ao cap, v = .slice ao n cap ∧ n ≤ cap ∧ BytesAt w ao xs := by
  rcases h with ⟨b, rfl, _, hb⟩ | h
  · exact ⟨_, _, rfl, Nat.le_refl _, hb⟩
  · obtain ⟨a, cap, rfl, hc, _, hn⟩ := owned_cells h
    exact ⟨a, cap, rfl, hn, hc⟩
theorem Growing.ext {w w' : World} {base : Nat} {v : Value} {n : Nat} {xs : List UInt8} (h : Growing w base v n xs) (e : Ext w w') : Growing w' base v n xs := by
  rcases h with ⟨b, h1, h2, hb⟩ | h
  · exact .inl ⟨b, h1, h2, hb.ext e⟩
  · exact .inr (ownsRow_ext h e)
theorem append_growing {w : World} {ops : Array Oper} {rest : List Oper} {o : Oper} {a : Act} {Q : Exit → Act → World → Prop} (hgd : o.guard = none) (s x : Operand)
    (ho : o.op = .call { callee := .builtin .append, args := #[s, x], argTypes := #[22, 22] })
    (base : Nat) (v : Value) (n : Nat) (xs : List UInt8) (hs : a.eval s = v) (hg : Growing w base v n xs)
    (ad : Addr) (m c : Nat) (news : List UInt8) (hx : a.eval x = .slice (some ad) m c) (hl : news.length = m) (hb : BytesAt w (some ad) news) (hm : 0 < m)
    (hbytes : n + m ≤ 140737488355328) (hbase : base ≤ w.heap.size)
    (h : ∀ v' w', w'.ownsRow base 5 1 v' (n + m) ((xs ++ news).map B8) → (∀ a0 : World, a0.heap.size ≤ base → Ext a0 w → Ext a0 w') → wpList Tryd.prog ops Q rest (a.put o.dst v') w') :
    wpList Tryd.prog ops Q (o :: rest) a w := by
  rcases hg with ⟨b, rfl, hxs, hbx⟩ | hown
  · obtain ⟨i0, hi, hz0, hz1, hz2⟩ := info_parts Tryd.infoByte
    obtain ⟨ab, ao, hab, _⟩ := hb.at (i := 0) (by omega)
    obtain rfl := Option.some.inj hab
    refine wpList_append_grows w hgd s x 22 ho 5 i0 (.int .u8 0) 1 1 Tryd.underlying22 hi hz0 hz1 hz2 rfl (by decide) (some ⟨b, 0, none⟩) n n (xs.map B8) hs (fun h => by cases h) (by simp [hxs]) ?_ ⟨ab, ao, none⟩ m c (news.map B8) hx (by simp [hl]) ?_ ?_ (by omega) (by simp only [maxLen]; omega) (by omega) fun v' w' h1 h2 => h v' w' ?_ ?_
    · intro b' hb' j u hj
      cases hb'
      rw [add_plain]
      obtain ⟨b2, o2, hbb, hc⟩ := hbx j u hj
      simp only [Option.some.injEq, Addr.mk.injEq, and_true] at hbb
      obtain ⟨rfl, rfl⟩ := hbb
      exact hc
    · intro j u hj
      rw [add_plain]
      obtain ⟨b2, o2, hbb, hc⟩ := hb j u hj
      simp only [Option.some.injEq, Addr.mk.injEq, and_true] at hbb
      obtain ⟨rfl, rfl⟩ := hbb
      exact hc
    · intro u hu
      obtain ⟨c, _, rfl⟩ := List.mem_map.1 hu
      rfl
    · rw [List.map_append]; exact ownsRow_down h1 hbase
    · exact fun a0 _ e0 => Below.grown e0 h2 e0.size (fun k hk => by cases hk)
  · exact append_bytes hgd s x ho base v n xs hs hown (some ad) m c news hx hl hb hbytes hbase fun v' w' h1 h2 => h v' w' h1 fun a0 h0 e0 => e0.grown hown h0 h2

set_option maxRecDepth 100000 in
set_option maxHeartbeats 4000000 in
theorem deep_walk (w : World) (ht : Tab w) (z : Nat) (hz : z < 256) :
    Calls Tryd.prog 6 #[.int .u8 z] w fun e w' => e = .returned (.bool true) ∧ Ext w w' := by
  have hk : z % 100 < 100 := Nat.mod_lt _ (by decide)
  obtain ⟨k, hkz⟩ : ∃ k : Nat, (z : Int) % 100 = (k : Int) := ⟨z % 100, by omega⟩
  have hk100 : k < 100 := by omega
  clear hk
  obtain ⟨i0, hi, hz0, hz1, hz2⟩ := info_parts Tryd.infoByte
  go_enter Tryd.func6, Tryd.ntmps6
  go_wp2_with fail
  refine (head_any w ht).mono ?_
  rintro e w1 ⟨rfl, e1⟩
  clear ht
  have kc := fun (w : World) (C : Array Value) (n c : Nat) => Lib.run_convert_bytes_const (P := Tryd.prog) w 22 5 C n c Tryd.underlying22 Tryd.underlying5
  go_wp2_with fail
  clear hkz hz
  go_loopw [5, 7] (fun v i wr => ∃ j : Nat, j ≤ k ∧ i = .int .i64 j ∧ Ext w1 wr ∧ Growing wr w1.heap.size v (13 + j) (deepHead ++ List.replicate j 40)) (fun _ i _ => k - (intOf i).toNat)
  case atStart => exact ⟨0, Nat.zero_le _, rfl, (Ext.refl _).alloc _, .inl ⟨w1.heap.size, rfl, rfl, CellsAt.frozenNew w1 5 (deepHead.map B8) _⟩⟩
  case round =>
    obtain ⟨j, hj, rfl, he, hg⟩ := hrel
    have hsz := he.size
    obtain ⟨ao, cap, rfl, hcap, hb⟩ := hg.bytes
    by_cases hlt : j < k
    · have hg2 := hg.ext ((Ext.refl wr).alloc (.cells #[.int .u8 40] 5))
      have hn2 : BytesAt (wr.alloc (.cells #[.int .u8 40] 5)) (some ⟨wr.heap.size, 0, none⟩) [40] := CellsAt.new wr 5 [B8 40]
      clear hg hb kc
      go_wp2_with (at_builtin; refine append_growing rfl _ _ rfl w1.heap.size _ (13 + j) _ rfl hg2 ⟨wr.heap.size, 0, none⟩ 1 1 [40] rfl rfl hn2 (by decide) (by omega) (by simp; omega) ?_)
      intro v' w5 hown5 hE
      have e5 : Ext w1 w5 := hE w1 (Nat.le_refl _) (he.alloc _)
      obtain ⟨a5, c5, rfl, _, _, _⟩ := owned_cells hown5
      clear hg2 hn2
      go_wp2_with fail
      go_roundw
      case rel => exact ⟨j + 1, by omega, by go_num, e5, .inr (by simpa [List.replicate_succ', Nat.add_assoc] using hown5)⟩
      case measure => simp [intOf]; omega
    · obtain rfl : j = k := by omega
      have hg2 := hg.ext ((Ext.refl wr).alloc (.cells #[.int .u8 49] 5))
      have hn2 : BytesAt (wr.alloc (.cells #[.int .u8 49] 5)) (some ⟨wr.heap.size, 0, none⟩) [49] := CellsAt.new wr 5 [B8 49]
      clear hg hb kc
      go_wp2_with (at_builtin; refine append_growing rfl _ _ rfl w1.heap.size _ (13 + j) _ rfl hg2 ⟨wr.heap.size, 0, none⟩ 1 1 [49] rfl rfl hn2 (by decide) (by omega) (by simp; omega) ?_)
      intro v' w5 hown5 hE
      have e5 : Ext w1 w5 := hE w1 (Nat.le_refl _) (he.alloc _)
      obtain ⟨a5, c5, rfl, _, _, _⟩ := owned_cells hown5
      clear hg2 hn2 hE
      go_wp2_with fail
      go_loopw [5, 8] (fun v i wr => ∃ n : Nat, n ≤ j ∧ i = .int .i64 n ∧ Ext w1 wr ∧ wr.ownsRow w1.heap.size 5 1 v (13 + j + 1 + n) ((deepHead ++ (List.replicate j 40 ++ 49 :: List.replicate n 41)).map B8)) (fun _ i _ => j - (intOf i).toNat)
      case atStart => exact ⟨0, Nat.zero_le _, rfl, e5, by simpa [Nat.add_assoc] using hown5⟩
      case round =>
        obtain ⟨n, hn, rfl, he2, hown⟩ := hrel
        have hsz2 := he2.size
        obtain ⟨a6, c6, rfl, _, _, _⟩ := owned_cells hown
        by_cases hlt2 : n < j
        · have hown2 := hown.alloc (.cells #[.int .u8 41] 5)
          have hn2 : BytesAt (wr.alloc (.cells #[.int .u8 41] 5)) (some ⟨wr.heap.size, 0, none⟩) [41] := CellsAt.new wr 5 [B8 41]
          clear hown hown5
          go_wp2_with (at_builtin; refine append_bytes rfl _ _ rfl w1.heap.size _ (13 + j + 1 + n) _ rfl hown2 (some ⟨wr.heap.size, 0, none⟩) 1 1 [41] rfl rfl hn2 (by omega) (by simp; omega) ?_)
          intro v7 w7 hown7 hgr7
          have e7 : Ext w1 w7 := (he2.alloc _).grown hown2 (Nat.le_refl _) hgr7
          obtain ⟨a7, c7, rfl, _, _, _⟩ := owned_cells hown7
          clear hown2 hn2 hgr7
          go_wp2_with fail
          go_roundw
          case rel => exact ⟨n + 1, by omega, by go_num, e7, by
            rw [List.replicate_succ']
            simpa [Nat.add_assoc] using hown7⟩
          case measure => simp [intOf]; omega
        · obtain rfl : n = j := by omega
          clear hown5
          go_wp2_with (at_builtin; refine Lib.wpList_append_own_string _ rfl _ _ 22 9 rfl w1.heap.size 5 i0 Tryd.underlying22 Tryd.underlying9 hi hz0 hz1 hz2 _ (13 + n + 1 + n) _ rfl hown ⟨#[59, 32, 125]⟩ rfl ?c3 ?c4 ?c5 ?_)
          case c3 => exact Nat.le_trans (Nat.add_le_add_left (Nat.le_of_eq (show (⟨#[59, 32, 125]⟩ : ByteArray).size = 3 from rfl)) _) (by unfold maxLen; omega)
          case c4 => exact Nat.le_trans (Nat.add_le_add_left (Nat.le_of_eq (show (⟨#[59, 32, 125]⟩ : ByteArray).size = 3 from rfl)) _) (by omega)
          case c5 => omega
          intro v7 w7 hown7 hgr7 _
          have e7 : Ext w1 w7 := he2.grown hown (Nat.le_refl _) hgr7
          obtain ⟨a7, c7, rfl, hc7, _, hcap7⟩ := owned_cells hown7
          have hb7 : BytesAt w7 a7 (deepText n) := by
            unfold BytesAt
            refine cells_of hc7 ?_
            simp [deepText, deepTail, Lib.strCells, B8]
          have hlen : (deepText n).length = 13 + n + 1 + n + 3 := by simp [deepText, deepHead, deepTail]; omega
          have E7 : Ext w w7 := e1.trans e7
          clear hown hgr7 hown7 hc7 hi hz0 hz1 hz2 he2 e5 e7 he
          by_cases h30 : 30 < n
          · have C := parse_err w7 a7 (deepText n) c7 hb7 (by rw [hlen]; exact hcap7) 42 44 (deepT_no hk100 h30)
            rw [hlen] at C
            have HC := hid C
            clear C hlen
            go_wp2_with fail
            refine HC.out.mono ?_
            rintro e w8 ⟨rfl, e8⟩
            go_wp2_with fail
            go_ret
            exact ⟨rfl, (E7.trans e8).alloc _⟩
          · have C := parse_ok w7 a7 (deepText n) c7 hb7 (by rw [hlen]; exact hcap7) [deepFu n] (deepT_yes hk100 h30)
            rw [hlen] at C
            have HC := hid C
            clear C hlen
            go_wp2_with fail
            refine HC.out.mono ?_
            rintro e w8 ⟨⟨fa, fc, rfl, hr⟩, e8⟩
            rw [show [deepFu n].length = 1 from rfl] at hr ⊢
            obtain ⟨b, off, b1, o1, c1, b2, o2, c2, rfl, d1, d2, d3, hf, h1, h2⟩ := deep_cells hr
            have hE : Ext w8 (w8.alloc (.cells #[.slice (some ⟨b, off, none⟩) 1 fc] 26)) := (Ext.refl _).alloc _
            have f1 := hE.cell d1
            have f2 := hE.cell d2
            have f3 := hE.cell d3
            clear hr d1 d2 d3 HC
            go_wp2_with fail
            go_ret
            exact ⟨rfl, (E7.trans e8).alloc _⟩
end Go.Proofs.YtaehlakefgnfmaaDoor
namespace Go.Proofs.YtaehlakefgnfmaaDoor.syntaxDeep
open Go.RowKit
theorem walk (w : World) (ht : Tab w) (z : Int) (hz : (Lit.int .u8 z).wf = true) :
    Calls Tryd.prog 6 #[.int .u8 z] w fun e w' => e = .returned (.bool true) ∧ Ext w w' := by
  obtain ⟨z1, z2⟩ : 0 ≤ z ∧ z ≤ 255 := by
    simp [Lit.wf, IntKind.min, IntKind.max, IntKind.bits, IntKind.signed] at hz
    omega
  obtain ⟨n, rfl⟩ : ∃ n : Nat, z = n := ⟨z.toNat, by omega⟩
  exact deep_walk w ht n (by omega)
end Go.Proofs.YtaehlakefgnfmaaDoor.syntaxDeep
