/-
  DERIVED. THE LAW TokenBlanks, walked.
-/
import Derived.Test.YtaehlakefgnfmaaSame
import Derived.Test.YtaehlakefgnfmaaSep
import Derived.Test.YtaehlakefgnfmaaWTokenWords
import Derived.Test.YtaehlakefgnfmaaAppend
import Derived.Test.YtaehlakefgnfmaaPlaces
set_option linter.unusedSimpArgs false
set_option linter.unusedVariables false
namespace Go.Proofs.Ytaehlakefgnfmaa.tokenBlanks
open Go.RowKit

theorem ext_draws (w : World) (n : Nat) : Ext w (w.drewN n) := ⟨rfl, rfl, rfl, Nat.le_refl _, fun _ _ => rfl⟩
def keepLine (r : List UInt8) : List UInt8 := r.filter (· != 10)
theorem keep_more (r : List UInt8) (k : Nat) (h : k < r.length) (hc : r[k] ≠ 10) : keepLine (r.take (k + 1)) = keepLine (r.take k) ++ [r[k]] := by
  unfold keepLine
  rw [List.take_succ_eq_append_getElem h, List.filter_append]
  simp [hc]
theorem keep_same (r : List UInt8) (k : Nat) (h : k < r.length) (hc : r[k] = 10) : keepLine (r.take (k + 1)) = keepLine (r.take k) := by
  unfold keepLine
  rw [List.take_succ_eq_append_getElem h, List.filter_append]
  simp [hc]
theorem keep_le (r : List UInt8) (k : Nat) : (keepLine (r.take k)).length ≤ k := Nat.le_trans (List.length_filter_le _ _) (List.length_take_le _ _)

set_option maxRecDepth 100000 in
set_option maxHeartbeats 4000000 in
theorem early (w : World) (a : Option Addr) (s : List UInt8) (cap : Nat) (hs : BytesAt w a s) (hcap : s.length ≤ cap) (hmax : cap ≤ 9223372036854775807)
    (a1 : Option Addr) (s1 : List UInt8) (cap1 : Nat) (hs1 : BytesAt w a1 s1) (hcap1 : s1.length ≤ cap1) (hmax1 : cap1 ≤ 9223372036854775807)
    (a2 : Option Addr) (s2 : List UInt8) (cap2 : Nat)
    (h : (∃ e, lex s = .error e) ∨ (∃ x, lex s = .ok x ∧ ((∃ e, lex s1 = .error e) ∨ ∃ y, lex s1 = .ok y ∧ (100 < s2.length ∨ (¬ 100 < s2.length ∧ (1500 < s.length ∨ (¬ 1500 < s.length ∧ (1500 < s1.length ∨ (¬ 1500 < s1.length ∧ 2048 < x.length + y.length))))))))) :
    Calls Try.prog 5 #[.slice a s.length cap, .slice a1 s1.length cap1, .slice a2 s2.length cap2] w fun e w' => e = .returned (.bool true) ∧ Ext w w' := by
  go_enter Try.func5, Try.ntmps5
  go_wp2_with fail
  refine (head_any w).mono ?_
  rintro e w1 ⟨rfl, e1⟩
  go_wp2_with fail
  refine (lex_any w1 a s cap (hs.ext e1) hcap).mono ?_
  rintro e w2 ⟨hlx, e2⟩
  rcases h with ⟨⟨x, p⟩, hx⟩ | ⟨xs, hx, h⟩
  · rw [hx] at hlx
    simp only [lexEnds] at hlx
    subst hlx
    have hx0 := lex_err0 hx
    have hne : ((x : Int) != 0) = true := by simp; omega
    clear hx
    go_wp2_with fail
    refine (lex_any w2 a1 s1 cap1 (hs1.ext (e1.trans e2)) hcap1).mono ?_
    rintro e w3 ⟨hlx, e3⟩
    obtain ⟨v0, v1, v2, rfl⟩ : ∃ v0 v1 v2, e = .returned (.tuple #[v0, .int .i64 v1, .int .i64 v2]) := by
      unfold lexEnds at hlx
      split at hlx
      · obtain ⟨_, _, rfl, _⟩ := hlx; exact ⟨_, _, _, rfl⟩
      · exact ⟨_, _, _, hlx⟩
    go_wp2_with fail
    go_ret
    exact ⟨rfl, e1.trans (e2.trans e3)⟩
  · rw [hx] at hlx
    obtain ⟨ax, cx, rfl, hcx, _, hlcx⟩ := hlx
    have hxl := lex_len hx
    clear hx
    go_wp2_with fail
    refine (lex_any w2 a1 s1 cap1 (hs1.ext (e1.trans e2)) hcap1).mono ?_
    rintro e w3 ⟨hlx, e3⟩
    rcases h with ⟨⟨y, p⟩, hy⟩ | ⟨ys, hy, h⟩
    · rw [hy] at hlx
      simp only [lexEnds] at hlx
      subst hlx
      have hx0 := lex_err0 hy
      have hne : ((y : Int) != 0) = true := by simp; omega
      clear hy
      go_wp2_with fail
      go_ret
      exact ⟨rfl, e1.trans (e2.trans e3)⟩
    · rw [hy] at hlx
      obtain ⟨ay, cy, rfl, hcy, _, hlcy⟩ := hlx
      have hyl := lex_len hy
      clear hy
      rcases h with h | ⟨g1, h | ⟨g2, h | ⟨g3, h⟩⟩⟩
      all_goals
        go_wp2_with fail
        go_ret
        exact ⟨rfl, e1.trans (e2.trans e3)⟩

set_option maxRecDepth 100000 in
set_option maxHeartbeats 4000000 in
theorem main (w : World) (a : Option Addr) (s : List UInt8) (cap : Nat) (hs : BytesAt w a s) (hcap : s.length ≤ cap)
    (a1 : Option Addr) (s1 : List UInt8) (cap1 : Nat) (hs1 : BytesAt w a1 s1) (hcap1 : s1.length ≤ cap1)
    (a2 : Option Addr) (s2 : List UInt8) (cap2 : Nat) (hs2 : BytesAt w a2 s2) (hcap2 : s2.length ≤ cap2)
    (xs ys : List Tok) (hx : lex s = .ok xs) (hy : lex s1 = .ok ys) (g1 : ¬ 100 < s2.length) (g2 : ¬ 1500 < s.length) (g3 : ¬ 1500 < s1.length) (g4 : ¬ 2048 < xs.length + ys.length) :
    Calls Try.prog 5 #[.slice a s.length cap, .slice a1 s1.length cap1, .slice a2 s2.length cap2] w fun e w' => e = .returned (.bool true) ∧ Ext w w' := by
  have hk : (keepLine s2).length ≤ s2.length := List.length_filter_le _ _
  have hall := lex_blanks (r := keepLine s2) hx hy (by intro c hc; simpa using (List.mem_filter.1 hc).2) (by simp; omega) (by omega)
  have HALL := hid hall
  have hplace : ∀ t ∈ ys, t.place < s1.length := (lex_placed hy).lt
  have HP := hid hplace
  clear hplace
  clear hall
  have kc := fun (w : World) (C : Array Value) (n c : Nat) => Lib.run_convert_bytes_const (P := Try.prog) w 22 5 C n c Try.underlying22 Try.underlying5
  go_enter Try.func5, Try.ntmps5
  go_wp2_with fail
  refine (head_any w).mono ?_
  rintro e w1 ⟨rfl, e1⟩
  go_wp2_with fail
  refine (lex_any w1 a s cap (hs.ext e1) hcap).mono ?_
  rintro e w2 ⟨hlx, e2⟩
  rw [hx] at hlx
  obtain ⟨ax, cx, rfl, hcx, _, hlcx⟩ := hlx
  clear hx
  go_wp2_with fail
  refine (lex_any w2 a1 s1 cap1 (hs1.ext (e1.trans e2)) hcap1).mono ?_
  rintro e w3 ⟨hlx, e3⟩
  rw [hy] at hlx
  obtain ⟨ay, cy, rfl, hcy, _, hlcy⟩ := hlx
  clear hy
  have e03 := e1.trans (e2.trans e3)
  have hcx3 := hcx.ext e3
  have hz0 : (w3.alloc (.cells #[] 5)).ownsRow w3.heap.size 5 1 (.slice (some ⟨w3.heap.size, 0, none⟩) 0 0) 0 (([] : List UInt8).map B8) := owns_new w3 w3.heap.size 5 [] 0 (Nat.le_refl _) rfl (by decide)
  have hs' := (hs.ext e03).ext ((Ext.refl w3).alloc (.cells #[] 5))
  clear hcx
  go_wp2_with (at_builtin; refine append_bytes rfl _ _ rfl w3.heap.size _ 0 _ rfl hz0 _ s.length cap s rfl rfl hs' (by omega) (by simp) ?_)
  intro v5 w5 hown5 hgr5
  have e5 : Ext w3 w5 := ((Ext.refl w3).alloc _).grown hz0 (Nat.le_refl _) hgr5
  obtain ⟨a5, c5, rfl, _, _, _⟩ := owned_cells hown5
  have hb4 : BytesAt (w5.alloc (.cells #[.int .u8 10, .int .u8 9, .int .u8 32, .int .u8 35] 5 (4, 5))) (some ⟨w5.heap.size, 0, none⟩) [10, 9, 32, 35] := CellsAt.frozenNew w5 5 _ _
  clear hgr5 hz0 hs'
  go_wp2_with (at_builtin; refine append_bytes rfl _ _ rfl w3.heap.size _ s.length s rfl (hown5.alloc _) _ 4 4 [10, 9, 32, 35] rfl rfl hb4 (by omega) (by have := e5.size; simp; omega) ?_)
  intro v6 w6 hown6 hgr6
  have e6 : Ext w3 w6 := (e5.alloc _).grown (hown5.alloc _) (Nat.le_refl _) hgr6
  have hown7 : w6.ownsRow w3.heap.size 5 1 v6 (s.length + 4 + (keepLine (s2.take 0)).length) ((s ++ [10, 9, 32, 35] ++ keepLine (s2.take 0)).map B8) := by simpa [keepLine] using hown6
  clear hown5 hgr6 hown6 hb4
  go_wp2_with fail
  go_loopw [14, 15] (fun v i wr => ∃ k : Nat, k ≤ s2.length ∧ i = .int .i64 k ∧ Ext w3 wr ∧ wr.ownsRow w3.heap.size 5 1 v (s.length + 4 + (keepLine (s2.take k)).length) ((s ++ [10, 9, 32, 35] ++ keepLine (s2.take k)).map B8)) (fun _ i _ => s2.length - (intOf i).toNat)
  case atStart => exact ⟨0, by omega, rfl, e6, hown7⟩
  case round =>
    obtain ⟨k, hk2, rfl, he, hown⟩ := hrel
    by_cases hlt : k < s2.length
    · obtain ⟨b, off, rfl, hc⟩ := (hs2.ext (e03.trans he)).at hlt
      by_cases h10 : s2[k] = 10
      · have hi10 : ((s2[k].toNat : Int) != 10) = false := by rw [h10]; rfl
        have hkeep := keep_same s2 k hlt h10
        rw [← hkeep] at hown
        clear h10 hkeep
        go_wp2_with fail
        go_roundw
        case rel => exact ⟨k + 1, by omega, by go_num, he, hown⟩
        case measure => simp [intOf]; omega
      · have hi10 : ((s2[k].toNat : Int) != 10) = true := by rw [show ((10 : Int)) = ((10 : UInt8).toNat : Int) from rfl, u8_ne]; simpa using h10
        have HK := hid (keep_more s2 k hlt h10)
        have hkl := keep_le s2 k
        obtain ⟨ao, co, rfl, _, _, _⟩ := owned_cells hown
        have hb1 : BytesAt (wr.alloc (.cells #[.int .u8 s2[k].toNat] 5)) (some ⟨wr.heap.size, 0, none⟩) [s2[k]] := CellsAt.new wr _ _
        clear h10
        go_wp2_with (at_builtin; refine append_bytes rfl _ _ rfl w3.heap.size _ (s.length + 4 + (keepLine (s2.take k)).length) (s ++ [10, 9, 32, 35] ++ keepLine (s2.take k)) rfl (hown.alloc _) _ 1 1 [s2[k]] rfl rfl hb1 (by omega) (by have := he.size; simp; omega) ?_)
        intro v7 w7 hown7 hgr7
        have e7 : Ext w3 w7 := (he.alloc _).grown (hown.alloc _) (Nat.le_refl _) hgr7
        have hown8 : w7.ownsRow w3.heap.size 5 1 v7 (s.length + 4 + (keepLine (s2.take (k + 1))).length) ((s ++ [10, 9, 32, 35] ++ keepLine (s2.take (k + 1))).map B8) := by
          rw [HK.out]; simpa [Nat.add_assoc] using hown7
        clear hown hown7 hgr7 hb1
        go_wp2_with fail
        go_roundw
        case rel => exact ⟨k + 1, by omega, by go_num, e7, hown8⟩
        case measure => simp [intOf]; omega
    · rw [List.take_of_length_le (show s2.length ≤ k by omega)] at hown
      obtain ⟨ao, co, rfl, _, _, _⟩ := owned_cells hown
      have hb1 : BytesAt (wr.alloc (.cells #[.int .u8 10] 5)) (some ⟨wr.heap.size, 0, none⟩) [10] := CellsAt.new wr _ _
      go_wp2_with (at_builtin; refine append_bytes rfl _ _ rfl w3.heap.size _ (s.length + 4 + (keepLine s2).length) (s ++ [10, 9, 32, 35] ++ keepLine s2) rfl (hown.alloc _) _ 1 1 [10] rfl rfl hb1 (by omega) (by have := he.size; simp; omega) ?_)
      intro v7 w7 hown7 hgr7
      have e7 : Ext w3 w7 := (he.alloc _).grown (hown.alloc _) (Nat.le_refl _) hgr7
      have hown8 : w7.ownsRow w3.heap.size 5 1 v7 (s.length + 4 + (keepLine s2).length + 1) ((s ++ [10, 9, 32, 35] ++ keepLine s2 ++ [10]).map B8) := by simpa using hown7
      have hs1' := hs1.ext (e03.trans e7)
      clear hown hown7 hgr7 hb1
      obtain ⟨a8, c8, rfl, _, _, _⟩ := owned_cells hown8
      go_wp2_with (at_builtin; refine append_bytes rfl _ _ rfl w3.heap.size _ (s.length + 4 + (keepLine s2).length + 1) (s ++ [10, 9, 32, 35] ++ keepLine s2 ++ [10]) rfl hown8 _ s1.length cap1 s1 rfl rfl hs1' (by omega) e7.size ?_)
      intro v9 w9 hown9 hgr9
      have e9 : Ext w3 w9 := e7.grown hown8 (Nat.le_refl _) hgr9
      obtain ⟨a9, c9, rfl, hc9, _, hcp9⟩ := owned_cells hown9
      have hb9 : BytesAt w9 a9 (s ++ 10 :: 9 :: 32 :: 35 :: (keepLine s2 ++ 10 :: s1)) := by unfold BytesAt; simpa using hc9
      have hl9 : (s ++ 10 :: 9 :: 32 :: 35 :: (keepLine s2 ++ 10 :: s1)).length = s.length + 4 + (keepLine s2).length + 1 + s1.length := by simp; omega
      have L9 := lex_any w9 a9 _ c9 hb9 (by omega)
      rw [HALL.out, hl9] at L9
      have HL9 := hid L9
      clear L9 hgr9 hown9 hc9 hb9 hs1' hown8
      go_wp2_with fail
      refine HL9.out.mono ?_
      rintro e w10 ⟨⟨az, cz, rfl, hcz, _, hlcz⟩, e10⟩
      have e310 : Ext w3 w10 := e9.trans e10
      have hcx10 := hcx3.ext e310
      have hcy10 := hcy.ext e310
      obtain ⟨N, hN⟩ : ∃ N, N = s.length + 4 + (keepLine s2).length + 1 + s1.length - s1.length := ⟨_, rfl⟩
      rw [← hN] at hcz hlcz ⊢
      have hzl : (xs ++ ys.map (Tok.on N)).length = xs.length + ys.length := by simp
      rw [hzl] at hlcz ⊢
      have HN := hid hN
      have HZ := hid hzl
      generalize hzs : xs ++ ys.map (Tok.on N) = zs at *
      have HZS := hid hzs
      clear hN hzl hzs HL9 hcx3 hcy hl9
      go_wp2_with fail
      go_loopw [19] (fun i wr => ∃ k : Nat, k ≤ xs.length + ys.length ∧ i = .int .i64 k ∧ Ext w10 wr) (fun i _ => xs.length + ys.length - (intOf i).toNat)
      case atStart => exact ⟨0, by omega, rfl, Ext.refl _⟩
      case round =>
        obtain ⟨i, hi, rfl, hei⟩ := hrel
        have e0i : Ext w wr := e03.trans (e310.trans hei)
        by_cases hlti : i < xs.length + ys.length
        · have hiz : i < zs.length := by have := HZ.out; omega
          obtain ⟨bz, oz, rfl, _⟩ := toks_at (hcz.ext hei) hiz
          have hone := toks_one (hcz.ext hei) hiz
          have hicz : i < cz := by omega
          by_cases hix : i < xs.length
          · obtain ⟨bx, ox, rfl, c0, c1, c2, c3⟩ := toks_at (hcx10.ext (hei.alloc (.cells #[.int .i64 0, .string ⟨#[]⟩, .int .i64 0, .int .i64 0] 33))) hix
            have hzi : zs[i] = xs[i] := by
              have h := HZS.out
              subst h
              rw [List.getElem_append_left hix]
            rw [hzi] at hone
            clear hzi
            have hA : CellsAt ((wr.alloc (.cells #[.int .i64 xs[i].kind, .string ⟨xs[i].text.toArray⟩, .int .i64 xs[i].num, .int .i64 xs[i].place] 33)).alloc (.cells #[.int .i64 xs[i].kind, .string ⟨xs[i].text.toArray⟩, .int .i64 xs[i].num, .int .i64 xs[i].place] 33)) (some ⟨wr.heap.size + 1, 0, none⟩) ([xs[i]].flatMap encTok) := by
              have := CellsAt.new (wr.alloc (.cells #[.int .i64 xs[i].kind, .string ⟨xs[i].text.toArray⟩, .int .i64 xs[i].num, .int .i64 xs[i].place] 33)) 33 (encTok xs[i])
              rw [World.size_alloc] at this
              rw [show [xs[i]].flatMap encTok = encTok xs[i] by simp]
              exact this
            have hib : (i : Int) + 1 ≤ cz := by omega
            have hi0 : (0 : Int) ≤ i := by omega
            have hi1 : (0 : Int) ≤ (i : Int) + 1 := by omega
            have hi2 : (i : Int) ≤ (i : Int) + 1 := by omega
            have hi3 : IntKind.i64.wrap ((i : Int) + 1) = (i : Int) + 1 := IntWalk.i64_in _ (by omega)
            have hi4 : ((i : Int) + 1).toNat = i + 1 := by omega
            have hicn : ¬ cz = i := by omega
            have hB := hone.ext (((Ext.refl wr).alloc (.cells #[.int .i64 xs[i].kind, .string ⟨xs[i].text.toArray⟩, .int .i64 xs[i].num, .int .i64 xs[i].place] 33)).alloc (.cells #[.int .i64 xs[i].kind, .string ⟨xs[i].text.toArray⟩, .int .i64 xs[i].num, .int .i64 xs[i].place] 33))
            have HA := hid hA
            have HB := hid hB
            clear hA hB hone
            go_wp2_with fail
            go_region_with (go_at_call 12; refine (same_any _ _ _ _ _ [xs[i]] (by exact CellsAt.ext HA.out (Ext.refl _).drew) (by exact CellsAt.ext HB.out (Ext.refl _).drew) (by simp)).mono ?_; rintro e w' ⟨rfl, nn, rfl⟩)
            go_wp2_with fail
            refine ⟨⟨i + 1, by omega, by go_num, ?_⟩, by simp [intOf]; omega⟩
            exact ((hei.alloc _).alloc _).trans (ext_draws _ _)
          · obtain ⟨j, hj⟩ : ∃ j, j = i - xs.length := ⟨_, rfl⟩
            have hjy : j < ys.length := by omega
            have hij : i = xs.length + j := by omega
            subst hij
            obtain ⟨by_, oy, rfl, c0, c1, c2, c3⟩ := toks_at (hcy10.ext (hei.alloc (.cells #[.int .i64 0, .string ⟨#[]⟩, .int .i64 0, .int .i64 0] 33))) hjy
            have hzi : zs[xs.length + j] = ys[j].on N := by
              have h := HZS.out
              subst h
              rw [List.getElem_append_right (by omega)]
              simp
            rw [hzi] at hone
            clear hzi hj
            have hpl := HP.out ys[j] (by simp)
            have hpv : (ys[j].place : Int) + ((s.length : Int) + 4 + ((keepLine s2).length : Int) + 1 + (s1.length : Int)) - (s1.length : Int) = (((ys[j].on N).place : Nat) : Int) := by
              have := HN.out; simp only [Tok.on]; omega
            have hA : CellsAt ((wr.alloc (.cells #[.int .i64 ys[j].kind, .string ⟨ys[j].text.toArray⟩, .int .i64 ys[j].num, .int .i64 (ys[j].on N).place] 33)).alloc (.cells #[.int .i64 ys[j].kind, .string ⟨ys[j].text.toArray⟩, .int .i64 ys[j].num, .int .i64 (ys[j].on N).place] 33)) (some ⟨wr.heap.size + 1, 0, none⟩) ([ys[j].on N].flatMap encTok) := by
              have := CellsAt.new (wr.alloc (.cells #[.int .i64 ys[j].kind, .string ⟨ys[j].text.toArray⟩, .int .i64 ys[j].num, .int .i64 (ys[j].on N).place] 33)) 33 (encTok (ys[j].on N))
              rw [World.size_alloc] at this
              rw [show [ys[j].on N].flatMap encTok = encTok (ys[j].on N) by simp]
              exact this
            have hB := hone.ext (((Ext.refl wr).alloc (.cells #[.int .i64 ys[j].kind, .string ⟨ys[j].text.toArray⟩, .int .i64 ys[j].num, .int .i64 (ys[j].on N).place] 33)).alloc (.cells #[.int .i64 ys[j].kind, .string ⟨ys[j].text.toArray⟩, .int .i64 ys[j].num, .int .i64 (ys[j].on N).place] 33))
            have HA := hid hA
            have HB := hid hB
            clear hA hB hone
            generalize hpn : (ys[j].on N).place = pn at hpv HA HB
            clear hpn
            generalize ys[j].on N = tz at HA HB
            go_wp2_with fail
            clear hpv
            have hib : (xs.length : Int) + (j : Int) + 1 ≤ cz := by omega
            have hi0 : (0 : Int) ≤ (xs.length : Int) + j := by omega
            have hi1 : (0 : Int) ≤ (xs.length : Int) + (j : Int) + 1 := by omega
            have hi2 : (xs.length : Int) + (j : Int) ≤ (xs.length : Int) + (j : Int) + 1 := by omega
            have hi3 : IntKind.i64.wrap ((xs.length : Int) + (j : Int) + 1) = (xs.length : Int) + (j : Int) + 1 := IntWalk.i64_in _ (by omega)
            have hi4 : ((xs.length : Int) + (j : Int) + 1).toNat = xs.length + j + 1 := by omega
            have hicn : ¬ cz = xs.length + j := by omega
            have hi5 : ((xs.length : Int) + (j : Int)).toNat = xs.length + j := by omega
            go_region_with (go_at_call 12; refine (same_any _ _ _ _ _ [tz] (by exact CellsAt.ext HA.out (Ext.refl _).drew) (by exact CellsAt.ext HB.out (Ext.refl _).drew) (by simp)).mono ?_; rintro e w' ⟨rfl, nn, rfl⟩)
            clear hi3 hi4 hi5
            go_wp2_with fail
            refine ⟨⟨xs.length + j + 1, by omega, by go_num, ?_⟩, by simp [intOf]; omega⟩
            exact ((hei.alloc _).alloc _).trans (ext_draws _ _)
        · go_wp2_with fail
          go_ret
          exact ⟨rfl, e0i⟩

theorem walk (w : World) (a : Option Addr) (s : List UInt8) (cap : Nat) (hs : BytesAt w a s) (hcap : s.length ≤ cap) (hmax : cap ≤ 9223372036854775807)
    (a1 : Option Addr) (s1 : List UInt8) (cap1 : Nat) (hs1 : BytesAt w a1 s1) (hcap1 : s1.length ≤ cap1) (hmax1 : cap1 ≤ 9223372036854775807)
    (a2 : Option Addr) (s2 : List UInt8) (cap2 : Nat) (hs2 : BytesAt w a2 s2) (hcap2 : s2.length ≤ cap2) (hmax2 : cap2 ≤ 9223372036854775807) :
    Calls Try.prog 5 #[.slice a s.length cap, .slice a1 s1.length cap1, .slice a2 s2.length cap2] w fun e w' => e = .returned (.bool true) ∧ Ext w w' := by
  cases hx : lex s with
  | error e => exact early w a s cap hs hcap hmax a1 s1 cap1 hs1 hcap1 hmax1 a2 s2 cap2 (.inl ⟨e, hx⟩)
  | ok xs =>
    cases hy : lex s1 with
    | error e => exact early w a s cap hs hcap hmax a1 s1 cap1 hs1 hcap1 hmax1 a2 s2 cap2 (.inr ⟨xs, hx, .inl ⟨e, hy⟩⟩)
    | ok ys =>
      by_cases h : 100 < s2.length ∨ (¬ 100 < s2.length ∧ (1500 < s.length ∨ (¬ 1500 < s.length ∧ (1500 < s1.length ∨ (¬ 1500 < s1.length ∧ 2048 < xs.length + ys.length)))))
      · exact early w a s cap hs hcap hmax a1 s1 cap1 hs1 hcap1 hmax1 a2 s2 cap2 (.inr ⟨xs, hx, .inr ⟨ys, hy, h⟩⟩)
      · exact main w a s cap hs hcap a1 s1 cap1 hs1 hcap1 a2 s2 cap2 hs2 hcap2 xs ys hx hy (by omega) (by omega) (by omega) (by omega)
end Go.Proofs.Ytaehlakefgnfmaa.tokenBlanks
