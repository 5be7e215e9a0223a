/-
  DERIVED. THE LAW SyntaxCut, walked.
-/
import Derived.Test.YtaehlakefgnfmaaDoorHead
import Derived.Test.YtaehlakefgnfmaaDoorCut
namespace Go.Proofs.YtaehlakefgnfmaaDoor
set_option linter.unusedSimpArgs false
set_option linter.unusedVariables false
open Go.RowKit

theorem has_brace {s : List UInt8} {p : List Fu} (h : parse s = .ok p) (hp : p ≠ []) : ∃ k : Nat, s[k]? = some (125 : UInt8) := by
  unfold parse at h
  cases hx : lex s with
  | error e => rw [hx] at h; cases h
  | ok us =>
    rw [hx] at h
    simp only [] at h
    cases hpx : progS us with
    | err e r => rw [hpx] at h; cases h
    | ok p' rx =>
      rw [hpx] at h
      cases h
      have hne : us ≠ [] := by
        rintro rfl
        simp [progS, progGo] at hpx
        first | exact hp hpx.1 | exact hp hpx.1.symm
      have hshort := lex_short hx
      obtain ⟨ts, x, rfl, h4k, hxt⟩ := ends_prog _ _ _ _ _ hpx hne
      rw [lex_from _ hshort] at hx
      obtain ⟨k, k1, k2, k3⟩ := lexFrom_cut _ _ _ _ _ _ (Nat.le_refl _) hx h4k hxt
      exact ⟨k, k1⟩

theorem parse_short {s : List UInt8} {p : List Fu} (h : parse s = .ok p) : s.length ≤ 4096 := by
  unfold parse at h
  cases hx : lex s with
  | error e => rw [hx] at h; cases h
  | ok us => exact lex_short hx
theorem byte_int {s : List UInt8} {k : Nat} (h : k < s.length) (c : UInt8) (hc : s[k]? = some c) : ((s[k].toNat : Int)) = (c.toNat : Int) := by
  rw [List.getElem?_eq_getElem h, Option.some.injEq] at hc
  rw [hc]
theorem u8_beq (c d : UInt8) : ((c.toNat : Int) == d.toNat) = (c == d) := by
  have := u8_ne c d
  rw [bne, bne] at this
  cases h : (c == d) <;> simp_all
theorem byte_eq {s : List UInt8} {k : Nat} (h : k < s.length) (c : UInt8) (hc : s[k]? = some c) : s[k] = c := by
  rw [List.getElem?_eq_getElem h, Option.some.injEq] at hc
  exact hc
theorem byte_not {s : List UInt8} {k : Nat} (h : k < s.length) (c : UInt8) (hc : ¬ s[k]? = some c) : ¬ s[k] = c := by
  rw [List.getElem?_eq_getElem h, Option.some.injEq] at hc
  exact hc

set_option maxRecDepth 100000 in
set_option maxHeartbeats 4000000 in
theorem cut_walk (w : World) (ht : Tab w) (a : Option Addr) (s : List UInt8) (cap : Nat) (hs : BytesAt w a s) (hcap : s.length ≤ cap) (hmax : cap ≤ 9223372036854775807) (cu : Value) :
    Calls Tryd.prog 5 #[.slice a s.length cap, cu] w fun e w' => e = .returned (.bool true) ∧ Ext w w' := by
  go_enter Tryd.func5, Tryd.ntmps5
  go_wp2_with fail
  refine (head_any w ht).mono ?_
  rintro e w1 ⟨rfl, e1⟩
  clear ht
  cases hpar : parse s with
  | error x =>
    obtain ⟨x, p⟩ := x
    have hc := parse_code hpar
    have hx : ((x : Int) != 0) = true := by rcases hc with rfl | rfl | rfl | rfl | rfl <;> rfl
    clear hc
    have H := hid hpar
    clear hpar
    go_wp2_with fail
    refine (parse_err w1 a s cap (hs.ext e1) hcap x p H.out).mono ?_
    rintro e w2 ⟨rfl, e2⟩
    go_wp2_with fail
    go_ret
    exact ⟨rfl, (e1.trans e2).alloc _⟩
  | ok p =>
    have H := hid hpar
    clear hpar
    go_wp2_with fail
    refine (parse_ok w1 a s cap (hs.ext e1) hcap p H.out).mono ?_
    rintro e w2 ⟨⟨fa, fc, rfl, _⟩, e2⟩
    by_cases hp : p = []
    · subst hp
      go_wp2_with fail
      go_ret
      exact ⟨rfl, (e1.trans e2).alloc _⟩
    · have hpl : ((p.length : Int) == 0) = false := by
        have : p.length ≠ 0 := by simpa using hp
        simp; exact hp
      have HB := hid (has_brace H.out hp)
      have hpp := hid hp
      clear hp
      have hsl : s.length ≤ 4096 := parse_short H.out
      go_wp2_with fail
      have hs2 := hs.ext ((e1.trans e2).alloc (.cells #[.slice fa p.length fc] 26))
      go_loop [9] (fun v => ∃ k : Nat, k ≤ s.length ∧ v = .int .i64 k ∧ Hid (∀ i, k ≤ i → s[i]? ≠ some (125 : UInt8))) (fun v => (intOf v).toNat)
      case atStart => exact ⟨s.length, by omega, rfl, fun i hi => by simp [List.getElem?_eq_none hi]⟩
      case round =>
        obtain ⟨k, hk, rfl, hk1⟩ := hrel
        rcases k with _ | n
        · obtain ⟨i, hi⟩ := HB.out
          exact absurd hi (hk1.out i (by omega))
        · have hn : n < s.length := by omega
          obtain ⟨b, off, rfl, hc⟩ := hs2.at hn
          by_cases h125 : s[n]? = some 125
          · have hb := byte_eq hn 125 h125
            have hi125 : ((s[n].toNat : Int) != 125) = false := by rw [hb]; rfl
            have H125 := hid h125
            clear hb h125
            go_wp2_with fail
            go_loop [10] (fun v => ∃ k : Nat, n + 1 ≤ k ∧ k ≤ s.length ∧ v = .int .i64 k ∧ Hid (∀ i, n + 1 ≤ i → i < k → s[i]? ≠ some (35 : UInt8))) (fun v => s.length - (intOf v).toNat)
            case atStart => exact ⟨n + 1, by omega, by omega, rfl, fun i h1 h2 => by omega⟩
            case round =>
              obtain ⟨k, hk5, hk6, rfl, hk2⟩ := hrel
              by_cases hlt : k < s.length
              · obtain ⟨b', off', hbb, hc'⟩ := hs2.at hlt
                cases hbb
                by_cases h35 : s[k]? = some 35
                · have hb := byte_eq hlt 35 h35
                  have hi35 : ((s[k].toNat : Int) == 35) = true := by rw [hb]; rfl
                  clear hb h35
                  go_wp2_with fail
                  go_ret
                  exact ⟨rfl, (e1.trans e2).alloc _⟩
                · have hb := byte_not hlt 35 h35
                  have hi35 : ((s[k].toNat : Int) == 35) = false := by rw [show ((35 : Int)) = ((35 : UInt8).toNat : Int) from rfl, u8_beq]; simpa using hb
                  have H35 := hid h35
                  clear hb h35
                  go_wp2_with fail
                  go_round
                  case rel => exact ⟨k + 1, by omega, by omega, by go_num, fun i h1 h2 => by
                    by_cases h : i = k
                    · subst h; exact H35.out
                    · exact hk2.out i h1 (by omega)⟩
                  case measure => simp [intOf]; omega
              · obtain rfl : k = s.length := by omega
                go_wp2_with fail
                go_loop [11] (fun v => ∃ k : Nat, k ≤ n + 1 ∧ v = .int .i64 ((k : Int) - 1) ∧ Hid (∀ i, k ≤ i → i < n + 1 → s[i]? ≠ some (35 : UInt8))) (fun v => (intOf v + 1).toNat)
                case atStart => exact ⟨n + 1, by omega, by go_num, fun i h1 h2 => by omega⟩
                case round =>
                  obtain ⟨m, hm, rfl, hm1⟩ := hrel
                  rcases m with _ | m
                  · have HE := hid (cut_law H.out hpp.out (n + 1) (by omega) hk1.out (fun _ => H125.out) (fun i hi => by
                      by_cases h : i < s.length
                      · exact hk2.out i hi h
                      · simp [List.getElem?_eq_none (Nat.le_of_not_lt h)]) 0 (Or.inl rfl) (fun i _ h2 => hm1.out i (by omega) h2) (by omega)).2
                    rw [show n + 1 - 1 = n by omega] at HE
                    have hpart := hs2.part 0 n
                    rw [List.drop_zero] at hpart
                    have htl : (s.take n).length = n := by rw [List.length_take]; omega
                    have HL := hid htl
                    have C := parse_err _ _ _ cap hpart (by rw [htl]; omega) 41 n HE.out
                    rw [htl] at C
                    have HC := hid C
                    clear C htl hpart
                    have hn5 : n ≤ cap := by omega
                    go_wp2_with fail
                    refine HC.out.mono ?_
                    rintro e w3 ⟨rfl, e3⟩
                    go_wp2_with fail
                    go_ret
                    exact ⟨ret_bool (by simp), (((e1.trans e2).alloc _).trans e3).alloc _⟩
                  · have hml : m < s.length := by omega
                    obtain ⟨b', off', hbb, hc'⟩ := hs2.at hml
                    cases hbb
                    rw [show ((m + 1 : Nat) : Int) - 1 = (m : Int) by omega]
                    by_cases h10 : s[m]? = some 10
                    · have hb := byte_eq hml 10 h10
                      have hi10 : ((s[m].toNat : Int) != 10) = false := by rw [hb]; rfl
                      have H10 := hid h10
                      clear hb h10
                      have HE := hid (cut_law H.out hpp.out (n + 1) (by omega) hk1.out (fun _ => H125.out) (fun i hi => by
                        by_cases h : i < s.length
                        · exact hk2.out i hi h
                        · simp [List.getElem?_eq_none (Nat.le_of_not_lt h)]) (m + 1) (Or.inr (by simpa using H10.out)) hm1.out (by omega)).2
                      rw [show n + 1 - 1 = n by omega] at HE
                      have hpart := hs2.part 0 n
                      rw [List.drop_zero] at hpart
                      have htl : (s.take n).length = n := by rw [List.length_take]; omega
                      have HL := hid htl
                      have C := parse_err _ _ _ cap hpart (by rw [htl]; omega) 41 n HE.out
                      rw [htl] at C
                      have HC := hid C
                      clear C htl hpart
                      have hn5 : n ≤ cap := by omega
                      go_wp2_with fail
                      refine HC.out.mono ?_
                      rintro e w3 ⟨rfl, e3⟩
                      go_wp2_with fail
                      go_ret
                      exact ⟨ret_bool (by simp), (((e1.trans e2).alloc _).trans e3).alloc _⟩
                    · have hb := byte_not hml 10 h10
                      have hi10 : ((s[m].toNat : Int) != 10) = true := by rw [show ((10 : Int)) = ((10 : UInt8).toNat : Int) from rfl, u8_ne]; simpa using hb
                      clear hb h10
                      by_cases h35 : s[m]? = some 35
                      · have hb := byte_eq hml 35 h35
                        have hi35 : ((s[m].toNat : Int) == 35) = true := by rw [hb]; rfl
                        clear hb h35
                        go_wp2_with fail
                        go_ret
                        exact ⟨rfl, (e1.trans e2).alloc _⟩
                      · have hb := byte_not hml 35 h35
                        have hi35 : ((s[m].toNat : Int) == 35) = false := by rw [show ((35 : Int)) = ((35 : UInt8).toNat : Int) from rfl, u8_beq]; simpa using hb
                        have H35 := hid h35
                        clear hb h35
                        go_wp2_with fail
                        go_round
                        case rel => exact ⟨m, by omega, by go_num, fun i h1 h2 => by
                          by_cases h : i = m
                          · subst h; exact H35.out
                          · exact hm1.out i (by omega) h2⟩
                        case measure => simp [intOf]
          · have hb := byte_not hn 125 h125
            have hi125 : ((s[n].toNat : Int) != 125) = true := by rw [show ((125 : Int)) = ((125 : UInt8).toNat : Int) from rfl, u8_ne]; simpa using hb
            have H125 := hid h125
            clear hb h125
            go_wp2_with fail
            go_round
            case rel => exact ⟨n, by omega, by go_num, fun i hi => by
              by_cases h : i = n
              · subst h; exact H125.out
              · exact hk1.out i (by omega)⟩
            case measure => simp [intOf]
end Go.Proofs.YtaehlakefgnfmaaDoor
namespace Go.Proofs.YtaehlakefgnfmaaDoor.syntaxCut
open Go.RowKit
theorem walk (w : World) (ht : Tab w) (a : Option Addr) (s : List UInt8) (cap : Nat) (hs : BytesAt w a s) (hcap : s.length ≤ cap) (hmax : cap ≤ 9223372036854775807) (_ : s.length ≤ 140737488355328) (z : Int) (_ : (Lit.int .u16 z).wf = true) :
    Calls Tryd.prog 5 #[.slice a s.length cap, .int .u16 z] w fun e w' => e = .returned (.bool true) ∧ Ext w w' :=
  cut_walk w ht a s cap hs hcap hmax _
end Go.Proofs.YtaehlakefgnfmaaDoor.syntaxCut
