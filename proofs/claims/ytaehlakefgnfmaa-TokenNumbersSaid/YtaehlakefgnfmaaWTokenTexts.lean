/-
  DERIVED. THE LAW TokenTexts, walked.
-/
import Derived.Test.YtaehlakefgnfmaaToks
import Derived.Test.YtaehlakefgnfmaaAppend
set_option linter.unusedSimpArgs false
set_option linter.unusedVariables false
namespace Go.Proofs.Ytaehlakefgnfmaa
open Go.RowKit

theorem spanLen_append {p : UInt8 → Bool} {l r : List UInt8} (hl : ∀ c ∈ l, p c = true) (hr : ∀ c q, r = c :: q → p c = false) : spanLen p (l ++ r) = l.length := by
  induction l with
  | nil =>
    cases r with
    | nil => rfl
    | cons c q => simp [spanLen, hr c q rfl]
  | cons c l ih =>
    simp only [List.cons_append, spanLen, hl c (by simp), if_true, List.length_cons]
    rw [ih fun d hd => hl d (by simp [hd])]
theorem lex_first {c : UInt8} {l : List UInt8} (hl : (c :: l).length ≤ 4096) (h1 : c ≠ 35) (h2 : isBlank c = false) : lex (c :: l) = lexGo (l.length + 2) 0 (c :: l) 0 := by
  unfold lex
  rw [if_neg (by omega), skip_none c l h1 h2]
  rfl
theorem lex_open {l r : List UInt8} (hn : (34 :: (l ++ r)).length ≤ 4096) (hl : ∀ c ∈ l, isTextByte c = true) (hr : ∀ c q, r = c :: q → isTextByte c = false ∧ c ≠ 34) :
    lex (34 :: (l ++ r)) = .error (31, 0) := by
  rw [lex_first hn (by decide) (by decide)]
  have hs := spanLen_append hl (fun c q h => (hr c q h).1)
  have hx : nextT (34 :: (l ++ r)) = .error 31 := by
    simp only [nextT, show isLetter 34 = false from rfl, show isDigit 34 = false from rfl, Bool.false_eq_true, if_false, hs, List.drop_left, beq_self_eq_true, if_true]
    cases r with
    | nil => rfl
    | cons c q =>
      have := (hr c q rfl).2
      simp [this]
  simp only [lexGo, hx]
theorem lex_shut {l : List UInt8} (hn : (34 :: (l ++ [34])).length ≤ 4096) (hl : ∀ c ∈ l, isTextByte c = true) :
    lex (34 :: (l ++ [34])) = if l.length > 64 then .error (32, 0) else .ok [⟨3, l, 0, 0⟩] := by
  rw [lex_first hn (by decide) (by decide)]
  have hs := spanLen_append (r := [34]) hl (fun c q h => by cases h; rfl)
  have hx : nextT (34 :: (l ++ [34])) = if l.length > 64 then .error 32 else .ok ⟨3, l, 0, l.length + 2⟩ := by
    simp only [nextT, show isLetter 34 = false from rfl, show isDigit 34 = false from rfl, Bool.false_eq_true, if_false, hs, List.drop_left, beq_self_eq_true, if_true, List.take_left]
    simp
  by_cases h64 : l.length > 64
  · rw [if_pos h64] at hx ⊢
    simp only [lexGo, hx]
  · rw [if_neg h64] at hx ⊢
    simp only [lexGo, hx]
    simp [skip, lexGo]
/-- A letter for a byte. -/
def letterOf (c : UInt8) : UInt8 := 97 + c % 26
theorem letterOf_nat (c : UInt8) : (letterOf c).toNat = 97 + c.toNat % 26 := by
  simp [letterOf, UInt8.toNat_add, UInt8.toNat_mod]
  omega
theorem letterOf_text (c : UInt8) : isTextByte (letterOf c) = true := by
  rw [isText_nat, letterOf_nat]
  simp
  omega
theorem letters_text (s : List UInt8) : ∀ c ∈ s.map letterOf, isTextByte c = true := by
  intro c hc
  obtain ⟨d, _, rfl⟩ := List.mem_map.1 hc
  exact letterOf_text d
theorem ext_drewN (w : World) (n : Nat) : Ext w (w.drewN n) := ⟨rfl, rfl, rfl, Nat.le_refl _, fun _ _ => rfl⟩
theorem take_letters (s : List UInt8) (k : Nat) (h : k < s.length) : (s.map letterOf).take (k + 1) = (s.map letterOf).take k ++ [letterOf s[k]] := by
  rw [List.take_succ_eq_append_getElem (by simpa using h)]; simp
end Go.Proofs.Ytaehlakefgnfmaa
namespace Go.Proofs.Ytaehlakefgnfmaa.tokenTexts
open Go.RowKit

set_option maxHeartbeats 2000000 in
theorem walk (w : World) (a : Option Addr) (s : List UInt8) (cap : Nat) (hs : BytesAt w a s) (hcap : s.length ≤ cap) (hmax : cap ≤ 9223372036854775807) (x : Int) (hx : (Lit.int .u8 x).wf = true) :
    Calls Try.prog 8 #[.slice a s.length cap, .int .u8 x] w fun e w' => e = .returned (.bool true) ∧ Ext w w' := by
  obtain ⟨x1, x2⟩ : 0 ≤ x ∧ x ≤ 255 := by
    simp [Lit.wf, IntKind.min, IntKind.max, IntKind.bits, IntKind.signed] at hx
    omega
  clear hx
  by_cases hbig : 1000 < s.length
  · go_enter Try.func8, Try.ntmps8
    go_wp2_with fail
    refine (head_any w).mono ?_
    rintro e w1 ⟨rfl, e1⟩
    go_wp2_with fail
    go_ret
    exact ⟨rfl, e1⟩
  · go_enter Try.func8, Try.ntmps8
    go_wp2_with fail
    refine (head_any w).mono ?_
    rintro e w1 ⟨rfl, e1⟩
    go_wp2_with fail
    go_loopw [6, 7] (fun v i wr => ∃ (k : Nat) , k ≤ s.length ∧ i = .int .i64 k ∧ Ext w wr ∧ wr.ownsRow w.heap.size 5 1 v (1 + k) (((34 : UInt8) :: (s.map letterOf).take k).map B8)) (fun _ i _ => s.length - (intOf i).toNat)
    case atStart => exact ⟨0, by omega, rfl, e1.alloc _, owns_new w1 w.heap.size 5 [.int .u8 34] 1 e1.size rfl (by decide)⟩
    case round =>
      obtain ⟨k, hk, rfl, he, hown⟩ := hrel
      by_cases hlt : k < s.length
      · obtain ⟨b, off, rfl, hc⟩ := (hs.ext he).at hlt
        obtain ⟨ao, cp, rfl, _, _, _⟩ := owned_cells hown
        have hr : 0 ≤ (s[k].toNat : Int) ∧ (s[k].toNat : Int) < 256 := ⟨by omega, by have := s[k].toNat_lt; omega⟩
        have hv : (97 + (s[k].toNat : Int) % 26) = ((letterOf s[k]).toNat : Int) := by rw [letterOf_nat]; omega
        have hbn : BytesAt (wr.alloc (.cells #[.int .u8 (97 + (s[k].toNat : Int) % 26)] 5)) (some ⟨wr.heap.size, 0, none⟩) [letterOf s[k]] := by
          rw [hv]; exact CellsAt.new wr _ _
        have HV := hid hv
        clear hv
        obtain ⟨hr1, hr2⟩ := hr
        go_wp2_with (at_builtin; refine append_bytes rfl _ _ rfl w.heap.size _ (1 + k) _ rfl (hown.alloc _) _ 1 1 [letterOf s[k]] rfl rfl hbn (by omega) (by have := he.size; simp; omega) ?_)
        intro v' w4 hown4 hgr
        have e4 : Ext w w4 := (he.alloc _).grown (hown.alloc _) (Nat.le_refl _) hgr
        clear hgr hown hbn HV hc
        have hown5 : w4.ownsRow w.heap.size 5 1 v' (1 + (k + 1)) (((34 : UInt8) :: (s.map letterOf).take (k + 1)).map B8) := by
          rw [take_letters s k hlt]; simpa [Nat.add_assoc] using hown4
        clear hown4
        go_wp2_with fail
        go_roundw
        case rel => exact ⟨k + 1, by omega, by go_num, e4, hown5⟩
        case measure => simp [intOf]; omega
      · have hkn : k = s.length := by omega
        rw [hkn, List.take_of_length_le (by simp)] at hown
        obtain ⟨ao, cp, rfl, hcells, _, hcp⟩ := owned_cells hown
        have hlet := letters_text s
        have hll : (s.map letterOf).length = s.length := List.length_map _
        have hb1 : BytesAt wr ao (34 :: s.map letterOf) := hcells
        generalize s.map letterOf = body at hlet hll hb1 hown
        have hlc : (34 :: body).length = 1 + s.length := by rw [List.length_cons]; omega
        have L1 := lex_any wr ao (34 :: body) cp hb1 (by omega)
        have hl1 : lex (34 :: body) = .error (31, 0) := by
          have := lex_open (l := body) (r := []) (by simp; omega) hlet (by simp)
          simpa using this
        rw [hl1, hlc] at L1
        have HL1 := hid L1
        clear L1 hl1 hcells hkn hk
        go_wp2_with fail
        refine HL1.out.mono ?_
        rintro e w4 ⟨hen, e4⟩
        simp only [lexEnds] at hen
        subst hen
        have hb4 := hb1.ext e4
        clear HL1
        have hz : (w4.alloc (.cells #[] 5)).ownsRow w4.heap.size 5 1 (.slice (some ⟨w4.heap.size, 0, none⟩) 0 0) 0 (([] : List UInt8).map B8) := owns_new w4 w4.heap.size 5 [] 0 (Nat.le_refl _) rfl (by decide)
        have hb4' := hb4.ext ((Ext.refl w4).alloc (.cells #[] 5))
        go_wp2_with (at_builtin; refine append_bytes rfl _ _ rfl w4.heap.size _ 0 _ rfl hz _ (1 + s.length) cp (34 :: body) rfl hlc hb4' (by omega) (by simp) ?_)
        intro v5 w5 hown5 hgr5
        have e5 : Ext w4 w5 := ((Ext.refl w4).alloc _).grown hz (Nat.le_refl _) hgr5
        obtain ⟨a5, c5, rfl, _, _, _⟩ := owned_cells hown5
        have hb34 : BytesAt (w5.alloc (.cells #[.int .u8 34] 5)) (some ⟨w5.heap.size, 0, none⟩) [34] := CellsAt.new w5 _ _
        clear hgr5 hz hb4'
        go_wp2_with (at_builtin; refine append_bytes rfl _ _ rfl w4.heap.size _ (1 + s.length) (34 :: body) rfl (hown5.alloc _) _ 1 1 [34] rfl rfl hb34 (by omega) (by have := e5.size; simp; omega) ?_)
        intro v6 w6 hown6 hgr6
        have e6 : Ext w4 w6 := (e5.alloc _).grown (hown5.alloc _) (Nat.le_refl _) hgr6
        obtain ⟨a6, c6, rfl, hc6, _, hcp6⟩ := owned_cells hown6
        have hb6 : BytesAt w6 a6 (34 :: (body ++ [34])) := by
          unfold BytesAt; simpa using hc6
        have hl6 : (34 :: (body ++ [34])).length = 1 + s.length + 1 := by simp; omega
        have L6 := lex_any w6 a6 _ c6 hb6 (by omega)
        rw [lex_shut (by omega) hlet, hll, hl6] at L6
        have HL6 := hid L6
        have hbody4 := hb4.ext e6
        clear L6 hgr6 hown6 hown5 hc6 hb6 hb34 hb4
        go_wp2_with fail
        refine HL6.out.mono ?_
        rintro e w7 ⟨hen, e7⟩
        have e07 : Ext w w7 := he.trans (e4.trans (e6.trans e7))
        have hbody := hbody4.ext e7
        clear HL6 hbody4
        by_cases h64 : 64 < s.length
        · rw [if_pos h64] at hen
          simp only [lexEnds] at hen
          subst hen
          go_wp2_with fail
          go_ret
          exact ⟨rfl, e07⟩
        · rw [if_neg h64] at hen
          obtain ⟨a7, c7, rfl, hc7, _, _⟩ := hen
          obtain ⟨b, off, rfl, c0, c1, _, _⟩ := toks_at hc7 (k := 0) (by simp)
          simp only [List.getElem_cons_zero, Nat.zero_mul, Nat.add_zero] at c0 c1
          obtain ⟨b', off', rfl, _⟩ := hbody.at (i := 0) (by simp)
          have hpart := hbody.part 1 s.length
          rw [show ((34 :: body).drop 1).take s.length = body by simp [← hll]] at hpart
          obtain ⟨ad, had⟩ : ∃ ad, ad = (if cp = 1 then (some ⟨b', off', none⟩ : Option Addr) else some ⟨b', off' + 1, none⟩) := ⟨_, rfl⟩
          have hpart2 : BytesAt w7 ad body := by
            rw [had]
            by_cases hc1 : cp = 1
            · have hb0 : body = [] := List.eq_nil_of_length_eq_zero (by omega)
              rw [if_pos hc1, hb0]
              exact CellsAt.nil _ _
            · rw [if_neg hc1]; exact hpart
          have hcvq : ∀ nq, (convert 22 9 (.slice ad s.length (cp - 1))).run Try.prog (w7.drewN nq) = .ok (.string ⟨body.toArray⟩) (w7.drewN nq) := fun nq =>
            run_string_of (hpart2.ext (ext_drewN w7 nq)) _ _ _ Try.underlying22 Try.underlying5 Try.underlying9 _ _ hll
          rw [had] at hcvq
          clear hc7 hpart hpart2 had
          have hle1 : (1 : Int) ≤ 1 + (s.length : Int) := by omega
          go_wp2_with fail
          go_quiet (fail)
          have hb8 : BytesAt (w7.drewN nq) (some ⟨b', off', none⟩) (34 :: body) := hbody.ext (ext_drewN w7 nq)
          have e8 : Ext w (w7.drewN nq) := e07.trans (ext_drewN w7 nq)
          generalize w7.drewN nq = w8 at hb8 e8 ⊢
          clear hcvq
          generalize (if cp = 1 then (some (⟨b', off', none⟩ : Addr)) else some ⟨b', off' + 1, none⟩) = adx
          by_cases hgood : 32 ≤ x ∧ x ≤ 126 ∧ x ≠ 92
          · obtain ⟨g1, g2, g3⟩ := hgood
            have hg3 : (x != 92) = true := by simpa using g3
            clear g3
            go_wp2_with fail
            go_ret
            exact ⟨rfl, e8⟩
          · obtain ⟨cx, hcx⟩ : ∃ cx : UInt8, (cx.toNat : Int) = x := ⟨UInt8.ofNat x.toNat, by simp; omega⟩
            have hl9 : lex (34 :: (body ++ [cx, 34])) = .error (31, 0) := by
              refine lex_open (by simp; omega) hlet ?_
              intro c q hq
              cases hq
              refine ⟨?_, ?_⟩
              · rw [isText_nat, hcx]; simp; omega
              · intro h34; rw [h34] at hcx; have : x = 34 := by rw [← hcx]; rfl
                omega
            have HCX := hid hcx
            have HL9 := hid hl9
            have hz : (w8.alloc (.cells #[] 5)).ownsRow w8.heap.size 5 1 (.slice (some ⟨w8.heap.size, 0, none⟩) 0 0) 0 (([] : List UInt8).map B8) := owns_new w8 w8.heap.size 5 [] 0 (Nat.le_refl _) rfl (by decide)
            have hb8' := hb8.ext ((Ext.refl w8).alloc (.cells #[] 5))
            have hthree : (32 ≤ x ∧ x ≤ 126 ∧ (x != 92) = false) ∨ (32 ≤ x ∧ 126 < x) ∨ x < 32 := by
              by_cases hx92 : x = 92
              · left; subst hx92; decide
              · omega
            clear hcx hl9 hgood
            rcases hthree with ⟨g1, g2, g3⟩ | ⟨g1, g2⟩ | g1
            all_goals
              go_wp2_with (at_builtin; refine append_bytes rfl _ _ rfl w8.heap.size _ 0 _ rfl hz _ (1 + s.length) cp (34 :: body) rfl hlc hb8' (by omega) (by simp) ?_)
              intro v9 w9 hown9 hgr9
              have e9 : Ext w8 w9 := ((Ext.refl w8).alloc _).grown hz (Nat.le_refl _) hgr9
              obtain ⟨a9, c9, rfl, _, _, _⟩ := owned_cells hown9
              have hb2 : BytesAt (w9.alloc (.cells #[.int .u8 x, .int .u8 34] 5)) (some ⟨w9.heap.size, 0, none⟩) [cx, 34] := by
                rw [← HCX.out]; exact CellsAt.new w9 _ [B8 cx, B8 34]
              clear hgr9
              go_wp2_with (at_builtin; refine append_bytes rfl _ _ rfl w8.heap.size _ (1 + s.length) (34 :: body) rfl (hown9.alloc _) _ 2 2 [cx, 34] rfl rfl hb2 (by omega) (by have := e9.size; simp; omega) ?_)
              intro v10 w10 hown10 hgr10
              have e10 : Ext w8 w10 := (e9.alloc _).grown (hown9.alloc _) (Nat.le_refl _) hgr10
              obtain ⟨a10, c10, rfl, hc10, _, hcp10⟩ := owned_cells hown10
              have hb10 : BytesAt w10 a10 (34 :: (body ++ [cx, 34])) := by
                unfold BytesAt; simpa using hc10
              have hl10 : (34 :: (body ++ [cx, 34])).length = 1 + s.length + 2 := by simp; omega
              have L10 := lex_any w10 a10 _ c10 hb10 (by omega)
              rw [HL9.out, hl10] at L10
              have HL10 := hid L10
              clear L10 hgr10 hown10 hown9 hc10 hb10 hb2
              go_wp2_with fail
              refine HL10.out.mono ?_
              rintro e w11 ⟨hen, e11⟩
              simp only [lexEnds] at hen
              subst hen
              go_wp2_with fail
              go_ret
              exact ⟨rfl, e8.trans (e10.trans e11)⟩
end Go.Proofs.Ytaehlakefgnfmaa.tokenTexts
