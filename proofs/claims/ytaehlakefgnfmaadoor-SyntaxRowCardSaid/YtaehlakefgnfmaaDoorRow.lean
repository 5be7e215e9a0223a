/-
  DERIVED. PLAIN: functions of one text and of another one behind are those of both. No program in sight.
-/
import Derived.Test.YtaehlakefgnfmaaDoorExt
import Derived.Test.YtaehlakefgnfmaaDoorStrip
import Derived.Test.YtaehlakefgnfmaaDoorSep
namespace Go.Proofs.YtaehlakefgnfmaaDoor
set_option linter.unusedSimpArgs false
set_option linter.unusedVariables false

theorem numFrom_le : ∀ (l : List UInt8) (n m : Nat), n ≤ maxNum → numFrom n l = some m → m ≤ maxNum := by
  intro l
  induction l with
  | nil => intro n m hn h; simp [numFrom] at h; omega
  | cons c l ih =>
    intro n m hn h
    unfold numFrom at h
    split at h
    · cases h
    · rename_i hc
      refine ih _ _ ?_ h
      have h1 : c.toNat - 48 < 256 := by have := c.toNat_lt; omega
      unfold maxNum at *
      omega
/-- The tokens of a text are such as a text may have. -/
theorem nextT_wf {l : List UInt8} {b : Bit} (h : nextT l = .ok b) (pos : Nat) : (⟨b.kind, b.text, b.num, pos⟩ : Tok).wf := by
  cases l with
  | nil => simp [nextT] at h
  | cons c r =>
    simp only [nextT] at h
    split at h
    · rename_i hl
      have hn := spanLen_take isNameByte (c :: r)
      split at h
      · rename_i hw
        cases h
        exact .inr (.inr (.inr ⟨rfl, .inr hw, rfl⟩))
      · rename_i hw
        split at h
        · cases h
        · rename_i h16
          cases h
          refine .inl ⟨rfl, ⟨⟨c, (r.take (spanLen isNameByte r)), ?_, hl⟩, hn, by simpa using hw, by simp only; omega⟩, rfl⟩
          simp [spanLen, isNameByte, hl]
    · split at h
      · split at h
        · cases h
        · rename_i n hnum
          cases h
          exact .inr (.inl ⟨rfl, rfl, numFrom_le _ _ _ (by unfold maxNum; omega) hnum⟩)
      · split at h
        · split at h
          · cases h
          · split at h
            · cases h
            · rename_i h64
              split at h
              · cases h
              · rename_i h64
                cases h
                refine .inr (.inr (.inl ⟨rfl, ⟨spanLen_take isTextByte r, ?_⟩, rfl⟩))
                rw [List.length_take]; omega
        · split at h
          · cases h
          · rename_i he
            cases h
            refine .inr (.inr (.inr ⟨rfl, .inl ?_, rfl⟩))
            unfold signAt at he ⊢
            split
            · rename_i h2; exact h2
            · rename_i h2
              rw [if_neg h2] at he
              split
              · rename_i h1; exact h1
              · rename_i h1; rw [if_neg h1] at he; simp at he
theorem lexGo_wf : ∀ (f pos : Nat) (l : List UInt8) (cnt : Nat) (ts : List Tok), lexGo f pos l cnt = .ok ts → Wf ts ∧ cnt ≤ 2048 → Wf ts ∧ cnt ≤ 2048 := fun _ _ _ _ _ _ h => h
theorem lexGo_wf' : ∀ (f pos : Nat) (l : List UInt8) (cnt : Nat) (ts : List Tok), lexGo f pos l cnt = .ok ts → cnt ≤ 2048 → Wf ts ∧ cnt + ts.length ≤ 2048 := by
  intro f
  induction f with
  | zero => intro pos l cnt ts h hc; simp [lexGo] at h; subst h; exact ⟨wf_nil, by simpa using hc⟩
  | succ f ih =>
    intro pos l cnt ts h hc
    cases l with
    | nil => simp [lexGo] at h; subst h; exact ⟨wf_nil, by simpa using hc⟩
    | cons c r =>
      simp only [lexGo] at h
      cases hb : nextT (c :: r) with
      | error e => rw [hb] at h; cases h
      | ok b =>
        rw [hb] at h
        simp only [] at h
        split at h
        · cases h
        · split at h
          · rename_i us hu
            cases h
            obtain ⟨h1, h2⟩ := ih _ _ _ _ hu (by omega)
            refine ⟨?_, by simp; omega⟩
            intro t ht
            rcases List.mem_cons.1 ht with rfl | ht
            · exact nextT_wf hb _
            · exact h1 t ht
          · cases h
theorem lex_wf {s : List UInt8} {ts : List Tok} (h : lex s = .ok ts) : Wf ts ∧ ts.length ≤ 2048 := by
  unfold lex at h
  split at h
  · cases h
  · have := lexGo_wf' _ _ _ _ _ h (by omega)
    exact ⟨this.1, by omega⟩
/-- More tokens than there is room for. -/
theorem lexGo_over : ∀ (f pos cnt : Nat) (l : List UInt8) (ts : List Tok) (pos' cnt' : Nat), lexGo f pos l cnt = .ok ts → cnt' ≤ 2048 → 2048 < cnt' + ts.length → ∃ p, lexGo f pos' l cnt' = .error (2, p) := by
  intro f
  induction f with
  | zero => intro pos cnt l ts pos' cnt' h h1 h2; simp [lexGo] at h; subst h; simp at h2; omega
  | succ f ih =>
    intro pos cnt l ts pos' cnt' h h1 h2
    cases l with
    | nil => simp [lexGo] at h; subst h; simp at h2; omega
    | cons c r =>
      simp only [lexGo] at h ⊢
      cases hb : nextT (c :: r) with
      | error e => rw [hb] at h; cases h
      | ok b =>
        rw [hb] at h
        simp only [] at h ⊢
        split at h
        · cases h
        · split
          · exact ⟨_, rfl⟩
          · split at h
            · rename_i us hu
              cases h
              obtain ⟨p, hp⟩ := ih _ _ _ _ (pos' + (b.len + skip false (List.drop b.len (c :: r)))) (cnt' + 1) hu (by omega) (by simp at h2; omega)
              rw [hp]
              exact ⟨p, rfl⟩
            · cases h
/-- Two texts with a line's end between: the tokens of both, or too many. -/
theorem lex_row {a b : List UInt8} {x y : List Tok} (ha : lex a = .ok x) (hb : lex b = .ok y) (hn : (a ++ 10 :: b).length ≤ 4096) :
    (∃ p, lex (a ++ 10 :: b) = .error (2, p)) ∨ lex (a ++ 10 :: b) = .ok (x ++ y.map (Tok.on (a.length + 1))) := by
  have hx := (lex_wf ha).2
  rw [lex_from _ (lex_short ha)] at ha
  rw [lex_from _ (lex_short hb)] at hb
  rw [lex_from _ hn, lexFrom_sep _ _ _ _ _ _ (Nat.le_refl _) ha]
  by_cases h : x.length + y.length ≤ 2048
  · right
    have hon := lexFrom_on (d := a.length + 1) (cnt' := x.length) hb (by omega)
    rw [show 0 + a.length + 1 = 0 + (a.length + 1) by omega, Nat.zero_add x.length, hon]
    rfl
  · left
    unfold lexFrom at hb
    obtain ⟨p, hp⟩ := lexGo_over _ _ _ _ _ (0 + a.length + 1 + skip false b) (0 + x.length) hb (by omega) (by omega)
    refine ⟨p, ?_⟩
    unfold lexFrom
    rw [hp]
    rfl

theorem progGo_acc : ∀ (f : Nat) (acc acc' : List Fu) (ts : List Tok) (q : List Fu) (r : List Tok), progGo f acc ts = .ok q r → ∃ q', q = acc ++ q' ∧ progGo f (acc' ++ acc) ts = .ok (acc' ++ q) r := by
  intro f
  induction f with
  | zero => intro acc acc' ts q r h; simp [progGo] at h
  | succ f ih =>
    intro acc acc' ts q r h
    cases ts with
    | nil => simp [progGo] at h ⊢; obtain ⟨rfl, rfl⟩ := h; simp
    | cons t us =>
      simp only [progGo] at h ⊢
      cases hf : funS (t :: us) with
      | err e r' => rw [hf] at h; cases h
      | ok a r' =>
        rw [hf] at h
        simp only [Res.bind] at h ⊢
        obtain ⟨q', h1, h2⟩ := ih _ acc' _ _ _ h
        refine ⟨[a] ++ q', by rw [h1]; simp, ?_⟩
        rw [List.append_assoc]
        exact h2
theorem progGo_fuel : ∀ (f g : Nat) (acc : List Fu) (ts : List Tok), Wf ts → ts.length < f → ts.length < g → progGo f acc ts = progGo g acc ts := by
  intro f
  induction f with
  | zero => intro g acc ts _ h; omega
  | succ f ih =>
    intro g acc ts hw hf hg
    obtain ⟨g, rfl⟩ : ∃ k, g = k + 1 := ⟨g - 1, by omega⟩
    cases ts with
    | nil => rfl
    | cons t us =>
      simp only [progGo]
      have hi := inv_fun (t :: us) hw
      cases hq : funS (t :: us) with
      | err e r => rfl
      | ok a r =>
        rw [hq] at hi
        have h1 := hi.1
        have h2 := Fu.size_pos a
        simp only [Res.bind]
        exact ih g _ r hi.2.2 (by omega) (by omega)
theorem progGo_err0 (f : Nat) (acc : List Fu) (ts : List Tok) (q : List Fu) (r : List Tok) (h : progGo f acc ts = .ok q r) : r = [] := by
  induction f generalizing acc ts with
  | zero => simp [progGo] at h
  | succ f ih =>
    cases ts with
    | nil => simp [progGo] at h; first | exact h.2 | exact h.2.symm
    | cons t us =>
      simp only [progGo] at h
      cases hf : funS (t :: us) with
      | err e r' => rw [hf] at h; cases h
      | ok a r' => rw [hf] at h; exact ih _ _ h
/-- Functions with a function's beginning behind. -/
theorem progGo_app : ∀ (f g : Nat) (acc : List Fu) (ts t : List Tok) (q : List Fu) (r : List Tok), Wf ts → Wf t → Neutral t → progGo f acc ts = .ok q r → (ts ++ t).length < g → progGo g acc (ts ++ t) = progGo (t.length + 1) q t := by
  intro f
  induction f with
  | zero => intro g acc ts t q r _ _ _ h; simp [progGo] at h
  | succ f ih =>
    intro g acc ts t q r hw hwt hn h hg
    cases ts with
    | nil =>
      simp [progGo] at h
      obtain ⟨rfl, rfl⟩ := h
      exact progGo_fuel _ _ _ _ hwt (by rw [List.nil_append] at hg ⊢; exact hg) (by rw [List.nil_append]; exact Nat.lt_succ_self _)
    | cons x us =>
      obtain ⟨g, rfl⟩ : ∃ k, g = k + 1 := ⟨g - 1, by omega⟩
      simp only [progGo, List.cons_append] at h ⊢
      have hm := more_fun t hn (x :: us) hw (by simp)
      have hi := inv_fun (x :: us) hw
      cases hf : funS (x :: us) with
      | err e r' => rw [hf] at h; cases h
      | ok a r' =>
        rw [hf] at h hm hi
        have hm' : funS (x :: us ++ t) = .ok a (r' ++ t) := hm
        simp only [List.cons_append] at hm'
        rw [hm']
        simp only [Res.bind] at h ⊢
        have h1 := hi.1
        have h2 := Fu.size_pos a
        exact ih g _ r' t q r hi.2.2 hwt hn h (by simp at h1 hg ⊢; omega)
theorem prog_fn {t : Tok} {r : List Tok} {q : List Fu} {r' : List Tok} (h : progS (t :: r) = .ok q r') : Neutral (t :: r) := by
  unfold progS at h
  simp only [progGo] at h
  cases hf : funS (t :: r) with
  | err e r' => rw [hf] at h; cases h
  | ok a r' =>
    unfold funS must at hf
    split at hf
    · rename_i hs
      simp [isSign] at hs
      exact ⟨t, r, rfl, hs.1, .inr hs.2⟩
    · cases hf
theorem prog_st (d : Nat) (ts : List Tok) : (progS (ts.map (Tok.on d))).map (List.map Fu.st) = (progS ts).map (List.map Fu.st) := by
  rw [← nat_prog, ← nat_prog, List.map_map]
  congr 1
theorem wf_on {d : Nat} {ts : List Tok} (h : Wf ts) : Wf (ts.map (Tok.on d)) := by
  intro t ht
  obtain ⟨u, hu, rfl⟩ := List.mem_map.1 ht
  exact h u hu
theorem progS_app {x y : List Tok} {p q : List Fu} {r r' : List Tok} (hx : progS x = .ok p r) (hy : progS y = .ok q r') (wx : Wf x) (wy : Wf y) : progS (x ++ y) = .ok (p ++ q) [] := by
  cases y with
  | nil =>
    simp [progS, progGo] at hy
    obtain ⟨rfl, rfl⟩ := hy
    have := progGo_err0 _ _ _ _ _ hx
    rw [List.append_nil, List.append_nil, hx, this]
  | cons t us =>
    have hn := prog_fn hy
    unfold progS at hx hy ⊢
    rw [progGo_app _ _ _ _ _ _ _ wx wy hn hx (by omega)]
    obtain ⟨q', h1, h2⟩ := progGo_acc _ _ p _ _ _ hy
    rw [List.append_nil] at h2
    rw [h2, progGo_err0 _ _ _ _ _ hy]
/-- THE LAW OF ROWS. -/
theorem row_law {a b : List UInt8} {p q : List Fu} (ha : parse a = .ok p) (hb : parse b = .ok q) (hla : a.length ≤ 2000) (hlb : b.length ≤ 2000) :
    (∃ at_, parse (a ++ 10 :: b) = .error (2, at_)) ∨ ∃ r, parse (a ++ 10 :: b) = .ok r ∧ r.map Fu.st = (p ++ q).map Fu.st := by
  unfold parse at ha hb
  cases hx : lex a with
  | error e => rw [hx] at ha; cases ha
  | ok x =>
    cases hy : lex b with
    | error e => rw [hy] at hb; cases hb
    | ok y =>
      rw [hx] at ha
      rw [hy] at hb
      simp only [] at ha hb
      cases hpx : progS x with
      | err e r => rw [hpx] at ha; cases ha
      | ok p' rx =>
        cases hpy : progS y with
        | err e r => rw [hpy] at hb; cases hb
        | ok q' ry =>
          rw [hpx] at ha
          rw [hpy] at hb
          cases ha
          cases hb
          rcases lex_row hx hy (by simp; omega) with ⟨at_, h⟩ | h
          · left; exact ⟨at_, by unfold parse; rw [h]⟩
          · right
            have hst := prog_st (a.length + 1) y
            rw [hpy] at hst
            cases hpo : progS (y.map (Tok.on (a.length + 1))) with
            | err e r => rw [hpo] at hst; simp [Res.map] at hst
            | ok q2 r2 =>
              rw [hpo] at hst
              simp only [Res.map, Res.ok.injEq] at hst
              have happ := progS_app hpx hpo (lex_wf hx).1 (wf_on (lex_wf hy).1)
              refine ⟨p ++ q2, by unfold parse; rw [h]; simp only [happ], ?_⟩
              rw [List.map_append, List.map_append, hst.1]
end Go.Proofs.YtaehlakefgnfmaaDoor
