/-
  DERIVED. PLAIN: the parser of programs where more tokens stand behind: 't' begins with a sign that nothing within a function asks for but a block's end. No program in sight.
-/
import Derived.Test.YtaehlakefgnfmaaDoorInv
namespace Go.Proofs.YtaehlakefgnfmaaDoor
set_option linter.unusedSimpArgs false
set_option linter.unusedVariables false

/-- Nothing is left, or there is an error. -/
def Spent {α : Type} : Res α → Prop
  | .ok _ r => r = []
  | .err _ _ => True
/-- R' is R where t stands behind. -/
def More {α : Type} (t : List Tok) : Res α → Res α → Prop
  | .ok a r, R' => R' = .ok a (r ++ t)
  | .err e r, R' => (r ≠ [] → R' = .err e (r ++ t)) ∧ (r = [] → t.length = 1 → Spent R')
def Neutral (t : List Tok) : Prop := ∃ x r, t = x :: r ∧ x.kind = 4 ∧ (x.text = [125] ∨ x.text = [102, 110])

theorem more_bind {α β : Type} {t : List Tok} {n : Nat} {sz : α → Nat} {P : α → Prop} {R R' : Res α} {k k' : α → List Tok → Res β} (hi : Fine n sz P R) (h : More t R R')
    (hs : ∀ a, Spent (k' a [])) (hk : ∀ a r, Wf r → sz a + r.length ≤ n → More t (k a r) (k' a (r ++ t))) : More t (R.bind k) (R'.bind k') := by
  cases R with
  | ok a r =>
    have h' : R' = .ok a (r ++ t) := h
    rw [h']
    exact hk a r hi.2.2 hi.1
  | err e r =>
    refine ⟨fun hr => ?_, fun hr ht => ?_⟩
    · rw [h.1 hr]; rfl
    · have hq := h.2 hr ht
      cases R' with
      | ok a' r' =>
        have : r' = [] := hq
        subst this
        exact hs a'
      | err e' r' => trivial
theorem neutral_sign {t : List Tok} (hn : Neutral t) {s : List UInt8} (h1 : s ≠ [125]) (h2 : s ≠ [102, 110]) : isSign s t = false := by
  obtain ⟨x, r, rfl, hk, hx⟩ := hn
  simp only [isSign, hk]
  rcases hx with hx | hx
  · rw [hx]; simpa using fun h => h1 h.symm
  · rw [hx]; simpa using fun h => h2 h.symm
theorem sign_app {t : List Tok} (hn : Neutral t) (s : List UInt8) (h1 : s ≠ [125]) (h2 : s ≠ [102, 110]) (ts : List Tok) : isSign s (ts ++ t) = isSign s ts := by
  cases ts with
  | nil => exact neutral_sign hn h1 h2
  | cons x r => rfl
theorem name_app {t : List Tok} (hn : Neutral t) (ts : List Tok) : isName (ts ++ t) = isName ts := by
  cases ts with
  | nil => obtain ⟨x, r, rfl, hk, hx⟩ := hn; simp [isName, hk]
  | cons x r => rfl
theorem levels_none : ∀ n, n < 5 → (levelSigns n).contains ([125] : List UInt8) = false ∧ (levelSigns n).contains ([102, 110] : List UInt8) = false := by decide
theorem levelSigns_more : ∀ n, (levelSigns (n + 4)) = [[42], [47], [37]] := fun n => rfl
theorem op_app {t : List Tok} (hn : Neutral t) (n : Nat) (h5 : n < 5) (ts : List Tok) : isOp n (ts ++ t) = isOp n ts := by
  cases ts with
  | nil =>
    obtain ⟨x, r, rfl, hk, hx⟩ := hn
    simp only [List.nil_append, isOp, hk]
    rcases hx with hx | hx
    · rw [hx, (levels_none n h5).1]; rfl
    · rw [hx, (levels_none n h5).2]; rfl
  | cons x r => rfl
theorem isSign_ne {s : List UInt8} {ts : List Tok} (h : isSign s ts = true) : ts ≠ [] := by
  obtain ⟨t, r, rfl, _⟩ := isSign_cons h; simp
theorem isName_ne {ts : List Tok} (h : isName ts = true) : ts ≠ [] := by
  obtain ⟨t, r, rfl, _⟩ := isName_cons h; simp
theorem isOp_ne {n : Nat} {ts : List Tok} (h : isOp n ts = true) : ts ≠ [] := by
  obtain ⟨t, r, rfl, _⟩ := isOp_cons h; simp
theorem tail_app {ts : List Tok} (t : List Tok) (h : ts ≠ []) : (ts ++ t).tail = ts.tail ++ t := by
  cases ts with
  | nil => exact absurd rfl h
  | cons x r => rfl
theorem headText_app {ts : List Tok} (t : List Tok) (h : ts ≠ []) : headText (ts ++ t) = headText ts := by
  cases ts with
  | nil => exact absurd rfl h
  | cons x r => rfl
theorem headPlace_app {ts : List Tok} (t : List Tok) (h : ts ≠ []) : headPlace (ts ++ t) = headPlace ts := by
  cases ts with
  | nil => exact absurd rfl h
  | cons x r => rfl
theorem more_err {α : Type} {t : List Tok} (e : Nat) (r : List Tok) : More t (.err e r : Res α) (.err e (r ++ t)) := ⟨fun _ => rfl, fun _ _ => trivial⟩
theorem more_must {α : Type} {t : List Tok} (hn : Neutral t) {s : List UInt8} {ts : List Tok} {k k' : List Tok → Res α} (h1 : s ≠ [125]) (h2 : s ≠ [102, 110]) (hw : Wf ts)
    (hk : ts ≠ [] → Wf ts.tail → ts.tail.length + 1 = ts.length → More t (k ts.tail) (k' (ts.tail ++ t))) : More t (must s ts k) (must s (ts ++ t) k') := by
  unfold must
  rw [sign_app hn s h1 h2]
  split
  · rename_i h
    rw [tail_app t (isSign_ne h)]
    exact hk (isSign_ne h) hw.tail (isSign_len h)
  · exact more_err _ _
theorem more_must_ne {α : Type} {t : List Tok} {s : List UInt8} {ts : List Tok} {k k' : List Tok → Res α} (hne : ts ≠ []) (hw : Wf ts)
    (hk : Wf ts.tail → More t (k ts.tail) (k' (ts.tail ++ t))) : More t (must s ts k) (must s (ts ++ t) k') := by
  unfold must
  rw [show isSign s (ts ++ t) = isSign s ts by cases ts with
    | nil => exact absurd rfl hne
    | cons x r => rfl, tail_app t hne]
  split
  · exact hk hw.tail
  · exact more_err _ _
theorem more_name {α : Type} {t : List Tok} (hn : Neutral t) {ts : List Tok} {k k' : List UInt8 → List Tok → Res α} (hw : Wf ts)
    (hk : Wf ts.tail → ts.tail.length + 1 = ts.length → More t (k (headText ts) ts.tail) (k' (headText ts) (ts.tail ++ t))) : More t (name ts k) (name (ts ++ t) k') := by
  unfold name
  rw [name_app hn]
  split
  · rename_i h
    rw [tail_app t (isName_ne h), headText_app t (isName_ne h)]
    exact hk hw.tail (isName_len h)
  · exact more_err _ _
theorem more_ok {α : Type} {t : List Tok} (a : α) (r : List Tok) : More t (.ok a r) (.ok a (r ++ t)) := rfl

def Goes {α : Type} (f : Rd α) : Prop := ∀ t, Neutral t → ∀ ts, Wf ts → More t (f ts) (f (ts ++ t))
theorem wf_nil : Wf [] := by intro t h; simp at h
/-- On nothing a reading that takes something fails. -/
theorem inv_none {α : Type} {f : Rd α} {sz : α → Nat} {P : α → Prop} (hi : Inv sz P f) (hpos : ∀ a, 1 ≤ sz a) : ∃ e, f [] = .err e [] ∧ (e = 41 ∨ e = 42) := by
  have h := hi [] wf_nil
  revert h
  cases f [] with
  | ok a r => intro h; have := h.1; have := hpos a; simp at *; omega
  | err e r => intro h; exact ⟨e, by rw [List.eq_nil_of_length_eq_zero (l := r) (by have := h.2; simpa using this)], h.1⟩
theorem spent_must {α : Type} (s : List UInt8) (k : List Tok → Res α) : Spent (must s [] k) := trivial

theorem more_listGo {α : Type} {one : Rd α} {sz : α → Nat} {P : α → Prop} (hi : Inv sz P one) (hpos : ∀ a, 1 ≤ sz a) (h1 : Goes one) (t : List Tok) (hn : Neutral t) :
    ∀ (f g : Nat) (first : Bool) (acc : List α) (ts : List Tok), Wf ts → ts.length < f → (ts ++ t).length < g → More t (listGo one f first acc ts) (listGo one g first acc (ts ++ t)) := by
  have spent : ∀ g acc, Spent (listGo one g false acc []) := by
    intro g acc
    cases g <;> trivial
  intro f
  induction f with
  | zero => intro g first acc ts _ h; omega
  | succ f ih =>
    intro g first acc ts hw hf hg
    obtain ⟨g, rfl⟩ : ∃ k, g = k + 1 := ⟨g - 1, by omega⟩
    have step : ∀ us : List Tok, Wf us → us.length ≤ ts.length → More t ((one us).bind fun a r => listGo one f false (acc ++ [a]) r) ((one (us ++ t)).bind fun a r => listGo one g false (acc ++ [a]) r) := by
      intro us hus hul
      refine more_bind (hi us hus) (h1 t hn us hus) (fun a => spent _ _) (fun a r hr hl => ?_)
      have hpa := hpos a
      simp only [List.length_append] at hg
      exact ih g false _ r hr (by omega) (by rw [List.length_append]; omega)
    unfold listGo
    rw [sign_app hn [41] (by decide) (by decide)]
    split
    · rename_i h
      rw [tail_app t (isSign_ne h)]; exact more_ok _ _
    · split
      · exact step ts hw (Nat.le_refl _)
      · exact more_must hn (by decide) (by decide) hw fun _ hw' hl => step _ hw' (by omega)
theorem more_list {α : Type} {one : Rd α} {sz : α → Nat} {P : α → Prop} (hi : Inv sz P one) (hpos : ∀ a, 1 ≤ sz a) (h1 : Goes one) : Goes (listS one) := fun t hn ts hw =>
  more_listGo hi hpos h1 t hn _ _ true [] ts hw (by omega) (by omega)
theorem more_inner {e : Rd Ex} (hi : Inv Ex.size WFx e) (he : Goes e) : Goes (innerS e) := fun t hn ts hw =>
  more_must hn (by decide) (by decide) hw fun _ hw1 _ => more_bind (hi _ hw1) (he t hn _ hw1) (fun _ => trivial) fun x r hr hl =>
    more_must hn (by decide) (by decide) hr fun _ hw2 _ => more_ok _ _
theorem more_words {e : Rd Ex} (hi : Inv Ex.size WFx e) (he : Goes e) : Goes (wordsS e) := by
  intro t hn ts hw
  unfold wordsS
  have inner : ∀ op us, ts ≠ [] → Wf us → More t ((innerS e us).bind fun x r => Res.ok (Ex.mk op 0 [] [x] (headPlace ts)) r) ((innerS e (us ++ t)).bind fun x r => Res.ok (Ex.mk op 0 [] [x] (headPlace (ts ++ t))) r) := by
    intro op us hne hus
    rw [headPlace_app t hne]
    exact more_bind (inv_inner hi us hus) (more_inner hi he t hn us hus) (fun _ => rfl) fun x r hr hl => more_ok _ _
  rw [sign_app hn _ (by decide) (by decide), sign_app hn _ (by decide) (by decide), sign_app hn _ (by decide) (by decide), sign_app hn _ (by decide) (by decide), sign_app hn _ (by decide) (by decide)]
  split
  · rename_i h; rw [tail_app t (isSign_ne h), headPlace_app t (isSign_ne h)]; exact more_ok _ _
  split
  · rename_i h; rw [tail_app t (isSign_ne h), headPlace_app t (isSign_ne h)]; exact more_ok _ _
  split
  · exact more_inner hi he t hn ts hw
  split
  · rename_i h; rw [tail_app t (isSign_ne h)]; exact inner 8 _ (isSign_ne h) hw.tail
  split
  · rename_i h; rw [tail_app t (isSign_ne h)]; exact inner 9 _ (isSign_ne h) hw.tail
  · exact more_must hn (by decide) (by decide) hw fun hne hw1 _ => inner 10 _ hne hw1
theorem words_neutral {e : Rd Ex} {t : List Tok} (hn : Neutral t) : wordsS e t = .err 41 t := by
  unfold wordsS must
  rw [neutral_sign hn (by decide) (by decide), neutral_sign hn (by decide) (by decide), neutral_sign hn (by decide) (by decide), neutral_sign hn (by decide) (by decide), neutral_sign hn (by decide) (by decide), neutral_sign hn (by decide) (by decide)]
  rfl
theorem more_primary {e : Rd Ex} (hi : Inv Ex.size WFx e) (he : Goes e) : Goes (primaryS e) := by
  intro t hn ts hw
  cases ts with
  | nil =>
    have h := words_neutral (e := e) hn
    obtain ⟨x, r, rfl, hk, hx⟩ := hn
    refine ⟨fun h => absurd rfl h, fun _ _ => ?_⟩
    show Spent (primaryS e (x :: r))
    rw [primaryS_cons, if_neg (by omega), if_neg (by omega), if_neg (by omega), h]
    trivial
  | cons x r =>
    show More t (primaryS e (x :: r)) (primaryS e (x :: (r ++ t)))
    rw [primaryS_cons, primaryS_cons]
    split
    · exact more_ok _ _
    split
    · exact more_ok _ _
    split
    · rw [sign_app hn _ (by decide) (by decide)]
      split
      · rename_i h
        rw [tail_app t (isSign_ne h)]
        exact more_bind (inv_list hi Ex.size_pos _ hw.tail.tail) (more_list hi Ex.size_pos he t hn _ hw.tail.tail) (fun _ => rfl) fun ks q hq hl => more_ok _ _
      · exact more_ok _ _
    · exact more_words hi he t hn (x :: r) hw
theorem more_one {e o : Rd Ex} (hi : Inv Ex.size WFx e) (he : Goes e) (hio : Inv Ex.size WFx o) (ho : Goes o) : Goes (oneS e o) := by
  intro t hn ts hw
  unfold oneS
  rw [sign_app hn _ (by decide) (by decide), sign_app hn _ (by decide) (by decide)]
  split
  · rename_i h; rw [tail_app t (isSign_ne h), headPlace_app t (isSign_ne h)]
    exact more_bind (hio _ hw.tail) (ho t hn _ hw.tail) (fun _ => rfl) fun x r hr hl => more_ok _ _
  split
  · rename_i h; rw [tail_app t (isSign_ne h), headPlace_app t (isSign_ne h)]
    exact more_bind (hio _ hw.tail) (ho t hn _ hw.tail) (fun _ => rfl) fun x r hr hl => more_ok _ _
  · exact more_primary hi he t hn ts hw
theorem more_levelGo {next : Rd Ex} (hi : Inv Ex.size WFx next) (h1 : Goes next) (n : Nat) (h5 : n < 5) (t : List Tok) (hn : Neutral t) :
    ∀ (f g : Nat) (x : Ex) (ts : List Tok), Wf ts → ts.length < f → (ts ++ t).length < g → More t (levelGo next n f x ts) (levelGo next n g x (ts ++ t)) := by
  have spent : ∀ g x, Spent (levelGo next n g x []) := by
    intro g x
    cases g with
    | zero => trivial
    | succ g => rfl
  intro f
  induction f with
  | zero => intro g x ts _ h; omega
  | succ f ih =>
    intro g x ts hw hf hg
    obtain ⟨g, rfl⟩ : ∃ k, g = k + 1 := ⟨g - 1, by omega⟩
    unfold levelGo
    rw [op_app hn n h5]
    split
    · rename_i h
      have hne := isOp_ne h
      have hpos := List.length_pos_iff.2 hne
      rw [tail_app t hne, headText_app t hne, headPlace_app t hne]
      refine more_bind (hi _ hw.tail) (h1 t hn _ hw.tail) (fun a => ?_) fun y r hr hl => ?_
      · split
        · rfl
        · exact spent _ _
      · rw [List.length_tail] at hl
        simp only [List.length_append] at hg
        split
        · exact more_ok _ _
        · exact ih g _ r hr (by omega) (by rw [List.length_append]; omega)
    · exact more_ok _ _
theorem more_level {one : Rd Ex} (hi : Inv Ex.size WFx one) (h1 : Goes one) : ∀ m, m ≤ 5 → Goes (levelS one m) := by
  intro m
  induction m with
  | zero => exact fun _ => h1
  | succ m ih =>
    intro hm t hn ts hw
    unfold levelS
    refine more_bind (inv_level hi m (by omega) ts hw) (ih (by omega) t hn ts hw) (fun a => ?_) fun x r hr hl => ?_
    · rfl
    · exact more_levelGo (inv_level hi m (by omega)) (ih (by omega)) (4 - m) (by omega) t hn _ _ x r hr (by omega) (by omega)
theorem more_EK (k : Nat) : Goes (EK k).1 ∧ Goes (EK k).2 := by
  induction k with
  | zero => exact ⟨fun t hn ts hw => more_err _ _, fun t hn ts hw => more_err _ _⟩
  | succ k ih => exact ⟨more_level (inv_one (inv_EK k).1 (inv_EK k).2) (more_one (inv_EK k).1 ih.1 (inv_EK k).2 ih.2) 5 (by omega), more_one (inv_EK k).1 ih.1 (inv_EK k).2 ih.2⟩

theorem more_stmt {e : Rd Ex} {b : Rd (List St)} (hie : Inv Ex.size WFx e) (he : Goes e) (hib : Inv (fun l => sumOf St.size l + 1) (AllP WFs) b) (hb : Goes b) : Goes (stmtS e b) := by
  intro t hn ts hw
  have hsb : ∀ us : List Tok, us = [] → Spent ((b us).bind fun bd r => (Res.ok bd r : Res (List St))) := by
    intro us hus
    subst hus
    obtain ⟨x, hx, _⟩ := inv_none hib (fun _ => by omega)
    rw [hx]; trivial
  have bnil : ∃ x, b [] = .err x [] := let ⟨x, hx, _⟩ := inv_none hib (fun _ => by omega); ⟨x, hx⟩
  have enil : ∃ x, e [] = .err x [] := let ⟨x, hx, _⟩ := inv_none hie Ex.size_pos; ⟨x, hx⟩
  obtain ⟨xb, hxb⟩ := bnil
  obtain ⟨xe, hxe⟩ := enil
  by_cases hne : ts = []
  · subst hne
    have h0 : stmtS e b [] = .err xe [] := by
      show (e []).bind _ = _
      rw [hxe]; rfl
    rw [h0]
    refine ⟨fun h => absurd rfl h, fun _ ht => ?_⟩
    have h1 : stmtS e b ([] ++ t) = (e t).bind fun x r => must [59] r fun r => .ok (.mk 8 [] [x] [] [] (headPlace t)) r := by
      unfold stmtS
      simp only [List.nil_append]
      rw [neutral_sign hn (by decide) (by decide), neutral_sign hn (by decide) (by decide), neutral_sign hn (by decide) (by decide), neutral_sign hn (by decide) (by decide), neutral_sign hn (by decide) (by decide), neutral_sign hn (by decide) (by decide),
        show isName t = false from name_app hn []]
      rfl
    rw [h1]
    have hq := he t hn [] wf_nil
    rw [hxe] at hq
    have hq2 := hq.2 rfl ht
    simp only [List.nil_append] at hq2
    revert hq2
    cases e t with
    | ok a r => intro h; have : r = [] := h; subst this; trivial
    | err x r => intro _; trivial
  · unfold stmtS
    rw [sign_app hn _ (by decide) (by decide), sign_app hn _ (by decide) (by decide), sign_app hn _ (by decide) (by decide), sign_app hn _ (by decide) (by decide), sign_app hn _ (by decide) (by decide), sign_app hn _ (by decide) (by decide),
      name_app hn, tail_app t hne, headPlace_app t hne, headText_app t hne]
    rw [sign_app hn _ (by decide) (by decide), sign_app hn _ (by decide) (by decide)]
    split
    · exact more_name hn hw.tail fun hw1 _ => more_must hn (by decide) (by decide) hw1 fun _ hw2 _ => more_bind (hie _ hw2) (he t hn _ hw2) (fun _ => trivial) fun x r hr _ =>
        more_must hn (by decide) (by decide) hr fun _ hw3 _ => more_ok _ _
    split
    · refine more_bind (hie _ hw.tail) (he t hn _ hw.tail) (fun _ => by rw [hxb]; trivial) fun x r hr _ => more_bind (hib _ hr) (hb t hn _ hr) (fun _ => ?_) fun bd r hr _ => ?_
      · rfl
      · rw [sign_app hn _ (by decide) (by decide)]
        split
        · rename_i h
          rw [tail_app t (isSign_ne h)]
          exact more_bind (hib _ hr.tail) (hb t hn _ hr.tail) (fun _ => rfl) fun el r hr _ => more_ok _ _
        · exact more_ok _ _
    split
    · exact more_name hn hw.tail fun hw1 _ => more_must hn (by decide) (by decide) hw1 fun _ hw2 _ => more_bind (hie _ hw2) (he t hn _ hw2) (fun _ => trivial) fun x r hr _ =>
        more_must hn (by decide) (by decide) hr fun _ hw3 _ => more_bind (hie _ hw3) (he t hn _ hw3) (fun _ => by rw [hxb]; trivial) fun y r hr _ =>
        more_bind (hib _ hr) (hb t hn _ hr) (fun _ => rfl) fun bd r hr _ => more_ok _ _
    split
    · split
      · rename_i h
        rw [tail_app t (isSign_ne h)]; exact more_ok _ _
      · exact more_bind (hie _ hw.tail) (he t hn _ hw.tail) (fun _ => trivial) fun x r hr _ => more_must hn (by decide) (by decide) hr fun _ hw3 _ => more_ok _ _
    split
    · exact more_must hn (by decide) (by decide) hw.tail fun _ hw2 _ => more_bind (hie _ hw2) (he t hn _ hw2) (fun _ => trivial) fun x r hr _ =>
        more_must hn (by decide) (by decide) hr fun _ hw3 _ => more_bind (hie _ hw3) (he t hn _ hw3) (fun _ => trivial) fun y r hr _ =>
        more_must hn (by decide) (by decide) hr fun _ hw4 _ => more_must hn (by decide) (by decide) hw4 fun _ hw5 _ => more_ok _ _
    split
    · exact more_must hn (by decide) (by decide) hw.tail fun _ hw2 _ => more_bind (hie _ hw2) (he t hn _ hw2) (fun _ => trivial) fun x r hr _ =>
        more_must hn (by decide) (by decide) hr fun _ hw4 _ => more_must hn (by decide) (by decide) hw4 fun _ hw5 _ => more_ok _ _
    split
    · rename_i h
      simp only [Bool.and_eq_true] at h
      rw [tail_app t (isSign_ne h.2)]
      exact more_bind (hie _ hw.tail.tail) (he t hn _ hw.tail.tail) (fun _ => trivial) fun x r hr _ => more_must hn (by decide) (by decide) hr fun _ hw3 _ => more_ok _ _
    · exact more_bind (hie _ hw) (he t hn _ hw) (fun _ => trivial) fun x r hr _ => more_must hn (by decide) (by decide) hr fun _ hw3 _ => more_ok _ _

theorem more_blockGo {s : Rd St} (hi : Inv St.size WFs s) (hs : Goes s) (t : List Tok) (hn : Neutral t) :
    ∀ (f g : Nat) (acc : List St) (ts : List Tok), Wf ts → ts.length < f → (ts ++ t).length < g → More t (blockGo s f acc ts) (blockGo s g acc (ts ++ t)) := by
  obtain ⟨xs, hxs, _⟩ := inv_none hi St.size_pos
  have snil : ∀ g acc, blockGo s (g + 1) acc [] = .err xs [] := by
    intro g acc
    show (s []).bind _ = _
    rw [hxs]; rfl
  have spent : ∀ g acc, Spent (blockGo s g acc []) := by
    intro g acc
    cases g with
    | zero => trivial
    | succ g => rw [snil]; trivial
  intro f
  induction f with
  | zero => intro g acc ts _ h; omega
  | succ f ih =>
    intro g acc ts hw hf hg
    obtain ⟨g, rfl⟩ : ∃ k, g = k + 1 := ⟨g - 1, by omega⟩
    by_cases hne : ts = []
    · subst hne
      rw [snil]
      refine ⟨fun h => absurd rfl h, fun _ ht => ?_⟩
      simp only [List.nil_append]
      unfold blockGo
      split
      · show t.tail = []
        exact List.eq_nil_of_length_eq_zero (by rw [List.length_tail]; omega)
      · have hq := hs t hn [] wf_nil
        rw [hxs] at hq
        have hq2 := hq.2 rfl ht
        simp only [List.nil_append] at hq2
        revert hq2
        cases s t with
        | ok a r => intro h; have : r = [] := h; subst this; exact spent _ _
        | err x r => intro _; trivial
    · unfold blockGo
      rw [show isSign [125] (ts ++ t) = isSign [125] ts by cases ts with
        | nil => exact absurd rfl hne
        | cons x r => rfl]
      split
      · rw [tail_app t hne]; exact more_ok _ _
      · refine more_bind (hi _ hw) (hs t hn _ hw) (fun _ => spent _ _) fun x r hr hl => ?_
        have := x.size_pos
        simp only [List.length_append] at hg
        exact ih g _ r hr (by omega) (by rw [List.length_append]; omega)
theorem more_block {s : Rd St} (hi : Inv St.size WFs s) (hs : Goes s) : Goes (blockS s true) := by
  intro t hn ts hw
  unfold blockS
  rw [sign_app hn _ (by decide) (by decide)]
  split
  · rename_i h
    rw [if_pos rfl, tail_app t (isSign_ne h)]
    have hl := isSign_len h
    exact more_blockGo hi hs t hn _ _ [] _ hw.tail (by omega) (by simp only [List.length_append]; omega)
  · exact more_err _ _
theorem more_BK (k : Nat) : Goes (BK k) := by
  induction k with
  | zero =>
    intro t hn ts hw
    unfold BK blockS
    rw [sign_app hn _ (by decide) (by decide)]
    split
    · exact more_err _ _
    · exact more_err _ _
  | succ k ih => exact more_block (inv_stmt (inv_EK k).1 (inv_BK k)) (more_stmt (inv_EK k).1 (more_EK k).1 (inv_BK k) ih)
theorem more_typ : Goes typS := by
  intro t hn ts hw
  unfold typS
  rw [sign_app hn _ (by decide) (by decide), sign_app hn _ (by decide) (by decide)]
  split
  · rename_i h; rw [tail_app t (isSign_ne h)]; exact more_ok _ _
  split
  · rename_i h; rw [tail_app t (isSign_ne h)]; exact more_ok _ _
  · exact more_must hn (by decide) (by decide) hw fun _ hw1 _ => more_ok _ _
theorem more_param : Goes paramS := fun t hn ts hw =>
  more_name hn hw fun hw1 _ => more_must hn (by decide) (by decide) hw1 fun _ hw2 _ => more_bind (inv_typ _ hw2) (more_typ t hn _ hw2) (fun _ => rfl) fun x r hr _ => more_ok _ _
theorem more_fun (t : List Tok) (hn : Neutral t) (ts : List Tok) (hw : Wf ts) (hne : ts ≠ []) : More t (funS ts) (funS (ts ++ t)) := by
  obtain ⟨xb, hxb, _⟩ := inv_none (inv_BK 32) (fun _ => by omega)
  unfold funS
  rw [headPlace_app t hne]
  refine more_must_ne hne hw fun hw0 => ?_
  refine more_name hn hw0 fun hw1 _ => more_must hn (by decide) (by decide) hw1 fun _ hw2 _ => more_bind (inv_list inv_param (fun _ => Nat.le_refl _) _ hw2) (more_list inv_param (fun _ => Nat.le_refl _) more_param t hn _ hw2) (fun _ => ?_) fun ps r hr _ => ?_
  · simp only [isSign, Bool.false_eq_true, if_false, hxb]
    trivial
  · rw [sign_app hn _ (by decide) (by decide)]
    split
    · rename_i h
      rw [tail_app t (isSign_ne h)]
      exact more_bind (inv_typ _ hr.tail) (more_typ t hn _ hr.tail) (fun _ => by rw [hxb]; trivial) fun ty r hr _ => more_bind (inv_BK 32 _ hr) (more_BK 32 t hn _ hr) (fun _ => rfl) fun bd r hr _ => more_ok _ _
    · exact more_bind (inv_BK 32 _ hr) (more_BK 32 t hn _ hr) (fun _ => rfl) fun bd r hr _ => more_ok _ _
end Go.Proofs.YtaehlakefgnfmaaDoor
