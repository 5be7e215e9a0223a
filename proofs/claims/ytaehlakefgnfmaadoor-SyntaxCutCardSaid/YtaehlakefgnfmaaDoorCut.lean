/-
  DERIVED. PLAIN: a program of which the last token is taken away is none, and the place is its end. No program in sight.
-/
import Derived.Test.YtaehlakefgnfmaaDoorRow
import Derived.Test.YtaehlakefgnfmaaDoorPlaces
namespace Go.Proofs.YtaehlakefgnfmaaDoor
set_option linter.unusedSimpArgs false
set_option linter.unusedVariables false

/-- What is left is an end of what was there. -/
def SufR {α : Type} (ts : List Tok) : Res α → Prop
  | .ok _ r => r <:+ ts
  | .err _ _ => True
def Suf {α : Type} (f : Rd α) : Prop := ∀ ts, SufR ts (f ts)
theorem suf_tail {u ts : List Tok} (h : u <:+ ts) : u.tail <:+ ts := (List.tail_suffix u).trans h
theorem suf_bind {α β : Type} {ts : List Tok} {R : Res α} {k : α → List Tok → Res β} (h : SufR ts R) (hk : ∀ a r, r <:+ ts → SufR ts (k a r)) : SufR ts (R.bind k) := by
  cases R with
  | ok a r => exact hk a r h
  | err e r => trivial
theorem suf_must {β : Type} {ts u : List Tok} {s : List UInt8} {k : List Tok → Res β} (h : u <:+ ts) (hk : ∀ r, r <:+ ts → SufR ts (k r)) : SufR ts (must s u k) := by
  unfold must
  split
  · exact hk _ (suf_tail h)
  · trivial
theorem suf_name {β : Type} {ts u : List Tok} {k : List UInt8 → List Tok → Res β} (h : u <:+ ts) (hk : ∀ n r, r <:+ ts → SufR ts (k n r)) : SufR ts (name u k) := by
  unfold name
  split
  · exact hk _ _ (suf_tail h)
  · trivial
theorem suf_of {α : Type} {f : Rd α} (h : Suf f) {u ts : List Tok} (hu : u <:+ ts) : SufR ts (f u) := by
  have := h u
  revert this
  cases f u with
  | ok a r => exact fun h => List.IsSuffix.trans h hu
  | err e r => exact fun h => h
theorem suf_listGo {α : Type} {one : Rd α} (h1 : Suf one) : ∀ (f : Nat) (first : Bool) (acc : List α) (ts u : List Tok), u <:+ ts → SufR ts (listGo one f first acc u) := by
  intro f
  induction f with
  | zero => intros; trivial
  | succ f ih =>
    intro first acc ts u hu
    simp only [listGo]
    split
    · exact suf_tail hu
    split
    · exact suf_bind (suf_of h1 hu) fun a r hr => ih _ _ _ _ hr
    · exact suf_must hu fun r hr => suf_bind (suf_of h1 hr) fun a r hr => ih _ _ _ _ hr
theorem suf_list {α : Type} {one : Rd α} (h1 : Suf one) : Suf (listS one) := fun ts => suf_listGo h1 _ _ _ _ _ (List.suffix_refl _)
theorem suf_inner {e : Rd Ex} (he : Suf e) : Suf (innerS e) := fun ts =>
  suf_must (List.suffix_refl _) fun r hr => suf_bind (suf_of he hr) fun x r hr => suf_must hr fun r hr => hr
theorem suf_words {e : Rd Ex} (he : Suf e) : Suf (wordsS e) := by
  intro ts
  have hr0 := List.suffix_refl ts
  have ht := suf_tail hr0
  unfold wordsS
  split
  · exact ht
  split
  · exact ht
  split
  · exact suf_inner he ts
  split
  · exact suf_bind (suf_of (suf_inner he) ht) fun x r hr => hr
  split
  · exact suf_bind (suf_of (suf_inner he) ht) fun x r hr => hr
  · exact suf_must hr0 fun r hr => suf_bind (suf_of (suf_inner he) hr) fun x r hr => hr
theorem suf_primary {e : Rd Ex} (he : Suf e) : Suf (primaryS e) := by
  intro ts
  cases ts with
  | nil => trivial
  | cons t r =>
    have ht : r <:+ t :: r := List.suffix_cons t r
    rw [primaryS_cons]
    split
    · exact ht
    split
    · exact ht
    split
    · split
      · exact suf_bind (suf_of (suf_list he) (suf_tail ht)) fun x r hr => hr
      · exact ht
    · exact suf_words he _
theorem suf_one {e o : Rd Ex} (he : Suf e) (ho : Suf o) : Suf (oneS e o) := by
  intro ts
  have ht := suf_tail (List.suffix_refl ts)
  unfold oneS
  split
  · exact suf_bind (suf_of ho ht) fun x r hr => hr
  split
  · exact suf_bind (suf_of ho ht) fun x r hr => hr
  · exact suf_primary he ts
theorem suf_levelGo {next : Rd Ex} (hn : Suf next) (n : Nat) : ∀ (f : Nat) (x : Ex) (ts u : List Tok), u <:+ ts → SufR ts (levelGo next n f x u) := by
  intro f
  induction f with
  | zero => intros; trivial
  | succ f ih =>
    intro x ts u hu
    simp only [levelGo]
    split
    · refine suf_bind (suf_of hn (suf_tail hu)) fun y r hr => ?_
      split
      · exact hr
      · exact ih _ _ _ hr
    · exact hu
theorem suf_level {one : Rd Ex} (h1 : Suf one) : ∀ m, Suf (levelS one m) := by
  intro m
  induction m with
  | zero => exact h1
  | succ m ih => exact fun ts => suf_bind (ih ts) fun x r hr => suf_levelGo ih _ _ _ _ _ hr
theorem suf_EK (k : Nat) : Suf (EK k).1 ∧ Suf (EK k).2 := by
  induction k with
  | zero => exact ⟨fun _ => trivial, fun _ => trivial⟩
  | succ k ih => exact ⟨suf_level (suf_one ih.1 ih.2) 5, suf_one ih.1 ih.2⟩
theorem suf_stmt {e : Rd Ex} {b : Rd (List St)} (he : Suf e) (hb : Suf b) : Suf (stmtS e b) := by
  intro ts
  have hr0 := List.suffix_refl ts
  have ht := suf_tail hr0
  unfold stmtS
  split
  · exact suf_name ht fun n r hr => suf_must hr fun r hr => suf_bind (suf_of he hr) fun x r hr => suf_must hr fun r hr => hr
  split
  · refine suf_bind (suf_of he ht) fun x r hr => suf_bind (suf_of hb hr) fun bd r hr => ?_
    split
    · exact suf_bind (suf_of hb (suf_tail hr)) fun x r hr => hr
    · exact hr
  split
  · exact suf_name ht fun n r hr => suf_must hr fun r hr => suf_bind (suf_of he hr) fun x r hr => suf_must hr fun r hr => suf_bind (suf_of he hr) fun x r hr => suf_bind (suf_of hb hr) fun x r hr => hr
  split
  · split
    · exact suf_tail ht
    · exact suf_bind (suf_of he ht) fun x r hr => suf_must hr fun r hr => hr
  split
  · exact suf_must ht fun r hr => suf_bind (suf_of he hr) fun x r hr => suf_must hr fun r hr => suf_bind (suf_of he hr) fun x r hr => suf_must hr fun r hr => suf_must hr fun r hr => hr
  split
  · exact suf_must ht fun r hr => suf_bind (suf_of he hr) fun x r hr => suf_must hr fun r hr => suf_must hr fun r hr => hr
  split
  · exact suf_bind (suf_of he (suf_tail ht)) fun x r hr => suf_must hr fun r hr => hr
  · exact suf_bind (suf_of he hr0) fun x r hr => suf_must hr fun r hr => hr
/-- What is left stands behind a block's end. -/
def Ends {α : Type} (ts : List Tok) : Res α → Prop
  | .ok _ r => ∃ c x, ts = c ++ x :: r ∧ x.kind = 4 ∧ x.text = [125]
  | .err _ _ => True
theorem ends_of {α : Type} {ts u : List Tok} {R : Res α} (h : Ends u R) (hu : u <:+ ts) : Ends ts R := by
  cases R with
  | ok a r =>
    obtain ⟨c, x, rfl, hx⟩ := h
    obtain ⟨d, rfl⟩ := hu
    exact ⟨d ++ c, x, by simp, hx⟩
  | err e r => trivial
theorem ends_bind {α β : Type} {ts : List Tok} {R : Res α} {k : α → List Tok → Res β} (h : SufR ts R) (hk : ∀ a r, r <:+ ts → Ends ts (k a r)) : Ends ts (R.bind k) := by
  cases R with
  | ok a r => exact hk a r h
  | err e r => trivial
theorem ends_map {α β : Type} {ts : List Tok} {R : Res α} {m : α → β} (h : Ends ts R) : Ends ts (R.bind fun a r => .ok (m a) r) := by
  cases R with
  | ok a r => exact h
  | err e r => trivial
theorem suf_ends {α : Type} {ts : List Tok} {R : Res α} (h : Ends ts R) : SufR ts R := by
  cases R with
  | ok a r => obtain ⟨c, x, rfl, _⟩ := h; exact ⟨c ++ [x], by simp⟩
  | err e r => trivial
theorem ends_blockGo {s : Rd St} (hs : Suf s) : ∀ (f : Nat) (acc : List St) (ts u : List Tok), u <:+ ts → Ends ts (blockGo s f acc u) := by
  intro f
  induction f with
  | zero => intros; trivial
  | succ f ih =>
    intro acc ts u hu
    simp only [blockGo]
    split
    · rename_i h
      obtain ⟨x, r, rfl, hx⟩ := isSign_cons h
      obtain ⟨d, rfl⟩ := hu
      exact ⟨d, x, rfl, hx⟩
    · exact ends_bind (suf_of hs hu) fun a r hr => ih _ _ _ hr
theorem ends_block {s : Rd St} (hs : Suf s) (ok : Bool) : ∀ ts, Ends ts (blockS s ok ts) := by
  intro ts
  unfold blockS
  split
  · split
    · exact ends_blockGo hs _ _ _ _ (List.tail_suffix ts)
    · trivial
  · trivial
theorem ends_BK (k : Nat) : ∀ ts, Ends ts (BK k ts) := by
  induction k with
  | zero => exact ends_block (s := fun ts => .err 0 ts) (fun ts => (trivial : SufR (α := St) ts (Res.err 0 ts))) false
  | succ k ih => exact ends_block (suf_stmt (suf_EK k).1 fun ts => suf_ends (ih ts)) _
theorem suf_typ : Suf typS := by
  intro ts
  have ht := suf_tail (List.suffix_refl ts)
  unfold typS
  split
  · exact ht
  split
  · exact ht
  · exact suf_must (List.suffix_refl _) fun r hr => hr
theorem suf_param : Suf paramS := fun ts => suf_name (List.suffix_refl _) fun n r hr => suf_must hr fun r hr => suf_bind (suf_of suf_typ hr) fun t r hr => hr
theorem ends_must {β : Type} {ts u : List Tok} {s : List UInt8} {k : List Tok → Res β} (h : u <:+ ts) (hk : ∀ r, r <:+ ts → Ends ts (k r)) : Ends ts (must s u k) := by
  unfold must
  split
  · exact hk _ (suf_tail h)
  · trivial
theorem ends_name {β : Type} {ts u : List Tok} {k : List UInt8 → List Tok → Res β} (h : u <:+ ts) (hk : ∀ n r, r <:+ ts → Ends ts (k n r)) : Ends ts (name u k) := by
  unfold name
  split
  · exact hk _ _ (suf_tail h)
  · trivial
theorem ends_fun : ∀ ts, Ends ts (funS ts) := by
  intro ts
  unfold funS
  refine ends_must (List.suffix_refl _) fun r hr => ends_name hr fun n r hr => ends_must hr fun r hr => ends_bind (suf_of (suf_list suf_param) hr) fun ps r hr => ?_
  split
  · exact ends_bind (suf_of suf_typ (suf_tail hr)) fun t r hr => ends_map (ends_of (ends_BK 32 r) hr)
  · exact ends_map (ends_of (ends_BK 32 r) hr)
theorem ends_prog : ∀ (f : Nat) (acc : List Fu) (ts : List Tok) (q : List Fu) (r : List Tok), progGo f acc ts = .ok q r → ts ≠ [] → ∃ c x, ts = c ++ [x] ∧ x.kind = 4 ∧ x.text = [125] := by
  intro f
  induction f with
  | zero => intro acc ts q r h; simp [progGo] at h
  | succ f ih =>
    intro acc ts q r h hne
    cases ts with
    | nil => exact absurd rfl hne
    | cons t us =>
      simp only [progGo] at h
      have he := ends_fun (t :: us)
      cases hf : funS (t :: us) with
      | err e r' => rw [hf] at h; cases h
      | ok a r' =>
        rw [hf] at h he
        obtain ⟨c, x, hc, hx⟩ := he
        rw [hc]
        cases r' with
        | nil => exact ⟨c, x, rfl, hx⟩
        | cons y ys =>
          obtain ⟨c', x', hc', hx'⟩ := ih _ _ _ _ h (by simp)
          exact ⟨c ++ x :: c', x', by rw [hc']; simp, hx'⟩
/-- A reading that is never too deep. -/
def Only41 {α : Type} (f : Rd α) : Prop := ∀ ts e r, f ts = .err e r → e = 41
theorem only_must {β : Type} {s : List UInt8} {ts : List Tok} {k : List Tok → Res β} (hk : ∀ u e r, k u = .err e r → e = 41) (e : Nat) (r : List Tok) (h : must s ts k = .err e r) : e = 41 := by
  unfold must at h
  split at h
  · exact hk _ _ _ h
  · cases h; rfl
theorem only_name {β : Type} {ts : List Tok} {k : List UInt8 → List Tok → Res β} (hk : ∀ n u e r, k n u = .err e r → e = 41) (e : Nat) (r : List Tok) (h : name ts k = .err e r) : e = 41 := by
  unfold name at h
  split at h
  · exact hk _ _ _ _ h
  · cases h; rfl
theorem only_bind {α β : Type} {R : Res α} {k : α → List Tok → Res β} (hR : ∀ e r, R = .err e r → e = 41) (hk : ∀ a u e r, k a u = .err e r → e = 41) (e : Nat) (r : List Tok) (h : R.bind k = .err e r) : e = 41 := by
  cases R with
  | ok a u => exact hk _ _ _ _ h
  | err e' r' => cases h; exact hR _ _ rfl
theorem only_typ : Only41 typS := by
  intro ts e r h
  unfold typS at h
  split at h
  · cases h
  split at h
  · cases h
  · exact only_must (fun u e r h => by cases h) _ _ h
theorem only_param : Only41 paramS := fun ts => only_name fun n u => only_must fun u => only_bind (only_typ u) fun a u e r h => by cases h
theorem only_listGo {α : Type} {one : Rd α} (h1 : Only41 one) : ∀ (f : Nat) (first : Bool) (acc : List α) (ts : List Tok) (e : Nat) (r : List Tok), ts.length < f → Inv (fun _ : α => 1) (fun _ => True) one → Wf ts → listGo one f first acc ts = .err e r → e = 41 := by
  intro f
  induction f with
  | zero => intro first acc ts e r h; omega
  | succ f ih =>
    intro first acc ts e r hf hi hw h
    simp only [listGo] at h
    split at h
    · cases h
    split at h
    · cases ho : one ts with
      | ok a u =>
        have := hi ts hw
        rw [ho] at h this
        exact ih _ _ _ _ _ (by have h0 : 1 + u.length ≤ _ := this.1; omega) hi this.2.2 h
      | err e' r' => rw [ho] at h; cases h; exact h1 _ _ _ ho
    · unfold must at h
      split at h
      · rename_i hs
        have hl := isSign_len hs
        change (one ts.tail).bind _ = _ at h
        cases ho : one ts.tail with
        | ok a u =>
          have := hi ts.tail hw.tail
          rw [ho] at h this
          exact ih _ _ _ _ _ (by have h0 : 1 + u.length ≤ _ := this.1; omega) hi this.2.2 h
        | err e' r' => rw [ho] at h; cases h; exact h1 _ _ _ ho
      · cases h; rfl
theorem only_params (ts : List Tok) (hw : Wf ts) (e : Nat) (r : List Tok) (h : listS paramS ts = .err e r) : e = 41 :=
  only_listGo only_param _ _ _ ts e r (Nat.lt_succ_self _) (fun us hus => by
    have := inv_param us hus
    revert this
    cases paramS us with
    | ok a u => exact fun h => ⟨h.1, trivial, h.2.2⟩
    | err e r => exact fun h => h) hw h
/-- Too deep at the end: then it is none with one token more, either. -/
def Hard {α : Type} (R R' : Res α) : Prop := R = .err 42 [] → ∃ e r, R' = .err e r
theorem hard_bind {α β : Type} {t : List Tok} {n : Nat} {sz : α → Nat} {P : α → Prop} {R R' : Res α} {k k' : α → List Tok → Res β} (hi : Fine n sz P R) (h : More t R R') (h1 : ∀ e r, R = .err e r → e = 41)
    (hk : ∀ a r, Wf r → Hard (k a r) (k' a (r ++ t))) : Hard (R.bind k) (R'.bind k') := by
  cases R with
  | ok a r =>
    have h' : R' = .ok a (r ++ t) := h
    rw [h']
    exact hk a r hi.2.2
  | err e r =>
    intro h0
    have := h1 e r rfl
    subst this
    cases h0
theorem hard_must {β : Type} {t : List Tok} {s : List UInt8} {ts : List Tok} {k k' : List Tok → Res β} (hk : isSign s ts = true → Hard (k ts.tail) (k' (ts.tail ++ t))) : Hard (must s ts k) (must s (ts ++ t) k') := by
  cases ts with
  | nil => intro h; cases h
  | cons x r =>
    unfold must
    rw [show isSign s (x :: r ++ t) = isSign s (x :: r) from rfl, show (x :: r ++ t).tail = (x :: r).tail ++ t from rfl]
    split
    · rename_i h; exact hk h
    · intro h; cases h
theorem hard_name {β : Type} {t : List Tok} {ts : List Tok} {k k' : List UInt8 → List Tok → Res β} (hk : ∀ n, Hard (k n ts.tail) (k' n (ts.tail ++ t))) : Hard (name ts k) (name (ts ++ t) k') := by
  cases ts with
  | nil => intro h; cases h
  | cons x r =>
    unfold name
    rw [show isName (x :: r ++ t) = isName (x :: r) from rfl, show (x :: r ++ t).tail = (x :: r).tail ++ t from rfl, show headText (x :: r ++ t) = headText (x :: r) from rfl]
    split
    · exact hk _
    · intro h; cases h
theorem hard_last {α β : Type} {R R' : Res α} (m : α → β) (h : Hard R R') : Hard (R.bind fun a r => .ok (m a) r) (R'.bind fun a r => .ok (m a) r) := by
  intro h0
  cases R with
  | ok a r => cases h0
  | err e r =>
    cases h0
    obtain ⟨e, r, h⟩ := h rfl
    exact ⟨e, r, by rw [h]; rfl⟩
theorem hard_blockGo {s : Rd St} (hi : Inv St.size WFs s) (hs : Goes s) (h0 : s [] = .err 41 []) (t : List Tok) (hn : Neutral t) (ht : t.length = 1) :
    ∀ (f g : Nat) (acc : List St) (ts : List Tok), Wf ts → ts.length < f → (ts ++ t).length < g → Hard (blockGo s f acc ts) (blockGo s g acc (ts ++ t)) := by
  have h00 : ∀ g acc, ∃ e r, blockGo s g acc [] = .err e r := by
    intro g acc
    cases g with
    | zero => exact ⟨_, _, rfl⟩
    | succ g => exact ⟨41, [], by show (s []).bind _ = _; rw [h0]; rfl⟩
  intro f
  induction f with
  | zero => intro g acc ts _ h; omega
  | succ f ih =>
    intro g acc ts hw hf hg
    obtain ⟨g, rfl⟩ : ∃ k, g = k + 1 := ⟨g - 1, by omega⟩
    cases ts with
    | nil =>
      intro h
      have : blockGo s (f + 1) acc [] = .err 41 [] := by show (s []).bind _ = _; rw [h0]; rfl
      rw [this] at h
      cases h
    | cons x us =>
      simp only [blockGo]
      rw [show isSign [125] (x :: us ++ t) = isSign [125] (x :: us) from rfl]
      split
      · intro h; cases h
      · have hm := hs t hn (x :: us) hw
        have hf1 := hi (x :: us) hw
        cases hx : s (x :: us) with
        | ok a r =>
          rw [hx] at hm hf1
          have hm' : s (x :: us ++ t) = .ok a (r ++ t) := hm
          rw [hm']
          have := hf1.1
          have := a.size_pos
          simp only [List.length_append, List.length_cons] at *
          exact ih g _ r hf1.2.2 (by omega) (by omega)
        | err e r =>
          rw [hx] at hm
          intro h
          cases h
          have hsp := hm.2 rfl ht
          cases hr : s (x :: us ++ t) with
          | ok a r =>
            rw [hr] at hsp
            have : r = [] := hsp
            subst this
            exact h00 _ _
          | err e r => exact ⟨_, _, rfl⟩
theorem hard_BK (t : List Tok) (hn : Neutral t) (ht : t.length = 1) (ts : List Tok) (hw : Wf ts) : Hard (BK 32 ts) (BK 32 (ts ++ t)) := by
  cases ts with
  | nil => intro h; cases h
  | cons x us =>
    show Hard (blockS _ true (x :: us)) (blockS _ true (x :: us ++ t))
    unfold blockS
    rw [show isSign [123] (x :: us ++ t) = isSign [123] (x :: us) from rfl]
    split
    · rw [if_pos rfl, if_pos rfl]
      have hwt : Wf us := fun t ht => hw t (by simp [ht])
      exact hard_blockGo (inv_stmt (inv_EK 31).1 (inv_BK 31)) (more_stmt (inv_EK 31).1 (more_EK 31).1 (inv_BK 31) (more_BK 31)) rfl t hn ht _ _ [] us hwt (by simp; omega) (by simp; omega)
    · intro h; cases h
theorem fun_deep (t : List Tok) (hn : Neutral t) (ht : t.length = 1) (ts : List Tok) (hw : Wf ts) : Hard (funS ts) (funS (ts ++ t)) := by
  cases ts with
  | nil => intro h; cases h
  | cons x us =>
    unfold funS
    rw [show headPlace (x :: us ++ t) = headPlace (x :: us) from rfl]
    refine hard_must fun _ => hard_name fun nm => hard_must fun _ => ?_
    have hw3 := hw.tail.tail.tail
    refine hard_bind (inv_list inv_param (fun _ => Nat.le_refl _) _ hw3) (more_list inv_param (fun _ => Nat.le_refl _) more_param t hn _ hw3) (only_params _ hw3) fun ps r hr => ?_
    rw [sign_app hn _ (by decide) (by decide)]
    split
    · rename_i h
      rw [tail_app t (isSign_ne h)]
      refine hard_bind (inv_typ _ hr.tail) (more_typ t hn _ hr.tail) (only_typ _) fun ty r hr => ?_
      exact hard_last _ (hard_BK t hn ht r hr)
    · exact hard_last _ (hard_BK t hn ht r hr)
/-- Without its last token a program is none. -/
theorem cut_prog : ∀ (f g : Nat) (acc acc' : List Fu) (us : List Tok) (x : Tok) (q : List Fu) (r : List Tok), Wf us → x.kind = 4 → x.text = [125] → progGo f acc (us ++ [x]) = .ok q r → us.length < g → us ≠ [] ∧ progGo g acc' us = .err 41 [] := by
  intro f
  induction f with
  | zero => intro g acc acc' us x q r _ _ _ h; simp [progGo] at h
  | succ f ih =>
    intro g acc acc' us x q r hw h4 hx h hg
    have hn : Neutral [x] := ⟨x, [], rfl, h4, .inl hx⟩
    cases us with
    | nil =>
      simp only [List.nil_append, progGo] at h
      have : funS [x] = .err 41 [x] := by
        unfold funS must
        rw [if_neg (by simp [isSign, hx])]
      rw [this] at h
      cases h
    | cons t us =>
      refine ⟨by simp, ?_⟩
      obtain ⟨g, rfl⟩ : ∃ k, g = k + 1 := ⟨g - 1, by omega⟩
      simp only [List.cons_append, progGo] at h ⊢
      have hm := more_fun [x] hn (t :: us) hw (by simp)
      have hi := inv_fun (t :: us) hw
      simp only [List.cons_append] at hm
      cases hf : funS (t :: us) with
      | ok a r' =>
        rw [hf] at hm hi
        have hm' : funS (t :: (us ++ [x])) = .ok a (r' ++ [x]) := hm
        rw [hm'] at h
        simp only [Res.bind] at h ⊢
        have h1 := hi.1
        have h2 := Fu.size_pos a
        exact (ih g _ _ r' x q r hi.2.2 h4 hx h (by simp at h1 hg ⊢; omega)).2
      | err e r' =>
        rw [hf] at hm hi
        simp only [Res.bind]
        by_cases hr : r' ≠ []
        · rw [hm.1 hr] at h
          cases h
        · have h1 : r' = [] := Classical.byContradiction fun h0 => hr h0
          subst h1
          rcases hi.1 with h2 | h2
          · rw [h2]
          · subst h2
            obtain ⟨e, r, hd⟩ := fun_deep [x] hn rfl (t :: us) hw hf
            rw [show funS (t :: us ++ [x]) = funS (t :: (us ++ [x])) from rfl] at hd
            rw [hd] at h
            cases h

/-- A text cut behind a token. -/
theorem spanLen_cut (p : UInt8 → Bool) : ∀ (l : List UInt8) (j : Nat), spanLen p (l.take j) = min j (spanLen p l) := by
  intro l
  induction l with
  | nil => intro j; simp [spanLen]
  | cons c l ih =>
    intro j
    cases j with
    | zero => simp [spanLen]
    | succ j =>
      simp only [List.take_succ_cons, spanLen]
      split
      · rw [ih]; omega
      · omega
theorem skip_cut : ∀ (l : List UInt8) (m : Bool) (j : Nat), skip m (l.take j) = min j (skip m l) := by
  intro l
  induction l with
  | nil => intro m j; cases m <;> simp [skip]
  | cons c l ih =>
    intro m j
    cases j with
    | zero => cases m <;> simp [skip]
    | succ j =>
      cases m
      · simp only [List.take_succ_cons, skip]
        split
        · rw [ih]; omega
        · split
          · rw [ih]; omega
          · omega
      · simp only [List.take_succ_cons, skip]
        split
        · rw [ih]; omega
        · rw [ih]; omega
theorem signAt_cut (l : List UInt8) (j : Nat) (h : (signAt l).length ≤ j) (hne : signAt l ≠ []) : signAt (l.take j) = signAt l := by
  match j with
  | 0 => exact absurd (List.eq_nil_of_length_eq_zero (by omega)) hne
  | 1 =>
    unfold signAt at h hne ⊢
    simp only [List.take_take]
    rw [show min 2 1 = 1 from rfl, show min 1 1 = 1 from rfl]
    by_cases h2 : signs.contains (l.take 2) = true
    · simp only [if_pos h2] at h ⊢
      have h3 : l.take 2 = l.take 1 := by
        match l, h with
        | [], _ => rfl
        | [c], _ => rfl
        | c :: d :: r, h => simp at h
      rw [h3] at h2 ⊢
      rw [if_pos h2]
    · simp only [if_neg h2] at h hne ⊢
      split at hne
      · rename_i h1
        rw [if_pos h1]
        rw [if_pos h1]
      · exact absurd rfl hne
  | j + 2 =>
    unfold signAt
    simp only [List.take_take]
    rw [show min 2 (j + 2) = 2 by omega, show min 1 (j + 2) = 1 by omega]
theorem nextT_cut {l : List UInt8} {b : Bit} (h : nextT l = .ok b) (j : Nat) (hj : b.len ≤ j) : nextT (l.take j) = .ok b := by
  cases l with
  | nil => simp [nextT] at h
  | cons c r =>
    have hlen := nextT_len h
    obtain ⟨j, rfl⟩ : ∃ k, j = k + 1 := ⟨j - 1, by omega⟩
    have s1 := spanLen_cut isNameByte (c :: r) (j + 1)
    have s2 := spanLen_cut isDigit (c :: r) (j + 1)
    have s3 := spanLen_cut isTextByte r j
    have t0 := signAt_cut (c :: r) (j + 1)
    simp only [List.take_succ_cons] at s1 s2 t0 ⊢
    simp only [nextT] at h ⊢
    split at h
    · rename_i hl
      rw [if_pos hl]
      have h3 : ((c :: r).take (spanLen isNameByte (c :: r))).length = spanLen isNameByte (c :: r) := by rw [List.length_take]; have := spanLen_le isNameByte (c :: r); omega
      have hb : b.len = spanLen isNameByte (c :: r) := by
        split at h
        · cases h; exact h3
        · split at h
          · cases h
          · cases h; exact h3
      rw [s1, Nat.min_eq_right (by omega), show (c :: r.take j).take (spanLen isNameByte (c :: r)) = (c :: r).take (spanLen isNameByte (c :: r)) by rw [← List.take_succ_cons, List.take_take, Nat.min_eq_left (by omega)]]
      exact h
    · rename_i hl
      rw [if_neg hl]
      split at h
      · rename_i hd
        rw [if_pos hd]
        have h3 : ((c :: r).take (spanLen isDigit (c :: r))).length = spanLen isDigit (c :: r) := by rw [List.length_take]; have := spanLen_le isDigit (c :: r); omega
        have hb : b.len = spanLen isDigit (c :: r) := by
          split at h
          · cases h
          · cases h; exact h3
        rw [s2, Nat.min_eq_right (by omega), show (c :: r.take j).take (spanLen isDigit (c :: r)) = (c :: r).take (spanLen isDigit (c :: r)) by rw [← List.take_succ_cons, List.take_take, Nat.min_eq_left (by omega)]]
        exact h
      · rename_i hd
        rw [if_neg hd]
        split at h
        · rename_i hq
          rw [if_pos hq]
          split at h
          · cases h
          · rename_i d q hdr
            split at h
            · cases h
            · rename_i h34
              split at h
              · cases h
              · rename_i h64
                cases h
                simp only at hj
                have hk : spanLen isTextByte (r.take j) = spanLen isTextByte r := by rw [s3]; omega
                have hdr' : (r.take j).drop (spanLen isTextByte r) = d :: q.take (j - spanLen isTextByte r - 1) := by
                  rw [List.drop_take, hdr]
                  obtain ⟨m, hm⟩ : ∃ m, j - spanLen isTextByte r = m + 1 := ⟨j - spanLen isTextByte r - 1, by omega⟩
                  rw [hm, List.take_succ_cons]; rfl
                rw [hk, hdr']
                simp only []
                rw [if_neg h34, if_neg h64, List.take_take, Nat.min_eq_left (by omega)]
        · rename_i hq
          rw [if_neg hq]
          split at h
          · cases h
          · rename_i he
            cases h
            have hne : signAt (c :: r) ≠ [] := by intro h0; rw [h0] at he; simp at he
            rw [t0 hj hne, if_neg he]
theorem lexFrom_empty {pos cnt : Nat} {l : List UInt8} (h : lexFrom pos l cnt = .ok []) : skip false l = l.length := by
  have hle := skip_le false l
  by_cases he : skip false l = l.length
  · exact he
  · have hne : l.drop (skip false l) ≠ [] := by
      intro h0
      have := congrArg List.length h0
      rw [List.length_drop, List.length_nil] at this
      omega
    cases hb : nextT (l.drop (skip false l)) with
    | error e => rw [lexFrom_error rfl hne hb] at h; cases h
    | ok b =>
      by_cases hc : cnt = 2048
      · subst hc; rw [lexFrom_many rfl hne hb] at h; cases h
      · rw [lexFrom_step rfl hne hb hc] at h
        generalize lexFrom _ _ _ = o at h
        cases o <;> simp [pre] at h
theorem lexFrom_cut : ∀ (n pos cnt : Nat) (l : List UInt8) (ts : List Tok) (x : Tok), l.length ≤ n → lexFrom pos l cnt = .ok (ts ++ [x]) → x.kind = 4 → x.text = [125] →
    ∃ k, l[k]? = some 125 ∧ skip false (l.drop (k + 1)) = (l.drop (k + 1)).length ∧ lexFrom pos (l.take k) cnt = .ok ts := by
  intro n
  induction n with
  | zero =>
    intro pos cnt l ts x hl h
    have : l = [] := List.eq_nil_of_length_eq_zero (by omega)
    subst this
    rw [lexFrom_end (by simp)] at h
    simp at h
  | succ n ih =>
    intro pos cnt l ts x hl h h4 hx
    have hle := skip_le false l
    by_cases he : skip false l = l.length
    · rw [lexFrom_end (by rw [he]; simp)] at h
      simp at h
    · have hne : l.drop (skip false l) ≠ [] := by
        intro h0
        have := congrArg List.length h0
        rw [List.length_drop, List.length_nil] at this
        omega
      cases hb : nextT (l.drop (skip false l)) with
      | error e => rw [lexFrom_error rfl hne hb] at h; cases h
      | ok b =>
        by_cases hc : cnt = 2048
        · subst hc; rw [lexFrom_many rfl hne hb] at h; cases h
        · have hlen := nextT_len hb
          rw [lexFrom_step rfl hne hb hc] at h
          cases hr : lexFrom (pos + skip false l + b.len) ((l.drop (skip false l)).drop b.len) (cnt + 1) with
          | error e => rw [hr] at h; cases h
          | ok us =>
            rw [hr] at h
            simp only [pre, List.cons_append, List.nil_append, Except.ok.injEq] at h
            rw [List.length_drop] at hlen
            cases ts with
            | nil =>
              simp only [List.nil_append, List.cons.injEq] at h
              obtain ⟨rfl, rfl⟩ := h
              simp only at h4 hx
              obtain ⟨_, h2⟩ := nextT_shown hb 0
              obtain ⟨h3, h5⟩ := h2 (by omega)
              simp only [shown, h4, show ¬ (4 : Nat) = 3 by omega, if_false, hx, List.length_singleton] at h3 h5
              rw [← h3] at h5 hr
              refine ⟨skip false l, ?_, ?_, ?_⟩
              · have := congrArg (fun z => z[0]?) h5
                simpa [List.getElem?_take, List.getElem?_drop] using this
              · have := lexFrom_empty hr
                rw [List.drop_drop] at this
                exact this
              · rw [lexFrom_end]
                rw [skip_cut, Nat.min_self]
                simp
            | cons t ts =>
              simp only [List.cons_append, List.cons.injEq] at h
              obtain ⟨rfl, rfl⟩ := h
              obtain ⟨k, k1, k2, k3⟩ := ih _ _ _ ts x (by rw [List.length_drop, List.length_drop]; omega) hr h4 hx
              rw [List.drop_drop] at k1 k2 k3
              refine ⟨skip false l + b.len + k, ?_, ?_, ?_⟩
              · rw [List.getElem?_drop] at k1; exact k1
              · rw [List.drop_drop] at k2
                rw [show skip false l + b.len + k + 1 = skip false l + (b.len + (k + 1)) by omega]
                exact k2
              · have hm : (l.take (skip false l + b.len + k)).drop (skip false (l.take (skip false l + b.len + k))) = (l.drop (skip false l)).take (b.len + k) := by
                  rw [skip_cut, Nat.min_eq_right (by omega), List.drop_take]
                  congr 1
                  omega
                have hne' : (l.drop (skip false l)).take (b.len + k) ≠ [] := by
                  intro h0
                  have := congrArg List.length h0
                  rw [List.length_take, List.length_drop, List.length_nil] at this
                  omega
                rw [lexFrom_step hm hne' (nextT_cut hb _ (by omega)) hc]
                rw [skip_cut, Nat.min_eq_right (by omega), List.drop_take, List.drop_drop, show b.len + k - b.len = k by omega, k3]
                rfl
/-- In blanks and remarks another byte stands in a remark. -/
theorem skip_remarks : ∀ (l : List UInt8) (m : Bool) (q : Nat) (c : UInt8), skip m l = l.length → l[q]? = some c → isBlank c = false → c ≠ 35 →
    (m = true ∧ ∀ i, i < q → l[i]? ≠ some 10) ∨ ∃ i, i < q ∧ l[i]? = some 35 ∧ ∀ j, i < j → j < q → l[j]? ≠ some 10 := by
  intro l
  induction l with
  | nil => intro m q c _ h; simp at h
  | cons d l ih =>
    intro m q c hs hq hb h35
    cases q with
    | zero =>
      simp only [List.getElem?_cons_zero, Option.some.injEq] at hq
      subst hq
      cases m
      · simp [skip, h35, hb] at hs
      · exact .inl ⟨rfl, fun i hi => by omega⟩
    | succ q =>
      simp only [List.getElem?_cons_succ] at hq
      cases m
      · simp only [skip] at hs
        split at hs
        · rename_i hd
          have hd' : d = 35 := by simpa using hd
          rcases ih true q c (by simpa using hs) hq hb h35 with ⟨_, h⟩ | ⟨i, h1, h2, h3⟩
          · refine .inr ⟨0, by omega, by simp [hd'], fun j hj hjq => ?_⟩
            obtain ⟨j, rfl⟩ : ∃ k, j = k + 1 := ⟨j - 1, by omega⟩
            simpa using h j (by omega)
          · refine .inr ⟨i + 1, by omega, by simpa using h2, fun j hj hjq => ?_⟩
            obtain ⟨j, rfl⟩ : ∃ k, j = k + 1 := ⟨j - 1, by omega⟩
            simpa using h3 j (by omega) (by omega)
        · split at hs
          · rcases ih false q c (by simpa using hs) hq hb h35 with ⟨h0, _⟩ | ⟨i, h1, h2, h3⟩
            · cases h0
            · refine .inr ⟨i + 1, by omega, by simpa using h2, fun j hj hjq => ?_⟩
              obtain ⟨j, rfl⟩ : ∃ k, j = k + 1 := ⟨j - 1, by omega⟩
              simpa using h3 j (by omega) (by omega)
          · simp at hs
      · simp only [skip] at hs
        split at hs
        · rcases ih false q c (by simpa using hs) hq hb h35 with ⟨h0, _⟩ | ⟨i, h1, h2, h3⟩
          · cases h0
          · refine .inr ⟨i + 1, by omega, by simpa using h2, fun j hj hjq => ?_⟩
            obtain ⟨j, rfl⟩ : ∃ k, j = k + 1 := ⟨j - 1, by omega⟩
            simpa using h3 j (by omega) (by omega)
        · rename_i hd
          have hd' : d ≠ 10 := by simpa using hd
          rcases ih true q c (by simpa using hs) hq hb h35 with ⟨_, h⟩ | ⟨i, h1, h2, h3⟩
          · refine .inl ⟨rfl, fun i hi => ?_⟩
            cases i with
            | zero => simpa using hd'
            | succ i => simpa using h i (by omega)
          · refine .inr ⟨i + 1, by omega, by simpa using h2, fun j hj hjq => ?_⟩
            obtain ⟨j, rfl⟩ : ∃ k, j = k + 1 := ⟨j - 1, by omega⟩
            simpa using h3 j (by omega) (by omega)
/-- THE LAW OF CUTS. 'e': behind the last closing brace; no remark from there on, nor in that brace's line. -/
theorem cut_law {s : List UInt8} {p : List Fu} (h : parse s = .ok p) (hp : p ≠ []) (e : Nat) (hle : e ≤ s.length) (h1 : ∀ i, e ≤ i → s[i]? ≠ some 125) (h2 : 0 < e → s[e - 1]? = some 125)
    (h3 : ∀ i, e ≤ i → s[i]? ≠ some 35) (b : Nat) (hb : b = 0 ∨ s[b - 1]? = some 10) (h4 : ∀ i, b ≤ i → i < e → s[i]? ≠ some 35) (hbe : b ≤ e) :
    0 < e ∧ parse (s.take (e - 1)) = .error (41, e - 1) := by
  unfold parse at h
  cases hx : lex s with
  | error e => rw [hx] at h; cases h
  | ok us =>
    rw [hx] at h
    simp only [] at h
    cases hpx : progS us with
    | err e r => rw [hpx] at h; cases h
    | ok p' rx =>
      rw [hpx] at h
      cases h
      have hne : us ≠ [] := by
        rintro rfl
        simp [progS, progGo] at hpx
        first | exact hp hpx.1 | exact hp hpx.1.symm
      have hshort := lex_short hx
      obtain ⟨ts, x, rfl, h4k, hxt⟩ := ends_prog _ _ _ _ _ hpx hne
      have hw := (lex_wf hx).1
      rw [lex_from _ hshort] at hx
      obtain ⟨k, k1, k2, k3⟩ := lexFrom_cut _ _ _ _ _ _ (Nat.le_refl _) hx h4k hxt
      have hke : k < e := by
        rcases Nat.lt_or_ge k e with h | h
        · exact h
        · exact absurd k1 (h1 k h)
      have hk : k = e - 1 := by
        refine Classical.byContradiction fun hk => ?_
        have hq : (s.drop (k + 1))[e - 1 - (k + 1)]? = some 125 := by
          rw [List.getElem?_drop, show k + 1 + (e - 1 - (k + 1)) = e - 1 by omega]
          exact h2 (by omega)
        rcases skip_remarks _ _ _ _ k2 hq rfl (by decide) with ⟨h0, _⟩ | ⟨i, i1, i2, i3⟩
        · cases h0
        · rw [List.getElem?_drop] at i2
          rcases Nat.lt_or_ge (k + 1 + i) b with hlt | hge
          · rcases hb with hb | hb
            · omega
            · by_cases hb1 : b - 1 = k + 1 + i
              · rw [hb1, i2] at hb; simp at hb
              · by_cases hb2 : b - 1 < e - 1
                · have := i3 (b - 1 - (k + 1)) (by omega) (by omega)
                  rw [List.getElem?_drop, show k + 1 + (b - 1 - (k + 1)) = b - 1 by omega] at this
                  exact this hb
                · have hbe' : b = e := by omega
                  rw [hbe', h2 (by omega)] at hb
                  simp at hb
          · exact h4 _ hge (by omega) i2
      refine ⟨by omega, ?_⟩
      have hwt : Wf ts := fun t ht => hw t (List.mem_append_left _ ht)
      have hlen : (s.take k).length = k := by
        have : k < s.length := (List.getElem?_eq_some_iff.1 k1).1
        rw [List.length_take]; omega
      have hlex : lex (s.take k) = .ok ts := by
        rw [lex_from _ (by omega)]; exact k3
      have hcut := (cut_prog _ (ts.length + 1) [] [] _ _ _ _ hwt h4k hxt hpx (by omega)).2
      rw [← hk]
      unfold parse
      rw [hlex]
      simp only [progS, hcut, placeOf, hlen]
end Go.Proofs.YtaehlakefgnfmaaDoor
