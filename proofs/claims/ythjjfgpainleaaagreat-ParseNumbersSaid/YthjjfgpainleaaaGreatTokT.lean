/- What tokens there are. -/
import Derived.Test.YthjjfgpainleaaaGreatGE

set_option linter.unusedSimpArgs false
set_option linter.unusedVariables false

namespace Go.Proofs.Th

/-- A name's points. -/
def NameP (l : List Int) : Prop := l ≠ [] ∧ l.length ≤ 20 ∧ (∀ x ∈ l, isNameCh x = true) ∧ (isLetter (hd l) = true ∨ hd l = 95)
def NameT (t : ByteArray) : Prop := ∃ l, NameP l ∧ t = bytesOf l

/-- A token that there may be. -/
structure TkOk (t : Tk) : Prop where
  kinds : 1 ≤ t.kind ∧ t.kind ≤ 11
  low : -1000 ≤ t.number
  one : t.kind = 1 → 0 ≤ t.number ∧ t.number ≤ 1114111
  look : t.kind = 3 → 3 ≤ t.number ∧ t.number ≤ 8
  cls : t.kind = 4 → t.text = digitB ∨ t.text = wordB ∨ t.text = spaceB ∨ t.text = xdigitB
  rep : t.kind = 6 → 0 ≤ t.least ∧ t.least ≤ 100 ∧ (t.most = -1 ∨ t.least ≤ t.most) ∧ t.most ≤ 100 ∧ 1 ≤ t.way ∧ t.way ≤ 3
  opn : t.kind = 7 → (t.number = 11 ∨ t.number = 1 ∨ (13 ≤ t.number ∧ t.number ≤ 17)) ∧ (t.text = ⟨#[]⟩ ∨ (t.number = 11 ∧ NameT t.text)) ∧ (t.fold = 0 ∨ t.number = 1)
  again : t.kind = 10 → t.number ≤ 999

theorem run_allP (p : Int → Bool) (n : Nat) (s : List Int) : (∀ x ∈ (run p n s).1, p x = true) ∧ (run p n s).1.length ≤ n := by
  induction n generalizing s with
  | zero => simp [run_nil]
  | succ n ih =>
    cases s with
    | nil => simp [run]
    | cons x t =>
      by_cases h : p x = true
      · rw [run_go _ _ _ _ h]
        refine ⟨?_, by simp; exact (ih t).2⟩
        intro y hy
        rcases List.mem_cons.1 hy with rfl | hy
        · exact h
        · exact (ih t).1 y hy
      · rw [run_stop _ _ _ _ (by simpa using h)]
        simp

theorem nameL_ok {s : List Int} (h : (nameL s).1 ≠ []) : NameP (nameL s).1 := by
  unfold nameL at h ⊢
  split at h
  · rename_i hif
    rw [if_pos hif]
    have h2 := run_allP isNameCh 20 s
    refine ⟨h, h2.2, h2.1, ?_⟩
    have hh : hd (run isNameCh 20 s).1 = hd s := by
      cases s with
      | nil => simp [run] at h
      | cons x t =>
        by_cases hx : isNameCh x = true
        · rw [run_go _ _ _ _ hx]; rfl
        · rw [run_stop _ _ _ _ (by simpa using hx)] at h; simp at h
    rw [hh]
    simpa using hif
  · exact absurd rfl h

theorem ite_or {c : Prop} [Decidable c] {α : Type} {a b r : α} (h : (if c then a else b) = r) : (c ∧ a = r) ∨ (¬ c ∧ b = r) := by
  by_cases hc : c
  · rw [if_pos hc] at h; exact .inl ⟨hc, h⟩
  · rw [if_neg hc] at h; exact .inr ⟨hc, h⟩

theorem point_ok {p : Int} (h0 : 0 ≤ p) (h1 : p ≤ 1114111) : TkOk (point p) := by
  constructor <;> simp [point] <;> omega
theorem look_ok {k : Int} (h0 : 3 ≤ k) (h1 : k ≤ 8) : TkOk (look k) := by
  constructor <;> simp [look] <;> omega
theorem again_ok {n : Int} (h0 : -1000 ≤ n) (h1 : n ≤ 999) : TkOk (again n) := by
  constructor <;> simp [again] <;> omega
theorem repeat_ok (d least most : Int) (s : List Int) (h0 : 0 ≤ least) (h1 : least ≤ 100) (h2 : most = -1 ∨ least ≤ most) (h3 : most ≤ 100) : TkOk (repeat_ d least most s).1 := by
  unfold repeat_
  repeat' split
  all_goals (constructor <;> simp <;> omega)
theorem interval_ok {d : Int} {s s' : List Int} {o : Option Tk} (h : interval d s = .ok (o, s')) : ∀ t, o = some t → TkOk t := by
  unfold interval at h
  intro t ht
  subst ht
  split at h
  · cases h
  · rename_i a b s3 hl
    have hab : Digits a ∧ Digits b := by
      unfold intervalL at hl
      split at hl
      · cases hl
        refine ⟨(run_digits _ _).1, ?_⟩
        unfold ivB
        split <;> exact (run_digits _ _).1
      · cases hl
    have ha := decimal_bd hab.1
    have hb := decimal_bd hab.2
    have key : ∀ m : Int, (if 0 ≤ m ∧ m < decimal a then (.error 3 : Rd (Option Tk)) else if 100 < max (decimal a) m then .error 2 else .ok (some (repeat_ d (decimal a) m s3).1, (repeat_ d (decimal a) m s3).2)) = .ok (some t, s') → (m = -1 ∨ 0 ≤ m) → TkOk t := by
      intro m h hm
      by_cases h1 : 0 ≤ m ∧ m < decimal a
      · rw [if_pos h1] at h; cases h
      rw [if_neg h1] at h
      by_cases h2 : 100 < max (decimal a) m
      · rw [if_pos h2] at h; cases h
      rw [if_neg h2] at h
      cases h
      exact repeat_ok _ _ _ _ (by omega) (by omega) (by omega) (by omega)
    by_cases hb0 : b = []
    · simp only [if_pos hb0] at h
      exact key _ h (.inl rfl)
    · simp only [if_neg hb0] at h
      exact key _ h (.inr (by omega))
theorem brace_ok {d p : Int} {s s' : List Int} {t : Tk} (hp : 0 ≤ p ∧ p ≤ 1114111) (h : brace d p s = .ok (t, s')) : TkOk t := by
  unfold brace at h
  cases hi : interval d s with
  | error e => rw [hi] at h; cases h
  | ok os =>
    obtain ⟨o, s1⟩ := os
    rw [hi] at h
    cases o with
    | some t1 => simp only [Except.ok.injEq, Prod.mk.injEq] at h; rw [← h.1]; exact interval_ok hi t1 rfl
    | none =>
      simp only at h
      split at h
      · cases h; exact point_ok hp.1 hp.2
      · cases h
theorem open_ok {d : Int} {s s' : List Int} {t : Tk} (h : openT d s = .ok (t, s')) : TkOk t := by
  unfold openT at h
  rcases ite_or h with ⟨hc, h⟩ | ⟨hc, h⟩
  · cases h; constructor <;> simp
  rcases ite_or h with ⟨hc, h⟩ | ⟨hc, h⟩
  · cases h; constructor <;> simp
  simp only at h
  rcases ite_or h with ⟨hc, h⟩ | ⟨hc, h⟩
  · cases h; constructor <;> simp
  rcases ite_or h with ⟨hc, h⟩ | ⟨hc, h⟩
  · cases h; constructor <;> simp
  rcases ite_or h with ⟨hc, h⟩ | ⟨hc, h⟩
  · cases h; constructor <;> simp
  rcases ite_or h with ⟨hc, h⟩ | ⟨hc, h⟩
  · cases h; constructor <;> simp
  rcases ite_or h with ⟨hc, h⟩ | ⟨hc, h⟩
  · rcases ite_or h with ⟨hc, h⟩ | ⟨hc, h⟩
    · cases h; constructor <;> simp
    rcases ite_or h with ⟨hc, h⟩ | ⟨hc, h⟩
    · cases h; constructor <;> simp
    rcases ite_or h with ⟨hc, h⟩ | ⟨hc, h⟩
    · cases h
    rcases ite_or h with ⟨hc, h⟩ | ⟨hc, h⟩
    · cases h
      constructor <;> simp
      exact .inr ⟨_, nameL_ok (by assumption), rfl⟩
    · cases h
  rcases ite_or h with ⟨hc, h⟩ | ⟨hc, h⟩
  · cases h
  rcases ite_or h with ⟨hc, h⟩ | ⟨hc, h⟩
  · cases h; constructor <;> simp
  rcases ite_or h with ⟨hc, h⟩ | ⟨hc, h⟩
  · cases h; constructor <;> simp
  · cases h
theorem class_ok {p : Int} {t : Tk} (h : classT p = some t) : TkOk t := by
  unfold classT at h
  repeat' split at h
  all_goals first | (cases h; done) | (cases h; constructor <;> simp)
theorem scalar_ok {p : Int} {s s' : List Int} {t : Tk} (h : scalar p s = .ok (t, s')) : TkOk t := by
  have he : ∀ (n : Nat) (u v : List Int), scalarEnd (run isHex n u).1 v = .ok (t, s') → TkOk t := by
    intro n u v h
    unfold scalarEnd at h
    split at h
    · cases h
    split at h
    · cases h
    · cases h
      have := number16_bd (run_hexes n u).1
      exact point_ok (by omega) (by omega)
  unfold scalar at h
  split at h
  · split at h
    · cases h
    · exact he _ _ _ h
  split at h
  · split at h
    · exact he _ _ _ h
    · cases h
  · exact he _ _ _ h
theorem named_ok {s s' : List Int} {t : Tk} (h : named s = .ok (t, s')) : TkOk t := by
  unfold named at h
  split at h
  · cases h
  simp only at h
  by_cases h0 : (nameL s.tail).1 = []
  · rw [if_pos h0] at h
    have key : ∀ (u : List Int) (n : Int), (n = decimal (run isDigit 3 u).1 ∨ n = - decimal (run isDigit 3 u).1) → -1000 ≤ n ∧ n ≤ 999 := by
      intro u n hn
      have hb := decimal_bd (run_digits 3 u).1
      have hl := (run_digits 3 u).2
      have hp : (10 : Int) ^ (run isDigit 3 u).1.length ≤ 1000 := by
        generalize (run isDigit 3 u).1.length = m at hl
        have : m = 0 ∨ m = 1 ∨ m = 2 ∨ m = 3 := by omega
        rcases this with rfl | rfl | rfl | rfl <;> decide
      omega
    generalize hu : (if hd s.tail = 45 then s.tail.tail else s.tail) = u at h
    generalize hn : (if (hd s.tail == 45) = true then - decimal (run isDigit 3 u).1 else decimal (run isDigit 3 u).1) = n at h
    have hb := key u n (by rw [← hn]; split; exact .inr rfl; exact .inl rfl)
    by_cases h1 : (run isDigit 3 u).1 = []
    · rw [if_pos h1] at h; cases h
    rw [if_neg h1] at h
    by_cases h2 : hd (run isDigit 3 u).2 ≠ 62
    · rw [if_pos h2] at h; cases h
    rw [if_neg h2] at h
    by_cases h3 : n = 0
    · rw [if_pos h3] at h; cases h
    rw [if_neg h3] at h
    cases h
    constructor <;> simp <;> omega
  · rw [if_neg h0] at h
    by_cases h1 : hd (nameL s.tail).2 ≠ 62
    · rw [if_pos h1] at h; cases h
    rw [if_neg h1] at h
    cases h
    constructor <;> simp
theorem emacs_ok {p : Int} {s s' : List Int} {t : Tk} (hp : 0 ≤ p ∧ p ≤ 1114111) (h : emacs p s = .ok (t, s')) : TkOk t := by
  unfold emacs at h
  rcases ite_or h with ⟨hc, h⟩ | ⟨hc, h⟩
  · exact open_ok h
  rcases ite_or h with ⟨hc, h⟩ | ⟨hc, h⟩
  · cases h; constructor <;> simp
  rcases ite_or h with ⟨hc, h⟩ | ⟨hc, h⟩
  · cases h; constructor <;> simp
  rcases ite_or h with ⟨hc, h⟩ | ⟨hc, h⟩
  · rename_i e; exact brace_ok hp h
  rcases ite_or h with ⟨hc, h⟩ | ⟨hc, h⟩
  · cases h; constructor <;> simp
  rcases ite_or h with ⟨hc, h⟩ | ⟨hc, h⟩
  · cases h; constructor <;> simp
  rcases ite_or h with ⟨hc, h⟩ | ⟨hc, h⟩
  · cases h; exact look_ok (by decide) (by decide)
  rcases ite_or h with ⟨hc, h⟩ | ⟨hc, h⟩
  · cases h; exact look_ok (by decide) (by decide)
  rcases ite_or h with ⟨hc, h⟩ | ⟨hc, h⟩
  · cases h; exact look_ok (by decide) (by decide)
  rcases ite_or h with ⟨hc, h⟩ | ⟨hc, h⟩
  · cases h; exact look_ok (by decide) (by decide)
  rcases ite_or h with ⟨hc, h⟩ | ⟨hc, h⟩
  · cases h; exact again_ok (by omega) (by omega)
  · cases h; exact point_ok hp.1 hp.2
theorem escaped_ok {d : Int} {s s' : List Int} {t : Tk} (hp : Points s) (h : escaped d s = .ok (t, s')) : TkOk t := by
  cases s with
  | nil => cases h
  | cons p s =>
    have hp0 := hp p (by simp)
    simp only [escaped] at h
    split at h
    · cases h; exact point_ok hp0.1 hp0.2
    split at h
    · exact emacs_ok hp0 h
    split at h
    · rename_i t1 hc; cases h; exact class_ok hc
    split at h
    · rename_i k hk
      cases h
      unfold lookOf at hk
      repeat' split at hk
      all_goals first | (cases hk; done) | (cases hk; exact look_ok (by decide) (by decide))
    split at h
    · rename_i q hq
      cases h
      unfold ctrlOf at hq
      repeat' split at hq
      all_goals first | (cases hq; done) | (cases hq; exact point_ok (by decide) (by decide))
    split at h
    · exact scalar_ok h
    split at h
    · exact named_ok h
    split at h
    · cases h
      have hb := decimal_bd (run_digits 2 (p :: s)).1
      have hl := (run_digits 2 (p :: s)).2
      have hp : (10 : Int) ^ (run isDigit 2 (p :: s)).1.length ≤ 100 := by
        generalize (run isDigit 2 (p :: s)).1.length = n at hl
        have : n = 0 ∨ n = 1 ∨ n = 2 := by omega
        rcases this with rfl | rfl | rfl <;> decide
      exact again_ok (by omega) (by omega)
    split at h
    · cases h
    · cases h; exact point_ok hp0.1 hp0.2
theorem token_ok {d p : Int} {s s' : List Int} {t : Tk} (hp : Points (p :: s)) (h : token d (p :: s) = .ok (t, s')) : TkOk t := by
  have hp0 := hp p (by simp)
  simp only [token] at h
  rcases ite_or h with ⟨hc, h⟩ | ⟨hc, h⟩
  · cases h; constructor <;> simp
  rcases ite_or h with ⟨hc, h⟩ | ⟨hc, h⟩
  · cases h; exact look_ok (by decide) (by decide)
  rcases ite_or h with ⟨hc, h⟩ | ⟨hc, h⟩
  · cases h; exact look_ok (by decide) (by decide)
  rcases ite_or h with ⟨hc, h⟩ | ⟨hc, h⟩
  · cases h; constructor <;> simp
  rcases ite_or h with ⟨hc, h⟩ | ⟨hc, h⟩
  · simp only [Except.ok.injEq, Prod.ext_iff] at h; rw [← h.1]; exact repeat_ok _ _ _ _ (by decide) (by decide) (.inl rfl) (by decide)
  rcases ite_or h with ⟨hc, h⟩ | ⟨hc, h⟩
  · simp only [Except.ok.injEq, Prod.ext_iff] at h; rw [← h.1]; exact repeat_ok _ _ _ _ (by decide) (by decide) (.inl rfl) (by decide)
  rcases ite_or h with ⟨hc, h⟩ | ⟨hc, h⟩
  · simp only [Except.ok.injEq, Prod.ext_iff] at h; rw [← h.1]; exact repeat_ok _ _ _ _ (by decide) (by decide) (.inr (by decide)) (by decide)
  rcases ite_or h with ⟨hc, h⟩ | ⟨hc, h⟩
  · exact escaped_ok (fun x hx => hp x (by simp [hx])) h
  rcases ite_or h with ⟨hc, h⟩ | ⟨hc, h⟩
  · cases h; exact point_ok hp0.1 hp0.2
  rcases ite_or h with ⟨hc, h⟩ | ⟨hc, h⟩
  · exact open_ok h
  rcases ite_or h with ⟨hc, h⟩ | ⟨hc, h⟩
  · cases h; constructor <;> simp
  rcases ite_or h with ⟨hc, h⟩ | ⟨hc, h⟩
  · cases h; constructor <;> simp
  rcases ite_or h with ⟨hc, h⟩ | ⟨hc, h⟩
  · exact brace_ok hp0 h
  · cases h; exact point_ok hp0.1 hp0.2

end Go.Proofs.Th
