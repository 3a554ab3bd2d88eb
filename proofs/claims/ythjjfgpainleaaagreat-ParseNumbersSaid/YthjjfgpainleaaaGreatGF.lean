/- Patterns, as plain functions: the parser of the program. Sets of points as rows of ranges, as plain functions; what is canonical is one alone. Letters and classes, as plain functions. Bracket expressions, as plain functions. -/
import Derived.Test.YthjjfgpainleaaaGreatGA

set_option linter.unusedSimpArgs false
set_option linter.unusedVariables false

namespace Go.Proofs.Th

/-- A node of a pattern's tree. -/
inductive Nd where
  | mk (kind : Int) (set : List (Int × Int)) (kids : List Nd) (number least most way : Int) (fold : Bool)

namespace Nd
def kind : Nd → Int | mk k _ _ _ _ _ _ _ => k
def set : Nd → List (Int × Int) | mk _ s _ _ _ _ _ _ => s
def kids : Nd → List Nd | mk _ _ k _ _ _ _ _ => k
def number : Nd → Int | mk _ _ _ n _ _ _ _ => n
def least : Nd → Int | mk _ _ _ _ l _ _ _ => l
def most : Nd → Int | mk _ _ _ _ _ m _ _ => m
def way : Nd → Int | mk _ _ _ _ _ _ w _ => w
def fold : Nd → Bool | mk _ _ _ _ _ _ _ f => f
end Nd

abbrev Rngs := List (Int × Int)
/-- What is asked of the layers below: classes, sets, brackets. -/
structure Below where
  /-- the set of a class -/
  cls : ByteArray → Option Rngs
  /-- what is not in a set -/
  not : Rngs → Option Rngs
  /-- all whose orbits have one -/
  fold : Rngs → Option Rngs
  /-- a bracket expression behind its [: dialect, how long the pattern is, what is left, folded -/
  brk : Int → Int → List Int → Bool → Option (Except (Int × Int) (Rngs × List Int))

/-- Where the parser stands. -/
structure Pst where
  s : List Int
  folded : Bool
  deep : Nat
  groups : Nat
  names : List (ByteArray × Int)
  agains : List (Int × Int × ByteArray)

abbrev Flt := Int × Int
/-- None: the fuel is burnt, or a layer below is asked what it does not tell. -/
abbrev Pr (α : Type) := Option (Except Flt α)

def pointsN (l : Rngs) : Nd := .mk 2 l [] 0 0 0 0 false
def emptyN : Nd := .mk 1 [] [] 0 0 0 0 false
def kindN (k : Int) : Nd := .mk k [] [] 0 0 0 0 false

def flatRow (l : List Nd) : List Nd := l.flatMap fun n => if n.kind = 1 then [] else if n.kind = 9 then n.kids else [n]
def rowN (l : List Nd) : Nd :=
  match flatRow l with
  | [] => emptyN
  | [n] => n
  | ns => .mk 9 [] ns 0 0 0 0 false
def flatEither (l : List Nd) : List Nd := l.flatMap fun n => if n.kind = 10 then n.kids else [n]
def eitherN (l : List Nd) : Nd :=
  match l with
  | [n] => n
  | l => .mk 10 [] (flatEither l) 0 0 0 0 false

/-- The place of what is left. -/
def posOf (n : Int) (s : List Int) : Int := n - s.length

/-- The token that comes next; none: there is none. -/
def nextL (d n : Int) (s : List Int) : Except Flt (Option (Tk × List Int)) :=
  if s = [] then .ok none
  else match token d s with
    | .error e => .error (e, posOf n s)
    | .ok (t, s') => .ok (some (t, s'))

def setN (b : Below) (folded : Bool) (l : Rngs) : Option Nd := if folded then (b.fold l).map pointsN else some (pointsN l)

section
variable (b : Below) (d n : Int)

mutual
def patternP : Nat → Pst → Pr (Nd × Pst)
  | 0, _ => none
  | k + 1, σ =>
    match branchP k σ [] false 0 with
    | none => none
    | some (.error f) => some (.error f)
    | some (.ok (x, σ1)) =>
      match branchesP k σ1 [x] with
      | none => none
      | some (.error f) => some (.error f)
      | some (.ok (y, σ2)) => some (.ok (y, { σ2 with folded := σ.folded }))
def branchesP : Nat → Pst → List Nd → Pr (Nd × Pst)
  | 0, _, _ => none
  | k + 1, σ, acc =>
    match nextL d n σ.s with
    | .error f => some (.error f)
    | .ok none => some (.ok (eitherN acc, σ))
    | .ok (some (t, s')) =>
      if t.kind ≠ 9 then some (.ok (eitherN acc, σ))
      else match branchP k { σ with s := s' } [] false 0 with
        | none => none
        | some (.error f) => some (.error f)
        | some (.ok (x, σ1)) => branchesP k σ1 (acc ++ [x])
def branchP : Nat → Pst → List Nd → Bool → Int → Pr (Nd × Pst)
  | 0, _, _, _, _ => none
  | k + 1, σ, l, can, times =>
    match nextL d n σ.s with
    | .error f => some (.error f)
    | .ok none => some (.ok (rowN l, σ))
    | .ok (some (t, s')) =>
      if t.kind = 9 ∨ t.kind = 8 then some (.ok (rowN l, σ))
      else if t.kind = 6 then
        if can = false then some (.error (1, posOf n σ.s))
        else if 4 < times + 1 then some (.error (2, posOf n σ.s))
        else match l.getLast? with
          | none => none
          | some x => branchP k { σ with s := s' } (l.dropLast ++ [.mk 12 [] [x] 0 t.least t.most t.way false]) can (times + 1)
      else match atomP k t s' σ with
        | none => none
        | some (.error f) => some (.error f)
        | some (.ok (x, σ1)) => branchP k σ1 (l ++ [x]) (t.kind != 11) 0
def atomP : Nat → Tk → List Int → Pst → Pr (Nd × Pst)
  | 0, _, _, _ => none
  | k + 1, t, s', σ =>
    let σ1 := { σ with s := s' }
    if t.kind = 1 then (setN b σ.folded [(t.number, t.number)]).map fun x => .ok (x, σ1)
    else if t.kind = 2 then some (.ok (pointsN [(0, 9), (11, 1114111)], σ1))
    else if t.kind = 3 then some (.ok (kindN t.number, σ1))
    else if t.kind = 4 then
      match b.cls t.text with
      | none => none
      | some l =>
        match (if σ.folded then b.fold l else some l) with
        | none => none
        | some l1 => (if t.not then b.not l1 else some l1).map fun l2 => .ok (pointsN l2, σ1)
    else if t.kind = 5 then
      match b.brk d n s' σ.folded with
      | none => none
      | some (.error f) => some (.error (if f.1 = 2 ∧ f.2 = 0 then (2, posOf n σ.s) else f))
      | some (.ok (l, s2)) => some (.ok (pointsN l, { σ with s := s2 }))
    else if t.kind = 11 then some (.ok (emptyN, { σ1 with folded := decide (0 < t.fold) }))
    else if t.kind = 10 then
      let m := if t.number < 0 then t.number + (σ.groups + 1) else t.number
      if t.number < 0 ∧ m < 1 then some (.error (5, posOf n σ.s))
      else some (.ok (.mk 18 [] [] (σ.agains.length + 1) 0 0 0 σ.folded, { σ1 with agains := σ.agains ++ [(posOf n σ.s, m, t.text)] }))
    else if t.kind = 7 then openP k t (posOf n σ.s) σ1
    else some (.error (1, posOf n σ.s))
def openP : Nat → Tk → Int → Pst → Pr (Nd × Pst)
  | 0, _, _, _ => none
  | k + 1, t, from_, σ =>
    if σ.deep = 20 then some (.error (2, from_))
    else if t.number = 11 ∧ σ.groups = 20 then some (.error (2, from_))
    else if t.number = 11 ∧ t.text ≠ ⟨#[]⟩ ∧ σ.names.any (fun x => x.1 == t.text) then some (.error (6, from_))
    else
      let σ1 := if t.number = 11 then { σ with groups := σ.groups + 1, names := if t.text ≠ ⟨#[]⟩ then σ.names ++ [(t.text, (σ.groups : Int) + 1)] else σ.names } else σ
      let σ2 := { σ1 with folded := if t.fold ≠ 0 then decide (0 < t.fold) else σ.folded, deep := σ.deep + 1 }
      match patternP k σ2 with
      | none => none
      | some (.error f) => some (.error f)
      | some (.ok (x, σ3)) =>
        match nextL d n σ3.s with
        | .error f => some (.error f)
        | .ok none => some (.error (1, posOf n σ3.s))
        | .ok (some (t2, s2)) =>
          if t2.kind ≠ 8 then some (.error (1, posOf n σ3.s))
          else
            let σ4 := { σ3 with s := s2, deep := σ.deep, folded := σ.folded }
            if t.number = 1 then some (.ok (x, σ4))
            else some (.ok (.mk t.number [] [x] (if t.number = 11 then (σ.groups : Int) + 1 else 0) 0 0 0 false, σ4))
end
end

/-- The group that is spoken of. -/
def settle1 (σ : Pst) (a : Int × Int × ByteArray) : Except Flt Int :=
  let r : Option Int := if a.2.2 ≠ ⟨#[]⟩ then (σ.names.find? (fun x => x.1 == a.2.2)).map (·.2) else some a.2.1
  match r with
  | none => .error (5, a.1)
  | some m => if (σ.groups : Int) < m then .error (5, a.1) else .ok m
def settleL (σ : Pst) : List (Int × Int × ByteArray) → Except Flt (List Int)
  | [] => .ok []
  | a :: l =>
    match settle1 σ a with
    | .error f => .error f
    | .ok m => match settleL σ l with
      | .error f => .error f
      | .ok ms => .ok (m :: ms)

mutual
def putN (ns : List Int) : Nd → Nd
  | .mk k s kids number l m w f => .mk k s (putNs ns kids) (if k = 18 then ns.getD (number - 1).toNat 0 else number) l m w f
def putNs (ns : List Int) : List Nd → List Nd
  | [] => []
  | x :: xs => putN ns x :: putNs ns xs
end
mutual
def countN : Nd → Nat
  | .mk _ _ kids _ _ _ _ _ => 1 + countNs kids
def countNs : List Nd → Nat
  | [] => 0
  | x :: xs => countN x + countNs xs
end

/-- A pattern. -/
structure Pat where
  tree : Nd
  groups : Nat
  names : List (ByteArray × Int)

def parseP (b : Below) (fuel : Nat) (d : Int) (L : List Int) (folded : Bool) : Pr Pat :=
  match patternP b d L.length fuel { s := L, folded := folded, deep := 0, groups := 0, names := [], agains := [] } with
  | none => none
  | some (.error f) => some (.error f)
  | some (.ok (x, σ)) =>
    if σ.s ≠ [] then some (.error (1, posOf L.length σ.s))
    else match settleL σ σ.agains with
      | .error f => some (.error f)
      | .ok ns => if 1000 < countN x then some (.error (2, 0)) else some (.ok ⟨putN ns x, σ.groups, σ.names⟩)

/-- A world below that is never asked. -/
def nought : Below := { cls := fun _ => none, not := fun _ => none, fold := fun _ => none, brk := fun _ _ _ _ => none }

end Go.Proofs.Th

namespace Go.Proofs.Th

/-- A point of some ranges. -/
def Pin (p : Int) (l : Rngs) : Prop := ∃ r ∈ l, r.1 ≤ p ∧ p ≤ r.2
/-- Ranges that rise, with a gap between them. -/
def Canon : Rngs → Prop
  | [] => True
  | [r] => r.1 ≤ r.2
  | r :: t :: l => r.1 ≤ r.2 ∧ r.2 + 1 < t.1 ∧ Canon (t :: l)
/-- Ranges that are right by themselves. -/
def Valid (l : Rngs) : Prop := ∀ r ∈ l, 0 ≤ r.1 ∧ r.1 ≤ r.2 ∧ r.2 ≤ 1114111
def Rising (l : Rngs) : Prop := l.Pairwise fun a b => a.1 ≤ b.1

theorem Pin.cons {p : Int} {r : Int × Int} {l : Rngs} : Pin p (r :: l) ↔ (r.1 ≤ p ∧ p ≤ r.2) ∨ Pin p l := by simp [Pin]
theorem Pin.append {p : Int} {l m : Rngs} : Pin p (l ++ m) ↔ Pin p l ∨ Pin p m := by
  simp only [Pin, List.mem_append]
  constructor
  · rintro ⟨r, h | h, h2⟩
    · exact .inl ⟨r, h, h2⟩
    · exact .inr ⟨r, h, h2⟩
  · rintro (⟨r, h, h2⟩ | ⟨r, h, h2⟩)
    · exact ⟨r, .inl h, h2⟩
    · exact ⟨r, .inr h, h2⟩
@[simp] theorem Pin.nil {p : Int} : ¬ Pin p [] := by simp [Pin]

theorem Canon.tail {r : Int × Int} {l : Rngs} (h : Canon (r :: l)) : Canon l := by
  cases l with
  | nil => trivial
  | cons t l => exact h.2.2
theorem Canon.head {r : Int × Int} {l : Rngs} (h : Canon (r :: l)) : r.1 ≤ r.2 := by
  cases l with
  | nil => exact h
  | cons t l => exact h.1
/-- What stands behind a range lies above it, with a gap. -/
theorem Canon.above {r : Int × Int} {l : Rngs} (h : Canon (r :: l)) : ∀ t ∈ l, r.2 + 1 < t.1 := by
  induction l generalizing r with
  | nil => simp
  | cons t l ih =>
    intro u hu
    rcases List.mem_cons.1 hu with rfl | hu
    · exact h.2.1
    · have h1 := ih h.2.2 u hu
      have h2 := h.2.2.head
      have h3 := h.2.1
      omega
theorem Canon.above_pin {r : Int × Int} {l : Rngs} (h : Canon (r :: l)) {p : Int} (hp : Pin p l) : r.2 + 1 < p := by
  obtain ⟨t, ht, h1, h2⟩ := hp
  have := h.above t ht
  omega
theorem Canon.cons {r : Int × Int} {l : Rngs} (h1 : r.1 ≤ r.2) (h2 : ∀ t ∈ l, r.2 + 1 < t.1) (h3 : Canon l) : Canon (r :: l) := by
  cases l with
  | nil => exact h1
  | cons t l => exact ⟨h1, h2 t (by simp), h3⟩

/-- A row that is canonical is told by its points. -/
theorem canon_ext {a b : Rngs} (ha : Canon a) (hb : Canon b) (h : ∀ p, Pin p a ↔ Pin p b) : a = b := by
  induction a generalizing b with
  | nil =>
    cases b with
    | nil => rfl
    | cons t b => exact absurd ((h t.1).2 (Pin.cons.2 (.inl ⟨Int.le_refl _, hb.head⟩))) Pin.nil
  | cons r a ih =>
    cases b with
    | nil => exact absurd ((h r.1).1 (Pin.cons.2 (.inl ⟨Int.le_refl _, ha.head⟩))) Pin.nil
    | cons t b =>
      have hr := ha.head
      have ht := hb.head
      have e1 : r.1 = t.1 := by
        have h1 := (h r.1).1 (Pin.cons.2 (.inl ⟨Int.le_refl _, hr⟩))
        have h2 := (h t.1).2 (Pin.cons.2 (.inl ⟨Int.le_refl _, ht⟩))
        rcases Pin.cons.1 h1 with h1 | h1
        · rcases Pin.cons.1 h2 with h2 | h2
          · omega
          · have := ha.above_pin h2; omega
        · have x1 := hb.above_pin h1
          rcases Pin.cons.1 h2 with h2 | h2
          · omega
          · have := ha.above_pin h2; omega
      have e2 : r.2 = t.2 := by
        rcases Int.lt_trichotomy r.2 t.2 with hlt | he | hlt
        · have h2 := (h (r.2 + 1)).2 (Pin.cons.2 (.inl ⟨by omega, by omega⟩))
          rcases Pin.cons.1 h2 with h2 | h2
          · omega
          · have := ha.above_pin h2; omega
        · exact he
        · have h2 := (h (t.2 + 1)).1 (Pin.cons.2 (.inl ⟨by omega, by omega⟩))
          rcases Pin.cons.1 h2 with h2 | h2
          · omega
          · have := hb.above_pin h2; omega
      have e : r = t := Prod.ext e1 e2
      subst e
      congr 1
      refine ih ha.tail hb.tail fun p => ?_
      constructor
      · intro hp
        have x := ha.above_pin hp
        rcases Pin.cons.1 ((h p).1 (Pin.cons.2 (.inr hp))) with h1 | h1
        · omega
        · exact h1
      · intro hp
        have x := hb.above_pin hp
        rcases Pin.cons.1 ((h p).2 (Pin.cons.2 (.inr hp))) with h1 | h1
        · omega
        · exact h1

/-- One range more at the end of a row: it is put into the last one, if they touch. -/
def push (out : Rngs) (r : Int × Int) : Rngs :=
  match out.getLast? with
  | none => [r]
  | some t => if r.1 ≤ t.2 + 1 then out.dropLast ++ [(t.1, max t.2 r.2)] else out ++ [r]
def mergeL (l : Rngs) : Rngs := l.foldl push []

/-- What the program's loop keeps: ranges that rise so far, all at most at what comes. -/
theorem push_pin {out : Rngs} {r : Int × Int} (hc : Canon out) (hr : r.1 ≤ r.2) (hle : ∀ t ∈ out, t.1 ≤ r.1) :
    Canon (push out r) ∧ (∀ p, Pin p (push out r) ↔ Pin p out ∨ (r.1 ≤ p ∧ p ≤ r.2)) ∧ ∀ t ∈ push out r, t.1 ≤ r.1 := by
  unfold push
  cases hl : out.getLast? with
  | none =>
    rw [List.getLast?_eq_none_iff] at hl
    subst hl
    exact ⟨hr, fun p => by simp [Pin], by simp⟩
  | some t =>
    obtain ⟨m, rfl⟩ : ∃ m, out = m ++ [t] := by
      rw [List.getLast?_eq_some_iff] at hl
      exact hl
    have htr := hle t (by simp)
    simp only [List.dropLast_concat]
    have hmt : ∀ m : Rngs, Canon (m ++ [t]) → ∀ u : Int × Int, u.1 = t.1 → t.2 ≤ u.2 → Canon (m ++ [u]) := by
      intro m
      induction m with
      | nil => intro h u e1 e2; have h : t.1 ≤ t.2 := h; show u.1 ≤ u.2; omega
      | cons x m ih =>
        intro h u e1 e2
        refine Canon.cons (Canon.head h) ?_ (ih h.tail u e1 e2)
        intro y hy
        rcases List.mem_append.1 hy with hy | hy
        · exact Canon.above h y (by simp [hy])
        · simp at hy; subst hy; rw [e1]; exact Canon.above h t (by simp)
    have hlast : t.1 ≤ t.2 := by
      have : ∀ m : Rngs, Canon (m ++ [t]) → t.1 ≤ t.2 := by
        intro m
        induction m with
        | nil => exact fun h => h
        | cons x m ih => exact fun h => ih h.tail
      exact this m hc
    split
    · rename_i hif
      refine ⟨hmt m hc _ rfl (by simp; omega), fun p => ?_, ?_⟩
      · simp only [Pin.append, Pin.cons, Pin.nil, or_false]
        constructor
        · rintro (h | ⟨h1, h2⟩)
          · exact .inl (.inl h)
          · by_cases hp : p ≤ t.2
            · exact .inl (.inr ⟨h1, hp⟩)
            · exact .inr ⟨by omega, by omega⟩
        · rintro ((h | ⟨h1, h2⟩) | ⟨h1, h2⟩)
          · exact .inl h
          · exact .inr ⟨h1, by omega⟩
          · exact .inr ⟨by omega, by omega⟩
      · intro u hu
        rcases List.mem_append.1 hu with hu | hu
        · exact hle u (by simp [hu])
        · simp at hu; subst hu; exact htr
    · rename_i hif
      refine ⟨?_, fun p => ?_, ?_⟩
      · have : ∀ m : Rngs, Canon (m ++ [t]) → Canon (m ++ [t] ++ [r]) := by
          intro m
          induction m with
          | nil => intro h; exact ⟨hlast, by omega, hr⟩
          | cons x m ih =>
            intro h
            refine Canon.cons (Canon.head h) ?_ (ih h.tail)
            intro y hy
            rcases List.mem_append.1 hy with hy | hy
            · exact Canon.above h y (by simpa using hy)
            · simp at hy; subst hy
              have := Canon.above h t (by simp)
              omega
        exact this m hc
      · simp only [Pin.append, Pin.cons, Pin.nil, or_false, or_assoc]
      · intro u hu
        rcases List.mem_append.1 hu with hu | hu
        · exact hle u hu
        · simp at hu; subst hu; omega

theorem mergeL_pin {l : Rngs} (hs : Rising l) (hv : ∀ r ∈ l, r.1 ≤ r.2) : Canon (mergeL l) ∧ ∀ p, Pin p (mergeL l) ↔ Pin p l := by
  suffices ∀ (l out : Rngs), Rising l → (∀ r ∈ l, r.1 ≤ r.2) → Canon out → (∀ t ∈ out, ∀ r ∈ l, t.1 ≤ r.1) → Canon (l.foldl push out) ∧ ∀ p, Pin p (l.foldl push out) ↔ Pin p out ∨ Pin p l by
    have h := this l [] hs hv trivial (by simp)
    exact ⟨h.1, fun p => by rw [mergeL, h.2 p]; simp⟩
  intro l
  induction l with
  | nil => intro out _ _ hc _; exact ⟨hc, fun p => by simp⟩
  | cons r l ih =>
    intro out hs hv hc hle
    have h1 := push_pin hc (hv r (by simp)) (fun t ht => hle t ht r (by simp))
    have hs' := List.pairwise_cons.1 hs
    have h2 := ih (push out r) hs'.2 (fun x hx => hv x (by simp [hx])) h1.1 (fun t ht x hx => by have := h1.2.2 t ht; have := hs'.1 x hx; omega)
    refine ⟨h2.1, fun p => ?_⟩
    rw [List.foldl_cons, h2.2 p, h1.2.1 p, Pin.cons]
    constructor
    · rintro ((h | h) | h)
      · exact .inl h
      · exact .inr (.inl h)
      · exact .inr (.inr h)
    · rintro (h | h | h)
      · exact .inl (.inl h)
      · exact .inl (.inr h)
      · exact .inr h

/-- In order of where they begin. -/
def ins (r : Int × Int) : Rngs → Rngs
  | [] => [r]
  | t :: l => if r.1 ≤ t.1 then r :: t :: l else t :: ins r l
def isort : Rngs → Rngs
  | [] => []
  | r :: l => ins r (isort l)
theorem ins_mem {r : Int × Int} {l : Rngs} : ∀ x, x ∈ ins r l ↔ x = r ∨ x ∈ l := by
  induction l with
  | nil => intro x; simp [ins]
  | cons t l ih =>
    intro x
    unfold ins
    split
    · simp
    · simp [ih x]
      constructor
      · rintro (h | h | h) <;> simp [h]
      · rintro (h | h | h) <;> simp [h]
theorem isort_mem {l : Rngs} : ∀ x, x ∈ isort l ↔ x ∈ l := by
  induction l with
  | nil => intro x; simp [isort]
  | cons t l ih => intro x; simp [isort, ins_mem, ih x]
theorem ins_rising {r : Int × Int} {l : Rngs} (h : Rising l) : Rising (ins r l) := by
  induction l with
  | nil => simp [ins, Rising]
  | cons t l ih =>
    have h' := List.pairwise_cons.1 h
    unfold ins
    split
    · rename_i hif
      refine List.pairwise_cons.2 ⟨?_, h⟩
      intro x hx
      rcases List.mem_cons.1 hx with rfl | hx
      · exact hif
      · have := h'.1 x hx; omega
    · rename_i hif
      refine List.pairwise_cons.2 ⟨?_, ih h'.2⟩
      intro x hx
      rcases (ins_mem x).1 hx with rfl | hx
      · omega
      · exact h'.1 x hx
theorem isort_rising (l : Rngs) : Rising (isort l) := by
  induction l with
  | nil => simp [isort, Rising]
  | cons t l ih => exact ins_rising ih

/-- The set of ranges, however many. -/
def rawL (l : Rngs) : Rngs := mergeL (isort l)
theorem rawL_pin {l : Rngs} (hv : ∀ r ∈ l, r.1 ≤ r.2) : Canon (rawL l) ∧ ∀ p, Pin p (rawL l) ↔ Pin p l := by
  have h := mergeL_pin (isort_rising l) (fun r hr => hv r ((isort_mem r).1 hr))
  refine ⟨h.1, fun p => (h.2 p).trans ?_⟩
  simp only [Pin, isort_mem]
/-- However equal beginnings are ordered. -/
theorem merge_any {l m : Rngs} (hv : ∀ r ∈ l, r.1 ≤ r.2) (hm : ∀ x, x ∈ m ↔ x ∈ l) (hs : Rising m) : mergeL m = rawL l := by
  have h := mergeL_pin hs (fun r hr => hv r ((hm r).1 hr))
  have h2 := rawL_pin hv
  refine canon_ext h.1 h2.1 fun p => ?_
  rw [h.2 p, h2.2 p]
  simp only [Pin, hm]

/-- What is not in a set. -/
def notGo (next : Int) : Rngs → Rngs
  | [] => if next ≤ 1114111 then [(next, 1114111)] else []
  | r :: l => (if next < r.1 then [(next, r.1 - 1)] else []) ++ notGo (r.2 + 1) l
def notL (l : Rngs) : Rngs := notGo 0 l

/-- What is in both. -/
def meetL : Nat → Rngs → Rngs → Rngs
  | 0, _, _ => []
  | _, [], _ => []
  | _, _, [] => []
  | k + 1, a :: l, b :: m =>
    (if max a.1 b.1 ≤ min a.2 b.2 then [(max a.1 b.1, min a.2 b.2)] else []) ++ (if a.2 < b.2 then meetL k l (b :: m) else meetL k (a :: l) m)
def meetOf (a b : Rngs) : Rngs := meetL (a.length + b.length) a b

/-- Is a point in a set? -/
def hasL (l : Rngs) (p : Int) : Bool := l.any fun r => decide (r.1 ≤ p) && decide (p ≤ r.2)
theorem hasL_iff {l : Rngs} {p : Int} : hasL l p = true ↔ Pin p l := by simp [hasL, Pin]

end Go.Proofs.Th

namespace Go.Proofs.Th

/-- Pairs of points: from some to some, by so much, every so many. -/
def pairsT : List (Int × Int × Int × Int) :=
  [(65, 90, 32, 1), (192, 214, 32, 1), (216, 222, 32, 1), (256, 302, 1, 2), (913, 929, 32, 1), (931, 939, 32, 1),
   (1024, 1039, 80, 1), (1040, 1071, 32, 1), (962, 962, 1, 1), (181, 181, 775, 1), (107, 107, 8383, 1), (229, 229, 8262, 1), (223, 223, 7615, 1)]

def besideOf (p : Int) (t : Int × Int × Int × Int) : List Int :=
  (if t.1 ≤ p ∧ p ≤ t.2.1 ∧ (p - t.1) % t.2.2.2 = 0 then [p + t.2.2.1] else []) ++
  (if t.1 ≤ p - t.2.2.1 ∧ p - t.2.2.1 ≤ t.2.1 ∧ (p - t.2.2.1 - t.1) % t.2.2.2 = 0 then [p - t.2.2.1] else [])
def besideL (p : Int) : List Int := pairsT.flatMap (besideOf p)

def addNew (out : List Int) (q : Int) : List Int := if out.contains q then out else out ++ [q]
/-- The rounds of the program's loop over what grows under it; none: too many. -/
def orbitGo : Nat → Nat → List Int → Option (List Int)
  | 0, i, out => if i < out.length then none else some out
  | k + 1, i, out => if h : i < out.length then orbitGo k (i + 1) ((besideL out[i]).foldl addNew out) else some out
def insI (x : Int) : List Int → List Int
  | [] => [x]
  | y :: l => if x ≤ y then x :: y :: l else y :: insI x l
def isortI : List Int → List Int
  | [] => []
  | x :: l => insI x (isortI l)
def orbitL (p : Int) : Option (List Int) := (orbitGo 10 0 [p]).map isortI

def stepsFrom : Nat → Int → Int → Int → Int → List Int
  | 0, _, _, _, _ => []
  | k + 1, p, hi, by_, step => if p ≤ hi then p :: (p + by_) :: stepsFrom k (p + step) hi by_ step else []
def letters0 : List Int := pairsT.flatMap fun t => stepsFrom 100 t.1 t.2.1 t.2.2.1 t.2.2.2
def compactI : List Int → List Int
  | [] => []
  | [x] => [x]
  | x :: y :: l => if x = y then compactI (y :: l) else x :: compactI (y :: l)
def lettersL : List Int := compactI (isortI letters0)

def oneL (q : Int) : Int × Int := (q, q)
/-- All whose orbits have one. -/
def foldL (a : Rngs) : Rngs := rawL (a ++ lettersL.flatMap fun p => if hasL a p then ((orbitL p).getD []).map oneL else [])

def pairUp : List Int → Rngs
  | a :: b :: l => (a, b) :: pairUp l
  | _ => []
def second (n : Nat) (from_ : Int) : Rngs := (List.range n).map fun (i : Nat) => (from_ + 2 * (i : Int), from_ + 2 * (i : Int))

def digitS : Rngs := [(48, 57), (1632, 1641)]
def alphaS : Rngs := [(65, 90), (97, 122), (170, 170), (181, 181), (186, 186), (192, 214), (216, 246), (248, 591), (913, 929), (931, 974), (1024, 1153), (7838, 7838), (8490, 8491)]
def punctS : Rngs := [(33, 47), (58, 64), (91, 96), (123, 126), (161, 169), (171, 180), (182, 185), (187, 191), (215, 215), (247, 247)]
def upperS : Rngs := [(65, 90), (192, 214), (216, 222), (913, 929), (931, 939), (1024, 1071), (7838, 7838), (8490, 8491)]
def lowerS : Rngs := [(97, 122), (181, 181), (223, 246), (248, 255), (945, 971), (1072, 1119)]

def bs (l : List UInt8) : ByteArray := ⟨l.toArray⟩
def nAny : ByteArray := bs [97, 110, 121]
def nAscii : ByteArray := bs [97, 115, 99, 105, 105]
def nCntrl : ByteArray := bs [99, 110, 116, 114, 108]
def nDigit : ByteArray := bs [100, 105, 103, 105, 116]
def nXdigit : ByteArray := bs [120, 100, 105, 103, 105, 116]
def nBlank : ByteArray := bs [98, 108, 97, 110, 107]
def nSpace : ByteArray := bs [115, 112, 97, 99, 101]
def nPunct : ByteArray := bs [112, 117, 110, 99, 116]
def nAlpha : ByteArray := bs [97, 108, 112, 104, 97]
def nUpper : ByteArray := bs [117, 112, 112, 101, 114]
def nLower : ByteArray := bs [108, 111, 119, 101, 114]
def nAlnum : ByteArray := bs [97, 108, 110, 117, 109]
def nWord : ByteArray := bs [119, 111, 114, 100]
def nGraph : ByteArray := bs [103, 114, 97, 112, 104]

/-- A class by its name. -/
def classL (s : ByteArray) : Option Rngs :=
  if s = nAny then some [(0, 1114111)]
  else if s = nAscii then some [(0, 127)]
  else if s = nCntrl then some [(0, 31), (127, 159)]
  else if s = nDigit then some digitS
  else if s = nXdigit then some [(48, 57), (65, 70), (97, 102)]
  else if s = nBlank then some [(9, 9), (32, 32)]
  else if s = nSpace then some [(9, 13), (32, 32), (133, 133), (160, 160), (8192, 8202), (8232, 8233), (12288, 12288)]
  else if s = nPunct then some punctS
  else if s = nAlpha then some alphaS
  else if s = nUpper then some (rawL (upperS ++ second 24 256))
  else if s = nLower then some (rawL (lowerS ++ second 24 257))
  else if s = nAlnum then some (rawL (alphaS ++ digitS))
  else if s = nWord then some (rawL (rawL (alphaS ++ digitS) ++ [(95, 95)]))
  else if s = nGraph then some (rawL (rawL (alphaS ++ digitS) ++ rawL (punctS ++ punctS)))
  else none

end Go.Proofs.Th

namespace Go.Proofs.Th

abbrev Br (α : Type) := Option (Except Flt (α × List Int))

def isLow (p : Int) : Bool := decide (97 ≤ p) && decide (p ≤ 122)
def lowRun : List Int → List Int × List Int
  | [] => ([], [])
  | x :: t => if isLow x then (x :: (lowRun t).1, (lowRun t).2) else ([], x :: t)

def classedL (s : ByteArray) (not : Bool) : Rngs := if not then notL ((classL s).getD []) else (classL s).getD []

/-- A named class, if one begins here. -/
def namedB (d n : Int) (s : List Int) : Except Flt (Option Rngs × List Int) :=
  if hd s = 91 ∧ hd s.tail = 58 then
    let not := decide (d = 1 ∧ hd s.tail.tail = 94)
    let s3 := if not then s.tail.tail.tail else s.tail.tail
    if (lowRun s3).1 = [] ∨ ¬ (hd (lowRun s3).2 = 58 ∧ hd (lowRun s3).2.tail = 93) then .error (1, posOf n (lowRun s3).2)
    else if classL (bytesOf (lowRun s3).1) = none then .error (5, posOf n s)
    else .ok (some (classedL (bytesOf (lowRun s3).1) not), (lowRun s3).2.tail.tail)
  else .ok (none, s)

section
variable (d n : Int) (folded : Bool)

def foldIf (l : Rngs) : Rngs := if folded then foldL l else l

mutual
/-- An item: its set, and the point that it is (else -1). -/
def oneB : Nat → Nat → List Int → Br (Rngs × Int)
  | 0, _, _ => none
  | k + 1, deep, s =>
    match namedB d n s with
    | .error f => some (.error f)
    | .ok (some l, s1) => some (.ok ((l, -1), s1))
    | .ok (none, _) =>
      if s = [] then some (.error (1, posOf n s))
      else if d = 1 ∧ hd s = 91 then
        if deep = 20 then some (.error (2, posOf n s))
        else match allB k (deep + 1) s.tail with
          | none => none
          | some (.error f) => some (.error f)
          | some (.ok (l, s1)) => some (.ok ((l, -1), s1))
      else if d = 1 ∧ hd s = 92 then
        match token d s with
        | .error e => some (.error (e, posOf n s))
        | .ok (t, s1) =>
          if t.kind = 1 then some (.ok (([(t.number, t.number)], t.number), s1))
          else if t.kind = 4 then some (.ok ((classedL t.text t.not, -1), s1))
          else some (.error (1, posOf n s))
      else some (.ok (([(hd s, hd s)], hd s), s.tail))
def spanB : Nat → Nat → List Int → Br Rngs
  | 0, _, _ => none
  | k + 1, deep, s =>
    match oneB k deep s with
    | none => none
    | some (.error f) => some (.error f)
    | some (.ok ((l, p), s1)) =>
      if hd s1 ≠ 45 ∨ hd s1.tail = 93 ∨ p < 0 then some (.ok (l, s1))
      else if s1.tail = [] then some (.error (1, posOf n s1.tail))
      else if (hd s1.tail = 91 ∧ hd s1.tail.tail = 58) ∨ (d = 1 ∧ hd s1.tail = 91) then some (.error (1, posOf n s1.tail))
      else match oneB k deep s1.tail with
        | none => none
        | some (.error f) => some (.error f)
        | some (.ok ((_, q), s2)) =>
          if q < 0 then some (.error (1, posOf n s1.tail))
          else if q < p then some (.error (3, posOf n s1.tail))
          else some (.ok ([(p, q)], s2))
/-- Items, up to && or the end; first: a ] is none yet; m: is it the first round? -/
def partB : Nat → Nat → Bool → Bool → Rngs → List Int → Br Rngs
  | 0, _, _, _, _, _ => none
  | k + 1, deep, first, more, acc, s =>
    if (more = true ∨ first = false) ∧ hd s = 93 then
      if more = false then some (.error (1, posOf n s)) else some (.ok (rawL acc, s))
    else if d = 1 ∧ hd s = 38 ∧ hd s.tail = 38 then
      if more = false then some (.error (1, posOf n s)) else some (.ok (rawL acc, s))
    else match spanB k deep s with
      | none => none
      | some (.error f) => some (.error f)
      | some (.ok (l, s1)) => partB k deep first true (acc ++ l) s1
def meetsB : Nat → Nat → Rngs → List Int → Br Rngs
  | 0, _, _, _ => none
  | k + 1, deep, out, s =>
    if hd s = 38 ∧ hd s.tail = 38 then
      match partB k deep false false [] s.tail.tail with
      | none => none
      | some (.error f) => some (.error f)
      | some (.ok (l, s1)) => meetsB k deep (meetOf out (foldIf folded l)) s1
    else some (.ok (out, s))
def allB : Nat → Nat → List Int → Br Rngs
  | 0, _, _ => none
  | k + 1, deep, s =>
    match partB k deep true false [] (if hd s = 94 then s.tail else s) with
    | none => none
    | some (.error f) => some (.error f)
    | some (.ok (l, s1)) =>
      match meetsB k deep (foldIf folded l) s1 with
      | none => none
      | some (.error f) => some (.error f)
      | some (.ok (out, s2)) => some (.ok (if hd s = 94 then notL out else out, s2.tail))
end
end

def brkL (d n : Int) (s : List Int) (folded : Bool) : Option (Except Flt (Rngs × List Int)) :=
  match allB d n folded (5 * s.length + 5) 0 s with
  | none => none
  | some (.error f) => some (.error f)
  | some (.ok (l, s1)) => if 400 < l.length then some (.error (2, 0)) else some (.ok (l, s1))

/-- What lies below the parser. -/
def real : Below := { cls := classL, not := fun l => some (notL l), fold := fun l => some (foldL l), brk := brkL }

end Go.Proofs.Th
