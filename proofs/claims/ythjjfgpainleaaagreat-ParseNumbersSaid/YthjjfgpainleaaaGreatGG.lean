/- How many nodes a pattern may have, by its length. Trees of nodes as they lie in the heap. The parser's own cells; what comes next. -/
import Derived.Test.YthjjfgpainleaaaGreatGF
import Derived.Test.YthjjfgpainleaaaGreatGE
import Derived.Deep.AppendLies
import Derived.Deep.RegionHeld3
import Derived.Deep.DrawnRows

set_option linter.unusedSimpArgs false
set_option linter.unusedVariables false

namespace Go.Proofs.Th

/-- What a world below must say of brackets: what they leave is an end of the pattern. -/
def Below.Ends (b : Below) : Prop := ∀ d n s f l s2, b.brk d n s f = some (.ok (l, s2)) → s2 <:+ s

theorem countNs_append (l m : List Nd) : countNs (l ++ m) = countNs l + countNs m := by
  induction l with
  | nil => simp [countNs]
  | cons x l ih => simp [countNs, ih]; omega
theorem countN_pos (x : Nd) : 1 ≤ countN x := by cases x; simp [countN]
theorem countN_kids (x : Nd) : countN x = 1 + countNs x.kids := by cases x; simp [countN, Nd.kids]
theorem length_le_count (l : List Nd) : l.length ≤ countNs l := by
  induction l with
  | nil => simp
  | cons x l ih => have := countN_pos x; simp [countNs]; omega
theorem flatRow_count (l : List Nd) : countNs (flatRow l) ≤ countNs l := by
  induction l with
  | nil => simp [flatRow]
  | cons x l ih =>
    have h : flatRow (x :: l) = (if x.kind = 1 then [] else if x.kind = 9 then x.kids else [x]) ++ flatRow l := by simp [flatRow]
    rw [h, countNs_append]
    have hx := countN_kids x
    have h1 : countNs (if x.kind = 1 then [] else if x.kind = 9 then x.kids else [x]) ≤ countN x := by
      split
      · simp [countNs]
      · split
        · omega
        · simp [countNs]
    simp only [countNs]
    omega
theorem flatEither_count (l : List Nd) : countNs (flatEither l) ≤ countNs l := by
  induction l with
  | nil => simp [flatEither]
  | cons x l ih =>
    have h : flatEither (x :: l) = (if x.kind = 10 then x.kids else [x]) ++ flatEither l := by simp [flatEither]
    rw [h, countNs_append]
    have hx := countN_kids x
    have h1 : countNs (if x.kind = 10 then x.kids else [x]) ≤ countN x := by
      split
      · omega
      · simp [countNs]
    simp only [countNs]
    omega
theorem rowN_count (l : List Nd) : countN (rowN l) ≤ countNs l + 1 := by
  have h := flatRow_count l
  unfold rowN
  split
  · simp [emptyN, countN, countNs]
  · rename_i n e; rw [e] at h; simp [countNs] at h; omega
  · rename_i ns _ _; simp only [countN]; omega
theorem eitherN_count (l : List Nd) : countN (eitherN l) ≤ countNs l + (if l.length = 1 then 0 else 1) := by
  have h := flatEither_count l
  unfold eitherN
  split
  · simp [countNs]
  · rename_i hne
    have : ¬ l.length = 1 := by
      intro e
      match l, e with
      | [x], _ => exact hne x rfl
    rw [if_neg this]
    simp only [countN]
    omega
theorem dropLast_count {l : List Nd} {x : Nd} (h : l.getLast? = some x) : countNs l = countNs l.dropLast + countN x := by
  obtain ⟨m, rfl⟩ : ∃ m, l = m ++ [x] := by
    rw [List.getLast?_eq_some_iff] at h
    exact h
  simp [countNs_append, countNs]

theorem next_len {d n : Int} {s s' : List Int} {t : Tk} (h : nextL d n s = .ok (some (t, s'))) : s'.length + 1 ≤ s.length ∧ s' <:+ s := by
  unfold nextL at h
  cases s with
  | nil => simp at h
  | cons p s =>
    simp only [List.cons_ne_nil, if_false, reduceCtorEq] at h
    cases ht : token d (p :: s) with
    | error e => rw [ht] at h; simp at h
    | ok ts =>
      obtain ⟨t1, s1⟩ := ts
      rw [ht] at h
      simp only [Except.ok.injEq, Option.some.injEq, Prod.mk.injEq] at h
      obtain ⟨rfl, rfl⟩ := h
      have hs := token_suffix ht
      exact ⟨by have := hs.length_le; simpa using this, hs.trans (List.suffix_cons p s)⟩


/-- How great what is parsed may be. -/
structure CountAll (b : Below) (d n : Int) (k : Nat) : Prop where
  pat : ∀ σ x σ', patternP b d n k σ = some (.ok (x, σ')) → countN x + 2 * σ'.s.length ≤ 2 * σ.s.length + 1
  bra : ∀ σ acc x σ', acc ≠ [] → branchesP b d n k σ acc = some (.ok (x, σ')) → countN x + 2 * σ'.s.length ≤ 2 * σ.s.length + countNs acc + (if acc.length = 1 then 0 else 1)
  one : ∀ σ l can times x σ', branchP b d n k σ l can times = some (.ok (x, σ')) → countN x + 2 * σ'.s.length ≤ 2 * σ.s.length + countNs l + 1
  atom : ∀ t s' σ x σ', s'.length + 1 ≤ σ.s.length → atomP b d n k t s' σ = some (.ok (x, σ')) → countN x + 2 * σ'.s.length ≤ 2 * σ.s.length
  open_ : ∀ t f σ x σ', openP b d n k t f σ = some (.ok (x, σ')) → countN x + 2 * σ'.s.length ≤ 2 * σ.s.length + 2

theorem count_all {b : Below} (hb : b.Ends) (d n : Int) (k : Nat) : CountAll b d n k := by
  induction k with
  | zero => constructor <;> intros <;> simp_all [patternP, branchesP, branchP, atomP, openP]
  | succ k ih =>
    constructor
    · intro σ x σ' h
      simp only [patternP] at h
      split at h
      · cases h
      · cases h
      · rename_i x1 σ1 h1
        have c1 := ih.one _ _ _ _ _ _ h1
        split at h
        · cases h
        · cases h
        · rename_i y σ2 h2
          have c2 := ih.bra _ _ _ _ (by simp) h2
          cases h
          simp [countNs] at c1 c2
          simp only
          omega
    · intro σ acc x σ' hne h
      simp only [branchesP] at h
      split at h
      · cases h
      · cases h; have := eitherN_count acc; omega
      · rename_i t s' hn
        have hl := (next_len hn).1
        split at h
        · cases h; have := eitherN_count acc; omega
        · split at h
          · cases h
          · cases h
          · rename_i x1 σ1 h1
            have c1 := ih.one _ _ _ _ _ _ h1
            have c2 := ih.bra _ _ _ _ (by simp) h
            rw [countNs_append] at c2
            have hlen : ¬ (acc ++ [x1]).length = 1 := by
              have := List.length_pos_iff.2 hne
              simp
              omega
            rw [if_neg hlen] at c2
            simp [countNs] at c1 c2
            split <;> omega
    · intro σ l can times x σ' h
      simp only [branchP] at h
      split at h
      · cases h
      · cases h; have := rowN_count l; omega
      · rename_i t s' hn
        have hl := (next_len hn).1
        split at h
        · cases h; have := rowN_count l; omega
        · split at h
          · split at h
            · cases h
            · split at h
              · cases h
              · split at h
                · cases h
                · rename_i y hy
                  have c1 := ih.one _ _ _ _ _ _ h
                  have c2 := dropLast_count hy
                  rw [countNs_append] at c1
                  simp [countNs, countN] at c1
                  omega
          · split at h
            · cases h
            · cases h
            · rename_i y σ1 h1
              have c1 := ih.atom _ _ _ _ _ hl h1
              have c2 := ih.one _ _ _ _ _ _ h
              rw [countNs_append] at c2
              simp [countNs] at c2
              omega
    · intro t s' σ x σ' hl h
      simp only [atomP] at h
      have hset : ∀ l y, setN b σ.folded l = some y → countN y = 1 := by
        intro l y hy
        unfold setN at hy
        split at hy
        · rw [Option.map_eq_some_iff] at hy
          obtain ⟨a, _, rfl⟩ := hy
          simp [pointsN, countN, countNs]
        · cases hy; simp [pointsN, countN, countNs]
      split at h
      · rw [Option.map_eq_some_iff] at h
        obtain ⟨y, hy, h⟩ := h
        cases h
        have := hset _ _ hy
        simp only
        omega
      split at h
      · cases h; simp [pointsN, countN, countNs]; omega
      split at h
      · cases h; simp [kindN, countN, countNs]; omega
      split at h
      · split at h
        · cases h
        · split at h
          · cases h
          · rw [Option.map_eq_some_iff] at h
            obtain ⟨y, hy, h⟩ := h
            cases h
            simp [pointsN, countN, countNs]; omega
      split at h
      · split at h
        · cases h
        · cases h
        · rename_i l s2 h1
          have := (hb _ _ _ _ _ _ h1).length_le
          cases h
          simp [pointsN, countN, countNs]; omega
      split at h
      · cases h; simp [emptyN, countN, countNs]; omega
      split at h
      · split at h
        all_goals
          split at h
          · cases h
          · cases h; simp [countN, countNs]; omega
      split at h
      · have c1 := ih.open_ _ _ _ _ _ h
        simp only at c1
        omega
      · cases h
    · intro t f σ x σ' h
      simp only [openP] at h
      split at h
      · cases h
      split at h
      · cases h
      split at h
      · cases h
      split at h
      · cases h
      · cases h
      · rename_i y σ3 h1
        have c1 := ih.pat _ _ _ h1
        have hs : (if t.number = 11 then ({ σ with groups := σ.groups + 1, names := if t.text ≠ ⟨#[]⟩ then σ.names ++ [(t.text, (σ.groups : Int) + 1)] else σ.names } : Pst) else σ).s = σ.s := by split <;> rfl
        simp only [hs] at c1
        split at h
        · cases h
        · cases h
        · rename_i t2 s2 hn
          have hl := (next_len hn).1
          split at h
          · cases h
          · split at h
            · cases h; simp only; omega
            · cases h; simp only [countN, countNs]; omega

end Go.Proofs.Th

namespace Go.Proofs
namespace Th
open Go.RowKit

def rngCells (l : Rngs) : List Value := l.flatMap fun r => [.int .i64 r.1, .int .i64 r.2]

/-- A slice of n elements, whose cells are xs, in a block that holds nothing else. -/
def SliceV (w : World) (e : TypeId) (size : Nat) (v : Value) (n : Nat) (xs : List Value) (F : List Nat) : Prop :=
  xs.length = n * size ∧ ((v = .slice none 0 0 ∧ n = 0 ∧ F = []) ∨
    ∃ g cap cur, v = .slice (some ⟨g, 0, none⟩) n cap ∧ F = [g] ∧ w.heap[g]? = some (.cells cur e (0, 0)) ∧ n ≤ cap ∧ cap ≤ maxLen ∧ cur.toList.take (n * size) = xs)

mutual
inductive NodeRep (w : World) : List Value → Nd → List Nat → Prop where
  | mk {kind number least most way : Int} {fold : Bool} {set : Rngs} {kids : List Nd} {sv kv : Value} {xs : List Value} {Fs Fk Fl : List Nat}
      (hs : SliceV w 85 2 sv set.length (rngCells set) Fs) (hk : SliceV w 27 8 kv kids.length xs Fk) (hl : NodesRep w xs kids Fl) :
      NodeRep w [.int .i64 kind, sv, kv, .int .i64 number, .int .i64 least, .int .i64 most, .int .i64 way, .bool fold] (.mk kind set kids number least most way fold) (Fs ++ Fk ++ Fl)
inductive NodesRep (w : World) : List Value → List Nd → List Nat → Prop where
  | nil : NodesRep w [] [] []
  | cons {c xs : List Value} {t : Nd} {ts : List Nd} {F Fs : List Nat} (h : NodeRep w c t F) (hs : NodesRep w xs ts Fs) : NodesRep w (c ++ xs) (t :: ts) (F ++ Fs)
end

theorem SliceV.keep {w w' : World} {e : TypeId} {size n : Nat} {v : Value} {xs : List Value} {F : List Nat} (h : SliceV w e size v n xs F) (hk : ∀ g ∈ F, w'.heap[g]? = w.heap[g]?) : SliceV w' e size v n xs F := by
  refine ⟨h.1, ?_⟩
  rcases h.2 with h | ⟨g, cap, cur, h1, h2, h3, h4⟩
  · exact .inl h
  · exact .inr ⟨g, cap, cur, h1, h2, by rw [hk g (by rw [h2]; simp)]; exact h3, h4⟩

theorem SliceV.lt {w : World} {e : TypeId} {size n : Nat} {v : Value} {xs : List Value} {F : List Nat} (h : SliceV w e size v n xs F) : ∀ g ∈ F, ∃ cur, w.heap[g]? = some (.cells cur e (0, 0)) := by
  rcases h.2 with ⟨_, _, h⟩ | ⟨g, cap, cur, h1, h2, h3, h4⟩
  · rw [h]; simp
  · rw [h2]; intro k hk; simp at hk; subst hk; exact ⟨cur, h3⟩

theorem SliceV.of_own {w : World} {base : Nat} {e : TypeId} {size n : Nat} {v : Value} {xs : List Value} (h : w.ownsRow base e size v n xs) : SliceV w e size v n xs v.ownBlock.toList := by
  refine ⟨h.1, ?_⟩
  rcases h.2 with ⟨h1, h2⟩ | ⟨g, cap, cur, h1, h2, h3, h4, h5, h6, h7⟩
  · exact .inl ⟨h1, h2, by rw [h1]; rfl⟩
  · exact .inr ⟨g, cap, cur, h1, by rw [h1]; rfl, h3, h4, h5, h7⟩

/-- Element j of a slice: its cells. -/
theorem SliceV.cells {w : World} {e : TypeId} {size n : Nat} {v : Value} {xs : List Value} {F : List Nat} (h : SliceV w e size v n xs F) {j : Nat} (hj : j < n) :
    ∃ g cap, v = .slice (some ⟨g, 0, none⟩) n cap ∧ F = [g] ∧ n ≤ cap ∧ cap ≤ maxLen ∧ g < w.heap.size ∧ ∀ i (_ : i < size), w.cell? ⟨g, j * size + i, none⟩ = xs[j * size + i]? := by
  rcases h.2 with ⟨_, h0, _⟩ | ⟨g, cap, cur, h1, h2, h3, h4, h5, h6⟩
  · omega
  · refine ⟨g, cap, h1, h2, h4, h5, (Array.getElem?_eq_some_iff.1 h3).1, fun i hi => ?_⟩
    have hlt : j * size + i < n * size := by
      have : (j + 1) * size ≤ n * size := Nat.mul_le_mul_right _ hj
      rw [Nat.succ_mul] at this
      omega
    rw [cell_of_row w g (j * size + i) cur e (0, 0) h3, ← h6, List.getElem?_take_of_lt hlt]
    simp

mutual
theorem NodeRep.keep {w w' : World} {c : List Value} {t : Nd} {F : List Nat} (h : NodeRep w c t F) (hk : ∀ g ∈ F, w'.heap[g]? = w.heap[g]?) : NodeRep w' c t F := by
  cases h with
  | mk hs hk' hl => exact .mk (hs.keep fun g hg => hk g (by simp [hg])) (hk'.keep fun g hg => hk g (by simp [hg])) (hl.keep fun g hg => hk g (by simp [hg]))
theorem NodesRep.keep {w w' : World} {c : List Value} {t : List Nd} {F : List Nat} (h : NodesRep w c t F) (hk : ∀ g ∈ F, w'.heap[g]? = w.heap[g]?) : NodesRep w' c t F := by
  cases h with
  | nil => exact .nil
  | cons h hs => exact .cons (h.keep fun g hg => hk g (by simp [hg])) (hs.keep fun g hg => hk g (by simp [hg]))
end

/-- The blocks of a tree hold nodes or ranges. -/
def Kind2 (w : World) (F : List Nat) : Prop := ∀ g ∈ F, ∃ cur e, w.heap[g]? = some (.cells cur e (0, 0)) ∧ (e = 85 ∨ e = 27)
theorem Kind2.append {w : World} {F G : List Nat} (h : Kind2 w F) (h2 : Kind2 w G) : Kind2 w (F ++ G) := fun g hg => (List.mem_append.1 hg).elim (h g) (h2 g)
theorem Kind2.lt {w : World} {F : List Nat} (h : Kind2 w F) {g : Nat} (hg : g ∈ F) : g < w.heap.size := by
  obtain ⟨cur, e, h1, _⟩ := h g hg
  exact (Array.getElem?_eq_some_iff.1 h1).1

mutual
theorem NodeRep.kind {w : World} {c : List Value} {t : Nd} {F : List Nat} (h : NodeRep w c t F) : Kind2 w F ∧ c.length = 8 := by
  cases h with
  | mk hs hk hl =>
    refine ⟨(Kind2.append ?_ ?_).append hl.kind.1, rfl⟩
    · intro g hg; obtain ⟨cur, h⟩ := hs.lt g hg; exact ⟨cur, _, h, .inl rfl⟩
    · intro g hg; obtain ⟨cur, h⟩ := hk.lt g hg; exact ⟨cur, _, h, .inr rfl⟩
theorem NodesRep.kind {w : World} {c : List Value} {t : List Nd} {F : List Nat} (h : NodesRep w c t F) : Kind2 w F ∧ c.length = t.length * 8 := by
  cases h with
  | nil => exact ⟨fun g hg => by simp at hg, rfl⟩
  | cons h hs =>
    refine ⟨h.kind.1.append hs.kind.1, ?_⟩
    have h1 := h.kind.2
    have h2 := hs.kind.2
    simp only [List.length_append, List.length_cons, h1, h2]
    omega
end

theorem NodesRep.append {w : World} {c c' : List Value} {t t' : List Nd} {F F' : List Nat} (h : NodesRep w c t F) (h' : NodesRep w c' t' F') : NodesRep w (c ++ c') (t ++ t') (F ++ F') := by
  induction t generalizing c F with
  | nil => cases h; simpa using h'
  | cons x t ih =>
    cases h with
    | cons h hs =>
      rw [List.append_assoc, List.append_assoc]
      exact .cons h (ih hs)

/-- One node of a row of them. -/
theorem NodesRep.get {w : World} {c : List Value} {t : List Nd} {F : List Nat} (h : NodesRep w c t F) {j : Nat} (hj : j < t.length) :
    ∃ k F1 F2 F3, NodeRep w k t[j] F2 ∧ F = F1 ++ F2 ++ F3 ∧ (∀ i, i < 8 → c[j * 8 + i]? = k[i]?) ∧ NodesRep w (c.take (j * 8)) (t.take j) F1 ∧ NodesRep w (c.drop ((j + 1) * 8)) (t.drop (j + 1)) F3 ∧ k = (c.drop (j * 8)).take 8 := by
  induction t generalizing c F j with
  | nil => simp at hj
  | cons x t ih =>
    cases h with
    | @cons k xs _ _ F Fs h hs =>
      have hl := h.kind.2
      cases j with
      | zero =>
        refine ⟨k, [], F, Fs, h, by simp, ?_, by simpa using NodesRep.nil, ?_, ?_⟩
        · intro i hi
          rw [List.getElem?_append_left (by omega)]
          simp
        · rw [show (0 + 1) * 8 = k.length from by omega]
          simpa using hs
        · simp [← hl]
      | succ j =>
        obtain ⟨k2, F1, F2, F3, h1, h2, h3, h4, h5, h6⟩ := ih hs (j := j) (by simpa using hj)
        refine ⟨k2, F ++ F1, F2, F3, by simpa using h1, by rw [h2]; simp, ?_, ?_, ?_, ?_⟩
        · intro i hi
          rw [← h3 i hi, List.getElem?_append_right (by omega)]
          congr 1
          omega
        · rw [List.take_append, show (j + 1) * 8 - k.length = j * 8 from by omega, List.take_of_length_le (by omega)]
          exact .cons h h4
        · rw [List.drop_append, show (j + 1 + 1) * 8 - k.length = (j + 1) * 8 from by omega, List.drop_of_length_le (by omega)]
          simpa using h5
        · rw [List.drop_append, show (j + 1) * 8 - k.length = j * 8 from by omega, List.drop_of_length_le (by omega)]
          simpa using h6

end Th
end Go.Proofs

namespace Go.Proofs
namespace Th
open Go.RowKit

attribute [local go_sem ↓] Go.wp_at_zero Go.wp_at_succ

def nameCells (l : List (ByteArray × Int)) : List Value := l.flatMap fun x => [.string x.1, .int .i64 x.2]
def againCells (l : List (Int × Int × ByteArray)) : List Value := l.flatMap fun x => [.int .i64 x.1, .int .i64 x.2.1, .string x.2.2]

/-- The parser in block P, told whole. -/
structure Pq (w : World) (P : Nat) (d : Int) (A : Option Addr) (c : Nat) (L : List Int) (a : Nat) (σ : Pst) (v6 v7 : Value) : Prop where
  c0 : w.cell? ⟨P, 0, none⟩ = some (.int .i64 d)
  c1 : w.cell? ⟨P, 1, none⟩ = some (.slice A L.length c)
  c2 : w.cell? ⟨P, 2, none⟩ = some (.int .i64 a)
  c3 : w.cell? ⟨P, 3, none⟩ = some (.bool σ.folded)
  c4 : w.cell? ⟨P, 4, none⟩ = some (.int .i64 σ.deep)
  c5 : w.cell? ⟨P, 5, none⟩ = some (.int .i64 σ.groups)
  c6 : w.cell? ⟨P, 6, none⟩ = some v6
  c7 : w.cell? ⟨P, 7, none⟩ = some v7
  fz : ∀ o, w.frozen? ⟨P, o, none⟩ = false
  row : Row P w A (ints L)
  le : a ≤ L.length
  rest : σ.s = L.drop a
  cap : L.length ≤ c
  big : c ≤ 9223372036854775807
  small : L.length ≤ 300
  pts : Points L
  dia : d = 1 ∨ d = 2 ∨ d = 3
  own6 : w.ownsRow (P + 1) 44 2 v6 σ.names.length (nameCells σ.names)
  own7 : w.ownsRow (P + 1) 81 3 v7 σ.agains.length (againCells σ.agains)
  deep : σ.deep ≤ 20
  groups : σ.groups ≤ 20
  names : σ.names.length ≤ σ.groups
  agains : σ.agains.length + σ.s.length ≤ L.length

/-- The blocks of the parser's lists. -/
def own (v : Value) : List Nat := v.ownBlock.toList

/-- The parser in block P; F: the blocks of its lists. -/
def PsAt (w : World) (P : Nat) (d : Int) (L : List Int) (σ : Pst) (F : List Nat) : Prop :=
  ∃ A c a v6 v7, Pq w P d A c L a σ v6 v7 ∧ F = own v6 ++ own v7

theorem ownsRow_keep {w w' : World} {base size n : Nat} {e : TypeId} {v : Value} {xs : List Value} (h : w.ownsRow base e size v n xs) (hk : ∀ g ∈ own v, w'.heap[g]? = w.heap[g]?) : w'.ownsRow base e size v n xs := by
  refine ⟨h.1, ?_⟩
  rcases h.2 with h | ⟨g, cap, cur, h1, h2, h3, h4⟩
  · exact .inl h
  · exact .inr ⟨g, cap, cur, h1, h2, by rw [hk g (by rw [h1]; simp [own, Value.ownBlock])]; exact h3, h4⟩

theorem Pq.lt {w : World} {P : Nat} {d : Int} {A : Option Addr} {c : Nat} {L : List Int} {a : Nat} {σ : Pst} {v6 v7 : Value} (h : Pq w P d A c L a σ v6 v7) : P < w.heap.size := lt_of_cell h.c0

theorem Pq.same {w w' : World} {P : Nat} {d : Int} {A : Option Addr} {c : Nat} {L : List Int} {a : Nat} {σ : Pst} {v6 v7 : Value} (h : Pq w P d A c L a σ v6 v7)
    (hk : ∀ k, k ≤ P → w'.heap[k]? = w.heap[k]?) (h6 : ∀ g ∈ own v6, w'.heap[g]? = w.heap[g]?) (h7 : ∀ g ∈ own v7, w'.heap[g]? = w.heap[g]?) : Pq w' P d A c L a σ v6 v7 := by
  have hc : ∀ o, w'.cell? ⟨P, o, none⟩ = w.cell? ⟨P, o, none⟩ := fun o => World.cell?_of_block (hk P (Nat.le_refl _))
  refine ⟨(hc _).trans h.c0, (hc _).trans h.c1, (hc _).trans h.c2, (hc _).trans h.c3, (hc _).trans h.c4, (hc _).trans h.c5, (hc _).trans h.c6, (hc _).trans h.c7,
    fun o => (World.frozen?_of_block (hk P (Nat.le_refl _))).trans (h.fz o), ?_, h.le, h.rest, h.cap, h.big, h.small, h.pts, h.dia, ownsRow_keep h.own6 h6, ownsRow_keep h.own7 h7, h.deep, h.groups, h.names, h.agains⟩
  rcases h.row with h4 | ⟨ab, ao, e1, e2, e3⟩
  · exact .inl h4
  · exact .inr ⟨ab, ao, e1, e2, fun j v hj => (World.cell?_of_block (hk ab (by omega))).trans (e3 j v hj)⟩

theorem own_lt {w : World} {base size n : Nat} {e : TypeId} {v : Value} {xs : List Value} (h : w.ownsRow base e size v n xs) : ∀ g ∈ own v, base ≤ g ∧ ∃ cur, w.heap[g]? = some (.cells cur e (0, 0)) := by
  rcases h.2 with ⟨h1, _⟩ | ⟨g, cap, cur, h1, h2, h3, _⟩
  · rw [h1]; simp [own, Value.ownBlock]
  · rw [h1]; intro k hk; simp [own, Value.ownBlock] at hk; subst hk; exact ⟨h2, cur, h3⟩

theorem Pq.keep {S : Nat → Prop} {w w' : World} {P : Nat} {d : Int} {A : Option Addr} {c : Nat} {L : List Int} {a : Nat} {σ : Pst} {v6 v7 : Value} (h : Pq w P d A c L a σ v6 v7)
    (hk : Keeps S w w') (hs : ∀ k, k ≤ P → ¬ S k) (h6 : ∀ g ∈ own v6, ¬ S g) (h7 : ∀ g ∈ own v7, ¬ S g) : Pq w' P d A c L a σ v6 v7 := by
  have hP := h.lt
  refine h.same (fun k hkP => hk.block k (by omega) (hs k hkP)) (fun g hg => hk.block g ?_ (h6 g hg)) (fun g hg => hk.block g ?_ (h7 g hg))
  · obtain ⟨_, cur, hc⟩ := own_lt h.own6 g hg; exact (Array.getElem?_eq_some_iff.1 hc).1
  · obtain ⟨_, cur, hc⟩ := own_lt h.own7 g hg; exact (Array.getElem?_eq_some_iff.1 hc).1

theorem PsAt.keep {S : Nat → Prop} {w w' : World} {P : Nat} {d : Int} {L : List Int} {σ : Pst} {F : List Nat} (h : PsAt w P d L σ F)
    (hk : Keeps S w w') (hs : ∀ k, k ≤ P → ¬ S k) (hF : ∀ g ∈ F, ¬ S g) : PsAt w' P d L σ F := by
  obtain ⟨A, c, a, v6, v7, hq, rfl⟩ := h
  exact ⟨A, c, a, v6, v7, hq.keep hk hs (fun g hg => hF g (by simp [hg])) (fun g hg => hF g (by simp [hg])), rfl⟩

/-- What gives up in the parser. -/
def fltPanic (f : Flt) : Ending := .panicked [{ v := .iface 33 (.agg #[.int .i64 f.1, .int .i64 f.2]), recovered := false }]

theorem pfail_calls (n m : Int) (w : World) : Calls Tryz.prog 22 #[.int .i64 n, .int .i64 m] w fun e w' => e = fltPanic (n, m) ∧ w' = w := by
  go_enter Tryz.func22, Tryz.ntmps22
  go_wp2
  exact ⟨rfl, rfl, rfl⟩

def nilS : Value := .slice none 0 0
def ndV (k : Int) (sv kv : Value) (number least most way : Int) (fold : Bool) : Value := .agg #[.int .i64 k, sv, kv, .int .i64 number, .int .i64 least, .int .i64 most, .int .i64 way, .bool fold]

theorem empty_calls (w : World) : Calls Tryz.prog 56 #[] w fun e w' => e = .returned (ndV 1 nilS nilS 0 0 0 0 false) ∧ Keeps No w w' := by
  go_enter Tryz.func56, Tryz.ntmps56
  go_wp2
  exact bodyPost_ret (v := ndV 1 nilS nilS 0 0 0 0 false) (by simp [results, Tryz.results56, go_sem, ndV, nilS]) rfl ⟨rfl, (Keeps.refl _ _).alloc _⟩

theorem points_calls (A : Option Addr) (n c : Nat) (w : World) : Calls Tryz.prog 58 #[.slice A n c] w fun e w' => e = .returned (ndV 2 (.slice A n c) nilS 0 0 0 0 false) ∧ Keeps No w w' := by
  go_enter Tryz.func58, Tryz.ntmps58
  go_wp2
  exact bodyPost_ret (v := ndV 2 (.slice A n c) nilS 0 0 0 0 false) (by simp [results, Tryz.results58, go_sem, ndV, nilS]) rfl ⟨rfl, (Keeps.refl _ _).alloc _⟩

end Th
end Go.Proofs
