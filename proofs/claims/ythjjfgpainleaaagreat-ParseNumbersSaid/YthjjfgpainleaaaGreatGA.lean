/- My own small words: rows of cells that are read; what a call leaves of the world. The words of patterns, as plain functions on what is left of a pattern. The reader of tokens: its small methods. -/
import Derived.WalkKit
import Derived.WalkLawsBesides
import Derived.WalkSpells
import Derived.Deep.QuietTactic
import Derived.BigQuiet
import Derived.Recover
import Derived.Laws.BitsAllLaws
import Derived.Deep.DeepCutAuto
import Derived.Deep.RegionWith
import Derived.Test.YthjjfgpainleaaaGreatProg

set_option linter.unusedSimpArgs false
set_option linter.unusedVariables false

namespace Go.Proofs
namespace Th
open Go.RowKit

theorem hid {p : Prop} (h : p) : Hid p := h

/-- The cells vs stand from A on, in a block below B. -/
def Row (B : Nat) (w : World) (A : Option Addr) (vs : List Value) : Prop :=
  vs = [] ∨ ∃ ab ao, A = some ⟨ab, ao, none⟩ ∧ ab < B ∧ ∀ j v, vs[j]? = some v → w.cell? ⟨ab, ao + j, none⟩ = some v

theorem Row.at {B : Nat} {w : World} {A : Option Addr} {vs : List Value} (h : Row B w A vs) {j : Nat} (hj : j < vs.length) :
    ∃ ab ao, A = some ⟨ab, ao, none⟩ ∧ ab < B ∧ w.cell? ⟨ab, ao + j, none⟩ = some vs[j] := by
  rcases h with rfl | ⟨ab, ao, h1, h2, h3⟩
  · simp at hj
  · exact ⟨ab, ao, h1, h2, h3 j _ (List.getElem?_eq_getElem hj)⟩

/-- From w to w' every block of w but those of S stands. -/
structure Keeps (S : Nat → Prop) (w w' : World) : Prop where
  os : w'.os = w.os
  tape : w'.tape = w.tape
  output : w'.output = w.output
  size : w.heap.size ≤ w'.heap.size
  block : ∀ k, k < w.heap.size → ¬ S k → w'.heap[k]? = w.heap[k]?

section
variable {S S' : Nat → Prop} {w w1 w2 w' : World}
theorem Keeps.refl (S : Nat → Prop) (w : World) : Keeps S w w := ⟨rfl, rfl, rfl, Nat.le_refl _, fun _ _ _ => rfl⟩
theorem Keeps.trans (h : Keeps S w w1) (k : Keeps S w1 w2) : Keeps S w w2 :=
  ⟨k.os.trans h.os, k.tape.trans h.tape, k.output.trans h.output, Nat.le_trans h.size k.size, fun i hi hs => (k.block i (Nat.lt_of_lt_of_le hi h.size) hs).trans (h.block i hi hs)⟩
theorem Keeps.mono (h : Keeps S w w1) (hs : ∀ k, S k → S' k) : Keeps S' w w1 :=
  ⟨h.os, h.tape, h.output, h.size, fun i hi hn => h.block i hi (fun h => hn (hs i h))⟩
/-- Blocks that are new to w may be written freely. -/
theorem Keeps.trans' (h : Keeps S w w1) (k : Keeps S' w1 w2) (hs : ∀ k, k < w.heap.size → S' k → S k) : Keeps S w w2 :=
  ⟨k.os.trans h.os, k.tape.trans h.tape, k.output.trans h.output, Nat.le_trans h.size k.size, fun i hi hn => (k.block i (Nat.lt_of_lt_of_le hi h.size) (fun x => hn (hs i hi x))).trans (h.block i hi hn)⟩
theorem Keeps.drewN (h : Keeps S w w1) (n : Nat) : Keeps S w (w1.drewN n) := ⟨h.os, h.tape, h.output, h.size, h.block⟩
theorem Keeps.drew (h : Keeps S w w1) : Keeps S w w1.drew := ⟨h.os, h.tape, h.output, h.size, h.block⟩
theorem Keeps.alloc (h : Keeps S w w1) (o : Obj) : Keeps S w (w1.alloc o) :=
  h.trans ⟨rfl, rfl, rfl, by simp, fun k hk _ => Below.heap_alloc _ _ _ hk⟩
theorem Keeps.set (h : Keeps S w w1) {p : Addr} (hp : p.block < w.heap.size → S p.block) (u : Value) : Keeps S w (w1.setCell p u) :=
  h.trans' (S' := fun k => k = p.block) ⟨rfl, rfl, rfl, by simp [World.setCell], fun k _ hn => Below.heap_setCell _ _ _ _ hn⟩ (fun k hk e => by subst e; exact hp hk)
theorem Keeps.cell (h : Keeps S w w1) {b o : Nat} (hb : b < w.heap.size) (hn : ¬ S b) : w1.cell? ⟨b, o, none⟩ = w.cell? ⟨b, o, none⟩ :=
  World.cell?_of_block (w := w) (h.block b hb hn)
theorem Keeps.frozen (h : Keeps S w w1) {b o : Nat} (hb : b < w.heap.size) (hn : ¬ S b) : w1.frozen? ⟨b, o, none⟩ = w.frozen? ⟨b, o, none⟩ :=
  World.frozen?_of_block (w := w) (h.block b hb hn)
theorem Keeps.below {B : Nat} (h : Keeps (fun k => B ≤ k) w w1) (hB : B ≤ w.heap.size) : Below B w w1 :=
  ⟨h.os, h.tape, h.output, h.size, fun k hk => h.block k (by omega) (by omega)⟩
theorem lt_of_cell {a : Addr} {v : Value} (h : w.cell? a = some v) : a.block < w.heap.size := World.block_lt_of_cell? w a h
end

/-- Nothing that was there has turned. -/
abbrev No : Nat → Prop := fun _ => False
/-- Nothing but block b has turned. -/
abbrev But (b : Nat) : Nat → Prop := fun k => k = b

theorem Row.keep {S : Nat → Prop} {B : Nat} {w w' : World} {A : Option Addr} {vs : List Value} (h : Row B w A vs) (hk : Keeps S w w') (hs : ∀ k, k < B → ¬ S k) : Row B w' A vs := by
  rcases h with h | ⟨ab, ao, h1, h2, h3⟩
  · exact .inl h
  · refine .inr ⟨ab, ao, h1, h2, fun j v hj => ?_⟩
    have hc := h3 j v hj
    rw [hk.cell (lt_of_cell hc) (hs ab h2)]
    exact hc

theorem Row.mono {B B' : Nat} {w : World} {A : Option Addr} {vs : List Value} (h : Row B w A vs) (hb : B ≤ B') : Row B' w A vs := by
  rcases h with h | ⟨ab, ao, h1, h2, h3⟩
  · exact .inl h
  · exact .inr ⟨ab, ao, h1, by omega, h3⟩

/-- Integers as cells. -/
def ints (l : List Int) : List Value := l.map (Value.int .i64)
@[simp] theorem ints_length (l : List Int) : (ints l).length = l.length := by simp [ints]

theorem Row.int_at {B : Nat} {w : World} {A : Option Addr} {l : List Int} (h : Row B w A (ints l)) {j : Nat} (hj : j < l.length) :
    ∃ ab ao, A = some ⟨ab, ao, none⟩ ∧ ab < B ∧ w.cell? ⟨ab, ao + j, none⟩ = some (.int .i64 l[j]) := by
  obtain ⟨ab, ao, h1, h2, h3⟩ := h.at (j := j) (by simpa using hj)
  exact ⟨ab, ao, h1, h2, by simpa [ints] using h3⟩

theorem snoc_ind {α : Type} {P : List α → Prop} (h0 : P []) (h1 : ∀ l x, P l → P (l ++ [x])) (l : List α) : P l := by
  have : ∀ r : List α, P r.reverse := by
    intro r
    induction r with
    | nil => simpa using h0
    | cons x r ih => simpa using h1 _ x ih
  simpa using this l.reverse

theorem ret_eq {v v' : Value} (h : v = v') : Ending.returned v = .returned v' := by rw [h]

end Th
end Go.Proofs

namespace Go.Proofs.Th

/-- A token. -/
structure Tk where
  kind : Int := 0
  number : Int := 0
  text : ByteArray := ⟨#[]⟩
  not : Bool := false
  least : Int := 0
  most : Int := 0
  way : Int := 0
  fold : Int := 0

def hd (s : List Int) : Int := match s with | x :: _ => x | [] => -1

def run (p : Int → Bool) : Nat → List Int → List Int × List Int
  | 0, s => ([], s)
  | _ + 1, [] => ([], [])
  | n + 1, x :: t => if p x then (x :: (run p n t).1, (run p n t).2) else ([], x :: t)

def isDigit (p : Int) : Bool := decide (48 ≤ p) && decide (p ≤ 57)
def isHex (p : Int) : Bool := isDigit p || (decide (97 ≤ p) && decide (p ≤ 102)) || (decide (65 ≤ p) && decide (p ≤ 70))
def isLetter (p : Int) : Bool := (decide (97 ≤ p) && decide (p ≤ 122)) || (decide (65 ≤ p) && decide (p ≤ 90))
def isNameCh (p : Int) : Bool := isLetter p || isDigit p || decide (p = 95)

def hexv (p : Int) : Int := if p ≤ 57 then p - 48 else if p ≤ 70 then p - 55 else p - 87
def number16 (l : List Int) : Int := l.foldl (fun n p => n * 16 + hexv p) 0
def decimal (l : List Int) : Int := l.foldl (fun n p => 10 * n + p - 48) 0

abbrev Rd (α : Type) := Except Int (α × List Int)

/-- A name, or none: its points. -/
def nameL (s : List Int) : List Int × List Int := if isLetter (hd s) || hd s == 95 then run isNameCh 20 s else ([], s)
def bytesOf (l : List Int) : ByteArray := ⟨(l.map fun p => UInt8.ofNat p.toNat).toArray⟩

def point (p : Int) : Tk := { kind := 1, number := p }
def look (k : Int) : Tk := { kind := 3, number := k }
def again (n : Int) : Tk := { kind := 10, number := n }

def repeat_ (d least most : Int) (s : List Int) : Tk × List Int :=
  if d = 1 then
    if hd s = 63 then ({ kind := 6, least := least, most := most, way := 2 }, s.tail)
    else if hd s = 43 then ({ kind := 6, least := least, most := most, way := 3 }, s.tail)
    else ({ kind := 6, least := least, most := most, way := 1 }, s)
  else ({ kind := 6, least := least, most := most, way := 1 }, s)

def ivA (s : List Int) : List Int := (run isDigit 3 s).1
def ivB (s : List Int) : List Int × List Int := if hd (run isDigit 3 s).2 = 44 then run isDigit 3 (run isDigit 3 s).2.tail else run isDigit 3 s
def ivC (d : Int) (s : List Int) : Bool × List Int :=
  if d = 3 then
    if hd (ivB s).2 = 92 then (decide ((0 : Int) < ((ivA s).length : Int) + ((ivB s).1.length : Int)), (ivB s).2.tail) else (false, (ivB s).2)
  else (decide ((0 : Int) < ((ivA s).length : Int) + ((ivB s).1.length : Int)), (ivB s).2)
/-- The two numbers of an interval: their digits, and what stands behind them; none: there is none. -/
def intervalL (d : Int) (s : List Int) : Option (List Int × List Int × List Int) :=
  if hd (ivC d s).2 = 125 ∧ (ivC d s).1 = true then some (ivA s, (ivB s).1, (ivC d s).2.tail) else none

def interval (d : Int) (s : List Int) : Rd (Option Tk) :=
  match intervalL d s with
  | none => .ok (none, s)
  | some (a, b, s3) =>
    let least := decimal a
    let most := if b = [] then -1 else decimal b
    if 0 ≤ most ∧ most < least then .error 3
    else if 100 < max least most then .error 2
    else .ok (some (repeat_ d least most s3).1, (repeat_ d least most s3).2)

def brace (d p : Int) (s : List Int) : Rd Tk :=
  match interval d s with
  | .error e => .error e
  | .ok (some t, s1) => .ok (t, s1)
  | .ok (none, s1) => if d = 1 then .ok (point p, s1) else .error 1

def openT (d : Int) (s : List Int) : Rd Tk :=
  if d ≠ 1 then .ok ({ kind := 7, number := 11 }, s)
  else if hd s ≠ 63 then .ok ({ kind := 7, number := 11 }, s)
  else
    let s := s.tail
    if hd s = 58 then .ok ({ kind := 7, number := 1 }, s.tail)
    else if hd s = 62 then .ok ({ kind := 7, number := 13 }, s.tail)
    else if hd s = 61 then .ok ({ kind := 7, number := 14 }, s.tail)
    else if hd s = 33 then .ok ({ kind := 7, number := 15 }, s.tail)
    else if hd s = 60 then
      let s := s.tail
      if hd s = 61 then .ok ({ kind := 7, number := 16 }, s.tail)
      else if hd s = 33 then .ok ({ kind := 7, number := 17 }, s.tail)
      else if (nameL s).1 = [] then .error 1
      else if hd (nameL s).2 = 62 then .ok ({ kind := 7, number := 11, text := bytesOf (nameL s).1 }, (nameL s).2.tail)
      else .error 1
    else
      let f : Int := if hd s = 45 then -1 else 1
      let s := if hd s = 45 then s.tail else s
      if hd s ≠ 105 then .error 1
      else
        let s := s.tail
        if hd s = 41 then .ok ({ kind := 11, fold := f }, s.tail)
        else if hd s = 58 then .ok ({ kind := 7, number := 1, fold := f }, s.tail)
        else .error 1

def digitB : ByteArray := ⟨#[100, 105, 103, 105, 116]⟩
def wordB : ByteArray := ⟨#[119, 111, 114, 100]⟩
def spaceB : ByteArray := ⟨#[115, 112, 97, 99, 101]⟩
def xdigitB : ByteArray := ⟨#[120, 100, 105, 103, 105, 116]⟩

def classT (p : Int) : Option Tk :=
  if p = 100 then some { kind := 4, text := digitB }
  else if p = 119 then some { kind := 4, text := wordB }
  else if p = 115 then some { kind := 4, text := spaceB }
  else if p = 104 then some { kind := 4, text := xdigitB }
  else if p = 68 then some { kind := 4, text := digitB, not := true }
  else if p = 87 then some { kind := 4, text := wordB, not := true }
  else if p = 83 then some { kind := 4, text := spaceB, not := true }
  else if p = 72 then some { kind := 4, text := xdigitB, not := true }
  else none

def scalarEnd (l s : List Int) : Rd Tk :=
  if l = [] then .error 1 else if 1114111 < number16 l then .error 3 else .ok (point (number16 l), s)

def scalar (p : Int) (s : List Int) : Rd Tk :=
  if p = 117 then
    if (run isHex 4 s).1.length < 4 then .error 1 else scalarEnd (run isHex 4 s).1 (run isHex 4 s).2
  else if hd s = 123 then
    if hd (run isHex 6 s.tail).2 = 125 then scalarEnd (run isHex 6 s.tail).1 (run isHex 6 s.tail).2.tail else .error 1
  else scalarEnd (run isHex 2 s).1 (run isHex 2 s).2

def named (s : List Int) : Rd Tk :=
  if hd s ≠ 60 then .error 1
  else
    let s := s.tail
    if (nameL s).1 = [] then
      let m : Bool := hd s == 45
      let s := if hd s = 45 then s.tail else s
      if (run isDigit 3 s).1 = [] then .error 1
      else
        let n := if m then - decimal (run isDigit 3 s).1 else decimal (run isDigit 3 s).1
        if hd (run isDigit 3 s).2 ≠ 62 then .error 1
        else if n = 0 then .error 3
        else .ok ({ kind := 10, number := n }, (run isDigit 3 s).2.tail)
    else if hd (nameL s).2 ≠ 62 then .error 1
    else .ok ({ kind := 10, text := bytesOf (nameL s).1 }, (nameL s).2.tail)

def emacs (p : Int) (s : List Int) : Rd Tk :=
  if p = 40 then openT 3 s
  else if p = 41 then .ok ({ kind := 8 }, s)
  else if p = 124 then .ok ({ kind := 9 }, s)
  else if p = 123 then brace 3 p s
  else if p = 119 then .ok ({ kind := 4, text := wordB }, s)
  else if p = 87 then .ok ({ kind := 4, text := wordB, not := true }, s)
  else if p = 98 then .ok (look 7, s)
  else if p = 66 then .ok (look 8, s)
  else if p = 96 then .ok (look 5, s)
  else if p = 39 then .ok (look 6, s)
  else if 49 ≤ p ∧ p ≤ 57 then .ok (again (p - 48), s)
  else .ok (point p, s)

/-- What stands for a letter behind a \ in Ruby: a place's kind. -/
def lookOf (p : Int) : Option Int :=
  if p = 65 then some 5 else if p = 122 then some 6 else if p = 98 then some 7 else if p = 66 then some 8 else none
def ctrlOf (p : Int) : Option Int :=
  if p = 110 then some 10 else if p = 116 then some 9 else if p = 114 then some 13 else if p = 102 then some 12
  else if p = 118 then some 11 else if p = 97 then some 7 else if p = 101 then some 27 else none

def escaped (d : Int) : List Int → Rd Tk
  | [] => .error 1
  | p :: s =>
    if d = 2 then .ok (point p, s)
    else if d = 3 then emacs p s
    else match classT p with
      | some t => .ok (t, s)
      | none => match lookOf p with
        | some k => .ok (look k, s)
        | none => match ctrlOf p with
          | some q => .ok (point q, s)
          | none =>
            if p = 120 ∨ p = 117 then scalar p s
            else if p = 107 then named s
            else if 49 ≤ p ∧ p ≤ 57 then .ok (again (decimal (run isDigit 2 (p :: s)).1), (run isDigit 2 (p :: s)).2)
            else if isLetter p = true ∨ p = 48 then .error 1
            else .ok (point p, s)

/-- The token that begins where one is. -/
def token (d : Int) : List Int → Rd Tk
  | [] => .ok (point (-1), [])
  | p :: s =>
    if p = 46 then .ok ({ kind := 2 }, s)
    else if p = 94 then .ok (look 3, s)
    else if p = 36 then .ok (look 4, s)
    else if p = 91 then .ok ({ kind := 5 }, s)
    else if p = 42 then .ok (repeat_ d 0 (-1) s)
    else if p = 43 then .ok (repeat_ d 1 (-1) s)
    else if p = 63 then .ok (repeat_ d 0 1 s)
    else if p = 92 then escaped d s
    else if d = 3 then .ok (point p, s)
    else if p = 40 then openT d s
    else if p = 41 then .ok ({ kind := 8 }, s)
    else if p = 124 then .ok ({ kind := 9 }, s)
    else if p = 123 then brace d p s
    else .ok (point p, s)

end Go.Proofs.Th

namespace Go.Proofs
namespace Th
open Go.RowKit

/-- The reader in block b: dialect d, the pattern L, of which s is left. -/
def Rs (w : World) (b : Nat) (d : Int) (L s : List Int) : Prop :=
  ∃ (A : Option Addr) (c a : Nat), w.cell? ⟨b, 0, none⟩ = some (.int .i64 d) ∧ w.cell? ⟨b, 1, none⟩ = some (.slice A L.length c) ∧ w.cell? ⟨b, 2, none⟩ = some (.int .i64 a) ∧
    w.frozen? ⟨b, 2, none⟩ = false ∧ Row b w A (ints L) ∧ a ≤ L.length ∧ s = L.drop a ∧ L.length ≤ c ∧ c ≤ 9223372036854775807 ∧ L.length ≤ 300

theorem Rs.lt {w : World} {b : Nat} {d : Int} {L s : List Int} (h : Rs w b d L s) : b < w.heap.size := by
  obtain ⟨A, c, a, h0, _⟩ := h
  exact lt_of_cell h0

theorem Rs.keep {S : Nat → Prop} {w w' : World} {b : Nat} {d : Int} {L s : List Int} (h : Rs w b d L s) (hk : Keeps S w w') (hs : ∀ k, k ≤ b → ¬ S k) : Rs w' b d L s := by
  obtain ⟨A, c, a, h0, h1, h2, h3, h4, h5⟩ := h
  have hb := lt_of_cell h0
  have hn := hs b (Nat.le_refl _)
  exact ⟨A, c, a, by rw [hk.cell hb hn]; exact h0, by rw [hk.cell hb hn]; exact h1, by rw [hk.cell hb hn]; exact h2, by rw [hk.frozen hb hn]; exact h3, h4.keep hk (fun k hlt => hs k (by omega)), h5⟩

theorem Rs.step {w : World} {b : Nat} {d : Int} {L s : List Int} (h : Rs w b d L s) (hs : s ≠ []) : ∃ a : Nat, w.cell? ⟨b, 2, none⟩ = some (.int .i64 a) ∧ Rs (w.setCell ⟨b, 2, none⟩ (.int .i64 ((a : Int) + 1))) b d L s.tail := by
  obtain ⟨A, c, a, h0, h1, h2, h3, h4, h5, rfl, h6⟩ := h
  have hlt : a < L.length := by
    rcases Nat.lt_or_ge a L.length with h | h
    · exact h
    · exact absurd (List.drop_eq_nil_of_le h) hs
  refine ⟨a, h2, A, c, a + 1, ?_, ?_, ?_, ?_, ?_, hlt, by simp, h6⟩
  · rw [World.cell?_setCell_other _ _ _ _ (by simp)]; exact h0
  · rw [World.cell?_setCell_other _ _ _ _ (by simp)]; exact h1
  · exact World.cell?_setCell_same _ _ _ h2
  · simpa using h3
  · rcases h4 with h4 | ⟨ab, ao, e1, e2, e3⟩
    · exact .inl h4
    · exact .inr ⟨ab, ao, e1, e2, fun j v hj => by rw [World.cell?_setCell_other _ _ _ _ (by simp <;> omega)]; exact e3 j v hj⟩

theorem hd_drop {L : List Int} {a : Nat} (h : a < L.length) : hd (L.drop a) = L[a] := by
  rw [List.drop_eq_getElem_cons h]; rfl

set_option maxHeartbeats 400000 in
theorem peek {w : World} {b : Nat} {d : Int} {L s : List Int} (h : Rs w b d L s) :
    Calls Tryz.prog 86 #[.pointer (some ⟨b, 0, none⟩)] w fun e w' => e = .returned (.int .i64 (hd s)) ∧ ∃ q, w' = w.drewN q := by
  obtain ⟨A, c, a, h0, h1, h2, h3, h4, h5, rfl, h6⟩ := h
  by_cases hlt : a < L.length
  · obtain ⟨ab, ao, rfl, hb, hv⟩ := h4.int_at hlt
    rw [hd_drop hlt]
    generalize L[a] = v at hv
    generalize L.length = n at *
    go_enter Tryz.func86, Tryz.ntmps86
    go_wp2
    go_quiet (fail)
    go_wp2
    go_quiet (fail)
    go_wp2
    go_ret
    exact ⟨rfl, _, World.drewN_drewN _ _ _⟩
  · have e : hd (L.drop a) = -1 := by rw [List.drop_eq_nil_of_le (by omega)]; rfl
    rw [e]
    generalize L.length = n at *
    go_enter Tryz.func86, Tryz.ntmps86
    go_wp2
    go_quiet (fail)
    go_wp2
    go_ret
    exact ⟨rfl, _, rfl⟩

theorem Rs.drewN {w : World} {b : Nat} {d : Int} {L s : List Int} (h : Rs w b d L s) (q : Nat) : Rs (w.drewN q) b d L s := h

set_option maxHeartbeats 400000 in
theorem may_yes {w : World} {b : Nat} {d : Int} {L s : List Int} {c : Int} (h : Rs w b d L s) (h0 : 0 ≤ c) (h1 : c ≤ 200) (hc : hd s = c) :
    Calls Tryz.prog 126 #[.pointer (some ⟨b, 0, none⟩), .int .i32 c] w fun e w' => e = .returned (.bool true) ∧ Rs w' b d L s.tail ∧ Keeps (But b) w w' := by
  have hne : s ≠ [] := by rintro rfl; simp [hd] at hc; omega
  obtain ⟨a, ha, hr⟩ := h.step hne
  have HC := hid hc
  clear hc
  have hfz : w.frozen? ⟨b, 2, none⟩ = false := by obtain ⟨_, _, _, _, _, _, h3, _⟩ := h; exact h3
  have hal : (a : Int) ≤ 300 := by
    obtain ⟨_, _, a', _, _, h2, _, _, h5, _, _, _, h6⟩ := h
    rw [ha] at h2; injection h2 with h2; injection h2 with _ h2; omega
  go_enter Tryz.func126, Tryz.ntmps126
  go_wp2_with (go_at_call 86; refine (peek h).mono ?_; rintro e w' ⟨rfl, q, rfl⟩; rw [HC.out])
  go_ret
  exact ⟨rfl, hr.drewN q, ((Keeps.refl _ _).set (by simp) _).drewN q⟩

set_option maxHeartbeats 400000 in
theorem may_no {w : World} {b : Nat} {d : Int} {L s : List Int} {c : Int} (h : Rs w b d L s) (h0 : 0 ≤ c) (h1 : c ≤ 200) (hc : ¬ hd s = c) :
    Calls Tryz.prog 126 #[.pointer (some ⟨b, 0, none⟩), .int .i32 c] w fun e w' => e = .returned (.bool false) ∧ ∃ q, w' = w.drewN q := by
  have hb : (hd s == c) = false := by simpa using hc
  go_enter Tryz.func126, Tryz.ntmps126
  go_wp2_with (go_at_call 86; refine (peek h).mono ?_; rintro e w' ⟨rfl, q, rfl⟩)
  go_ret
  exact ⟨rfl, _, rfl⟩

theorem tok_fail (n : Int) (w : World) : Calls Tryz.prog 127 #[.int .i64 n] w fun e w' => e = .panicked [{ v := .iface 106 (.agg #[.int .i64 n]), recovered := false }] ∧ w' = w := by
  go_enter Tryz.func127, Tryz.ntmps127
  go_wp2
  exact ⟨rfl, rfl, rfl⟩

end Th
end Go.Proofs
