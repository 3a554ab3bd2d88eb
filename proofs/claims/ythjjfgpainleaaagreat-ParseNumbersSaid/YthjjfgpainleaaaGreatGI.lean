/- The parser: what its calls come to; sets. The parser: an atom: points, any, places, options. The parser: an atom: classes, brackets. The parser: small words for atoms and groups; what the recursive methods are asked. -/
import Derived.Test.YthjjfgpainleaaaGreatGH
import Derived.Test.YthjjfgpainleaaaGreatGF
import Derived.Deep.RegionHeld3
import Derived.Deep.DrawnRows

set_option linter.unusedSimpArgs false
set_option linter.unusedVariables false
set_option linter.all false

namespace Go.Proofs
namespace Th
open Go.RowKit

theorem Keeps.lt_of {S : Nat → Prop} {w w' : World} (h : Keeps S w w') {n : Nat} (hn : n < w.heap.size) : n < w'.heap.size := Nat.lt_of_lt_of_le hn h.size

/-- A set that comes of a call: in memory of its own. -/
def SetPost (l : Rngs) (w : World) (e : Ending) (w' : World) : Prop :=
  ∃ A c F, e = .returned (.slice A l.length c) ∧ SliceV w' 85 2 (.slice A l.length c) l.length (rngCells l) F ∧ (∀ g ∈ F, w.heap.size ≤ g) ∧ Keeps No w w'

/-- What a bracket expression comes to. -/
def BrkPost (L : List Int) (r : Except Flt (Rngs × List Int)) (w : World) (e : Ending) (w' : World) : Prop :=
  match r with
  | .ok (l, s2) => ∃ A' c' F, e = .returned (.tuple #[.slice A' l.length c', .int .i64 (posOf L.length s2), .agg #[.int .i64 0, .int .i64 0]]) ∧ SliceV w' 85 2 (.slice A' l.length c') l.length (rngCells l) F ∧ (∀ g ∈ F, w.heap.size ≤ g) ∧ Keeps No w w'
  | .error x => e = .returned (.tuple #[.slice none 0 0, .int .i64 0, .agg #[.int .i64 x.1, .int .i64 x.2]]) ∧ Keeps No w w'

/-- What is known of the layers below. -/
structure Good (b : Below) : Prop where
  cls : ∀ s l, b.cls s = some l → ∀ w, Calls Tryz.prog 59 #[.string s] w fun e w' =>
    ∃ A c F, e = .returned (.tuple #[.slice A l.length c, .int .i64 0]) ∧ SliceV w' 85 2 (.slice A l.length c) l.length (rngCells l) F ∧ (∀ g ∈ F, w.heap.size ≤ g) ∧ Keeps No w w'
  not : ∀ l l', b.not l = some l' → ∀ w A c F, SliceV w 85 2 (.slice A l.length c) l.length (rngCells l) F → Calls Tryz.prog 60 #[.slice A l.length c] w (SetPost l' w)
  fold : ∀ l l', b.fold l = some l' → ∀ w A c F, SliceV w 85 2 (.slice A l.length c) l.length (rngCells l) F → Calls Tryz.prog 78 #[.slice A l.length c] w (SetPost l' w)
  brk : ∀ (d : Int) (L s : List Int) (f : Bool) r, b.brk d L.length s f = some r → ∀ (w : World) (B : Nat) (A : Option Addr) (c : Nat), Row B w A (ints L) → B ≤ w.heap.size → L.length ≤ c → c ≤ 9223372036854775807 → L.length ≤ 300 → Points L → (d = 1 ∨ d = 2 ∨ d = 3) → s <:+ L →
    Calls Tryz.prog 61 #[.int .i64 d, .slice A L.length c, .int .i64 (posOf L.length s), .bool f] w (BrkPost L r w)
  wrong : ∀ d n s f x, b.brk d n s f = some (.error x) → x.1 ≠ 0
  ends : b.Ends

theorem nought_good : Good nought where
  cls := by intro s l h; cases h
  not := by intro s l h; cases h
  fold := by intro s l h; cases h
  brk := by intro d L s f r h; cases h
  wrong := by intro d n s f x h; cases h
  ends := by intro d n s f l s2 h; cases h

/-- The parser's options may be put back. -/
def Alive (w : World) (P : Nat) : Prop := (∃ v, w.cell? ⟨P, 3, none⟩ = some v) ∧ w.frozen? ⟨P, 3, none⟩ = false
theorem Alive.keep {S : Nat → Prop} {w w' : World} {P : Nat} (h : Alive w P) (hk : Keeps S w w') (hs : ¬ S P) : Alive w' P := by
  obtain ⟨⟨v, h1⟩, h2⟩ := h
  have hlt := lt_of_cell h1
  exact ⟨⟨v, (hk.cell hlt hs).trans h1⟩, (hk.frozen hlt hs).trans h2⟩
theorem Alive.alloc {w : World} {P : Nat} (h : Alive w P) {o : Obj} : Alive (w.alloc o) P := h.keep ((Keeps.refl No w).alloc o) id
theorem Alive.drew {w : World} {P : Nat} (h : Alive w P) : Alive w.drew P := h
theorem Alive.drewN {w : World} {P n : Nat} (h : Alive w P) : Alive (w.drewN n) P := h
theorem Alive.set {w : World} {P b o : Nat} {u : Value} (h : Alive w P) : Alive (w.setCell ⟨b, o, none⟩ u) P := by
  obtain ⟨⟨v, h1⟩, h2⟩ := h
  refine ⟨?_, by simpa using h2⟩
  by_cases hb : b = P ∧ o = 3
  · obtain ⟨rfl, rfl⟩ := hb
    exact ⟨u, cell_same h1⟩
  · refine ⟨v, ?_⟩
    rw [World.cell?_setCell_other _ _ _ _ (by simp; omega)]
    exact h1
theorem PsAt.alive {w : World} {P : Nat} {d : Int} {L : List Int} {σ : Pst} {F : List Nat} (h : PsAt w P d L σ F) : Alive w P := by
  obtain ⟨A0, c0, v6, v7, -, -, -, h3, -, -, -, -, h8⟩ := h.cells
  exact ⟨⟨_, h3⟩, h8 3⟩

/-- What a method of the parser comes to. -/
def PPost (P : Nat) (d : Int) (L : List Int) (F : List Nat) (r : Except Flt (Nd × Pst)) (w : World) (e : Ending) (w' : World) : Prop :=
  match r with
  | .error f => e = fltPanic f ∧ Keeps (fun k => k = P ∨ k ∈ F) w w' ∧ Alive w' P
  | .ok (x, σ') => ∃ v' Fn F', e = .returned v' ∧ NdV w' v' x Fn ∧ Fn.Nodup ∧ (∀ g ∈ Fn, w.heap.size ≤ g ∧ g ∉ F') ∧ PsAt w' P d L σ' F' ∧ Grew w.heap.size F F' ∧ Keeps (fun k => k = P ∨ k ∈ F) w w'

theorem NdV.parts {w : World} {v : Value} {t : Nd} {F : List Nat} (h : NdV w v t F) :
    ∃ sA sn sc kA kn kc, v = .agg #[.int .i64 t.kind, .slice sA sn sc, .slice kA kn kc, .int .i64 t.number, .int .i64 t.least, .int .i64 t.most, .int .i64 t.way, .bool t.fold] ∧
      NodeRep w [.int .i64 t.kind, .slice sA sn sc, .slice kA kn kc, .int .i64 t.number, .int .i64 t.least, .int .i64 t.most, .int .i64 t.way, .bool t.fold] t F := by
  obtain ⟨c, rfl, hN⟩ := h
  obtain ⟨sv, kv, xs, Fs, Fk, Fl, rfl, _, hs, hk, _⟩ := hN.out
  obtain ⟨sA, sc, rfl⟩ := hs.slice
  obtain ⟨kA, kc, rfl⟩ := hk.slice
  exact ⟨_, _, _, _, _, _, rfl, hN⟩

theorem NdV.keeps {S : Nat → Prop} {w w' : World} {v : Value} {t : Nd} {F : List Nat} (h : NdV w v t F) (hk : Keeps S w w') (hs : ∀ g ∈ F, ¬ S g) : NdV w' v t F := by
  obtain ⟨c, h1, h2⟩ := h
  exact ⟨c, h1, h2.keeps hk hs⟩

/-- The slice over a block that has just been laid. -/
theorem SliceV.new {w : World} {e : TypeId} {size n c B : Nat} {cs : List Value} (hb : w.heap[B]? = some (.cells cs.toArray e (0, 0))) (hl : cs.length = n * size) (hc : n ≤ c) (hm : c ≤ 1000) : SliceV w e size (.slice (some ⟨B, 0, none⟩) n c) n cs [B] :=
  ⟨hl, .inr ⟨B, c, cs.toArray, rfl, rfl, hb, hc, by unfold maxLen; omega, by rw [← hl]; simp⟩⟩

/-- A node over a set. -/
theorem SliceV.pointsN {w : World} {A : Option Addr} {c : Nat} {l : Rngs} {F : List Nat} (h : SliceV w 85 2 (.slice A l.length c) l.length (rngCells l) F) :
    NodeRep w [.int .i64 2, .slice A l.length c, nilS, .int .i64 0, .int .i64 0, .int .i64 0, .int .i64 0, .bool false] (pointsN l) F := by
  have := NodeRep.mk (kind := 2) (number := 0) (least := 0) (most := 0) (way := 0) (fold := false) h (SliceV.nil w 27 8) .nil
  simpa [nilS, Th.pointsN] using this

theorem kindN_rep (w : World) (k number least most way : Int) (fold : Bool) : NodeRep w [.int .i64 k, nilS, nilS, .int .i64 number, .int .i64 least, .int .i64 most, .int .i64 way, .bool fold] (.mk k [] [] number least most way fold) [] := by
  have := NodeRep.mk (kind := k) (number := number) (least := least) (most := most) (way := way) (fold := fold) (SliceV.nil w 85 2) (SliceV.nil w 27 8) .nil (set := [])
  simpa [nilS] using this

theorem SliceV.length_le {w : World} {e : TypeId} {size n : Nat} {v : Value} {xs : List Value} {F : List Nat} (h : SliceV w e size v n xs F) : F.length ≤ 1 := by
  rcases h.2 with ⟨_, _, h⟩ | ⟨_, _, _, _, h, _⟩ <;> rw [h] <;> simp
theorem nodup_one {F : List Nat} (h : F.length ≤ 1) : F.Nodup := by
  match F, h with
  | [], _ => exact List.nodup_nil
  | [x], _ => simp

set_option maxHeartbeats 1000000 in
theorem set_calls {b : Below} (hb : Good b) {w : World} {P : Nat} {d : Int} {L : List Int} {σ : Pst} {F : List Nat} (h : PsAt w P d L σ F) {A : Option Addr} {c : Nat} {l l' : Rngs} {Fl : List Nat}
    (hv : SliceV w 85 2 (.slice A l.length c) l.length (rngCells l) Fl) (hs : (if σ.folded then b.fold l else some l) = some l') :
    Calls Tryz.prog 57 #[.pointer (some ⟨P, 0, none⟩), .slice A l.length c] w fun e w' =>
      (∃ A' c' F', e = .returned (ndV 2 (.slice A' l'.length c') nilS 0 0 0 0 false) ∧ SliceV w' 85 2 (.slice A' l'.length c') l'.length (rngCells l') F' ∧ ∀ g ∈ F', g ∈ Fl ∨ w.heap.size ≤ g) ∧ Keeps No w w' := by
  obtain ⟨A0, c0, v6, v7, -, -, -, h3, -, -, -, -, -⟩ := h.cells
  have hP := h.lt
  clear h
  generalize σ.folded = fd at *
  cases fd with
  | false =>
    obtain rfl : l = l' := by simpa using hs
    have hv' := hv
    generalize hn : l.length = n at *
    clear hs hn
    go_enter Tryz.func57, Tryz.ntmps57
    go_wp2_with fail
    refine (points_calls _ _ _ _).mono ?_
    rintro e w1 ⟨rfl, hk1⟩
    have c0_hk1 := fun o => hk1.cell (b := w.heap.size) (o := o) (by first | omega | (simp; done) | (simp; omega)) (by first | omega | (simp; done) | (simp; omega)); have z0_hk1 := fun o => hk1.frozen (b := w.heap.size) (o := o) (by first | omega | (simp; done) | (simp; omega)) (by first | omega | (simp; done) | (simp; omega))
    simp only [ndV, nilS]
    go_wp2_with fail
    have hk2 : Keeps No w w1 := Keeps.trans (by (repeat' (first | with_reducible exact Keeps.refl _ _ | with_reducible refine Keeps.set ?_ (by simp <;> omega) _ | with_reducible refine Keeps.alloc ?_ _ | with_reducible refine Keeps.drewN ?_ _ | with_reducible refine Keeps.drew ?_))) hk1
    refine bodyPost_ret (v := ndV 2 (.slice A n c) nilS 0 0 0 0 false) (by simp [results, Tryz.results57, go_sem, ndV, nilS, *]) rfl ⟨⟨_, _, Fl, rfl, hv.keeps (S := No) (by (repeat' (first | with_reducible exact hk2 | with_reducible refine Keeps.set ?_ (by simp <;> omega) _ | with_reducible refine Keeps.alloc ?_ _ | with_reducible refine Keeps.drewN ?_ _ | with_reducible refine Keeps.drew ?_))) (fun _ _ h => h), fun g hg => .inl hg⟩, ?_⟩
    (repeat' (first | with_reducible exact hk2 | with_reducible refine Keeps.set ?_ (by simp <;> omega) _ | with_reducible refine Keeps.alloc ?_ _ | with_reducible refine Keeps.drewN ?_ _ | with_reducible refine Keeps.drew ?_))
  | true =>
    have hl : b.fold l = some l' := by simpa using hs
    have hF := fun w (hv : SliceV w 85 2 (.slice A l.length c) l.length (rngCells l) Fl) => hb.fold l l' hl w A c Fl hv
    clear hs hl
    generalize l.length = n at *
    go_enter Tryz.func57, Tryz.ntmps57
    go_wp2_with fail
    refine (hF _ (hv.keeps (S := No) (by (repeat' (first | with_reducible exact Keeps.refl _ _ | with_reducible refine Keeps.set ?_ (by simp <;> omega) _ | with_reducible refine Keeps.alloc ?_ _ | with_reducible refine Keeps.drewN ?_ _ | with_reducible refine Keeps.drew ?_))) (fun _ _ h => h))).mono ?_
    rintro e w1 ⟨A1, c1, F1, rfl, hv1, hf1, hk1⟩
    have hs1 : w.heap.size < w1.heap.size := by have := hk1.size; simp at this; omega
    have c0_hk1 := fun o => hk1.cell (b := w.heap.size) (o := o) (by first | omega | (simp; done) | (simp; omega)) (by first | omega | (simp; done) | (simp; omega)); have z0_hk1 := fun o => hk1.frozen (b := w.heap.size) (o := o) (by first | omega | (simp; done) | (simp; omega)) (by first | omega | (simp; done) | (simp; omega))
    go_wp2_with fail
    refine (points_calls _ _ _ _).mono ?_
    rintro e w2 ⟨rfl, hk2⟩
    have c0_hk2 := fun o => hk2.cell (b := w.heap.size) (o := o) (by first | omega | (simp; done) | (simp; omega)) (by first | omega | (simp; done) | (simp; omega)); have z0_hk2 := fun o => hk2.frozen (b := w.heap.size) (o := o) (by first | omega | (simp; done) | (simp; omega)) (by first | omega | (simp; done) | (simp; omega))
    simp only [ndV, nilS]
    go_wp2_with fail
    have hks : Keeps No w w2 := Keeps.trans (Keeps.trans (by (repeat' (first | with_reducible exact Keeps.refl _ _ | with_reducible refine Keeps.set ?_ (by simp <;> omega) _ | with_reducible refine Keeps.alloc ?_ _ | with_reducible refine Keeps.drewN ?_ _ | with_reducible refine Keeps.drew ?_))) hk1) hk2
    refine bodyPost_ret (v := ndV 2 (.slice A1 l'.length c1) nilS 0 0 0 0 false) (by simp [results, Tryz.results57, go_sem, ndV, nilS, *]) rfl ⟨⟨_, _, F1, rfl, ?_, fun g hg => .inr (by have := hf1 g hg; simp at this; omega)⟩, ?_⟩
    · exact (hv1.keeps hk2 (fun _ _ h => h)).keeps (S := But w.heap.size) (by (repeat' (first | with_reducible exact Keeps.refl _ _ | with_reducible refine Keeps.set ?_ (by simp <;> omega) _ | with_reducible refine Keeps.alloc ?_ _ | with_reducible refine Keeps.drewN ?_ _ | with_reducible refine Keeps.drew ?_))) (fun g hg e => by have := hf1 g hg; simp at this; omega)
    · (repeat' (first | with_reducible exact hks | with_reducible refine Keeps.set ?_ (by simp <;> omega) _ | with_reducible refine Keeps.alloc ?_ _ | with_reducible refine Keeps.drewN ?_ _ | with_reducible refine Keeps.drew ?_))

end Th
end Go.Proofs

namespace Go.Proofs
namespace Th
open Go.RowKit

theorem rngCells_one (a b : Int) : rngCells [(a, b)] = [.int .i64 a, .int .i64 b] := rfl

/-- A token's cells as a list. -/
abbrev tkBoxOf (k n : Int) (t : ByteArray) (b : Bool) (l m y f : Int) : Obj := .cells #[.int .i64 k, .int .i64 n, .string t, .bool b, .int .i64 l, .int .i64 m, .int .i64 y, .int .i64 f] 76

theorem Grew.refl (H : Nat) (F : List Nat) : Grew H F F := fun _ h => .inl h

set_option maxRecDepth 100000 in
set_option maxHeartbeats 1000000 in
theorem atom_point {b : Below} (hb : Good b) {w : World} {P : Nat} {d : Int} {L : List Int} {σ : Pst} {F : List Nat} (h : PsAt w P d L σ F) {s' : List Int} (hs : s' <:+ σ.s) (number : Int) (text : ByteArray) (nt : Bool) (least most way fold : Int) {l : Rngs}
    (hx : (if σ.folded then b.fold [(number, number)] else some [(number, number)]) = some l) :
    Calls Tryz.prog 51 #[.pointer (some ⟨P, 0, none⟩), tkV ⟨1, number, text, nt, least, most, way, fold⟩, .int .i64 (posOf L.length s')] w (PPost P d L F (.ok (pointsN l, { σ with s := s' })) w) := by
  obtain ⟨A0, c0, v6, v7, h0, h1, h2, h3, h4, h5, h6, h7, h8⟩ := h.cells
  have hP := h.lt
  have hW := h.setAt hs
  have hlist := h.lists
  have hi1 : ¬ P = w.heap.size := by omega
  have hi2 : ¬ w.heap.size = P := by omega
  have hi3 : ¬ P = w.heap.size + 1 := by omega
  have hi4 : ¬ w.heap.size + 1 = P := by omega
  simp only [tkV]
  go_enter Tryz.func51, Tryz.ntmps51
  go_wp2_with fail
  refine (set_calls hb (l := [(number, number)]) (hW.keepN (by (repeat' (first | with_reducible exact Keeps.refl _ _ | with_reducible refine Keeps.set ?_ (by simp <;> omega) _ | with_reducible refine Keeps.alloc ?_ _ | with_reducible refine Keeps.drewN ?_ _ | with_reducible refine Keeps.drew ?_)))) (SliceV.new (heap_new (by simp)) rfl (by simp) (by simp)) hx).mono ?_
  rintro e w1 ⟨⟨A1, c1, F1, rfl, hv, hf⟩, hk1⟩
  have hs1 : w.heap.size + 1 < w1.heap.size := by have := hk1.size; simp at this; omega
  have c0_hk1 := fun o => hk1.cell (b := P) (o := o) (by first | omega | (simp; done) | (simp; omega)) (by first | omega | (simp; done) | (simp; omega)); have z0_hk1 := fun o => hk1.frozen (b := P) (o := o) (by first | omega | (simp; done) | (simp; omega)) (by first | omega | (simp; done) | (simp; omega)); have c1_hk1 := fun o => hk1.cell (b := w.heap.size + 1) (o := o) (by first | omega | (simp; done) | (simp; omega)) (by first | omega | (simp; done) | (simp; omega)); have z1_hk1 := fun o => hk1.frozen (b := w.heap.size + 1) (o := o) (by first | omega | (simp; done) | (simp; omega)) (by first | omega | (simp; done) | (simp; omega))
  simp only [ndV, nilS]
  generalize hn : l.length = n at *
  have HN := hid hn
  clear hn hx
  go_wp2_with fail
  have hkw : Keeps (fun k => k = P ∨ k ∈ F) w w1 := Keeps.trans (by (repeat' (first | with_reducible exact Keeps.refl _ _ | with_reducible refine Keeps.set ?_ (by simp <;> omega) _ | with_reducible refine Keeps.alloc ?_ _ | with_reducible refine Keeps.drewN ?_ _ | with_reducible refine Keeps.drew ?_))) (hk1.mono (fun _ h => h.elim))
  have hfr : ∀ g ∈ F1, w.heap.size + 2 ≤ g := fun g hg => by rcases hf g hg with h | h <;> simp at h <;> omega
  have hN := SliceV.pointsN (l := l) (by rw [HN.out]; exact hv)
  rw [HN.out] at hN
  refine bodyPost_ret (v := ndV 2 (.slice A1 n c1) nilS 0 0 0 0 false) (by simp [results, Tryz.results51, go_sem, ndV, nilS, *]) rfl ⟨_, F1, F, rfl, ⟨_, rfl, hN.keeps (S := But (w.heap.size + 1)) (by (repeat' (first | with_reducible exact Keeps.refl _ _ | with_reducible refine Keeps.set ?_ (by simp <;> omega) _ | with_reducible refine Keeps.alloc ?_ _ | with_reducible refine Keeps.drewN ?_ _ | with_reducible refine Keeps.drew ?_))) (fun g hg e => by have e : g = _ := e; have := hfr g hg; omega)⟩, nodup_one hv.length_le, fun g hg => ⟨by have := hfr g hg; omega, fun hg2 => by have := (hlist g hg2).2; have := hfr g hg; omega⟩, ?_, Grew.refl _ _, ?_⟩
  · exact (hW.keepN (Keeps.trans (by (repeat' (first | with_reducible exact Keeps.refl _ _ | with_reducible refine Keeps.set ?_ (by simp <;> omega) _ | with_reducible refine Keeps.alloc ?_ _ | with_reducible refine Keeps.drewN ?_ _ | with_reducible refine Keeps.drew ?_))) hk1)).keep (S := But (w.heap.size + 1)) (by (repeat' (first | with_reducible exact Keeps.refl _ _ | with_reducible refine Keeps.set ?_ (by simp <;> omega) _ | with_reducible refine Keeps.alloc ?_ _ | with_reducible refine Keeps.drewN ?_ _ | with_reducible refine Keeps.drew ?_))) (fun k hk e => by have e : k = _ := e; omega) (fun g hg e => by have e : g = _ := e; have := (hlist g hg).2; omega)
  · (repeat' (first | with_reducible exact hkw | with_reducible refine Keeps.set ?_ (by simp <;> omega) _ | with_reducible refine Keeps.alloc ?_ _ | with_reducible refine Keeps.drewN ?_ _ | with_reducible refine Keeps.drew ?_))

set_option maxRecDepth 100000 in
set_option maxHeartbeats 1000000 in
theorem atom_any {b : Below} (hb : Good b) {w : World} {P : Nat} {d : Int} {L : List Int} {σ : Pst} {F : List Nat} (h : PsAt w P d L σ F) {s' : List Int} (hs : s' <:+ σ.s) (number : Int) (text : ByteArray) (nt : Bool) (least most way fold : Int) :
    Calls Tryz.prog 51 #[.pointer (some ⟨P, 0, none⟩), tkV ⟨2, number, text, nt, least, most, way, fold⟩, .int .i64 (posOf L.length s')] w (PPost P d L F (.ok (pointsN [(0, 9), (11, 1114111)], { σ with s := s' })) w) := by
  obtain ⟨A0, c0, v6, v7, h0, h1, h2, h3, h4, h5, h6, h7, h8⟩ := h.cells
  have hP := h.lt
  have hW := h.setAt hs
  have hlist := h.lists
  have hi1 : ¬ P = w.heap.size := by omega
  have hi2 : ¬ w.heap.size = P := by omega
  have hi3 : ¬ P = w.heap.size + 1 := by omega
  have hi4 : ¬ w.heap.size + 1 = P := by omega
  simp only [tkV]
  go_enter Tryz.func51, Tryz.ntmps51
  go_wp2_with fail
  refine (points_calls _ _ _ _).mono ?_
  rintro e w1 ⟨rfl, hk1⟩
  have hv : SliceV w1 85 2 (.slice (some ⟨w.heap.size + 1 + 1, 0, none⟩) 2 2) 2 (rngCells [(0, 9), (11, 1114111)]) [w.heap.size + 1 + 1] := (SliceV.new (heap_new (by simp)) rfl (by simp) (by simp)).keeps hk1 (fun _ _ h => h)
  have hs1 : w.heap.size + 1 < w1.heap.size := by have := hk1.size; simp at this; omega
  have c0_hk1 := fun o => hk1.cell (b := P) (o := o) (by first | omega | (simp; done) | (simp; omega)) (by first | omega | (simp; done) | (simp; omega)); have z0_hk1 := fun o => hk1.frozen (b := P) (o := o) (by first | omega | (simp; done) | (simp; omega)) (by first | omega | (simp; done) | (simp; omega)); have c1_hk1 := fun o => hk1.cell (b := w.heap.size + 1) (o := o) (by first | omega | (simp; done) | (simp; omega)) (by first | omega | (simp; done) | (simp; omega)); have z1_hk1 := fun o => hk1.frozen (b := w.heap.size + 1) (o := o) (by first | omega | (simp; done) | (simp; omega)) (by first | omega | (simp; done) | (simp; omega))
  simp only [ndV, nilS]
  go_wp2_with fail
  have hkw : Keeps (fun k => k = P ∨ k ∈ F) w w1 := Keeps.trans (by (repeat' (first | with_reducible exact Keeps.refl _ _ | with_reducible refine Keeps.set ?_ (by simp <;> omega) _ | with_reducible refine Keeps.alloc ?_ _ | with_reducible refine Keeps.drewN ?_ _ | with_reducible refine Keeps.drew ?_))) (hk1.mono (fun _ h => h.elim))
  have hfr : ∀ g ∈ [w.heap.size + 1 + 1], w.heap.size + 2 ≤ g := fun g hg => by simp at hg; omega
  have hN := SliceV.pointsN (l := [(0, 9), (11, 1114111)]) hv
  refine bodyPost_ret (v := ndV 2 (.slice (some ⟨w.heap.size + 1 + 1, 0, none⟩) 2 2) nilS 0 0 0 0 false) (by simp [results, Tryz.results51, go_sem, ndV, nilS, *]) rfl ⟨_, _, F, rfl, ⟨_, rfl, hN.keeps (S := But (w.heap.size + 1)) (by (repeat' (first | with_reducible exact Keeps.refl _ _ | with_reducible refine Keeps.set ?_ (by simp <;> omega) _ | with_reducible refine Keeps.alloc ?_ _ | with_reducible refine Keeps.drewN ?_ _ | with_reducible refine Keeps.drew ?_))) (fun g hg e => by have e : g = _ := e; have := hfr g hg; omega)⟩, nodup_one hv.length_le, fun g hg => ⟨by have := hfr g hg; omega, fun hg2 => by have := (hlist g hg2).2; have := hfr g hg; omega⟩, ?_, Grew.refl _ _, ?_⟩
  · exact (hW.keepN (Keeps.trans (by (repeat' (first | with_reducible exact Keeps.refl _ _ | with_reducible refine Keeps.set ?_ (by simp <;> omega) _ | with_reducible refine Keeps.alloc ?_ _ | with_reducible refine Keeps.drewN ?_ _ | with_reducible refine Keeps.drew ?_))) hk1)).keep (S := But (w.heap.size + 1)) (by (repeat' (first | with_reducible exact Keeps.refl _ _ | with_reducible refine Keeps.set ?_ (by simp <;> omega) _ | with_reducible refine Keeps.alloc ?_ _ | with_reducible refine Keeps.drewN ?_ _ | with_reducible refine Keeps.drew ?_))) (fun k hk e => by have e : k = _ := e; omega) (fun g hg e => by have e : g = _ := e; have := (hlist g hg).2; omega)
  · (repeat' (first | with_reducible exact hkw | with_reducible refine Keeps.set ?_ (by simp <;> omega) _ | with_reducible refine Keeps.alloc ?_ _ | with_reducible refine Keeps.drewN ?_ _ | with_reducible refine Keeps.drew ?_))

set_option maxRecDepth 100000 in
set_option maxHeartbeats 1000000 in
theorem atom_look {b : Below} (hb : Good b) {w : World} {P : Nat} {d : Int} {L : List Int} {σ : Pst} {F : List Nat} (h : PsAt w P d L σ F) {s' : List Int} (hs : s' <:+ σ.s) (number : Int) (text : ByteArray) (nt : Bool) (least most way fold : Int) :
    Calls Tryz.prog 51 #[.pointer (some ⟨P, 0, none⟩), tkV ⟨3, number, text, nt, least, most, way, fold⟩, .int .i64 (posOf L.length s')] w (PPost P d L F (.ok (kindN number, { σ with s := s' })) w) := by
  obtain ⟨A0, c0, v6, v7, h0, h1, h2, h3, h4, h5, h6, h7, h8⟩ := h.cells
  have hP := h.lt
  have hW := h.setAt hs
  have hlist := h.lists
  have hi1 : ¬ P = w.heap.size := by omega
  have hi2 : ¬ w.heap.size = P := by omega
  have hi3 : ¬ P = w.heap.size + 1 := by omega
  have hi4 : ¬ w.heap.size + 1 = P := by omega
  simp only [tkV]
  go_enter Tryz.func51, Tryz.ntmps51
  go_wp2_with fail
  have hkw : Keeps (fun k => k = P ∨ k ∈ F) w w := Keeps.refl _ _
  have hfr : ∀ g ∈ ([] : List Nat), w.heap.size + 2 ≤ g := fun g hg => by simp at hg
  refine bodyPost_ret (v := ndV number nilS nilS 0 0 0 0 false) (by simp [results, Tryz.results51, go_sem, ndV, nilS, *]) rfl ⟨_, [], F, rfl, ⟨_, rfl, kindN_rep _ _ _ _ _ _ _⟩, nodup_one (by simp), fun g hg => ⟨by have := hfr g hg; omega, fun hg2 => by have := (hlist g hg2).2; have := hfr g hg; omega⟩, ?_, Grew.refl _ _, ?_⟩
  · exact (hW.keepN (Keeps.refl _ _)).keep (S := But (w.heap.size + 1)) (by (repeat' (first | with_reducible exact Keeps.refl _ _ | with_reducible refine Keeps.set ?_ (by simp <;> omega) _ | with_reducible refine Keeps.alloc ?_ _ | with_reducible refine Keeps.drewN ?_ _ | with_reducible refine Keeps.drew ?_))) (fun k hk e => by have e : k = _ := e; omega) (fun g hg e => by have e : g = _ := e; have := (hlist g hg).2; omega)
  · (repeat' (first | with_reducible exact hkw | with_reducible refine Keeps.set ?_ (by simp <;> omega) _ | with_reducible refine Keeps.alloc ?_ _ | with_reducible refine Keeps.drewN ?_ _ | with_reducible refine Keeps.drew ?_))

set_option maxRecDepth 100000 in
set_option maxHeartbeats 1000000 in
theorem atom_option {b : Below} (hb : Good b) {w : World} {P : Nat} {d : Int} {L : List Int} {σ : Pst} {F : List Nat} (h : PsAt w P d L σ F) {s' : List Int} (hs : s' <:+ σ.s) (number : Int) (text : ByteArray) (nt : Bool) (least most way fold : Int) :
    Calls Tryz.prog 51 #[.pointer (some ⟨P, 0, none⟩), tkV ⟨11, number, text, nt, least, most, way, fold⟩, .int .i64 (posOf L.length s')] w (PPost P d L F (.ok (emptyN, { σ with s := s', folded := decide (0 < fold) })) w) := by
  obtain ⟨A0, c0, v6, v7, h0, h1, h2, h3, h4, h5, h6, h7, h8⟩ := h.cells
  have hP := h.lt
  have hW := h.setAt hs
  have hlist := h.lists
  have hi1 : ¬ P = w.heap.size := by omega
  have hi2 : ¬ w.heap.size = P := by omega
  have hi3 : ¬ P = w.heap.size + 1 := by omega
  have hi4 : ¬ w.heap.size + 1 = P := by omega
  simp only [tkV]
  replace hW := hW.setFolded (decide (0 < fold))
  go_enter Tryz.func51, Tryz.ntmps51
  go_wp2_with fail
  refine (empty_calls _).mono ?_
  rintro e w1 ⟨rfl, hk1⟩
  have hs1 : w.heap.size + 1 < w1.heap.size := by have := hk1.size; simp at this; omega
  have c0_hk1 := fun o => hk1.cell (b := P) (o := o) (by first | omega | (simp; done) | (simp; omega)) (by first | omega | (simp; done) | (simp; omega)); have z0_hk1 := fun o => hk1.frozen (b := P) (o := o) (by first | omega | (simp; done) | (simp; omega)) (by first | omega | (simp; done) | (simp; omega)); have c1_hk1 := fun o => hk1.cell (b := w.heap.size + 1) (o := o) (by first | omega | (simp; done) | (simp; omega)) (by first | omega | (simp; done) | (simp; omega)); have z1_hk1 := fun o => hk1.frozen (b := w.heap.size + 1) (o := o) (by first | omega | (simp; done) | (simp; omega)) (by first | omega | (simp; done) | (simp; omega))
  simp only [ndV, nilS]
  go_wp2_with fail
  have hkw : Keeps (fun k => k = P ∨ k ∈ F) w w1 := Keeps.trans (by (repeat' (first | with_reducible exact Keeps.refl _ _ | with_reducible refine Keeps.set ?_ (by simp <;> omega) _ | with_reducible refine Keeps.alloc ?_ _ | with_reducible refine Keeps.drewN ?_ _ | with_reducible refine Keeps.drew ?_))) (hk1.mono (fun _ h => h.elim))
  have hfr : ∀ g ∈ ([] : List Nat), w.heap.size + 2 ≤ g := fun g hg => by simp at hg
  refine bodyPost_ret (v := ndV 1 nilS nilS 0 0 0 0 false) (by simp [results, Tryz.results51, go_sem, ndV, nilS, *]) rfl ⟨_, [], F, rfl, ⟨_, rfl, kindN_rep _ _ _ _ _ _ _⟩, nodup_one (by simp), fun g hg => ⟨by have := hfr g hg; omega, fun hg2 => by have := (hlist g hg2).2; have := hfr g hg; omega⟩, ?_, Grew.refl _ _, ?_⟩
  · exact (hW.keepN (Keeps.trans (by (repeat' (first | with_reducible exact Keeps.refl _ _ | with_reducible refine Keeps.set ?_ (by simp <;> omega) _ | with_reducible refine Keeps.alloc ?_ _ | with_reducible refine Keeps.drewN ?_ _ | with_reducible refine Keeps.drew ?_))) hk1)).keep (S := But (w.heap.size + 1)) (by (repeat' (first | with_reducible exact Keeps.refl _ _ | with_reducible refine Keeps.set ?_ (by simp <;> omega) _ | with_reducible refine Keeps.alloc ?_ _ | with_reducible refine Keeps.drewN ?_ _ | with_reducible refine Keeps.drew ?_))) (fun k hk e => by have e : k = _ := e; omega) (fun g hg e => by have e : g = _ := e; have := (hlist g hg).2; omega)
  · (repeat' (first | with_reducible exact hkw | with_reducible refine Keeps.set ?_ (by simp <;> omega) _ | with_reducible refine Keeps.alloc ?_ _ | with_reducible refine Keeps.drewN ?_ _ | with_reducible refine Keeps.drew ?_))

end Th
end Go.Proofs

namespace Go.Proofs
namespace Th
open Go.RowKit

attribute [local go_sem ↓] Go.wp_at_zero Go.wp_at_succ

set_option maxRecDepth 100000 in
set_option maxHeartbeats 2000000 in
theorem atom_class_plain {b : Below} (hb : Good b) {w : World} {P : Nat} {d : Int} {L : List Int} {σ : Pst} {F : List Nat} (h : PsAt w P d L σ F) {s' : List Int} (hs : s' <:+ σ.s) (number : Int) (text : ByteArray)  (least most way fold : Int) {l l1 : Rngs}
    (hcl : b.cls text = some l) (hx : (if σ.folded then b.fold l else some l) = some l1) :
    Calls Tryz.prog 51 #[.pointer (some ⟨P, 0, none⟩), tkV ⟨4, number, text, false, least, most, way, fold⟩, .int .i64 (posOf L.length s')] w (PPost P d L F (.ok (pointsN l1, { σ with s := s' })) w) := by
  obtain ⟨A0, c0, v6, v7, h0, h1, h2, h3, h4, h5, h6, h7, h8⟩ := h.cells
  have hP := h.lt
  have hW := h.setAt hs
  have hlist := h.lists
  have hi1 : ¬ P = w.heap.size := by omega
  have hi2 : ¬ w.heap.size = P := by omega
  have hi3 : ¬ P = w.heap.size + 1 := by omega
  have hi4 : ¬ w.heap.size + 1 = P := by omega
  simp only [tkV]
  go_enter Tryz.func51, Tryz.ntmps51
  go_wp2_with fail
  refine (hb.cls text l hcl _).mono ?_
  rintro e w1 ⟨A1, c1, F1, rfl, hv1, hf1, hk1⟩
  have hs1 : w.heap.size + 1 < w1.heap.size := by have := hk1.size; simp at this; omega
  have hP1 : P < w1.heap.size := by omega
  have hs1' : w.heap.size < w1.heap.size := by omega
  have hk1w : Keeps (fun k => k = P ∨ k ∈ F) w w1 := Keeps.trans (by (repeat' (first | with_reducible exact Keeps.refl _ _ | with_reducible refine Keeps.set ?_ (by simp <;> omega) _ | with_reducible refine Keeps.alloc ?_ _ | with_reducible refine Keeps.drewN ?_ _ | with_reducible refine Keeps.drew ?_))) (hk1.mono (fun _ h => h.elim))
  have hW1 := hW.keepN (Keeps.trans (by (repeat' (first | with_reducible exact Keeps.refl _ _ | with_reducible refine Keeps.set ?_ (by simp <;> omega) _ | with_reducible refine Keeps.alloc ?_ _ | with_reducible refine Keeps.drewN ?_ _ | with_reducible refine Keeps.drew ?_))) hk1)
  have c0_hk1 := fun o => hk1.cell (b := P) (o := o) (by first | omega | (simp; done) | (simp; omega)) (by first | omega | (simp; done) | (simp; omega)); have z0_hk1 := fun o => hk1.frozen (b := P) (o := o) (by first | omega | (simp; done) | (simp; omega)) (by first | omega | (simp; done) | (simp; omega)); have c1_hk1 := fun o => hk1.cell (b := w.heap.size) (o := o) (by first | omega | (simp; done) | (simp; omega)) (by first | omega | (simp; done) | (simp; omega)); have z1_hk1 := fun o => hk1.frozen (b := w.heap.size) (o := o) (by first | omega | (simp; done) | (simp; omega)) (by first | omega | (simp; done) | (simp; omega)); have c2_hk1 := fun o => hk1.cell (b := w.heap.size + 1) (o := o) (by first | omega | (simp; done) | (simp; omega)) (by first | omega | (simp; done) | (simp; omega)); have z2_hk1 := fun o => hk1.frozen (b := w.heap.size + 1) (o := o) (by first | omega | (simp; done) | (simp; omega)) (by first | omega | (simp; done) | (simp; omega))
  clear hcl
  go_wp2_with fail
  refine (set_calls hb hW1 hv1 hx).mono ?_
  rintro e w2 ⟨⟨A2, c2, F2, rfl, hv2, hf2⟩, hk2⟩
  have hs2 : w.heap.size + 1 < w2.heap.size := by have := hk2.size; omega
  have hP2 : P < w2.heap.size := by omega
  have hs2' : w.heap.size < w2.heap.size := by omega
  have hk2w : Keeps (fun k => k = P ∨ k ∈ F) w w2 := hk1w.trans (hk2.mono (fun _ h => h.elim))
  have hW2 := hW1.keepN hk2
  have hfr : ∀ g ∈ F2, w.heap.size + 2 ≤ g := fun g hg => by
    rcases hf2 g hg with h | h
    · have := hf1 g h; simp at this; omega
    · omega
  have c0_hk2 := fun o => hk2.cell (b := P) (o := o) (by first | omega | (simp; done) | (simp; omega)) (by first | omega | (simp; done) | (simp; omega)); have z0_hk2 := fun o => hk2.frozen (b := P) (o := o) (by first | omega | (simp; done) | (simp; omega)) (by first | omega | (simp; done) | (simp; omega)); have c1_hk2 := fun o => hk2.cell (b := w.heap.size) (o := o) (by first | omega | (simp; done) | (simp; omega)) (by first | omega | (simp; done) | (simp; omega)); have z1_hk2 := fun o => hk2.frozen (b := w.heap.size) (o := o) (by first | omega | (simp; done) | (simp; omega)) (by first | omega | (simp; done) | (simp; omega)); have c2_hk2 := fun o => hk2.cell (b := w.heap.size + 1) (o := o) (by first | omega | (simp; done) | (simp; omega)) (by first | omega | (simp; done) | (simp; omega)); have z2_hk2 := fun o => hk2.frozen (b := w.heap.size + 1) (o := o) (by first | omega | (simp; done) | (simp; omega)) (by first | omega | (simp; done) | (simp; omega))
  simp only [ndV, nilS]
  clear hx
  go_wp2_with fail
  have hN := SliceV.pointsN hv2
  refine bodyPost_ret (v := ndV 2 (.slice A2 l1.length c2) nilS 0 0 0 0 false) (by simp [results, Tryz.results51, go_sem, ndV, nilS, *]) rfl ⟨_, F2, F, rfl, ⟨_, rfl, hN.keeps (S := But (w.heap.size + 1)) (by (repeat' (first | with_reducible exact Keeps.refl _ _ | with_reducible refine Keeps.set ?_ (by simp <;> omega) _ | with_reducible refine Keeps.alloc ?_ _ | with_reducible refine Keeps.drewN ?_ _ | with_reducible refine Keeps.drew ?_))) (fun g hg e => by have e : g = _ := e; have := hfr g hg; omega)⟩, nodup_one hv2.length_le, fun g hg => ⟨by have := hfr g hg; omega, fun hg2 => by have := (hlist g hg2).2; have := hfr g hg; omega⟩, ?_, Grew.refl _ _, ?_⟩
  · exact hW2.keep (S := But (w.heap.size + 1)) (by (repeat' (first | with_reducible exact Keeps.refl _ _ | with_reducible refine Keeps.set ?_ (by simp <;> omega) _ | with_reducible refine Keeps.alloc ?_ _ | with_reducible refine Keeps.drewN ?_ _ | with_reducible refine Keeps.drew ?_))) (fun k hk e => by have e : k = _ := e; omega) (fun g hg e => by have e : g = _ := e; have := (hlist g hg).2; omega)
  · (repeat' (first | with_reducible exact hk2w | with_reducible refine Keeps.set ?_ (by simp <;> omega) _ | with_reducible refine Keeps.alloc ?_ _ | with_reducible refine Keeps.drewN ?_ _ | with_reducible refine Keeps.drew ?_))

set_option maxRecDepth 100000 in
set_option maxHeartbeats 2000000 in
theorem atom_class_not {b : Below} (hb : Good b) {w : World} {P : Nat} {d : Int} {L : List Int} {σ : Pst} {F : List Nat} (h : PsAt w P d L σ F) {s' : List Int} (hs : s' <:+ σ.s) (number : Int) (text : ByteArray)  (least most way fold : Int) {l l1 l2 : Rngs}
    (hcl : b.cls text = some l) (hx : (if σ.folded then b.fold l else some l) = some l1) (hn : b.not l1 = some l2) :
    Calls Tryz.prog 51 #[.pointer (some ⟨P, 0, none⟩), tkV ⟨4, number, text, true, least, most, way, fold⟩, .int .i64 (posOf L.length s')] w (PPost P d L F (.ok (pointsN l2, { σ with s := s' })) w) := by
  obtain ⟨A0, c0, v6, v7, h0, h1, h2, h3, h4, h5, h6, h7, h8⟩ := h.cells
  have hP := h.lt
  have hW := h.setAt hs
  have hlist := h.lists
  have hi1 : ¬ P = w.heap.size := by omega
  have hi2 : ¬ w.heap.size = P := by omega
  have hi3 : ¬ P = w.heap.size + 1 := by omega
  have hi4 : ¬ w.heap.size + 1 = P := by omega
  simp only [tkV]
  go_enter Tryz.func51, Tryz.ntmps51
  go_wp2_with fail
  refine (hb.cls text l hcl _).mono ?_
  rintro e w1 ⟨A1, c1, F1, rfl, hv1, hf1, hk1⟩
  have hs1 : w.heap.size + 1 < w1.heap.size := by have := hk1.size; simp at this; omega
  have hP1 : P < w1.heap.size := by omega
  have hs1' : w.heap.size < w1.heap.size := by omega
  have hk1w : Keeps (fun k => k = P ∨ k ∈ F) w w1 := Keeps.trans (by (repeat' (first | with_reducible exact Keeps.refl _ _ | with_reducible refine Keeps.set ?_ (by simp <;> omega) _ | with_reducible refine Keeps.alloc ?_ _ | with_reducible refine Keeps.drewN ?_ _ | with_reducible refine Keeps.drew ?_))) (hk1.mono (fun _ h => h.elim))
  have hW1 := hW.keepN (Keeps.trans (by (repeat' (first | with_reducible exact Keeps.refl _ _ | with_reducible refine Keeps.set ?_ (by simp <;> omega) _ | with_reducible refine Keeps.alloc ?_ _ | with_reducible refine Keeps.drewN ?_ _ | with_reducible refine Keeps.drew ?_))) hk1)
  have c0_hk1 := fun o => hk1.cell (b := P) (o := o) (by first | omega | (simp; done) | (simp; omega)) (by first | omega | (simp; done) | (simp; omega)); have z0_hk1 := fun o => hk1.frozen (b := P) (o := o) (by first | omega | (simp; done) | (simp; omega)) (by first | omega | (simp; done) | (simp; omega)); have c1_hk1 := fun o => hk1.cell (b := w.heap.size) (o := o) (by first | omega | (simp; done) | (simp; omega)) (by first | omega | (simp; done) | (simp; omega)); have z1_hk1 := fun o => hk1.frozen (b := w.heap.size) (o := o) (by first | omega | (simp; done) | (simp; omega)) (by first | omega | (simp; done) | (simp; omega)); have c2_hk1 := fun o => hk1.cell (b := w.heap.size + 1) (o := o) (by first | omega | (simp; done) | (simp; omega)) (by first | omega | (simp; done) | (simp; omega)); have z2_hk1 := fun o => hk1.frozen (b := w.heap.size + 1) (o := o) (by first | omega | (simp; done) | (simp; omega)) (by first | omega | (simp; done) | (simp; omega))
  clear hcl
  go_wp2_with fail
  refine (set_calls hb hW1 hv1 hx).mono ?_
  rintro e w2 ⟨⟨A2, c2, F2, rfl, hv2, hf2⟩, hk2⟩
  have hs2 : w.heap.size + 1 < w2.heap.size := by have := hk2.size; omega
  have hP2 : P < w2.heap.size := by omega
  have hs2' : w.heap.size < w2.heap.size := by omega
  have hk2w : Keeps (fun k => k = P ∨ k ∈ F) w w2 := hk1w.trans (hk2.mono (fun _ h => h.elim))
  have hW2 := hW1.keepN hk2
  have hfr : ∀ g ∈ F2, w.heap.size + 2 ≤ g := fun g hg => by
    rcases hf2 g hg with h | h
    · have := hf1 g h; simp at this; omega
    · omega
  have c0_hk2 := fun o => hk2.cell (b := P) (o := o) (by first | omega | (simp; done) | (simp; omega)) (by first | omega | (simp; done) | (simp; omega)); have z0_hk2 := fun o => hk2.frozen (b := P) (o := o) (by first | omega | (simp; done) | (simp; omega)) (by first | omega | (simp; done) | (simp; omega)); have c1_hk2 := fun o => hk2.cell (b := w.heap.size) (o := o) (by first | omega | (simp; done) | (simp; omega)) (by first | omega | (simp; done) | (simp; omega)); have z1_hk2 := fun o => hk2.frozen (b := w.heap.size) (o := o) (by first | omega | (simp; done) | (simp; omega)) (by first | omega | (simp; done) | (simp; omega)); have c2_hk2 := fun o => hk2.cell (b := w.heap.size + 1) (o := o) (by first | omega | (simp; done) | (simp; omega)) (by first | omega | (simp; done) | (simp; omega)); have z2_hk2 := fun o => hk2.frozen (b := w.heap.size + 1) (o := o) (by first | omega | (simp; done) | (simp; omega)) (by first | omega | (simp; done) | (simp; omega))
  simp only [ndV, nilS]
  clear hx
  go_wp2_with fail
  refine (hb.not l1 l2 hn _ A2 c2 F2 (hv2.keeps (S := No) (by (repeat' (first | with_reducible exact Keeps.refl _ _ | with_reducible refine Keeps.set ?_ (by simp <;> omega) _ | with_reducible refine Keeps.alloc ?_ _ | with_reducible refine Keeps.drewN ?_ _ | with_reducible refine Keeps.drew ?_))) (fun _ _ h => h))).mono ?_
  rintro e w3 ⟨A3, c3, F3, rfl, hv3, hf3, hk3⟩
  have hs3 : w2.heap.size < w3.heap.size := by have := hk3.size; simp at this; omega
  have hfr3 : ∀ g ∈ F3, w2.heap.size + 1 ≤ g := fun g hg => by have := hf3 g hg; simp at this; omega
  have hk3w : Keeps (fun k => k = P ∨ k ∈ F) w w3 := Keeps.trans (by (repeat' (first | with_reducible exact hk2w | with_reducible refine Keeps.set ?_ (by simp <;> omega) _ | with_reducible refine Keeps.alloc ?_ _ | with_reducible refine Keeps.drewN ?_ _ | with_reducible refine Keeps.drew ?_))) (hk3.mono (fun _ h => h.elim))
  have hW3 := hW2.keepN (Keeps.trans (by (repeat' (first | with_reducible exact Keeps.refl _ _ | with_reducible refine Keeps.set ?_ (by simp <;> omega) _ | with_reducible refine Keeps.alloc ?_ _ | with_reducible refine Keeps.drewN ?_ _ | with_reducible refine Keeps.drew ?_))) hk3)
  have c0_hk3 := fun o => hk3.cell (b := P) (o := o) (by first | omega | (simp; done) | (simp; omega)) (by first | omega | (simp; done) | (simp; omega)); have z0_hk3 := fun o => hk3.frozen (b := P) (o := o) (by first | omega | (simp; done) | (simp; omega)) (by first | omega | (simp; done) | (simp; omega)); have c1_hk3 := fun o => hk3.cell (b := w.heap.size) (o := o) (by first | omega | (simp; done) | (simp; omega)) (by first | omega | (simp; done) | (simp; omega)); have z1_hk3 := fun o => hk3.frozen (b := w.heap.size) (o := o) (by first | omega | (simp; done) | (simp; omega)) (by first | omega | (simp; done) | (simp; omega)); have c2_hk3 := fun o => hk3.cell (b := w.heap.size + 1) (o := o) (by first | omega | (simp; done) | (simp; omega)) (by first | omega | (simp; done) | (simp; omega)); have z2_hk3 := fun o => hk3.frozen (b := w.heap.size + 1) (o := o) (by first | omega | (simp; done) | (simp; omega)) (by first | omega | (simp; done) | (simp; omega)); have c3_hk3 := fun o => hk3.cell (b := w2.heap.size) (o := o) (by first | omega | (simp; done) | (simp; omega)) (by first | omega | (simp; done) | (simp; omega)); have z3_hk3 := fun o => hk3.frozen (b := w2.heap.size) (o := o) (by first | omega | (simp; done) | (simp; omega)) (by first | omega | (simp; done) | (simp; omega))
  have hi5 : ¬ w2.heap.size = w.heap.size + 1 := by omega
  have hi6 : ¬ w.heap.size + 1 = w2.heap.size := by omega
  go_wp2_with fail
  have hN := SliceV.pointsN hv3
  refine bodyPost_ret (v := ndV 2 (.slice A3 l2.length c3) nilS 0 0 0 0 false) (by simp [results, Tryz.results51, go_sem, ndV, nilS, *]) rfl ⟨_, F3, F, rfl, ⟨_, rfl, hN.keeps (S := fun k => k = w.heap.size + 1 ∨ k = w2.heap.size) (by (repeat' (first | with_reducible exact Keeps.refl _ _ | with_reducible refine Keeps.set ?_ (by simp <;> omega) _ | with_reducible refine Keeps.alloc ?_ _ | with_reducible refine Keeps.drewN ?_ _ | with_reducible refine Keeps.drew ?_))) (fun g hg e => by have := hfr3 g hg; omega)⟩, nodup_one hv3.length_le, fun g hg => ⟨by have := hfr3 g hg; omega, fun hg2 => by have := (hlist g hg2).2; have := hfr3 g hg; omega⟩, ?_, Grew.refl _ _, ?_⟩
  · exact hW3.keep (S := fun k => k = w.heap.size + 1 ∨ k = w2.heap.size) (by (repeat' (first | with_reducible exact Keeps.refl _ _ | with_reducible refine Keeps.set ?_ (by simp <;> omega) _ | with_reducible refine Keeps.alloc ?_ _ | with_reducible refine Keeps.drewN ?_ _ | with_reducible refine Keeps.drew ?_))) (fun k hk e => by omega) (fun g hg e => by have := (hlist g hg).2; omega)
  · (repeat' (first | with_reducible exact hk3w | with_reducible refine Keeps.set ?_ (by simp <;> omega) _ | with_reducible refine Keeps.alloc ?_ _ | with_reducible refine Keeps.drewN ?_ _ | with_reducible refine Keeps.drew ?_))

end Th
end Go.Proofs

namespace Go.Proofs
namespace Th
open Go.RowKit

theorem any_world {K : Act → World → Prop} {a : Act} {W : World} (F : World → Prop) (hF : F W) (h : ∀ W', F W' → K a W') : K a W := h W hF

/-- A node's box as it is made, in block b. -/
def NdAt (w : World) (b : Nat) : Prop :=
  w.cell? ⟨b, 0, none⟩ = some (.int .i64 0) ∧ w.cell? ⟨b, 1, none⟩ = some (.slice none 0 0) ∧ w.cell? ⟨b, 2, none⟩ = some (.slice none 0 0) ∧ w.cell? ⟨b, 3, none⟩ = some (.int .i64 0) ∧ w.cell? ⟨b, 4, none⟩ = some (.int .i64 0) ∧
    w.cell? ⟨b, 5, none⟩ = some (.int .i64 0) ∧ w.cell? ⟨b, 6, none⟩ = some (.int .i64 0) ∧ w.cell? ⟨b, 7, none⟩ = some (.bool false) ∧ ∀ o, w.frozen? ⟨b, o, none⟩ = false

theorem againInfo : (Tryz.prog.info? 81).map (fun i => (i.zero, i.size, i.bytes)) = some (some (.agg #[.int .i64 0, .int .i64 0, .string ⟨#[]⟩]), 3, 32) := by kernel_rfl
theorem nameInfo : (Tryz.prog.info? 44).map (fun i => (i.zero, i.size, i.bytes)) = some (some (.agg #[.string ⟨#[]⟩, .int .i64 0]), 2, 24) := by kernel_rfl

theorem own_keeps {S : Nat → Prop} {w w' : World} {base size n : Nat} {e : TypeId} {v : Value} {xs : List Value} (h : w.ownsRow base e size v n xs) (hk : Keeps S w w') (hs : ∀ g, v.ownBlock = some g → ¬ S g) : w'.ownsRow base e size v n xs :=
  ownsRow_keep h fun g hg => hk.block g (h.lt g (own_mem.1 hg)).2 (hs g (own_mem.1 hg))
theorem own_keepN {w w' : World} {base size n : Nat} {e : TypeId} {v : Value} {xs : List Value} (h : w.ownsRow base e size v n xs) (hk : Keeps No w w') : w'.ownsRow base e size v n xs := own_keeps h hk (fun _ _ h => h)

/-- Its lists. -/
theorem PsAt.own {w : World} {P : Nat} {d : Int} {L : List Int} {σ : Pst} {F : List Nat} (h : PsAt w P d L σ F) : ∃ v6 v7, w.cell? ⟨P, 6, none⟩ = some v6 ∧ w.cell? ⟨P, 7, none⟩ = some v7 ∧
      w.ownsRow (P + 1) 44 2 v6 σ.names.length (nameCells σ.names) ∧ w.ownsRow (P + 1) 81 3 v7 σ.agains.length (againCells σ.agains) ∧ σ.names.length ≤ 20 ∧ σ.agains.length ≤ 300 ∧ (∀ g, v6.ownBlock = some g → g ∈ F) ∧ ∀ g, v7.ownBlock = some g → g ∈ F := by
  obtain ⟨A, c, v6, v7, h0, h1, h2, h3, h4, h5, h6, h7, h8, h9, h10, h11, h12, h13, h14, h15, h16, h17, h18, h19, h20, h21, h22, h23⟩ := h.facts
  refine ⟨v6, v7, h6, h7, h9, h10, by omega, by omega, fun g hg => ?_, fun g hg => ?_⟩
  · rw [h11]; exact List.mem_append_left _ (own_mem.2 hg)
  · rw [h11]; exact List.mem_append_right _ (own_mem.2 hg)
theorem Grew.mono {H H' : Nat} {F F' : List Nat} (h : Grew H F F') (hH : H' ≤ H) : Grew H' F F' := fun g hg => (h g hg).imp id (fun x => Nat.le_trans hH x)

/-- What a cell holds. -/
def cv (w : World) (a : Addr) : Value := (w.cell? a).getD undef
theorem cv_isSome {w : World} {a : Addr} (h : (w.cell? a).isSome = true) : w.cell? a = some (cv w a) := by
  cases hc : w.cell? a with
  | none => rw [hc] at h; cases h
  | some v => simp [cv, hc]
theorem cv_eq {w : World} {a : Addr} {v : Value} (h : w.cell? a = some v) : cv w a = v := by simp [cv, h]

theorem NdAt.keep {S : Nat → Prop} {w w' : World} {b : Nat} (h : NdAt w b) (hk : Keeps S w w') (hs : ¬ S b) : NdAt w' b := by
  have hb : b < w.heap.size := lt_of_cell h.1
  obtain ⟨x0, x1, x2, x3, x4, x5, x6, x7, x8⟩ := h
  exact ⟨(hk.cell hb hs).trans x0, (hk.cell hb hs).trans x1, (hk.cell hb hs).trans x2, (hk.cell hb hs).trans x3, (hk.cell hb hs).trans x4, (hk.cell hb hs).trans x5, (hk.cell hb hs).trans x6, (hk.cell hb hs).trans x7, fun o => (hk.frozen hb hs).trans (x8 o)⟩

def PatC (b : Below) (k : Nat) : Prop := ∀ (w : World) (P : Nat) (d : Int) (L : List Int) (σ : Pst) (F : List Nat) r, PsAt w P d L σ F → patternP b d L.length k σ = some r →
  Calls Tryz.prog 21 #[.pointer (some ⟨P, 0, none⟩)] w (PPost P d L F r w)
def OpenC (b : Below) (k : Nat) : Prop := ∀ (w : World) (P : Nat) (d : Int) (L : List Int) (σ : Pst) (F : List Nat) (t : Tk) (f : Int) r, PsAt w P d L σ F → openP b d L.length k t f σ = some r →
  Calls Tryz.prog 62 #[.pointer (some ⟨P, 0, none⟩), tkV t, .int .i64 f] w (PPost P d L F r w)
def AtomC (b : Below) (k : Nat) : Prop := ∀ (w : World) (P : Nat) (d : Int) (L : List Int) (σ : Pst) (F : List Nat) (t : Tk) (s' : List Int) r, PsAt w P d L σ F → s' <:+ σ.s → s'.length + 1 ≤ σ.s.length → -1000 ≤ t.number → atomP b d L.length k t s' σ = some r →
  Calls Tryz.prog 51 #[.pointer (some ⟨P, 0, none⟩), tkV t, .int .i64 (posOf L.length s')] w (PPost P d L F r w)
def BranC (b : Below) (k : Nat) : Prop := ∀ (w : World) (P : Nat) (d : Int) (L : List Int) (σ : Pst) (F : List Nat) r, PsAt w P d L σ F → branchP b d L.length k σ [] false 0 = some r →
  Calls Tryz.prog 37 #[.pointer (some ⟨P, 0, none⟩)] w (PPost P d L F r w)

end Th
end Go.Proofs
