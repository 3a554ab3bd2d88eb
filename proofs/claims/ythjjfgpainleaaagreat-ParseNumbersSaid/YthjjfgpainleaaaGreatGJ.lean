/- The parser: an atom: what is spoken of and is not there; groups; no atom. The parser: an atom, whole. -/
import Derived.Test.YthjjfgpainleaaaGreatPrsL

set_option linter.unusedSimpArgs false
set_option linter.unusedVariables false
set_option linter.all false

namespace Go.Proofs
namespace Th
open Go.RowKit

attribute [local go_sem ↓] Go.wp_at_zero Go.wp_at_succ

set_option maxRecDepth 100000 in
set_option maxHeartbeats 4000000 in
theorem atom_again_none {w : World} {P : Nat} {d : Int} {L : List Int} {σ : Pst} {F : List Nat} (h : PsAt w P d L σ F) (q : Int) (number : Int) (text : ByteArray) (nt : Bool) (least most way fold : Int)
    (hn1 : -1000 ≤ number) (hn0 : number < 0) (hm : number + ((σ.groups : Int) + 1) < 1) :
    Calls Tryz.prog 51 #[.pointer (some ⟨P, 0, none⟩), tkV ⟨10, number, text, nt, least, most, way, fold⟩, .int .i64 q] w (PPost P d L F (.error (5, posOf L.length σ.s)) w) := by
  obtain ⟨A0, c0, v6, v7', h0, h1, h2, h3, h4, h5, h6, h7, h8⟩ := h.cells
  have hP := h.lt
  have hal := h.alive
  have hg20 : σ.groups ≤ 20 := by obtain ⟨A, c, v6, v7, h0, h1, h2, h3, h4, h5, h6, h7, h8, h9, h10, h11, h12, h13, h14, h15, h16, h17, h18, h19, h20, h21, _⟩ := h.facts; exact h21
  have hi1 : ¬ P = w.heap.size := by omega
  have hi2 : ¬ w.heap.size = P := by omega
  have hi3 : ¬ P = w.heap.size + 1 := by omega
  have hi4 : ¬ w.heap.size + 1 = P := by omega
  have hg20' : (σ.groups : Int) ≤ 20 := by omega
  have hg0 : (0 : Int) ≤ (σ.groups : Int) := by omega
  clear h
  simp only [tkV]
  go_enter Tryz.func51, Tryz.ntmps51
  go_wp2_with fail
  go_region
  all_goals
    go_wp2_with fail
    refine (pfail_calls _ _ _).mono ?_
    rintro e w2 ⟨rfl, rfl⟩
    exact ⟨rfl, rfl, by (repeat' (first | with_reducible exact Keeps.refl _ _ | with_reducible refine Keeps.set ?_ (by simp <;> omega) _ | with_reducible refine Keeps.alloc ?_ _ | with_reducible refine Keeps.drewN ?_ _ | with_reducible refine Keeps.drew ?_)), by (repeat' (first | with_reducible exact hal | with_reducible refine Alive.set ?_ | with_reducible refine Alive.alloc ?_ | with_reducible refine Alive.drewN ?_ | with_reducible refine Alive.drew ?_))⟩

set_option maxRecDepth 100000 in
set_option maxHeartbeats 4000000 in
theorem atom_other {w : World} {P : Nat} {d : Int} {L : List Int} {σ : Pst} {F : List Nat} (h : PsAt w P d L σ F) (q : Int) (kind number : Int) (text : ByteArray) (nt : Bool) (least most way fold : Int)
    (hk : kind ≠ 1 ∧ kind ≠ 2 ∧ kind ≠ 3 ∧ kind ≠ 4 ∧ kind ≠ 5 ∧ kind ≠ 11 ∧ kind ≠ 10 ∧ kind ≠ 7) :
    Calls Tryz.prog 51 #[.pointer (some ⟨P, 0, none⟩), tkV ⟨kind, number, text, nt, least, most, way, fold⟩, .int .i64 q] w (PPost P d L F (.error (1, posOf L.length σ.s)) w) := by
  obtain ⟨A0, c0, v6, v7', h0, h1, h2, h3, h4, h5, h6, h7, h8⟩ := h.cells
  have hP := h.lt
  have hal := h.alive
  obtain ⟨k1, k2, k3, k4, k5, k6, k7, k8⟩ := hk
  have e1 := beq_eq_false_iff_ne.2 k1
  have e2 := beq_eq_false_iff_ne.2 k2
  have e3 := beq_eq_false_iff_ne.2 k3
  have e4 := beq_eq_false_iff_ne.2 k4
  have e5 := beq_eq_false_iff_ne.2 k5
  have e6 := beq_eq_false_iff_ne.2 k6
  have e7 := beq_eq_false_iff_ne.2 k7
  have e8 := beq_eq_false_iff_ne.2 k8
  have hi1 : ¬ P = w.heap.size := by omega
  have hi2 : ¬ w.heap.size = P := by omega
  have hi3 : ¬ P = w.heap.size + 1 := by omega
  have hi4 : ¬ w.heap.size + 1 = P := by omega
  clear h k1 k2 k3 k4 k5 k6 k7 k8
  simp only [tkV]
  go_enter Tryz.func51, Tryz.ntmps51
  go_wp2_with fail
  refine (pfail_calls _ _ _).mono ?_
  rintro e w2 ⟨rfl, rfl⟩
  exact ⟨rfl, rfl, by (repeat' (first | with_reducible exact Keeps.refl _ _ | with_reducible refine Keeps.set ?_ (by simp <;> omega) _ | with_reducible refine Keeps.alloc ?_ _ | with_reducible refine Keeps.drewN ?_ _ | with_reducible refine Keeps.drew ?_)), by (repeat' (first | with_reducible exact hal | with_reducible refine Alive.set ?_ | with_reducible refine Alive.alloc ?_ | with_reducible refine Alive.drewN ?_ | with_reducible refine Alive.drew ?_))⟩

set_option maxRecDepth 100000 in
set_option maxHeartbeats 4000000 in
theorem atom_open {w : World} {P : Nat} {d : Int} {L : List Int} {σ : Pst} {F : List Nat} (h : PsAt w P d L σ F) {s' : List Int} (hs : s' <:+ σ.s) (number : Int) (text : ByteArray) (nt : Bool) (least most way fold : Int) {r : Except Flt (Nd × Pst)}
    (ho : ∀ W, PsAt W P d L { σ with s := s' } F → Calls Tryz.prog 62 #[.pointer (some ⟨P, 0, none⟩), tkV ⟨7, number, text, nt, least, most, way, fold⟩, .int .i64 (posOf L.length σ.s)] W (PPost P d L F r W)) :
    Calls Tryz.prog 51 #[.pointer (some ⟨P, 0, none⟩), tkV ⟨7, number, text, nt, least, most, way, fold⟩, .int .i64 (posOf L.length s')] w (PPost P d L F r w) := by
  obtain ⟨A0, c0, v6, v7', h0, h1, h2, h3, h4, h5, h6, h7, h8⟩ := h.cells
  have hP := h.lt
  have hal := h.alive
  have hW := h.setAt hs
  have hlist := h.lists
  have hi1 : ¬ P = w.heap.size := by omega
  have hi2 : ¬ w.heap.size = P := by omega
  have hi3 : ¬ P = w.heap.size + 1 := by omega
  have hi4 : ¬ w.heap.size + 1 = P := by omega
  simp only [tkV] at ho ⊢
  go_enter Tryz.func51, Tryz.ntmps51
  go_wp2_with fail
  refine (ho _ (hW.keepN (by (repeat' (first | with_reducible exact Keeps.refl _ _ | with_reducible refine Keeps.set ?_ (by simp <;> omega) _ | with_reducible refine Keeps.alloc ?_ _ | with_reducible refine Keeps.drewN ?_ _ | with_reducible refine Keeps.drew ?_))))).mono ?_
  cases r with
  | error f =>
    rintro e w1 ⟨rfl, hk1, hal1⟩
    have hk1w : Keeps (fun k => k = P ∨ k ∈ F) w w1 := Keeps.trans (by (repeat' (first | with_reducible exact Keeps.refl _ _ | with_reducible refine Keeps.set ?_ (by simp <;> omega) _ | with_reducible refine Keeps.alloc ?_ _ | with_reducible refine Keeps.drewN ?_ _ | with_reducible refine Keeps.drew ?_))) hk1
    simp only [fltPanic]
    exact ⟨rfl, rfl, hk1w, hal1⟩
  | ok xσ =>
    obtain ⟨x, σ'⟩ := xσ
    rintro e w1 ⟨v', Fn, F', rfl, hN, hnd, hfr, hP1, hgr, hk1⟩
    obtain ⟨sA, sn, sc, kA, kn, kc, rfl, hN2⟩ := hN.parts
    have hs1 : w.heap.size + 1 < w1.heap.size := hk1.lt_of (by first | omega | (simp; done) | (simp; omega))
    have hk1w : Keeps (fun k => k = P ∨ k ∈ F) w w1 := Keeps.trans (by (repeat' (first | with_reducible exact Keeps.refl _ _ | with_reducible refine Keeps.set ?_ (by simp <;> omega) _ | with_reducible refine Keeps.alloc ?_ _ | with_reducible refine Keeps.drewN ?_ _ | with_reducible refine Keeps.drew ?_))) hk1
    have hnot : ¬ (w.heap.size + 1 = P ∨ w.heap.size + 1 ∈ F) := fun e => by
      rcases e with e | e
      · omega
      · have := (hlist _ e).2; omega
    have g1 := fun o => hk1.cell (b := w.heap.size + 1) (o := o) (by first | omega | (simp; done) | (simp; omega)) hnot
    have y1 := fun o => hk1.frozen (b := w.heap.size + 1) (o := o) (by first | omega | (simp; done) | (simp; omega)) hnot
    have hfr' : ∀ g ∈ Fn, w.heap.size + 2 ≤ g := fun g hg => by have := (hfr g hg).1; simp at this; omega
    have hgr' : ∀ g ∈ F', g ≠ w.heap.size + 1 := fun g hg e => by
      rcases hgr g hg with h | h
      · have := (hlist g h).2; omega
      · simp at h; omega
    have hgr2 : Grew w.heap.size F F' := hgr.mono (by simp; omega)
    clear hgr
    have hP2 := hP1.lt
    go_wp2_with fail
    refine bodyPost_ret (v := .agg #[.int .i64 x.kind, .slice sA sn sc, .slice kA kn kc, .int .i64 x.number, .int .i64 x.least, .int .i64 x.most, .int .i64 x.way, .bool x.fold]) (by simp [results, Tryz.results51, go_sem, ndV, *]) rfl ⟨_, Fn, F', rfl, ⟨_, rfl, hN2.keeps (S := But (w.heap.size + 1)) (by (repeat' (first | with_reducible exact Keeps.refl _ _ | with_reducible refine Keeps.set ?_ (by simp <;> omega) _ | with_reducible refine Keeps.alloc ?_ _ | with_reducible refine Keeps.drewN ?_ _ | with_reducible refine Keeps.drew ?_))) (fun g hg e => by have e : g = _ := e; have := hfr' g hg; omega)⟩, hnd, fun g hg => ⟨by have := hfr' g hg; omega, (hfr g hg).2⟩, ?_, hgr2, ?_⟩
    · exact hP1.keep (S := But (w.heap.size + 1)) (by (repeat' (first | with_reducible exact Keeps.refl _ _ | with_reducible refine Keeps.set ?_ (by simp <;> omega) _ | with_reducible refine Keeps.alloc ?_ _ | with_reducible refine Keeps.drewN ?_ _ | with_reducible refine Keeps.drew ?_))) (fun k hk e => by have e : k = _ := e; omega) (fun g hg e => hgr' g hg e)
    · (repeat' (first | with_reducible exact hk1w | with_reducible refine Keeps.set ?_ (by simp <;> omega) _ | with_reducible refine Keeps.alloc ?_ _ | with_reducible refine Keeps.drewN ?_ _ | with_reducible refine Keeps.drew ?_))

end Th
end Go.Proofs

namespace Go.Proofs
namespace Th
open Go.RowKit

theorem setN_some {b : Below} {fd : Bool} {l : Rngs} {x : Nd} (h : setN b fd l = some x) : ∃ l', (if fd then b.fold l else some l) = some l' ∧ x = pointsN l' := by
  cases fd with
  | false => exact ⟨l, rfl, by simpa [setN] using h.symm⟩
  | true =>
    simp only [setN, if_true, Option.map_eq_some_iff] at h
    obtain ⟨l', h1, h2⟩ := h
    exact ⟨l', by simpa using h1, h2.symm⟩

theorem atom_calls {b : Below} (hb : Good b) {k : Nat} (ho : OpenC b k) : AtomC b (k + 1) := by
  intro w P d L σ F t s' r h hs hsl hn hr
  obtain ⟨kind, number, text, nt, least, most, way, fold⟩ := t
  simp only [atomP] at hr
  by_cases k1 : kind = 1
  · subst k1
    simp only [if_true, Option.map_eq_some_iff] at hr
    obtain ⟨x, hx, rfl⟩ := hr
    obtain ⟨l', hl, rfl⟩ := setN_some hx
    exact atom_point hb h hs number text nt least most way fold hl
  rw [if_neg k1] at hr
  by_cases k2 : kind = 2
  · subst k2
    simp only [if_true, Option.some.injEq] at hr
    subst hr
    exact atom_any hb h hs number text nt least most way fold
  rw [if_neg k2] at hr
  by_cases k3 : kind = 3
  · subst k3
    simp only [if_true, Option.some.injEq] at hr
    subst hr
    exact atom_look hb h hs number text nt least most way fold
  rw [if_neg k3] at hr
  by_cases k4 : kind = 4
  · subst k4
    simp only [if_true] at hr
    cases hc : b.cls text with
    | none => rw [hc] at hr; cases hr
    | some l =>
      rw [hc] at hr
      simp only at hr
      cases hf : (if σ.folded then b.fold l else some l) with
      | none => rw [hf] at hr; cases hr
      | some l1 =>
        rw [hf] at hr
        simp only at hr
        cases nt with
        | false =>
          simp only [Bool.false_eq_true, if_false, Option.map_some, Option.some.injEq] at hr
          subst hr
          exact atom_class_plain hb h hs number text least most way fold hc hf
        | true =>
          simp only [if_true, Option.map_eq_some_iff] at hr
          obtain ⟨l2, hl2, rfl⟩ := hr
          exact atom_class_not hb h hs number text least most way fold hc hf hl2
  rw [if_neg k4] at hr
  by_cases k5 : kind = 5
  · subst k5
    simp only [if_true] at hr
    cases hbk : b.brk d L.length s' σ.folded with
    | none => rw [hbk] at hr; cases hr
    | some r1 =>
      rw [hbk] at hr
      cases r1 with
      | error f =>
        simp only [Option.some.injEq] at hr
        subst hr
        obtain ⟨f1, f2⟩ := f
        by_cases e1 : f1 = 2
        · by_cases e2 : f2 = 0
          · rw [if_pos ⟨e1, e2⟩]
            exact atom_set_zero hb h hs number text nt least most way fold hbk e1 e2
          · rw [if_neg (fun e => e2 e.2), e1]
            exact atom_set_two hb h hs number text nt least most way fold hbk e1 e2
        · rw [if_neg (fun e => e1 e.1)]
          exact atom_set_any hb h hs number text nt least most way fold hbk e1 (hb.wrong _ _ _ _ _ hbk)
      | ok ls =>
        obtain ⟨l, s2⟩ := ls
        simp only [Option.some.injEq] at hr
        subst hr
        exact atom_set_ok hb h hs (hb.ends _ _ _ _ _ _ hbk) number text nt least most way fold hbk
  rw [if_neg k5] at hr
  by_cases k11 : kind = 11
  · subst k11
    simp only [if_true, Option.some.injEq] at hr
    subst hr
    exact atom_option hb h hs number text nt least most way fold
  rw [if_neg k11] at hr
  by_cases k10 : kind = 10
  · subst k10
    simp only [if_true] at hr
    by_cases hif : number < 0 ∧ (if number < 0 then number + ((σ.groups : Int) + 1) else number) < 1
    · rw [if_pos hif] at hr
      cases hr
      obtain ⟨h0, h1⟩ := hif
      rw [if_pos h0] at h1
      exact atom_again_none h _ number text nt least most way fold hn h0 h1
    · rw [if_neg hif] at hr
      cases hr
      exact atom_again h hs hsl number _ text nt least most way fold hn rfl (fun h0 => by
        rw [if_pos h0] at hif ⊢
        rcases Int.lt_or_le (number + ((σ.groups : Int) + 1)) 1 with h1 | h1
        · exact absurd ⟨h0, h1⟩ hif
        · exact h1)
  rw [if_neg k10] at hr
  by_cases k7 : kind = 7
  · subst k7
    simp only [if_true] at hr
    exact atom_open h hs number text nt least most way fold (fun W hW => ho W P d L _ F _ _ r hW hr)
  rw [if_neg k7] at hr
  cases hr
  exact atom_other h _ kind number text nt least most way fold ⟨k1, k2, k3, k4, k5, k11, k10, k7⟩

end Th
end Go.Proofs
