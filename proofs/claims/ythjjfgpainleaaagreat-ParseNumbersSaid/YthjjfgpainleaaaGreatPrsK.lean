/- The parser: an atom: brackets that are wrong; again. -/
import Derived.Test.YthjjfgpainleaaaGreatPrsJ

set_option linter.unusedSimpArgs false
set_option linter.unusedVariables false
set_option linter.all false

namespace Go.Proofs
namespace Th
open Go.RowKit

attribute [local go_sem ↓] Go.wp_at_zero Go.wp_at_succ

set_option maxRecDepth 100000 in
set_option maxHeartbeats 4000000 in
theorem atom_set_zero {b : Below} (hb : Good b) {w : World} {P : Nat} {d : Int} {L : List Int} {σ : Pst} {F : List Nat} (h : PsAt w P d L σ F) {s' : List Int} (hs : s' <:+ σ.s) (number : Int) (text : ByteArray) (nt : Bool) (least most way fold : Int) {f1 f2 : Int}
    (hr : b.brk d L.length s' σ.folded = some (.error (f1, f2))) (hx1 : f1 = 2) (hx2 : f2 = 0) :
    Calls Tryz.prog 51 #[.pointer (some ⟨P, 0, none⟩), tkV ⟨5, number, text, nt, least, most, way, fold⟩, .int .i64 (posOf L.length s')] w (PPost P d L F (.error ((2 : Int), posOf L.length σ.s)) w) := by
  obtain ⟨A0, c0, v6, v7, h0, h1, h2, h3, h4, h5, h6, h7, h8⟩ := h.cells
  have hP := h.lt
  have hW := h.setAt hs
  have hlist := h.lists
  have hi1 : ¬ P = w.heap.size := by omega
  have hi2 : ¬ w.heap.size = P := by omega
  have hi3 : ¬ P = w.heap.size + 1 := by omega
  have hi4 : ¬ w.heap.size + 1 = P := by omega
  have hi5 : ¬ P = w.heap.size + 1 + 1 := by omega
  have hi6 : ¬ w.heap.size + 1 + 1 = P := by omega
  have hR := fun W (hW : PsAt W P d L { σ with s := s' } F) hA => brk_at hb hW (A0 := A0) (c0 := c0) hA hr
  simp only [BrkPost] at hR
  clear hr
  subst hx1 hx2
  simp only [tkV]
  go_enter Tryz.func51, Tryz.ntmps51
  go_wp2_with fail
  refine wp_world (fun W => PsAt W P d L { σ with s := s' } F ∧ W.cell? ⟨P, 0, none⟩ = some (.int .i64 d) ∧ W.cell? ⟨P, 1, none⟩ = some (.slice A0 L.length c0) ∧ W.cell? ⟨P, 2, none⟩ = some (.int .i64 (posOf L.length s')) ∧ W.cell? ⟨P, 3, none⟩ = some (.bool σ.folded) ∧ (∀ o, W.frozen? ⟨P, o, none⟩ = false) ∧
      NdAt W (w.heap.size + 1) ∧ Keeps (fun k => k = P ∨ k ∈ F) w W ∧ w.heap.size + 1 < W.heap.size) ?_ ?_
  · refine ⟨hW.keepN (by (repeat' (first | with_reducible exact Keeps.refl _ _ | with_reducible refine Keeps.set ?_ (by simp <;> omega) _ | with_reducible refine Keeps.alloc ?_ _ | with_reducible refine Keeps.drewN ?_ _ | with_reducible refine Keeps.drew ?_))), ?_, ?_, ?_, ?_, ?_, ?_, ?_, ?_⟩
    all_goals first | (simp [go_sem, NdAt, *]; done) | skip
    (repeat' (first | with_reducible exact Keeps.refl _ _ | with_reducible refine Keeps.set ?_ (by simp <;> omega) _ | with_reducible refine Keeps.alloc ?_ _ | with_reducible refine Keeps.drewN ?_ _ | with_reducible refine Keeps.drew ?_))
  clear h h0 h1 h2 h3 h4 h5 h6 h7 h8 hW
  rintro W ⟨hW, h0, h1, h2, h3, h8, ⟨x0, x1, x2, x3, x4, x5, x6, x7, x8⟩, hkW, hsW⟩
  have hPW : P < W.heap.size := by omega
  clear hs hb
  go_region_held3 (fun w' => w'.cell? ⟨P, 0, none⟩ = some (.int .i64 d) ∧ w'.cell? ⟨P, 1, none⟩ = some (.slice A0 L.length c0) ∧ w'.cell? ⟨P, 2, none⟩ = some (.int .i64 (posOf L.length s')) ∧ w'.cell? ⟨P, 3, none⟩ = some (.bool σ.folded)) (simp [go_sem, *])
    ((go_at_call 61; refine (hR _ (hW.keepN (by (repeat' (first | with_reducible exact Keeps.refl _ _ | with_reducible refine Keeps.set ?_ (by simp <;> omega) _ | with_reducible refine Keeps.alloc ?_ _ | with_reducible refine Keeps.drewN ?_ _ | with_reducible refine Keeps.drew ?_)))) (by simp [go_sem, *])).mono ?_; rintro e' w1 ⟨rfl, hk1⟩;
      have hk1w : Keeps (fun k => k = P ∨ k ∈ F) w w1 := Keeps.trans (by (repeat' (first | with_reducible exact hkW | with_reducible refine Keeps.set ?_ (by simp <;> omega) _ | with_reducible refine Keeps.alloc ?_ _ | with_reducible refine Keeps.drewN ?_ _ | with_reducible refine Keeps.drew ?_))) (hk1.mono (fun _ h => h.elim)); have hW1 := hW.keepN (Keeps.trans (by (repeat' (first | with_reducible exact Keeps.refl _ _ | with_reducible refine Keeps.set ?_ (by simp <;> omega) _ | with_reducible refine Keeps.alloc ?_ _ | with_reducible refine Keeps.drewN ?_ _ | with_reducible refine Keeps.drew ?_))) hk1); have hs1 : W.heap.size ≤ w1.heap.size := (Nat.le_trans (by first | omega | (simp; done) | (simp; omega)) hk1.size); have hs1' : w.heap.size + 1 < w1.heap.size := (by omega); have hP1 : P < w1.heap.size := (by omega);
      have g0 := fun o => hk1.cell (b := P) (o := o) (by first | omega | (simp; done) | (simp; omega)) id; have y0 := fun o => hk1.frozen (b := P) (o := o) (by first | omega | (simp; done) | (simp; omega)) id; have g1 := fun o => hk1.cell (b := w.heap.size + 1) (o := o) (by first | omega | (simp; done) | (simp; omega)) id; have y1 := fun o => hk1.frozen (b := w.heap.size + 1) (o := o) (by first | omega | (simp; done) | (simp; omega)) id; (try have g2 := fun o => hk1.cell (b := W.heap.size) (o := o) (by first | omega | (simp; done) | (simp; omega)) id); (try have y2 := fun o => hk1.frozen (b := W.heap.size) (o := o) (by first | omega | (simp; done) | (simp; omega)) id);
      (try have hz2 : W.heap.size < w1.heap.size := hk1.lt_of (by first | omega | (simp; done) | (simp; omega)))))
  · refine any_world (fun V => V.cell? ⟨w1.heap.size, 0, none⟩ = some (.int .i64 2) ∧ V.cell? ⟨w1.heap.size, 1, none⟩ = some (.int .i64 0) ∧ (∀ o, V.frozen? ⟨w1.heap.size, o, none⟩ = false) ∧ Keeps (fun k => k = P ∨ k ∈ F) w V ∧ Alive V P) ?_ ?_
    · refine ⟨?_, ?_, ?_, by (repeat' (first | with_reducible exact hk1w | with_reducible refine Keeps.set ?_ (by simp <;> omega) _ | with_reducible refine Keeps.alloc ?_ _ | with_reducible refine Keeps.drewN ?_ _ | with_reducible refine Keeps.drew ?_)), by (repeat' (first | with_reducible exact hW1.alive | with_reducible refine Alive.set ?_ | with_reducible refine Alive.alloc ?_ | with_reducible refine Alive.drewN ?_ | with_reducible refine Alive.drew ?_))⟩
      all_goals (simp [go_sem, *])
    rintro V ⟨e0, e1, e2, hkV, hal⟩
    go_wp2
    exact ⟨rfl, rfl, by (repeat' (first | with_reducible exact hkV | with_reducible refine Keeps.set ?_ (by simp <;> omega) _ | with_reducible refine Keeps.alloc ?_ _ | with_reducible refine Keeps.drewN ?_ _ | with_reducible refine Keeps.drew ?_)), by (repeat' (first | with_reducible exact hal | with_reducible refine Alive.set ?_ | with_reducible refine Alive.alloc ?_ | with_reducible refine Alive.drewN ?_ | with_reducible refine Alive.drew ?_))⟩
  · refine any_world (fun V => V.cell? ⟨W.heap.size, 0, none⟩ = some (.int .i64 2) ∧ V.cell? ⟨W.heap.size, 1, none⟩ = some (.int .i64 0) ∧ (∀ o, V.frozen? ⟨W.heap.size, o, none⟩ = false) ∧ Keeps (fun k => k = P ∨ k ∈ F) w V ∧ Alive V P) ?_ ?_
    · refine ⟨?_, ?_, ?_, by (repeat' (first | with_reducible exact hk1w | with_reducible refine Keeps.set ?_ (by simp <;> omega) _ | with_reducible refine Keeps.alloc ?_ _ | with_reducible refine Keeps.drewN ?_ _ | with_reducible refine Keeps.drew ?_)), by (repeat' (first | with_reducible exact hW1.alive | with_reducible refine Alive.set ?_ | with_reducible refine Alive.alloc ?_ | with_reducible refine Alive.drewN ?_ | with_reducible refine Alive.drew ?_))⟩
      all_goals (simp [go_sem, *])
    rintro V ⟨e0, e1, e2, hkV, hal⟩
    go_wp2
    exact ⟨rfl, rfl, by (repeat' (first | with_reducible exact hkV | with_reducible refine Keeps.set ?_ (by simp <;> omega) _ | with_reducible refine Keeps.alloc ?_ _ | with_reducible refine Keeps.drewN ?_ _ | with_reducible refine Keeps.drew ?_)), by (repeat' (first | with_reducible exact hal | with_reducible refine Alive.set ?_ | with_reducible refine Alive.alloc ?_ | with_reducible refine Alive.drewN ?_ | with_reducible refine Alive.drew ?_))⟩

set_option maxRecDepth 100000 in
set_option maxHeartbeats 4000000 in
theorem atom_set_two {b : Below} (hb : Good b) {w : World} {P : Nat} {d : Int} {L : List Int} {σ : Pst} {F : List Nat} (h : PsAt w P d L σ F) {s' : List Int} (hs : s' <:+ σ.s) (number : Int) (text : ByteArray) (nt : Bool) (least most way fold : Int) {f1 f2 : Int}
    (hr : b.brk d L.length s' σ.folded = some (.error (f1, f2))) (hx1 : f1 = 2) (hx2 : f2 ≠ 0) :
    Calls Tryz.prog 51 #[.pointer (some ⟨P, 0, none⟩), tkV ⟨5, number, text, nt, least, most, way, fold⟩, .int .i64 (posOf L.length s')] w (PPost P d L F (.error ((2 : Int), f2)) w) := by
  obtain ⟨A0, c0, v6, v7, h0, h1, h2, h3, h4, h5, h6, h7, h8⟩ := h.cells
  have hP := h.lt
  have hW := h.setAt hs
  have hlist := h.lists
  have hi1 : ¬ P = w.heap.size := by omega
  have hi2 : ¬ w.heap.size = P := by omega
  have hi3 : ¬ P = w.heap.size + 1 := by omega
  have hi4 : ¬ w.heap.size + 1 = P := by omega
  have hi5 : ¬ P = w.heap.size + 1 + 1 := by omega
  have hi6 : ¬ w.heap.size + 1 + 1 = P := by omega
  have hR := fun W (hW : PsAt W P d L { σ with s := s' } F) hA => brk_at hb hW (A0 := A0) (c0 := c0) hA hr
  simp only [BrkPost] at hR
  clear hr
  subst hx1
  have hx2' : (f2 == 0) = false := beq_eq_false_iff_ne.2 hx2
  clear hx2
  simp only [tkV]
  go_enter Tryz.func51, Tryz.ntmps51
  go_wp2_with fail
  refine wp_world (fun W => PsAt W P d L { σ with s := s' } F ∧ W.cell? ⟨P, 0, none⟩ = some (.int .i64 d) ∧ W.cell? ⟨P, 1, none⟩ = some (.slice A0 L.length c0) ∧ W.cell? ⟨P, 2, none⟩ = some (.int .i64 (posOf L.length s')) ∧ W.cell? ⟨P, 3, none⟩ = some (.bool σ.folded) ∧ (∀ o, W.frozen? ⟨P, o, none⟩ = false) ∧
      NdAt W (w.heap.size + 1) ∧ Keeps (fun k => k = P ∨ k ∈ F) w W ∧ w.heap.size + 1 < W.heap.size) ?_ ?_
  · refine ⟨hW.keepN (by (repeat' (first | with_reducible exact Keeps.refl _ _ | with_reducible refine Keeps.set ?_ (by simp <;> omega) _ | with_reducible refine Keeps.alloc ?_ _ | with_reducible refine Keeps.drewN ?_ _ | with_reducible refine Keeps.drew ?_))), ?_, ?_, ?_, ?_, ?_, ?_, ?_, ?_⟩
    all_goals first | (simp [go_sem, NdAt, *]; done) | skip
    (repeat' (first | with_reducible exact Keeps.refl _ _ | with_reducible refine Keeps.set ?_ (by simp <;> omega) _ | with_reducible refine Keeps.alloc ?_ _ | with_reducible refine Keeps.drewN ?_ _ | with_reducible refine Keeps.drew ?_))
  clear h h0 h1 h2 h3 h4 h5 h6 h7 h8 hW
  rintro W ⟨hW, h0, h1, h2, h3, h8, ⟨x0, x1, x2, x3, x4, x5, x6, x7, x8⟩, hkW, hsW⟩
  have hPW : P < W.heap.size := by omega
  clear hs hb
  go_region_held3 (fun w' => w'.cell? ⟨P, 0, none⟩ = some (.int .i64 d) ∧ w'.cell? ⟨P, 1, none⟩ = some (.slice A0 L.length c0) ∧ w'.cell? ⟨P, 2, none⟩ = some (.int .i64 (posOf L.length s')) ∧ w'.cell? ⟨P, 3, none⟩ = some (.bool σ.folded)) (simp [go_sem, *])
    ((go_at_call 61; refine (hR _ (hW.keepN (by (repeat' (first | with_reducible exact Keeps.refl _ _ | with_reducible refine Keeps.set ?_ (by simp <;> omega) _ | with_reducible refine Keeps.alloc ?_ _ | with_reducible refine Keeps.drewN ?_ _ | with_reducible refine Keeps.drew ?_)))) (by simp [go_sem, *])).mono ?_; rintro e' w1 ⟨rfl, hk1⟩;
      have hk1w : Keeps (fun k => k = P ∨ k ∈ F) w w1 := Keeps.trans (by (repeat' (first | with_reducible exact hkW | with_reducible refine Keeps.set ?_ (by simp <;> omega) _ | with_reducible refine Keeps.alloc ?_ _ | with_reducible refine Keeps.drewN ?_ _ | with_reducible refine Keeps.drew ?_))) (hk1.mono (fun _ h => h.elim)); have hW1 := hW.keepN (Keeps.trans (by (repeat' (first | with_reducible exact Keeps.refl _ _ | with_reducible refine Keeps.set ?_ (by simp <;> omega) _ | with_reducible refine Keeps.alloc ?_ _ | with_reducible refine Keeps.drewN ?_ _ | with_reducible refine Keeps.drew ?_))) hk1); have hs1 : W.heap.size ≤ w1.heap.size := (Nat.le_trans (by first | omega | (simp; done) | (simp; omega)) hk1.size); have hs1' : w.heap.size + 1 < w1.heap.size := (by omega); have hP1 : P < w1.heap.size := (by omega);
      have g0 := fun o => hk1.cell (b := P) (o := o) (by first | omega | (simp; done) | (simp; omega)) id; have y0 := fun o => hk1.frozen (b := P) (o := o) (by first | omega | (simp; done) | (simp; omega)) id; have g1 := fun o => hk1.cell (b := w.heap.size + 1) (o := o) (by first | omega | (simp; done) | (simp; omega)) id; have y1 := fun o => hk1.frozen (b := w.heap.size + 1) (o := o) (by first | omega | (simp; done) | (simp; omega)) id; (try have g2 := fun o => hk1.cell (b := W.heap.size) (o := o) (by first | omega | (simp; done) | (simp; omega)) id); (try have y2 := fun o => hk1.frozen (b := W.heap.size) (o := o) (by first | omega | (simp; done) | (simp; omega)) id);
      (try have hz2 : W.heap.size < w1.heap.size := hk1.lt_of (by first | omega | (simp; done) | (simp; omega)))))
  · refine any_world (fun V => V.cell? ⟨w1.heap.size, 0, none⟩ = some (.int .i64 2) ∧ V.cell? ⟨w1.heap.size, 1, none⟩ = some (.int .i64 f2) ∧ (∀ o, V.frozen? ⟨w1.heap.size, o, none⟩ = false) ∧ Keeps (fun k => k = P ∨ k ∈ F) w V ∧ Alive V P) ?_ ?_
    · refine ⟨?_, ?_, ?_, by (repeat' (first | with_reducible exact hk1w | with_reducible refine Keeps.set ?_ (by simp <;> omega) _ | with_reducible refine Keeps.alloc ?_ _ | with_reducible refine Keeps.drewN ?_ _ | with_reducible refine Keeps.drew ?_)), by (repeat' (first | with_reducible exact hW1.alive | with_reducible refine Alive.set ?_ | with_reducible refine Alive.alloc ?_ | with_reducible refine Alive.drewN ?_ | with_reducible refine Alive.drew ?_))⟩
      all_goals (simp [go_sem, *])
    rintro V ⟨e0, e1, e2, hkV, hal⟩
    go_wp2
    exact ⟨rfl, rfl, by (repeat' (first | with_reducible exact hkV | with_reducible refine Keeps.set ?_ (by simp <;> omega) _ | with_reducible refine Keeps.alloc ?_ _ | with_reducible refine Keeps.drewN ?_ _ | with_reducible refine Keeps.drew ?_)), by (repeat' (first | with_reducible exact hal | with_reducible refine Alive.set ?_ | with_reducible refine Alive.alloc ?_ | with_reducible refine Alive.drewN ?_ | with_reducible refine Alive.drew ?_))⟩
  · refine any_world (fun V => V.cell? ⟨W.heap.size, 0, none⟩ = some (.int .i64 2) ∧ V.cell? ⟨W.heap.size, 1, none⟩ = some (.int .i64 f2) ∧ (∀ o, V.frozen? ⟨W.heap.size, o, none⟩ = false) ∧ Keeps (fun k => k = P ∨ k ∈ F) w V ∧ Alive V P) ?_ ?_
    · refine ⟨?_, ?_, ?_, by (repeat' (first | with_reducible exact hk1w | with_reducible refine Keeps.set ?_ (by simp <;> omega) _ | with_reducible refine Keeps.alloc ?_ _ | with_reducible refine Keeps.drewN ?_ _ | with_reducible refine Keeps.drew ?_)), by (repeat' (first | with_reducible exact hW1.alive | with_reducible refine Alive.set ?_ | with_reducible refine Alive.alloc ?_ | with_reducible refine Alive.drewN ?_ | with_reducible refine Alive.drew ?_))⟩
      all_goals (simp [go_sem, *])
    rintro V ⟨e0, e1, e2, hkV, hal⟩
    go_wp2
    exact ⟨rfl, rfl, by (repeat' (first | with_reducible exact hkV | with_reducible refine Keeps.set ?_ (by simp <;> omega) _ | with_reducible refine Keeps.alloc ?_ _ | with_reducible refine Keeps.drewN ?_ _ | with_reducible refine Keeps.drew ?_)), by (repeat' (first | with_reducible exact hal | with_reducible refine Alive.set ?_ | with_reducible refine Alive.alloc ?_ | with_reducible refine Alive.drewN ?_ | with_reducible refine Alive.drew ?_))⟩

set_option maxRecDepth 100000 in
set_option maxHeartbeats 4000000 in
theorem atom_set_any {b : Below} (hb : Good b) {w : World} {P : Nat} {d : Int} {L : List Int} {σ : Pst} {F : List Nat} (h : PsAt w P d L σ F) {s' : List Int} (hs : s' <:+ σ.s) (number : Int) (text : ByteArray) (nt : Bool) (least most way fold : Int) {f1 f2 : Int}
    (hr : b.brk d L.length s' σ.folded = some (.error (f1, f2))) (hx1 : f1 ≠ 2) (hx0 : f1 ≠ 0) :
    Calls Tryz.prog 51 #[.pointer (some ⟨P, 0, none⟩), tkV ⟨5, number, text, nt, least, most, way, fold⟩, .int .i64 (posOf L.length s')] w (PPost P d L F (.error (f1, f2)) w) := by
  obtain ⟨A0, c0, v6, v7, h0, h1, h2, h3, h4, h5, h6, h7, h8⟩ := h.cells
  have hP := h.lt
  have hW := h.setAt hs
  have hlist := h.lists
  have hi1 : ¬ P = w.heap.size := by omega
  have hi2 : ¬ w.heap.size = P := by omega
  have hi3 : ¬ P = w.heap.size + 1 := by omega
  have hi4 : ¬ w.heap.size + 1 = P := by omega
  have hi5 : ¬ P = w.heap.size + 1 + 1 := by omega
  have hi6 : ¬ w.heap.size + 1 + 1 = P := by omega
  have hR := fun W (hW : PsAt W P d L { σ with s := s' } F) hA => brk_at hb hW (A0 := A0) (c0 := c0) hA hr
  simp only [BrkPost] at hR
  clear hr
  have hx1' : (f1 == 2) = false := beq_eq_false_iff_ne.2 hx1
  have hx0' : (f1 == 0) = false := beq_eq_false_iff_ne.2 hx0
  have hx0'' : (f1 != 0) = true := bne_iff_ne.2 hx0
  clear hx1
  simp only [tkV]
  go_enter Tryz.func51, Tryz.ntmps51
  go_wp2_with fail
  refine wp_world (fun W => PsAt W P d L { σ with s := s' } F ∧ W.cell? ⟨P, 0, none⟩ = some (.int .i64 d) ∧ W.cell? ⟨P, 1, none⟩ = some (.slice A0 L.length c0) ∧ W.cell? ⟨P, 2, none⟩ = some (.int .i64 (posOf L.length s')) ∧ W.cell? ⟨P, 3, none⟩ = some (.bool σ.folded) ∧ (∀ o, W.frozen? ⟨P, o, none⟩ = false) ∧
      NdAt W (w.heap.size + 1) ∧ Keeps (fun k => k = P ∨ k ∈ F) w W ∧ w.heap.size + 1 < W.heap.size) ?_ ?_
  · refine ⟨hW.keepN (by (repeat' (first | with_reducible exact Keeps.refl _ _ | with_reducible refine Keeps.set ?_ (by simp <;> omega) _ | with_reducible refine Keeps.alloc ?_ _ | with_reducible refine Keeps.drewN ?_ _ | with_reducible refine Keeps.drew ?_))), ?_, ?_, ?_, ?_, ?_, ?_, ?_, ?_⟩
    all_goals first | (simp [go_sem, NdAt, *]; done) | skip
    (repeat' (first | with_reducible exact Keeps.refl _ _ | with_reducible refine Keeps.set ?_ (by simp <;> omega) _ | with_reducible refine Keeps.alloc ?_ _ | with_reducible refine Keeps.drewN ?_ _ | with_reducible refine Keeps.drew ?_))
  clear h h0 h1 h2 h3 h4 h5 h6 h7 h8 hW
  rintro W ⟨hW, h0, h1, h2, h3, h8, ⟨x0, x1, x2, x3, x4, x5, x6, x7, x8⟩, hkW, hsW⟩
  have hPW : P < W.heap.size := by omega
  clear hs hb
  go_region_held3 (fun w' => w'.cell? ⟨P, 0, none⟩ = some (.int .i64 d) ∧ w'.cell? ⟨P, 1, none⟩ = some (.slice A0 L.length c0) ∧ w'.cell? ⟨P, 2, none⟩ = some (.int .i64 (posOf L.length s')) ∧ w'.cell? ⟨P, 3, none⟩ = some (.bool σ.folded)) (simp [go_sem, *])
    ((go_at_call 61; refine (hR _ (hW.keepN (by (repeat' (first | with_reducible exact Keeps.refl _ _ | with_reducible refine Keeps.set ?_ (by simp <;> omega) _ | with_reducible refine Keeps.alloc ?_ _ | with_reducible refine Keeps.drewN ?_ _ | with_reducible refine Keeps.drew ?_)))) (by simp [go_sem, *])).mono ?_; rintro e' w1 ⟨rfl, hk1⟩;
      have hk1w : Keeps (fun k => k = P ∨ k ∈ F) w w1 := Keeps.trans (by (repeat' (first | with_reducible exact hkW | with_reducible refine Keeps.set ?_ (by simp <;> omega) _ | with_reducible refine Keeps.alloc ?_ _ | with_reducible refine Keeps.drewN ?_ _ | with_reducible refine Keeps.drew ?_))) (hk1.mono (fun _ h => h.elim)); have hW1 := hW.keepN (Keeps.trans (by (repeat' (first | with_reducible exact Keeps.refl _ _ | with_reducible refine Keeps.set ?_ (by simp <;> omega) _ | with_reducible refine Keeps.alloc ?_ _ | with_reducible refine Keeps.drewN ?_ _ | with_reducible refine Keeps.drew ?_))) hk1); have hs1 : W.heap.size ≤ w1.heap.size := (Nat.le_trans (by first | omega | (simp; done) | (simp; omega)) hk1.size); have hs1' : w.heap.size + 1 < w1.heap.size := (by omega); have hP1 : P < w1.heap.size := (by omega);
      have g0 := fun o => hk1.cell (b := P) (o := o) (by first | omega | (simp; done) | (simp; omega)) id; have y0 := fun o => hk1.frozen (b := P) (o := o) (by first | omega | (simp; done) | (simp; omega)) id; have g1 := fun o => hk1.cell (b := w.heap.size + 1) (o := o) (by first | omega | (simp; done) | (simp; omega)) id; have y1 := fun o => hk1.frozen (b := w.heap.size + 1) (o := o) (by first | omega | (simp; done) | (simp; omega)) id; (try have g2 := fun o => hk1.cell (b := W.heap.size) (o := o) (by first | omega | (simp; done) | (simp; omega)) id); (try have y2 := fun o => hk1.frozen (b := W.heap.size) (o := o) (by first | omega | (simp; done) | (simp; omega)) id);
      (try have hz2 : W.heap.size < w1.heap.size := hk1.lt_of (by first | omega | (simp; done) | (simp; omega)))))
  · refine any_world (fun V => V.cell? ⟨w1.heap.size, 0, none⟩ = some (.int .i64 f1) ∧ V.cell? ⟨w1.heap.size, 1, none⟩ = some (.int .i64 f2) ∧ (∀ o, V.frozen? ⟨w1.heap.size, o, none⟩ = false) ∧ Keeps (fun k => k = P ∨ k ∈ F) w V ∧ Alive V P) ?_ ?_
    · refine ⟨?_, ?_, ?_, by (repeat' (first | with_reducible exact hk1w | with_reducible refine Keeps.set ?_ (by simp <;> omega) _ | with_reducible refine Keeps.alloc ?_ _ | with_reducible refine Keeps.drewN ?_ _ | with_reducible refine Keeps.drew ?_)), by (repeat' (first | with_reducible exact hW1.alive | with_reducible refine Alive.set ?_ | with_reducible refine Alive.alloc ?_ | with_reducible refine Alive.drewN ?_ | with_reducible refine Alive.drew ?_))⟩
      all_goals (simp [go_sem, *])
    rintro V ⟨e0, e1, e2, hkV, hal⟩
    go_wp2
    exact ⟨rfl, rfl, by (repeat' (first | with_reducible exact hkV | with_reducible refine Keeps.set ?_ (by simp <;> omega) _ | with_reducible refine Keeps.alloc ?_ _ | with_reducible refine Keeps.drewN ?_ _ | with_reducible refine Keeps.drew ?_)), by (repeat' (first | with_reducible exact hal | with_reducible refine Alive.set ?_ | with_reducible refine Alive.alloc ?_ | with_reducible refine Alive.drewN ?_ | with_reducible refine Alive.drew ?_))⟩
  · refine any_world (fun V => V.cell? ⟨W.heap.size, 0, none⟩ = some (.int .i64 f1) ∧ V.cell? ⟨W.heap.size, 1, none⟩ = some (.int .i64 f2) ∧ (∀ o, V.frozen? ⟨W.heap.size, o, none⟩ = false) ∧ Keeps (fun k => k = P ∨ k ∈ F) w V ∧ Alive V P) ?_ ?_
    · refine ⟨?_, ?_, ?_, by (repeat' (first | with_reducible exact hk1w | with_reducible refine Keeps.set ?_ (by simp <;> omega) _ | with_reducible refine Keeps.alloc ?_ _ | with_reducible refine Keeps.drewN ?_ _ | with_reducible refine Keeps.drew ?_)), by (repeat' (first | with_reducible exact hW1.alive | with_reducible refine Alive.set ?_ | with_reducible refine Alive.alloc ?_ | with_reducible refine Alive.drewN ?_ | with_reducible refine Alive.drew ?_))⟩
      all_goals (simp [go_sem, *])
    rintro V ⟨e0, e1, e2, hkV, hal⟩
    go_wp2
    exact ⟨rfl, rfl, by (repeat' (first | with_reducible exact hkV | with_reducible refine Keeps.set ?_ (by simp <;> omega) _ | with_reducible refine Keeps.alloc ?_ _ | with_reducible refine Keeps.drewN ?_ _ | with_reducible refine Keeps.drew ?_)), by (repeat' (first | with_reducible exact hal | with_reducible refine Alive.set ?_ | with_reducible refine Alive.alloc ?_ | with_reducible refine Alive.drewN ?_ | with_reducible refine Alive.drew ?_))⟩

end Th
end Go.Proofs
