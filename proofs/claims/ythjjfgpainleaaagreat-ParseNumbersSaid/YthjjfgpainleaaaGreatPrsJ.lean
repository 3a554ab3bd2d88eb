/- The parser: an atom: brackets. -/
import Derived.Test.YthjjfgpainleaaaGreatGI

set_option linter.unusedSimpArgs false
set_option linter.unusedVariables false
set_option linter.all false

namespace Go.Proofs
namespace Th
open Go.RowKit

attribute [local go_sem ↓] Go.wp_at_zero Go.wp_at_succ

theorem brk_at {b : Below} (hb : Good b) {W : World} {P : Nat} {d : Int} {L : List Int} {σ : Pst} {F : List Nat} (h : PsAt W P d L σ F) {A0 : Option Addr} {c0 : Nat} (hA : W.cell? ⟨P, 1, none⟩ = some (.slice A0 L.length c0)) {r}
    (hr : b.brk d L.length σ.s σ.folded = some r) : Calls Tryz.prog 61 #[.int .i64 d, .slice A0 L.length c0, .int .i64 (posOf L.length σ.s), .bool σ.folded] W (BrkPost L r W) := by
  have hP := h.lt
  obtain ⟨A, c, v6, v7, h0, h1, h2, h3, h4, h5, h6, h7, h8, h9, h10, h11, h12, h13, h14, h15, h16, h17, h18, h19, _⟩ := h.facts
  rw [hA] at h1
  injection h1 with h1
  injection h1 with e1 _ e2
  subst e1 e2
  exact hb.brk d L σ.s σ.folded r hr W P A0 c0 h12 (by omega) h13 h14 h15 h16 h17 (by rw [h18]; exact List.drop_suffix _ _)

set_option maxRecDepth 100000 in
set_option maxHeartbeats 4000000 in
theorem atom_set_ok {b : Below} (hb : Good b) {w : World} {P : Nat} {d : Int} {L : List Int} {σ : Pst} {F : List Nat} (h : PsAt w P d L σ F) {s' s2 : List Int} (hs : s' <:+ σ.s) (hs2 : s2 <:+ s') (number : Int) (text : ByteArray) (nt : Bool) (least most way fold : Int) {l : Rngs}
    (hr : b.brk d L.length s' σ.folded = some (.ok (l, s2))) :
    Calls Tryz.prog 51 #[.pointer (some ⟨P, 0, none⟩), tkV ⟨5, number, text, nt, least, most, way, fold⟩, .int .i64 (posOf L.length s')] w (PPost P d L F (.ok (pointsN l, { σ with s := s2 })) w) := by
  obtain ⟨A0, c0, v6, v7, h0, h1, h2, h3, h4, h5, h6, h7, h8⟩ := h.cells
  have hP := h.lt
  have hW := h.setAt hs
  have hW2 := h.setAt (hs2.trans hs)
  have hlist := h.lists
  have hi1 : ¬ P = w.heap.size := by omega
  have hi2 : ¬ w.heap.size = P := by omega
  have hi3 : ¬ P = w.heap.size + 1 := by omega
  have hi4 : ¬ w.heap.size + 1 = P := by omega
  have hi5 : ¬ P = w.heap.size + 1 + 1 := by omega
  have hi6 : ¬ w.heap.size + 1 + 1 = P := by omega
  have hR := fun W (hW : PsAt W P d L { σ with s := s' } F) hA => brk_at hb hW (A0 := A0) (c0 := c0) hA hr
  simp only [BrkPost] at hR
  clear hr
  simp only [tkV]
  go_enter Tryz.func51, Tryz.ntmps51
  go_wp2_with fail
  refine wp_world (fun W => PsAt W P d L { σ with s := s' } F ∧ W.cell? ⟨P, 0, none⟩ = some (.int .i64 d) ∧ W.cell? ⟨P, 1, none⟩ = some (.slice A0 L.length c0) ∧ W.cell? ⟨P, 2, none⟩ = some (.int .i64 (posOf L.length s')) ∧ W.cell? ⟨P, 3, none⟩ = some (.bool σ.folded) ∧ (∀ o, W.frozen? ⟨P, o, none⟩ = false) ∧
      NdAt W (w.heap.size + 1) ∧ Keeps (fun k => k = P ∨ k ∈ F) w W ∧ w.heap.size + 1 < W.heap.size) ?_ ?_
  · refine ⟨hW.keepN (by (repeat' (first | with_reducible exact Keeps.refl _ _ | with_reducible refine Keeps.set ?_ (by simp <;> omega) _ | with_reducible refine Keeps.alloc ?_ _ | with_reducible refine Keeps.drewN ?_ _ | with_reducible refine Keeps.drew ?_))), ?_, ?_, ?_, ?_, ?_, ?_, ?_, ?_⟩
    all_goals first | (simp [go_sem, NdAt, *]; done) | skip
    (repeat' (first | with_reducible exact Keeps.refl _ _ | with_reducible refine Keeps.set ?_ (by simp <;> omega) _ | with_reducible refine Keeps.alloc ?_ _ | with_reducible refine Keeps.drewN ?_ _ | with_reducible refine Keeps.drew ?_))
  clear h h0 h1 h2 h3 h4 h5 h6 h7 h8 hW
  rintro W ⟨hW, h0, h1, h2, h3, h8, ⟨x0, x1, x2, x3, x4, x5, x6, x7, x8⟩, hkW, hsW⟩
  have hPW : P < W.heap.size := by omega
  have HS2 := hid hs2
  clear hs hs2 hb
  go_region_held3 (fun w' => w'.cell? ⟨P, 0, none⟩ = some (.int .i64 d) ∧ w'.cell? ⟨P, 1, none⟩ = some (.slice A0 L.length c0) ∧ w'.cell? ⟨P, 2, none⟩ = some (.int .i64 (posOf L.length s')) ∧ w'.cell? ⟨P, 3, none⟩ = some (.bool σ.folded)) (simp [go_sem, *])
    ((go_at_call 61; refine (hR _ (hW.keepN (by (repeat' (first | with_reducible exact Keeps.refl _ _ | with_reducible refine Keeps.set ?_ (by simp <;> omega) _ | with_reducible refine Keeps.alloc ?_ _ | with_reducible refine Keeps.drewN ?_ _ | with_reducible refine Keeps.drew ?_)))) (by simp [go_sem, *])).mono ?_; rintro e' w1 ⟨A1, c1, F1, rfl, hv1, hf1, hk1⟩;
      have hk1w : Keeps (fun k => k = P ∨ k ∈ F) w w1 := Keeps.trans (by (repeat' (first | with_reducible exact hkW | with_reducible refine Keeps.set ?_ (by simp <;> omega) _ | with_reducible refine Keeps.alloc ?_ _ | with_reducible refine Keeps.drewN ?_ _ | with_reducible refine Keeps.drew ?_))) (hk1.mono (fun _ h => h.elim)); have hW1 := hW.keepN (Keeps.trans (by (repeat' (first | with_reducible exact Keeps.refl _ _ | with_reducible refine Keeps.set ?_ (by simp <;> omega) _ | with_reducible refine Keeps.alloc ?_ _ | with_reducible refine Keeps.drewN ?_ _ | with_reducible refine Keeps.drew ?_))) hk1); have hs1 : W.heap.size ≤ w1.heap.size := (Nat.le_trans (by first | omega | (simp; done) | (simp; omega)) hk1.size); have hs1' : w.heap.size + 1 < w1.heap.size := (by omega); have hP1 : P < w1.heap.size := (by omega);
      have hfr : ∀ g ∈ F1, w.heap.size + 2 ≤ g := (fun g hg => Nat.le_trans (Nat.le_trans hsW (by first | omega | (simp; done) | (simp; omega))) (hf1 g hg));
      have hv1' : ∀ g ∈ F1, g < w1.heap.size := (fun g hg => by (obtain ⟨cur, hc⟩ := hv1.lt g hg; exact (Array.getElem?_eq_some_iff.1 hc).1));
      have g0 := fun o => hk1.cell (b := P) (o := o) (by first | omega | (simp; done) | (simp; omega)) id; have y0 := fun o => hk1.frozen (b := P) (o := o) (by first | omega | (simp; done) | (simp; omega)) id; have g1 := fun o => hk1.cell (b := w.heap.size + 1) (o := o) (by first | omega | (simp; done) | (simp; omega)) id; have y1 := fun o => hk1.frozen (b := w.heap.size + 1) (o := o) (by first | omega | (simp; done) | (simp; omega)) id; (try have g2 := fun o => hk1.cell (b := W.heap.size) (o := o) (by first | omega | (simp; done) | (simp; omega)) id); (try have y2 := fun o => hk1.frozen (b := W.heap.size) (o := o) (by first | omega | (simp; done) | (simp; omega)) id);
      (try have hz2 : W.heap.size < w1.heap.size := hk1.lt_of (by first | omega | (simp; done) | (simp; omega)))))
  all_goals go_wp2_with fail
  · refine (points_calls _ _ _ _).mono ?_
    rintro e w2 ⟨rfl, hk2⟩
    have hs2s : w.heap.size + 1 < w2.heap.size := hk2.lt_of (by first | omega | (simp; done) | (simp; omega))
    have hP2 : P < w2.heap.size := (by omega)
    have c0_hk2 := fun o => hk2.cell (b := P) (o := o) (by first | omega | (simp; done) | (simp; omega)) (by first | omega | (simp; done) | (simp; omega)); have z0_hk2 := fun o => hk2.frozen (b := P) (o := o) (by first | omega | (simp; done) | (simp; omega)) (by first | omega | (simp; done) | (simp; omega)); have c1_hk2 := fun o => hk2.cell (b := w.heap.size + 1) (o := o) (by first | omega | (simp; done) | (simp; omega)) (by first | omega | (simp; done) | (simp; omega)); have z1_hk2 := fun o => hk2.frozen (b := w.heap.size + 1) (o := o) (by first | omega | (simp; done) | (simp; omega)) (by first | omega | (simp; done) | (simp; omega))
    simp only [ndV, nilS]
    go_wp2_with fail
    have hPs := (hW1.setAt HS2.out).keepN (Keeps.trans (by (repeat' (first | with_reducible exact Keeps.refl _ _ | with_reducible refine Keeps.set ?_ (by simp <;> omega) _ | with_reducible refine Keeps.alloc ?_ _ | with_reducible refine Keeps.drewN ?_ _ | with_reducible refine Keeps.drew ?_))) hk2)
    have hk2w : Keeps (fun k => k = P ∨ k ∈ F) w w2 := Keeps.trans (by (repeat' (first | with_reducible exact hk1w | with_reducible refine Keeps.set ?_ (by simp <;> omega) _ | with_reducible refine Keeps.alloc ?_ _ | with_reducible refine Keeps.drewN ?_ _ | with_reducible refine Keeps.drew ?_))) (hk2.mono (fun _ h => h.elim))
    have hB : ∀ g ∈ F1, g ≠ w1.heap.size := fun g hg => by have := hv1' g hg; omega
    have hv2 : SliceV w2 85 2 (.slice A1 l.length c1) l.length (rngCells l) F1 := (hv1.keeps (S := fun k => k = P ∨ k = w1.heap.size) (by (repeat' (first | with_reducible exact Keeps.refl _ _ | with_reducible refine Keeps.set ?_ (by simp <;> omega) _ | with_reducible refine Keeps.alloc ?_ _ | with_reducible refine Keeps.drewN ?_ _ | with_reducible refine Keeps.drew ?_))) (fun g hg e => by have := hfr g hg; have := hB g hg; omega)).keeps hk2 (fun _ _ h => h)
    have hN := hv2.pointsN
    refine bodyPost_ret (v := ndV 2 (.slice A1 l.length c1) nilS 0 0 0 0 false) (by simp [results, Tryz.results51, go_sem, ndV, nilS, *]) rfl ⟨_, F1, F, rfl, ⟨_, rfl, hN.keeps (S := But (w.heap.size + 1)) (by (repeat' (first | with_reducible exact Keeps.refl _ _ | with_reducible refine Keeps.set ?_ (by simp <;> omega) _ | with_reducible refine Keeps.alloc ?_ _ | with_reducible refine Keeps.drewN ?_ _ | with_reducible refine Keeps.drew ?_))) (fun g hg e => by have e : g = _ := e; have := hfr g hg; omega)⟩, nodup_one hv1.length_le, fun g hg => ⟨by have := hfr g hg; omega, fun hg2 => by have := (hlist g hg2).2; have := hfr g hg; omega⟩, ?_, Grew.refl _ _, ?_⟩
    · exact PsAt.keep hPs (S := But (w.heap.size + 1)) (by (repeat' (first | with_reducible exact Keeps.refl _ _ | with_reducible refine Keeps.set ?_ (by simp <;> omega) _ | with_reducible refine Keeps.alloc ?_ _ | with_reducible refine Keeps.drewN ?_ _ | with_reducible refine Keeps.drew ?_))) (fun k hk e => by have e : k = _ := e; omega) (fun g hg e => by have e : g = _ := e; have := (hlist g hg).2; omega)
    · (repeat' (first | with_reducible exact hk2w | with_reducible refine Keeps.set ?_ (by simp <;> omega) _ | with_reducible refine Keeps.alloc ?_ _ | with_reducible refine Keeps.drewN ?_ _ | with_reducible refine Keeps.drew ?_))
  · refine (points_calls _ _ _ _).mono ?_
    rintro e w2 ⟨rfl, hk2⟩
    have hs2s : w.heap.size + 1 < w2.heap.size := hk2.lt_of (by first | omega | (simp; done) | (simp; omega))
    have hP2 : P < w2.heap.size := (by omega)
    have c0_hk2 := fun o => hk2.cell (b := P) (o := o) (by first | omega | (simp; done) | (simp; omega)) (by first | omega | (simp; done) | (simp; omega)); have z0_hk2 := fun o => hk2.frozen (b := P) (o := o) (by first | omega | (simp; done) | (simp; omega)) (by first | omega | (simp; done) | (simp; omega)); have c1_hk2 := fun o => hk2.cell (b := w.heap.size + 1) (o := o) (by first | omega | (simp; done) | (simp; omega)) (by first | omega | (simp; done) | (simp; omega)); have z1_hk2 := fun o => hk2.frozen (b := w.heap.size + 1) (o := o) (by first | omega | (simp; done) | (simp; omega)) (by first | omega | (simp; done) | (simp; omega))
    simp only [ndV, nilS]
    go_wp2_with fail
    have hPs := ((hW1.keep (S := But W.heap.size) (by (repeat' (first | with_reducible exact Keeps.refl _ _ | with_reducible refine Keeps.set ?_ (by simp <;> omega) _ | with_reducible refine Keeps.alloc ?_ _ | with_reducible refine Keeps.drewN ?_ _ | with_reducible refine Keeps.drew ?_))) (fun k hk e => by have e : k = _ := e; omega) (fun g hg e => by have e : g = _ := e; have := (hlist g hg).2; omega)).setAt HS2.out).keepN hk2
    have hk2w : Keeps (fun k => k = P ∨ k ∈ F) w w2 := Keeps.trans (by (repeat' (first | with_reducible exact hk1w | with_reducible refine Keeps.set ?_ (by simp <;> omega) _ | with_reducible refine Keeps.alloc ?_ _ | with_reducible refine Keeps.drewN ?_ _ | with_reducible refine Keeps.drew ?_))) (hk2.mono (fun _ h => h.elim))
    have hB : ∀ g ∈ F1, g ≠ W.heap.size := fun g hg => by have := hf1 g hg; simp at this; omega
    have hv2 : SliceV w2 85 2 (.slice A1 l.length c1) l.length (rngCells l) F1 := (hv1.keeps (S := fun k => k = P ∨ k = W.heap.size) (by (repeat' (first | with_reducible exact Keeps.refl _ _ | with_reducible refine Keeps.set ?_ (by simp <;> omega) _ | with_reducible refine Keeps.alloc ?_ _ | with_reducible refine Keeps.drewN ?_ _ | with_reducible refine Keeps.drew ?_))) (fun g hg e => by have := hfr g hg; have := hB g hg; omega)).keeps hk2 (fun _ _ h => h)
    have hN := hv2.pointsN
    refine bodyPost_ret (v := ndV 2 (.slice A1 l.length c1) nilS 0 0 0 0 false) (by simp [results, Tryz.results51, go_sem, ndV, nilS, *]) rfl ⟨_, F1, F, rfl, ⟨_, rfl, hN.keeps (S := But (w.heap.size + 1)) (by (repeat' (first | with_reducible exact Keeps.refl _ _ | with_reducible refine Keeps.set ?_ (by simp <;> omega) _ | with_reducible refine Keeps.alloc ?_ _ | with_reducible refine Keeps.drewN ?_ _ | with_reducible refine Keeps.drew ?_))) (fun g hg e => by have e : g = _ := e; have := hfr g hg; omega)⟩, nodup_one hv1.length_le, fun g hg => ⟨by have := hfr g hg; omega, fun hg2 => by have := (hlist g hg2).2; have := hfr g hg; omega⟩, ?_, Grew.refl _ _, ?_⟩
    · exact PsAt.keep hPs (S := But (w.heap.size + 1)) (by (repeat' (first | with_reducible exact Keeps.refl _ _ | with_reducible refine Keeps.set ?_ (by simp <;> omega) _ | with_reducible refine Keeps.alloc ?_ _ | with_reducible refine Keeps.drewN ?_ _ | with_reducible refine Keeps.drew ?_))) (fun k hk e => by have e : k = _ := e; omega) (fun g hg e => by have e : g = _ := e; have := (hlist g hg).2; omega)
    · (repeat' (first | with_reducible exact hk2w | with_reducible refine Keeps.set ?_ (by simp <;> omega) _ | with_reducible refine Keeps.alloc ?_ _ | with_reducible refine Keeps.drewN ?_ _ | with_reducible refine Keeps.drew ?_))

end Th
end Go.Proofs
