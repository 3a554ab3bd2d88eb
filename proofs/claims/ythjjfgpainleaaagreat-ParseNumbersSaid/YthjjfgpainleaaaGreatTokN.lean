/- The reader of tokens: what stands behind a backslash. -/
import Derived.Test.YthjjfgpainleaaaGreatTokM

set_option linter.unusedSimpArgs false
set_option linter.unusedVariables false

namespace Go.Proofs
namespace Th
open Go.RowKit

theorem ne_eq {p k : Int} (h : ¬ p = k) : (p == k) = false := by simpa using h

theorem emacs_calls {w : World} {b : Nat} {L s : List Int} (p : Int) (h : Rs w b 3 L s) :
    Calls Tryz.prog 128 #[.pointer (some ⟨b, 0, none⟩), .int .i64 p] w fun e w' => RPost b 3 L w (emacs p s) e w' := by
  unfold emacs
  by_cases N40 : p = 40
  · rw [if_pos N40]; subst N40
    cases HO : openT 3 s with
    | error n => exact emacs_40_e h HO
    | ok ts => exact emacs_40_o h HO
  rw [if_neg N40]
  by_cases N41 : p = 41
  · rw [if_pos N41]; subst N41; exact emacs_41 h
  rw [if_neg N41]
  by_cases N124 : p = 124
  · rw [if_pos N124]; subst N124; exact emacs_124 h
  rw [if_neg N124]
  by_cases N123 : p = 123
  · rw [if_pos N123]; subst N123
    cases HO : brace 3 123 s with
    | error n => exact emacs_123_e h HO
    | ok ts => exact emacs_123_o h HO
  rw [if_neg N123]
  by_cases N119 : p = 119
  · rw [if_pos N119]; subst N119; exact emacs_119 h
  rw [if_neg N119]
  by_cases N87 : p = 87
  · rw [if_pos N87]; subst N87; exact emacs_87 h
  rw [if_neg N87]
  by_cases N98 : p = 98
  · rw [if_pos N98]; subst N98; exact emacs_98 h
  rw [if_neg N98]
  by_cases N66 : p = 66
  · rw [if_pos N66]; subst N66; exact emacs_66 h
  rw [if_neg N66]
  by_cases N96 : p = 96
  · rw [if_pos N96]; subst N96; exact emacs_96 h
  rw [if_neg N96]
  by_cases N39 : p = 39
  · rw [if_pos N39]; subst N39; exact emacs_39 h
  rw [if_neg N39]
  by_cases Na : 49 ≤ p
  · by_cases Nb : p ≤ 57
    · rw [if_pos ⟨Na, Nb⟩]; exact emacs_dig p h (ne_eq N40) (ne_eq N41) (ne_eq N124) (ne_eq N123) (ne_eq N119) (ne_eq N87) (ne_eq N98) (ne_eq N66) (ne_eq N96) (ne_eq N39) Na Nb
    · rw [if_neg (fun x => Nb x.2)]; exact emacs_hi p h (ne_eq N40) (ne_eq N41) (ne_eq N124) (ne_eq N123) (ne_eq N119) (ne_eq N87) (ne_eq N98) (ne_eq N66) (ne_eq N96) (ne_eq N39) Na Nb
  · rw [if_neg (fun x => Na x.1)]; exact emacs_lo p h (ne_eq N40) (ne_eq N41) (ne_eq N124) (ne_eq N123) (ne_eq N119) (ne_eq N87) (ne_eq N98) (ne_eq N66) (ne_eq N96) (ne_eq N39) Na

theorem look_among {p : Int} (h0 : 0 ≤ p) : (lookOf p = none ∧ amongL (codes lookB) p 0 = -1) ∨ (lookOf p = some 5 ∧ amongL (codes lookB) p 0 = 0) ∨ (lookOf p = some 6 ∧ amongL (codes lookB) p 0 = 1) ∨ (lookOf p = some 7 ∧ amongL (codes lookB) p 0 = 2) ∨ (lookOf p = some 8 ∧ amongL (codes lookB) p 0 = 3) := by
  have e : codes lookB = [65, 122, 98, 66] := rfl
  rw [e]
  unfold lookOf
  simp only [amongL]
  by_cases h1 : p = 65
  · subst h1; simp
  by_cases h2 : p = 122
  · subst h2; simp
  by_cases h3 : p = 98
  · subst h3; simp
  by_cases h4 : p = 66
  · subst h4; simp
  simp [h1, h2, h3, h4, Ne.symm h1, Ne.symm h2, Ne.symm h3, Ne.symm h4]


theorem ctrl_among {p : Int} : (ctrlOf p = none ∧ amongL (codes ctrlB) p 0 = -1) ∨ ∃ k : Fin 7, ctrlOf p = some ([10, 9, 13, 12, 11, 7, 27][k.val]) ∧ amongL (codes ctrlB) p 0 = k.val := by
  have e : codes ctrlB = [110, 116, 114, 102, 118, 97, 101] := rfl
  rw [e]
  unfold ctrlOf
  simp only [amongL]
  by_cases h0 : p = 110
  · subst h0; exact .inr ⟨0, by rfl, by rfl⟩
  by_cases h1 : p = 116
  · subst h1; exact .inr ⟨1, by rfl, by rfl⟩
  by_cases h2 : p = 114
  · subst h2; exact .inr ⟨2, by rfl, by rfl⟩
  by_cases h3 : p = 102
  · subst h3; exact .inr ⟨3, by rfl, by rfl⟩
  by_cases h4 : p = 118
  · subst h4; exact .inr ⟨4, by rfl, by rfl⟩
  by_cases h5 : p = 97
  · subst h5; exact .inr ⟨5, by rfl, by rfl⟩
  by_cases h6 : p = 101
  · subst h6; exact .inr ⟨6, by rfl, by rfl⟩
  left
  simp [h0, Ne.symm h0, h1, Ne.symm h1, h2, Ne.symm h2, h3, Ne.symm h3, h4, Ne.symm h4, h5, Ne.symm h5, h6, Ne.symm h6]

theorem escaped_nil {w : World} {b : Nat} {d : Int} {L : List Int} (h : Rs w b d L []) :
    Calls Tryz.prog 89 #[.pointer (some ⟨b, 0, none⟩)] w fun e w' => RPost b d L w (.error 1) e w' := by
  have hb := h.lt
  go_enter Tryz.func89, Tryz.ntmps89
  go_wp2_with fail
  refine (peek (h.keep (S := fun k => b < k) (by (repeat' (first | with_reducible exact Keeps.refl _ _ | with_reducible refine Keeps.set ?_ (by simp <;> omega) _ | with_reducible refine Keeps.alloc ?_ _ | with_reducible refine Keeps.drewN ?_ _ | with_reducible refine Keeps.drew ?_))) (fun k hk hn => by omega))).mono ?_
  rintro e w1 ⟨rfl, q, rfl⟩
  simp only [hd]
  go_wp2_with fail
  refine (tok_fail _ _).mono ?_
  rintro e w1 ⟨rfl, rfl⟩
  exact ⟨rfl, RPost.mkE rfl rfl (by (repeat' (first | with_reducible exact Keeps.refl _ _ | with_reducible refine Keeps.set ?_ (by simp <;> omega) _ | with_reducible refine Keeps.alloc ?_ _ | with_reducible refine Keeps.drewN ?_ _ | with_reducible refine Keeps.drew ?_)))⟩

set_option maxHeartbeats 1000000 in
theorem esc_posix {w : World} {b : Nat} {L s : List Int} {p : Int}  (h : Rs w b 2 L (p :: s)) (Np : 0 ≤ p) (Nq : p ≤ 1114111) :
    Calls Tryz.prog 89 #[.pointer (some ⟨b, 0, none⟩)] w fun e w' => RPost b 2 L w (.ok ((point p), s)) e w' := by
  have hb := h.lt
  have h0 : w.cell? ⟨b, 0, none⟩ = some (.int .i64 2) := by obtain ⟨_, _, _, h0, _⟩ := h; exact h0
  obtain ⟨a0, h2, ha0, ha1, hf2⟩ := h.at2
  go_enter Tryz.func89, Tryz.ntmps89
  go_wp2_with fail
  refine (peek (h.keep (S := fun k => b < k) (by (repeat' (first | with_reducible exact Keeps.refl _ _ | with_reducible refine Keeps.set ?_ (by simp <;> omega) _ | with_reducible refine Keeps.alloc ?_ _ | with_reducible refine Keeps.drewN ?_ _ | with_reducible refine Keeps.drew ?_))) (fun k hk hn => by omega))).mono ?_
  rintro e w1 ⟨rfl, q1, rfl⟩
  simp only [hd]
  go_wp2_with fail
  simp only [setCell_drewN, World.setCell_alloc_past _ _ _ _ hb]
  obtain ⟨wq, hwq⟩ : ∃ wq, w.setCell ⟨b, 2, none⟩ (.int .i64 (a0 + 1)) = wq := ⟨_, rfl⟩
  have hst : Rs wq b 2 L s := by rw [← hwq]; exact Rs.stepAt h h2 (by simp)
  have hkq : Keeps (But b) w wq := by rw [← hwq]; (repeat' (first | with_reducible exact Keeps.refl _ _ | with_reducible refine Keeps.set ?_ (by simp <;> omega) _ | with_reducible refine Keeps.alloc ?_ _ | with_reducible refine Keeps.drewN ?_ _ | with_reducible refine Keeps.drew ?_))
  have hsz : w.heap.size = wq.heap.size := by rw [← hwq]; simp
  have h0' : wq.cell? ⟨b, 0, none⟩ = some (.int .i64 2) := by rw [← hwq, World.cell?_setCell_other _ _ _ _ (by simp)]; exact h0
  have hbq : b < wq.heap.size := by omega
  simp only [hwq, hsz]
  refine (point_calls _ _).mono ?_
  rintro e w2 ⟨rfl, hk2⟩
  have hr2 := (hst.keep (S := fun k => b < k) (by (repeat' (first | with_reducible exact Keeps.refl _ _ | with_reducible refine Keeps.set ?_ (by simp <;> omega) _ | with_reducible refine Keeps.alloc ?_ _ | with_reducible refine Keeps.drewN ?_ _ | with_reducible refine Keeps.drew ?_))) (fun k hk hn => by omega)).keep hk2 (fun _ _ h => h)
  replace hk2 : Keeps (But b) _ w2 := hk2.mono (fun _ h => h.elim)
  have hK2 : Keeps (But b) w w2 := Keeps.trans (by (repeat' (first | with_reducible exact hkq | with_reducible refine Keeps.set ?_ (by simp <;> omega) _ | with_reducible refine Keeps.alloc ?_ _ | with_reducible refine Keeps.drewN ?_ _ | with_reducible refine Keeps.drew ?_))) hk2
  have hs2 : w.heap.size + 1 ≤ w2.heap.size := by have := hk2.size; (try simp at this); omega
  have hb2 : b < w2.heap.size := by omega
  have c0_hk2 := fun o => hk2.cell (b := wq.heap.size) (o := o) (by first | omega | (simp; done) | (simp; omega)) (by first | omega | (simp; done) | (simp; omega)); have z0_hk2 := fun o => hk2.frozen (b := wq.heap.size) (o := o) (by first | omega | (simp; done) | (simp; omega)) (by first | omega | (simp; done) | (simp; omega))
  simp only [tkV, point]
  go_wp2_with fail
  refine bodyPost_ret (v := tkV (point p)) (by simp [results, Tryz.results89, go_sem, tkV, point, look, again, *]) rfl (RPost.mk (t := (point p)) (rfl) rfl (hr2.keep (S := fun k => b < k) ?_ (fun k hk hn => by omega)) ?_)
  · (repeat' (first | with_reducible exact Keeps.refl _ _ | with_reducible refine Keeps.set ?_ (by simp <;> omega) _ | with_reducible refine Keeps.alloc ?_ _ | with_reducible refine Keeps.drewN ?_ _ | with_reducible refine Keeps.drew ?_))
  · (repeat' (first | with_reducible exact hK2 | with_reducible refine Keeps.set ?_ (by simp <;> omega) _ | with_reducible refine Keeps.alloc ?_ _ | with_reducible refine Keeps.drewN ?_ _ | with_reducible refine Keeps.drew ?_))

set_option maxHeartbeats 1000000 in
theorem esc_emacs_e {w : World} {b : Nat} {L s : List Int} {p : Int}  {n : Int} (h : Rs w b 3 L (p :: s)) (Np : 0 ≤ p) (Nq : p ≤ 1114111) (HO : emacs p s = .error n) :
    Calls Tryz.prog 89 #[.pointer (some ⟨b, 0, none⟩)] w fun e w' => RPost b 3 L w (.error n) e w' := by
  have hb := h.lt
  have h0 : w.cell? ⟨b, 0, none⟩ = some (.int .i64 3) := by obtain ⟨_, _, _, h0, _⟩ := h; exact h0
  have HO' := hid HO
  clear HO
  obtain ⟨a0, h2, ha0, ha1, hf2⟩ := h.at2
  go_enter Tryz.func89, Tryz.ntmps89
  go_wp2_with fail
  refine (peek (h.keep (S := fun k => b < k) (by (repeat' (first | with_reducible exact Keeps.refl _ _ | with_reducible refine Keeps.set ?_ (by simp <;> omega) _ | with_reducible refine Keeps.alloc ?_ _ | with_reducible refine Keeps.drewN ?_ _ | with_reducible refine Keeps.drew ?_))) (fun k hk hn => by omega))).mono ?_
  rintro e w1 ⟨rfl, q1, rfl⟩
  simp only [hd]
  go_wp2_with fail
  simp only [setCell_drewN, World.setCell_alloc_past _ _ _ _ hb]
  obtain ⟨wq, hwq⟩ : ∃ wq, w.setCell ⟨b, 2, none⟩ (.int .i64 (a0 + 1)) = wq := ⟨_, rfl⟩
  have hst : Rs wq b 3 L s := by rw [← hwq]; exact Rs.stepAt h h2 (by simp)
  have hkq : Keeps (But b) w wq := by rw [← hwq]; (repeat' (first | with_reducible exact Keeps.refl _ _ | with_reducible refine Keeps.set ?_ (by simp <;> omega) _ | with_reducible refine Keeps.alloc ?_ _ | with_reducible refine Keeps.drewN ?_ _ | with_reducible refine Keeps.drew ?_))
  have hsz : w.heap.size = wq.heap.size := by rw [← hwq]; simp
  have h0' : wq.cell? ⟨b, 0, none⟩ = some (.int .i64 3) := by rw [← hwq, World.cell?_setCell_other _ _ _ _ (by simp)]; exact h0
  have hbq : b < wq.heap.size := by omega
  simp only [hwq, hsz]
  refine ((emacs_calls p (hst.keep (S := fun k => b < k) (by (repeat' (first | with_reducible exact Keeps.refl _ _ | with_reducible refine Keeps.set ?_ (by simp <;> omega) _ | with_reducible refine Keeps.alloc ?_ _ | with_reducible refine Keeps.drewN ?_ _ | with_reducible refine Keeps.drew ?_))) (fun k hk hn => by omega))).mono (fun e w' hp => RPost.error hp HO'.out)).mono ?_
  rintro e w2 ⟨rfl, hk2⟩
  exact ⟨rfl, RPost.mkE rfl rfl (Keeps.trans (by (repeat' (first | with_reducible exact hkq | with_reducible refine Keeps.set ?_ (by simp <;> omega) _ | with_reducible refine Keeps.alloc ?_ _ | with_reducible refine Keeps.drewN ?_ _ | with_reducible refine Keeps.drew ?_))) hk2)⟩

set_option maxHeartbeats 1000000 in
theorem esc_emacs_o {w : World} {b : Nat} {L s : List Int} {p : Int}  {t : Tk} {s2 : List Int} (h : Rs w b 3 L (p :: s)) (Np : 0 ≤ p) (Nq : p ≤ 1114111) (HO : emacs p s = .ok (t, s2)) :
    Calls Tryz.prog 89 #[.pointer (some ⟨b, 0, none⟩)] w fun e w' => RPost b 3 L w (.ok (t, s2)) e w' := by
  have hb := h.lt
  have h0 : w.cell? ⟨b, 0, none⟩ = some (.int .i64 3) := by obtain ⟨_, _, _, h0, _⟩ := h; exact h0
  have HO' := hid HO
  clear HO
  obtain ⟨a0, h2, ha0, ha1, hf2⟩ := h.at2
  go_enter Tryz.func89, Tryz.ntmps89
  go_wp2_with fail
  refine (peek (h.keep (S := fun k => b < k) (by (repeat' (first | with_reducible exact Keeps.refl _ _ | with_reducible refine Keeps.set ?_ (by simp <;> omega) _ | with_reducible refine Keeps.alloc ?_ _ | with_reducible refine Keeps.drewN ?_ _ | with_reducible refine Keeps.drew ?_))) (fun k hk hn => by omega))).mono ?_
  rintro e w1 ⟨rfl, q1, rfl⟩
  simp only [hd]
  go_wp2_with fail
  simp only [setCell_drewN, World.setCell_alloc_past _ _ _ _ hb]
  obtain ⟨wq, hwq⟩ : ∃ wq, w.setCell ⟨b, 2, none⟩ (.int .i64 (a0 + 1)) = wq := ⟨_, rfl⟩
  have hst : Rs wq b 3 L s := by rw [← hwq]; exact Rs.stepAt h h2 (by simp)
  have hkq : Keeps (But b) w wq := by rw [← hwq]; (repeat' (first | with_reducible exact Keeps.refl _ _ | with_reducible refine Keeps.set ?_ (by simp <;> omega) _ | with_reducible refine Keeps.alloc ?_ _ | with_reducible refine Keeps.drewN ?_ _ | with_reducible refine Keeps.drew ?_))
  have hsz : w.heap.size = wq.heap.size := by rw [← hwq]; simp
  have h0' : wq.cell? ⟨b, 0, none⟩ = some (.int .i64 3) := by rw [← hwq, World.cell?_setCell_other _ _ _ _ (by simp)]; exact h0
  have hbq : b < wq.heap.size := by omega
  simp only [hwq, hsz]
  refine ((emacs_calls p (hst.keep (S := fun k => b < k) (by (repeat' (first | with_reducible exact Keeps.refl _ _ | with_reducible refine Keeps.set ?_ (by simp <;> omega) _ | with_reducible refine Keeps.alloc ?_ _ | with_reducible refine Keeps.drewN ?_ _ | with_reducible refine Keeps.drew ?_))) (fun k hk hn => by omega))).mono (fun e w' hp => RPost.ok hp HO'.out)).mono ?_
  rintro e w2 ⟨rfl, hr2, hk2⟩
  have hK2 : Keeps (But b) w w2 := Keeps.trans (by (repeat' (first | with_reducible exact hkq | with_reducible refine Keeps.set ?_ (by simp <;> omega) _ | with_reducible refine Keeps.alloc ?_ _ | with_reducible refine Keeps.drewN ?_ _ | with_reducible refine Keeps.drew ?_))) hk2
  have hs2 : w.heap.size + 1 ≤ w2.heap.size := by have := hk2.size; (try simp at this); omega
  have hb2 : b < w2.heap.size := by omega
  have c0_hk2 := fun o => hk2.cell (b := wq.heap.size) (o := o) (by first | omega | (simp; done) | (simp; omega)) (by first | omega | (simp; done) | (simp; omega)); have z0_hk2 := fun o => hk2.frozen (b := wq.heap.size) (o := o) (by first | omega | (simp; done) | (simp; omega)) (by first | omega | (simp; done) | (simp; omega))
  simp only [tkV]
  go_wp2_with fail
  refine bodyPost_ret (v := tkV t) (by simp [results, Tryz.results89, go_sem, tkV, point, look, again, *]) rfl (RPost.mk (t := t) (rfl) rfl (hr2.keep (S := fun k => b < k) ?_ (fun k hk hn => by omega)) ?_)
  · (repeat' (first | with_reducible exact Keeps.refl _ _ | with_reducible refine Keeps.set ?_ (by simp <;> omega) _ | with_reducible refine Keeps.alloc ?_ _ | with_reducible refine Keeps.drewN ?_ _ | with_reducible refine Keeps.drew ?_))
  · (repeat' (first | with_reducible exact hK2 | with_reducible refine Keeps.set ?_ (by simp <;> omega) _ | with_reducible refine Keeps.alloc ?_ _ | with_reducible refine Keeps.drewN ?_ _ | with_reducible refine Keeps.drew ?_))

set_option maxHeartbeats 1000000 in
theorem esc_class {w : World} {b : Nat} {L s : List Int} {p : Int} {t : Tk} (h : Rs w b 1 L (p :: s)) (Np : 0 ≤ p) (Nq : p ≤ 1114111) (HC : classT p = some t) :
    Calls Tryz.prog 89 #[.pointer (some ⟨b, 0, none⟩)] w fun e w' => RPost b 1 L w (.ok (t, s)) e w' := by
  have hb := h.lt
  have h0 : w.cell? ⟨b, 0, none⟩ = some (.int .i64 1) := by obtain ⟨_, _, _, h0, _⟩ := h; exact h0
  have HC' := hid HC
  clear HC
  obtain ⟨a0, h2, ha0, ha1, hf2⟩ := h.at2
  go_enter Tryz.func89, Tryz.ntmps89
  go_wp2_with fail
  refine (peek (h.keep (S := fun k => b < k) (by (repeat' (first | with_reducible exact Keeps.refl _ _ | with_reducible refine Keeps.set ?_ (by simp <;> omega) _ | with_reducible refine Keeps.alloc ?_ _ | with_reducible refine Keeps.drewN ?_ _ | with_reducible refine Keeps.drew ?_))) (fun k hk hn => by omega))).mono ?_
  rintro e w1 ⟨rfl, q1, rfl⟩
  simp only [hd]
  go_wp2_with fail
  simp only [setCell_drewN, World.setCell_alloc_past _ _ _ _ hb]
  obtain ⟨wq, hwq⟩ : ∃ wq, w.setCell ⟨b, 2, none⟩ (.int .i64 (a0 + 1)) = wq := ⟨_, rfl⟩
  have hst : Rs wq b 1 L s := by rw [← hwq]; exact Rs.stepAt h h2 (by simp)
  have hkq : Keeps (But b) w wq := by rw [← hwq]; (repeat' (first | with_reducible exact Keeps.refl _ _ | with_reducible refine Keeps.set ?_ (by simp <;> omega) _ | with_reducible refine Keeps.alloc ?_ _ | with_reducible refine Keeps.drewN ?_ _ | with_reducible refine Keeps.drew ?_))
  have hsz : w.heap.size = wq.heap.size := by rw [← hwq]; simp
  have h0' : wq.cell? ⟨b, 0, none⟩ = some (.int .i64 1) := by rw [← hwq, World.cell?_setCell_other _ _ _ _ (by simp)]; exact h0
  have hbq : b < wq.heap.size := by omega
  simp only [hwq, hsz]
  refine (class_calls p _ (by omega) (by omega)).mono ?_
  rintro e w2 ⟨rfl, hk2⟩
  have hr2 := (hst.keep (S := fun k => b < k) (by (repeat' (first | with_reducible exact Keeps.refl _ _ | with_reducible refine Keeps.set ?_ (by simp <;> omega) _ | with_reducible refine Keeps.alloc ?_ _ | with_reducible refine Keeps.drewN ?_ _ | with_reducible refine Keeps.drew ?_))) (fun k hk hn => by omega)).keep hk2 (fun _ _ h => h)
  replace hk2 : Keeps (But b) _ w2 := hk2.mono (fun _ h => h.elim)
  have hK2 : Keeps (But b) w w2 := Keeps.trans (by (repeat' (first | with_reducible exact hkq | with_reducible refine Keeps.set ?_ (by simp <;> omega) _ | with_reducible refine Keeps.alloc ?_ _ | with_reducible refine Keeps.drewN ?_ _ | with_reducible refine Keeps.drew ?_))) hk2
  have hs2 : w.heap.size + 1 ≤ w2.heap.size := by have := hk2.size; (try simp at this); omega
  have hb2 : b < w2.heap.size := by omega
  have c0_hk2 := fun o => hk2.cell (b := wq.heap.size) (o := o) (by first | omega | (simp; done) | (simp; omega)) (by first | omega | (simp; done) | (simp; omega)); have z0_hk2 := fun o => hk2.frozen (b := wq.heap.size) (o := o) (by first | omega | (simp; done) | (simp; omega)) (by first | omega | (simp; done) | (simp; omega))
  have : wq.heap.size < w2.heap.size := by omega
  have : wq.heap.size ≤ w2.heap.size := by omega
  have : wq.heap.size < w2.heap.size + 1 := by omega
  have : ¬ wq.heap.size = w2.heap.size + 1 := by omega
  have : ¬ w2.heap.size + 1 = wq.heap.size := by omega
  have : ¬ w2.heap.size = b := by omega
  have : ¬ b = w2.heap.size := by omega
  have : ¬ w2.heap.size = wq.heap.size := by omega
  have : ¬ wq.heap.size = w2.heap.size := by omega
  rw [HC'.out]; simp only [tkV, Option.getD_some, Option.isSome_some]
  go_wp2_with fail
  refine bodyPost_ret (v := tkV t) (by simp [results, Tryz.results89, go_sem, tkV, point, look, again, *]) rfl (RPost.mk (t := t) (rfl) rfl (hr2.keep (S := fun k => b < k) ?_ (fun k hk hn => by omega)) ?_)
  · (repeat' (first | with_reducible exact Keeps.refl _ _ | with_reducible refine Keeps.set ?_ (by simp <;> omega) _ | with_reducible refine Keeps.alloc ?_ _ | with_reducible refine Keeps.drewN ?_ _ | with_reducible refine Keeps.drew ?_))
  · (repeat' (first | with_reducible exact hK2 | with_reducible refine Keeps.set ?_ (by simp <;> omega) _ | with_reducible refine Keeps.alloc ?_ _ | with_reducible refine Keeps.drewN ?_ _ | with_reducible refine Keeps.drew ?_))

set_option maxHeartbeats 1000000 in
theorem esc_look0 {w : World} {b : Nat} {L s : List Int} {p : Int}  (h : Rs w b 1 L (p :: s)) (Np : 0 ≤ p) (Nq : p ≤ 1114111) (HC : classT p = none) (HA : amongL (codes lookB) p 0 = 0) :
    Calls Tryz.prog 89 #[.pointer (some ⟨b, 0, none⟩)] w fun e w' => RPost b 1 L w (.ok ((look 5), s)) e w' := by
  have hb := h.lt
  have h0 : w.cell? ⟨b, 0, none⟩ = some (.int .i64 1) := by obtain ⟨_, _, _, h0, _⟩ := h; exact h0
  have HC' := hid HC
  clear HC
  have HA' := hid HA
  clear HA
  obtain ⟨a0, h2, ha0, ha1, hf2⟩ := h.at2
  go_enter Tryz.func89, Tryz.ntmps89
  go_wp2_with fail
  refine (peek (h.keep (S := fun k => b < k) (by (repeat' (first | with_reducible exact Keeps.refl _ _ | with_reducible refine Keeps.set ?_ (by simp <;> omega) _ | with_reducible refine Keeps.alloc ?_ _ | with_reducible refine Keeps.drewN ?_ _ | with_reducible refine Keeps.drew ?_))) (fun k hk hn => by omega))).mono ?_
  rintro e w1 ⟨rfl, q1, rfl⟩
  simp only [hd]
  go_wp2_with fail
  simp only [setCell_drewN, World.setCell_alloc_past _ _ _ _ hb]
  obtain ⟨wq, hwq⟩ : ∃ wq, w.setCell ⟨b, 2, none⟩ (.int .i64 (a0 + 1)) = wq := ⟨_, rfl⟩
  have hst : Rs wq b 1 L s := by rw [← hwq]; exact Rs.stepAt h h2 (by simp)
  have hkq : Keeps (But b) w wq := by rw [← hwq]; (repeat' (first | with_reducible exact Keeps.refl _ _ | with_reducible refine Keeps.set ?_ (by simp <;> omega) _ | with_reducible refine Keeps.alloc ?_ _ | with_reducible refine Keeps.drewN ?_ _ | with_reducible refine Keeps.drew ?_))
  have hsz : w.heap.size = wq.heap.size := by rw [← hwq]; simp
  have h0' : wq.cell? ⟨b, 0, none⟩ = some (.int .i64 1) := by rw [← hwq, World.cell?_setCell_other _ _ _ _ (by simp)]; exact h0
  have hbq : b < wq.heap.size := by omega
  simp only [hwq, hsz]
  refine (class_calls p _ (by omega) (by omega)).mono ?_
  rintro e w2 ⟨rfl, hk2⟩
  have hr2 := (hst.keep (S := fun k => b < k) (by (repeat' (first | with_reducible exact Keeps.refl _ _ | with_reducible refine Keeps.set ?_ (by simp <;> omega) _ | with_reducible refine Keeps.alloc ?_ _ | with_reducible refine Keeps.drewN ?_ _ | with_reducible refine Keeps.drew ?_))) (fun k hk hn => by omega)).keep hk2 (fun _ _ h => h)
  replace hk2 : Keeps (But b) _ w2 := hk2.mono (fun _ h => h.elim)
  have hK2 : Keeps (But b) w w2 := Keeps.trans (by (repeat' (first | with_reducible exact hkq | with_reducible refine Keeps.set ?_ (by simp <;> omega) _ | with_reducible refine Keeps.alloc ?_ _ | with_reducible refine Keeps.drewN ?_ _ | with_reducible refine Keeps.drew ?_))) hk2
  have hs2 : w.heap.size + 1 ≤ w2.heap.size := by have := hk2.size; (try simp at this); omega
  have hb2 : b < w2.heap.size := by omega
  have c0_hk2 := fun o => hk2.cell (b := wq.heap.size) (o := o) (by first | omega | (simp; done) | (simp; omega)) (by first | omega | (simp; done) | (simp; omega)); have z0_hk2 := fun o => hk2.frozen (b := wq.heap.size) (o := o) (by first | omega | (simp; done) | (simp; omega)) (by first | omega | (simp; done) | (simp; omega))
  have : wq.heap.size < w2.heap.size := by omega
  have : wq.heap.size ≤ w2.heap.size := by omega
  have : wq.heap.size < w2.heap.size + 1 := by omega
  have : ¬ wq.heap.size = w2.heap.size + 1 := by omega
  have : ¬ w2.heap.size + 1 = wq.heap.size := by omega
  have : ¬ w2.heap.size = b := by omega
  have : ¬ b = w2.heap.size := by omega
  have : ¬ w2.heap.size = wq.heap.size := by omega
  have : ¬ wq.heap.size = w2.heap.size := by omega
  rw [HC'.out]; simp only [tkV, Option.getD_none, Option.isSome_none]
  go_wp2_with fail
  refine (among_calls lookB p (by decide) _).mono ?_
  rintro e w3 ⟨rfl, rfl⟩
  rw [HA'.out]
  go_wp2_with fail
  refine (look_calls _ _).mono ?_
  rintro e w4 ⟨rfl, hk4⟩
  have hr4 := (hr2.keep (S := fun k => b < k) (by (repeat' (first | with_reducible exact Keeps.refl _ _ | with_reducible refine Keeps.set ?_ (by simp <;> omega) _ | with_reducible refine Keeps.alloc ?_ _ | with_reducible refine Keeps.drewN ?_ _ | with_reducible refine Keeps.drew ?_))) (fun k hk hn => by omega)).keep hk4 (fun _ _ h => h)
  replace hk4 : Keeps (But b) _ w4 := hk4.mono (fun _ h => h.elim)
  have hK4 : Keeps (But b) w w4 := Keeps.trans (by (repeat' (first | with_reducible exact hK2 | with_reducible refine Keeps.set ?_ (by simp <;> omega) _ | with_reducible refine Keeps.alloc ?_ _ | with_reducible refine Keeps.drewN ?_ _ | with_reducible refine Keeps.drew ?_))) hk4
  have hs4 : w.heap.size + 1 ≤ w4.heap.size := by have := hk4.size; (try simp at this); omega
  have hb4 : b < w4.heap.size := by omega
  have hz4_0 : w2.heap.size < w4.heap.size := by have := hk4.size; (try simp at this); omega
  have c0_hk4 := fun o => hk4.cell (b := wq.heap.size) (o := o) (by first | omega | (simp; done) | (simp; omega)) (by first | omega | (simp; done) | (simp; omega)); have z0_hk4 := fun o => hk4.frozen (b := wq.heap.size) (o := o) (by first | omega | (simp; done) | (simp; omega)) (by first | omega | (simp; done) | (simp; omega)); have c1_hk4 := fun o => hk4.cell (b := w2.heap.size) (o := o) (by first | omega | (simp; done) | (simp; omega)) (by first | omega | (simp; done) | (simp; omega)); have z1_hk4 := fun o => hk4.frozen (b := w2.heap.size) (o := o) (by first | omega | (simp; done) | (simp; omega)) (by first | omega | (simp; done) | (simp; omega))
  simp only [tkV, look]
  go_wp2_with fail
  refine bodyPost_ret (v := tkV (look 5)) (by simp [results, Tryz.results89, go_sem, tkV, point, look, again, *]) rfl (RPost.mk (t := (look 5)) (rfl) rfl (hr4.keep (S := fun k => b < k) ?_ (fun k hk hn => by omega)) ?_)
  · (repeat' (first | with_reducible exact Keeps.refl _ _ | with_reducible refine Keeps.set ?_ (by simp <;> omega) _ | with_reducible refine Keeps.alloc ?_ _ | with_reducible refine Keeps.drewN ?_ _ | with_reducible refine Keeps.drew ?_))
  · (repeat' (first | with_reducible exact hK4 | with_reducible refine Keeps.set ?_ (by simp <;> omega) _ | with_reducible refine Keeps.alloc ?_ _ | with_reducible refine Keeps.drewN ?_ _ | with_reducible refine Keeps.drew ?_))

set_option maxHeartbeats 1000000 in
theorem esc_look1 {w : World} {b : Nat} {L s : List Int} {p : Int}  (h : Rs w b 1 L (p :: s)) (Np : 0 ≤ p) (Nq : p ≤ 1114111) (HC : classT p = none) (HA : amongL (codes lookB) p 0 = 1) :
    Calls Tryz.prog 89 #[.pointer (some ⟨b, 0, none⟩)] w fun e w' => RPost b 1 L w (.ok ((look 6), s)) e w' := by
  have hb := h.lt
  have h0 : w.cell? ⟨b, 0, none⟩ = some (.int .i64 1) := by obtain ⟨_, _, _, h0, _⟩ := h; exact h0
  have HC' := hid HC
  clear HC
  have HA' := hid HA
  clear HA
  obtain ⟨a0, h2, ha0, ha1, hf2⟩ := h.at2
  go_enter Tryz.func89, Tryz.ntmps89
  go_wp2_with fail
  refine (peek (h.keep (S := fun k => b < k) (by (repeat' (first | with_reducible exact Keeps.refl _ _ | with_reducible refine Keeps.set ?_ (by simp <;> omega) _ | with_reducible refine Keeps.alloc ?_ _ | with_reducible refine Keeps.drewN ?_ _ | with_reducible refine Keeps.drew ?_))) (fun k hk hn => by omega))).mono ?_
  rintro e w1 ⟨rfl, q1, rfl⟩
  simp only [hd]
  go_wp2_with fail
  simp only [setCell_drewN, World.setCell_alloc_past _ _ _ _ hb]
  obtain ⟨wq, hwq⟩ : ∃ wq, w.setCell ⟨b, 2, none⟩ (.int .i64 (a0 + 1)) = wq := ⟨_, rfl⟩
  have hst : Rs wq b 1 L s := by rw [← hwq]; exact Rs.stepAt h h2 (by simp)
  have hkq : Keeps (But b) w wq := by rw [← hwq]; (repeat' (first | with_reducible exact Keeps.refl _ _ | with_reducible refine Keeps.set ?_ (by simp <;> omega) _ | with_reducible refine Keeps.alloc ?_ _ | with_reducible refine Keeps.drewN ?_ _ | with_reducible refine Keeps.drew ?_))
  have hsz : w.heap.size = wq.heap.size := by rw [← hwq]; simp
  have h0' : wq.cell? ⟨b, 0, none⟩ = some (.int .i64 1) := by rw [← hwq, World.cell?_setCell_other _ _ _ _ (by simp)]; exact h0
  have hbq : b < wq.heap.size := by omega
  simp only [hwq, hsz]
  refine (class_calls p _ (by omega) (by omega)).mono ?_
  rintro e w2 ⟨rfl, hk2⟩
  have hr2 := (hst.keep (S := fun k => b < k) (by (repeat' (first | with_reducible exact Keeps.refl _ _ | with_reducible refine Keeps.set ?_ (by simp <;> omega) _ | with_reducible refine Keeps.alloc ?_ _ | with_reducible refine Keeps.drewN ?_ _ | with_reducible refine Keeps.drew ?_))) (fun k hk hn => by omega)).keep hk2 (fun _ _ h => h)
  replace hk2 : Keeps (But b) _ w2 := hk2.mono (fun _ h => h.elim)
  have hK2 : Keeps (But b) w w2 := Keeps.trans (by (repeat' (first | with_reducible exact hkq | with_reducible refine Keeps.set ?_ (by simp <;> omega) _ | with_reducible refine Keeps.alloc ?_ _ | with_reducible refine Keeps.drewN ?_ _ | with_reducible refine Keeps.drew ?_))) hk2
  have hs2 : w.heap.size + 1 ≤ w2.heap.size := by have := hk2.size; (try simp at this); omega
  have hb2 : b < w2.heap.size := by omega
  have c0_hk2 := fun o => hk2.cell (b := wq.heap.size) (o := o) (by first | omega | (simp; done) | (simp; omega)) (by first | omega | (simp; done) | (simp; omega)); have z0_hk2 := fun o => hk2.frozen (b := wq.heap.size) (o := o) (by first | omega | (simp; done) | (simp; omega)) (by first | omega | (simp; done) | (simp; omega))
  have : wq.heap.size < w2.heap.size := by omega
  have : wq.heap.size ≤ w2.heap.size := by omega
  have : wq.heap.size < w2.heap.size + 1 := by omega
  have : ¬ wq.heap.size = w2.heap.size + 1 := by omega
  have : ¬ w2.heap.size + 1 = wq.heap.size := by omega
  have : ¬ w2.heap.size = b := by omega
  have : ¬ b = w2.heap.size := by omega
  have : ¬ w2.heap.size = wq.heap.size := by omega
  have : ¬ wq.heap.size = w2.heap.size := by omega
  rw [HC'.out]; simp only [tkV, Option.getD_none, Option.isSome_none]
  go_wp2_with fail
  refine (among_calls lookB p (by decide) _).mono ?_
  rintro e w3 ⟨rfl, rfl⟩
  rw [HA'.out]
  go_wp2_with fail
  refine (look_calls _ _).mono ?_
  rintro e w4 ⟨rfl, hk4⟩
  have hr4 := (hr2.keep (S := fun k => b < k) (by (repeat' (first | with_reducible exact Keeps.refl _ _ | with_reducible refine Keeps.set ?_ (by simp <;> omega) _ | with_reducible refine Keeps.alloc ?_ _ | with_reducible refine Keeps.drewN ?_ _ | with_reducible refine Keeps.drew ?_))) (fun k hk hn => by omega)).keep hk4 (fun _ _ h => h)
  replace hk4 : Keeps (But b) _ w4 := hk4.mono (fun _ h => h.elim)
  have hK4 : Keeps (But b) w w4 := Keeps.trans (by (repeat' (first | with_reducible exact hK2 | with_reducible refine Keeps.set ?_ (by simp <;> omega) _ | with_reducible refine Keeps.alloc ?_ _ | with_reducible refine Keeps.drewN ?_ _ | with_reducible refine Keeps.drew ?_))) hk4
  have hs4 : w.heap.size + 1 ≤ w4.heap.size := by have := hk4.size; (try simp at this); omega
  have hb4 : b < w4.heap.size := by omega
  have hz4_0 : w2.heap.size < w4.heap.size := by have := hk4.size; (try simp at this); omega
  have c0_hk4 := fun o => hk4.cell (b := wq.heap.size) (o := o) (by first | omega | (simp; done) | (simp; omega)) (by first | omega | (simp; done) | (simp; omega)); have z0_hk4 := fun o => hk4.frozen (b := wq.heap.size) (o := o) (by first | omega | (simp; done) | (simp; omega)) (by first | omega | (simp; done) | (simp; omega)); have c1_hk4 := fun o => hk4.cell (b := w2.heap.size) (o := o) (by first | omega | (simp; done) | (simp; omega)) (by first | omega | (simp; done) | (simp; omega)); have z1_hk4 := fun o => hk4.frozen (b := w2.heap.size) (o := o) (by first | omega | (simp; done) | (simp; omega)) (by first | omega | (simp; done) | (simp; omega))
  simp only [tkV, look]
  go_wp2_with fail
  refine bodyPost_ret (v := tkV (look 6)) (by simp [results, Tryz.results89, go_sem, tkV, point, look, again, *]) rfl (RPost.mk (t := (look 6)) (rfl) rfl (hr4.keep (S := fun k => b < k) ?_ (fun k hk hn => by omega)) ?_)
  · (repeat' (first | with_reducible exact Keeps.refl _ _ | with_reducible refine Keeps.set ?_ (by simp <;> omega) _ | with_reducible refine Keeps.alloc ?_ _ | with_reducible refine Keeps.drewN ?_ _ | with_reducible refine Keeps.drew ?_))
  · (repeat' (first | with_reducible exact hK4 | with_reducible refine Keeps.set ?_ (by simp <;> omega) _ | with_reducible refine Keeps.alloc ?_ _ | with_reducible refine Keeps.drewN ?_ _ | with_reducible refine Keeps.drew ?_))

set_option maxHeartbeats 1000000 in
theorem esc_look2 {w : World} {b : Nat} {L s : List Int} {p : Int}  (h : Rs w b 1 L (p :: s)) (Np : 0 ≤ p) (Nq : p ≤ 1114111) (HC : classT p = none) (HA : amongL (codes lookB) p 0 = 2) :
    Calls Tryz.prog 89 #[.pointer (some ⟨b, 0, none⟩)] w fun e w' => RPost b 1 L w (.ok ((look 7), s)) e w' := by
  have hb := h.lt
  have h0 : w.cell? ⟨b, 0, none⟩ = some (.int .i64 1) := by obtain ⟨_, _, _, h0, _⟩ := h; exact h0
  have HC' := hid HC
  clear HC
  have HA' := hid HA
  clear HA
  obtain ⟨a0, h2, ha0, ha1, hf2⟩ := h.at2
  go_enter Tryz.func89, Tryz.ntmps89
  go_wp2_with fail
  refine (peek (h.keep (S := fun k => b < k) (by (repeat' (first | with_reducible exact Keeps.refl _ _ | with_reducible refine Keeps.set ?_ (by simp <;> omega) _ | with_reducible refine Keeps.alloc ?_ _ | with_reducible refine Keeps.drewN ?_ _ | with_reducible refine Keeps.drew ?_))) (fun k hk hn => by omega))).mono ?_
  rintro e w1 ⟨rfl, q1, rfl⟩
  simp only [hd]
  go_wp2_with fail
  simp only [setCell_drewN, World.setCell_alloc_past _ _ _ _ hb]
  obtain ⟨wq, hwq⟩ : ∃ wq, w.setCell ⟨b, 2, none⟩ (.int .i64 (a0 + 1)) = wq := ⟨_, rfl⟩
  have hst : Rs wq b 1 L s := by rw [← hwq]; exact Rs.stepAt h h2 (by simp)
  have hkq : Keeps (But b) w wq := by rw [← hwq]; (repeat' (first | with_reducible exact Keeps.refl _ _ | with_reducible refine Keeps.set ?_ (by simp <;> omega) _ | with_reducible refine Keeps.alloc ?_ _ | with_reducible refine Keeps.drewN ?_ _ | with_reducible refine Keeps.drew ?_))
  have hsz : w.heap.size = wq.heap.size := by rw [← hwq]; simp
  have h0' : wq.cell? ⟨b, 0, none⟩ = some (.int .i64 1) := by rw [← hwq, World.cell?_setCell_other _ _ _ _ (by simp)]; exact h0
  have hbq : b < wq.heap.size := by omega
  simp only [hwq, hsz]
  refine (class_calls p _ (by omega) (by omega)).mono ?_
  rintro e w2 ⟨rfl, hk2⟩
  have hr2 := (hst.keep (S := fun k => b < k) (by (repeat' (first | with_reducible exact Keeps.refl _ _ | with_reducible refine Keeps.set ?_ (by simp <;> omega) _ | with_reducible refine Keeps.alloc ?_ _ | with_reducible refine Keeps.drewN ?_ _ | with_reducible refine Keeps.drew ?_))) (fun k hk hn => by omega)).keep hk2 (fun _ _ h => h)
  replace hk2 : Keeps (But b) _ w2 := hk2.mono (fun _ h => h.elim)
  have hK2 : Keeps (But b) w w2 := Keeps.trans (by (repeat' (first | with_reducible exact hkq | with_reducible refine Keeps.set ?_ (by simp <;> omega) _ | with_reducible refine Keeps.alloc ?_ _ | with_reducible refine Keeps.drewN ?_ _ | with_reducible refine Keeps.drew ?_))) hk2
  have hs2 : w.heap.size + 1 ≤ w2.heap.size := by have := hk2.size; (try simp at this); omega
  have hb2 : b < w2.heap.size := by omega
  have c0_hk2 := fun o => hk2.cell (b := wq.heap.size) (o := o) (by first | omega | (simp; done) | (simp; omega)) (by first | omega | (simp; done) | (simp; omega)); have z0_hk2 := fun o => hk2.frozen (b := wq.heap.size) (o := o) (by first | omega | (simp; done) | (simp; omega)) (by first | omega | (simp; done) | (simp; omega))
  have : wq.heap.size < w2.heap.size := by omega
  have : wq.heap.size ≤ w2.heap.size := by omega
  have : wq.heap.size < w2.heap.size + 1 := by omega
  have : ¬ wq.heap.size = w2.heap.size + 1 := by omega
  have : ¬ w2.heap.size + 1 = wq.heap.size := by omega
  have : ¬ w2.heap.size = b := by omega
  have : ¬ b = w2.heap.size := by omega
  have : ¬ w2.heap.size = wq.heap.size := by omega
  have : ¬ wq.heap.size = w2.heap.size := by omega
  rw [HC'.out]; simp only [tkV, Option.getD_none, Option.isSome_none]
  go_wp2_with fail
  refine (among_calls lookB p (by decide) _).mono ?_
  rintro e w3 ⟨rfl, rfl⟩
  rw [HA'.out]
  go_wp2_with fail
  refine (look_calls _ _).mono ?_
  rintro e w4 ⟨rfl, hk4⟩
  have hr4 := (hr2.keep (S := fun k => b < k) (by (repeat' (first | with_reducible exact Keeps.refl _ _ | with_reducible refine Keeps.set ?_ (by simp <;> omega) _ | with_reducible refine Keeps.alloc ?_ _ | with_reducible refine Keeps.drewN ?_ _ | with_reducible refine Keeps.drew ?_))) (fun k hk hn => by omega)).keep hk4 (fun _ _ h => h)
  replace hk4 : Keeps (But b) _ w4 := hk4.mono (fun _ h => h.elim)
  have hK4 : Keeps (But b) w w4 := Keeps.trans (by (repeat' (first | with_reducible exact hK2 | with_reducible refine Keeps.set ?_ (by simp <;> omega) _ | with_reducible refine Keeps.alloc ?_ _ | with_reducible refine Keeps.drewN ?_ _ | with_reducible refine Keeps.drew ?_))) hk4
  have hs4 : w.heap.size + 1 ≤ w4.heap.size := by have := hk4.size; (try simp at this); omega
  have hb4 : b < w4.heap.size := by omega
  have hz4_0 : w2.heap.size < w4.heap.size := by have := hk4.size; (try simp at this); omega
  have c0_hk4 := fun o => hk4.cell (b := wq.heap.size) (o := o) (by first | omega | (simp; done) | (simp; omega)) (by first | omega | (simp; done) | (simp; omega)); have z0_hk4 := fun o => hk4.frozen (b := wq.heap.size) (o := o) (by first | omega | (simp; done) | (simp; omega)) (by first | omega | (simp; done) | (simp; omega)); have c1_hk4 := fun o => hk4.cell (b := w2.heap.size) (o := o) (by first | omega | (simp; done) | (simp; omega)) (by first | omega | (simp; done) | (simp; omega)); have z1_hk4 := fun o => hk4.frozen (b := w2.heap.size) (o := o) (by first | omega | (simp; done) | (simp; omega)) (by first | omega | (simp; done) | (simp; omega))
  simp only [tkV, look]
  go_wp2_with fail
  refine bodyPost_ret (v := tkV (look 7)) (by simp [results, Tryz.results89, go_sem, tkV, point, look, again, *]) rfl (RPost.mk (t := (look 7)) (rfl) rfl (hr4.keep (S := fun k => b < k) ?_ (fun k hk hn => by omega)) ?_)
  · (repeat' (first | with_reducible exact Keeps.refl _ _ | with_reducible refine Keeps.set ?_ (by simp <;> omega) _ | with_reducible refine Keeps.alloc ?_ _ | with_reducible refine Keeps.drewN ?_ _ | with_reducible refine Keeps.drew ?_))
  · (repeat' (first | with_reducible exact hK4 | with_reducible refine Keeps.set ?_ (by simp <;> omega) _ | with_reducible refine Keeps.alloc ?_ _ | with_reducible refine Keeps.drewN ?_ _ | with_reducible refine Keeps.drew ?_))

set_option maxHeartbeats 1000000 in
theorem esc_look3 {w : World} {b : Nat} {L s : List Int} {p : Int}  (h : Rs w b 1 L (p :: s)) (Np : 0 ≤ p) (Nq : p ≤ 1114111) (HC : classT p = none) (HA : amongL (codes lookB) p 0 = 3) :
    Calls Tryz.prog 89 #[.pointer (some ⟨b, 0, none⟩)] w fun e w' => RPost b 1 L w (.ok ((look 8), s)) e w' := by
  have hb := h.lt
  have h0 : w.cell? ⟨b, 0, none⟩ = some (.int .i64 1) := by obtain ⟨_, _, _, h0, _⟩ := h; exact h0
  have HC' := hid HC
  clear HC
  have HA' := hid HA
  clear HA
  obtain ⟨a0, h2, ha0, ha1, hf2⟩ := h.at2
  go_enter Tryz.func89, Tryz.ntmps89
  go_wp2_with fail
  refine (peek (h.keep (S := fun k => b < k) (by (repeat' (first | with_reducible exact Keeps.refl _ _ | with_reducible refine Keeps.set ?_ (by simp <;> omega) _ | with_reducible refine Keeps.alloc ?_ _ | with_reducible refine Keeps.drewN ?_ _ | with_reducible refine Keeps.drew ?_))) (fun k hk hn => by omega))).mono ?_
  rintro e w1 ⟨rfl, q1, rfl⟩
  simp only [hd]
  go_wp2_with fail
  simp only [setCell_drewN, World.setCell_alloc_past _ _ _ _ hb]
  obtain ⟨wq, hwq⟩ : ∃ wq, w.setCell ⟨b, 2, none⟩ (.int .i64 (a0 + 1)) = wq := ⟨_, rfl⟩
  have hst : Rs wq b 1 L s := by rw [← hwq]; exact Rs.stepAt h h2 (by simp)
  have hkq : Keeps (But b) w wq := by rw [← hwq]; (repeat' (first | with_reducible exact Keeps.refl _ _ | with_reducible refine Keeps.set ?_ (by simp <;> omega) _ | with_reducible refine Keeps.alloc ?_ _ | with_reducible refine Keeps.drewN ?_ _ | with_reducible refine Keeps.drew ?_))
  have hsz : w.heap.size = wq.heap.size := by rw [← hwq]; simp
  have h0' : wq.cell? ⟨b, 0, none⟩ = some (.int .i64 1) := by rw [← hwq, World.cell?_setCell_other _ _ _ _ (by simp)]; exact h0
  have hbq : b < wq.heap.size := by omega
  simp only [hwq, hsz]
  refine (class_calls p _ (by omega) (by omega)).mono ?_
  rintro e w2 ⟨rfl, hk2⟩
  have hr2 := (hst.keep (S := fun k => b < k) (by (repeat' (first | with_reducible exact Keeps.refl _ _ | with_reducible refine Keeps.set ?_ (by simp <;> omega) _ | with_reducible refine Keeps.alloc ?_ _ | with_reducible refine Keeps.drewN ?_ _ | with_reducible refine Keeps.drew ?_))) (fun k hk hn => by omega)).keep hk2 (fun _ _ h => h)
  replace hk2 : Keeps (But b) _ w2 := hk2.mono (fun _ h => h.elim)
  have hK2 : Keeps (But b) w w2 := Keeps.trans (by (repeat' (first | with_reducible exact hkq | with_reducible refine Keeps.set ?_ (by simp <;> omega) _ | with_reducible refine Keeps.alloc ?_ _ | with_reducible refine Keeps.drewN ?_ _ | with_reducible refine Keeps.drew ?_))) hk2
  have hs2 : w.heap.size + 1 ≤ w2.heap.size := by have := hk2.size; (try simp at this); omega
  have hb2 : b < w2.heap.size := by omega
  have c0_hk2 := fun o => hk2.cell (b := wq.heap.size) (o := o) (by first | omega | (simp; done) | (simp; omega)) (by first | omega | (simp; done) | (simp; omega)); have z0_hk2 := fun o => hk2.frozen (b := wq.heap.size) (o := o) (by first | omega | (simp; done) | (simp; omega)) (by first | omega | (simp; done) | (simp; omega))
  have : wq.heap.size < w2.heap.size := by omega
  have : wq.heap.size ≤ w2.heap.size := by omega
  have : wq.heap.size < w2.heap.size + 1 := by omega
  have : ¬ wq.heap.size = w2.heap.size + 1 := by omega
  have : ¬ w2.heap.size + 1 = wq.heap.size := by omega
  have : ¬ w2.heap.size = b := by omega
  have : ¬ b = w2.heap.size := by omega
  have : ¬ w2.heap.size = wq.heap.size := by omega
  have : ¬ wq.heap.size = w2.heap.size := by omega
  rw [HC'.out]; simp only [tkV, Option.getD_none, Option.isSome_none]
  go_wp2_with fail
  refine (among_calls lookB p (by decide) _).mono ?_
  rintro e w3 ⟨rfl, rfl⟩
  rw [HA'.out]
  go_wp2_with fail
  refine (look_calls _ _).mono ?_
  rintro e w4 ⟨rfl, hk4⟩
  have hr4 := (hr2.keep (S := fun k => b < k) (by (repeat' (first | with_reducible exact Keeps.refl _ _ | with_reducible refine Keeps.set ?_ (by simp <;> omega) _ | with_reducible refine Keeps.alloc ?_ _ | with_reducible refine Keeps.drewN ?_ _ | with_reducible refine Keeps.drew ?_))) (fun k hk hn => by omega)).keep hk4 (fun _ _ h => h)
  replace hk4 : Keeps (But b) _ w4 := hk4.mono (fun _ h => h.elim)
  have hK4 : Keeps (But b) w w4 := Keeps.trans (by (repeat' (first | with_reducible exact hK2 | with_reducible refine Keeps.set ?_ (by simp <;> omega) _ | with_reducible refine Keeps.alloc ?_ _ | with_reducible refine Keeps.drewN ?_ _ | with_reducible refine Keeps.drew ?_))) hk4
  have hs4 : w.heap.size + 1 ≤ w4.heap.size := by have := hk4.size; (try simp at this); omega
  have hb4 : b < w4.heap.size := by omega
  have hz4_0 : w2.heap.size < w4.heap.size := by have := hk4.size; (try simp at this); omega
  have c0_hk4 := fun o => hk4.cell (b := wq.heap.size) (o := o) (by first | omega | (simp; done) | (simp; omega)) (by first | omega | (simp; done) | (simp; omega)); have z0_hk4 := fun o => hk4.frozen (b := wq.heap.size) (o := o) (by first | omega | (simp; done) | (simp; omega)) (by first | omega | (simp; done) | (simp; omega)); have c1_hk4 := fun o => hk4.cell (b := w2.heap.size) (o := o) (by first | omega | (simp; done) | (simp; omega)) (by first | omega | (simp; done) | (simp; omega)); have z1_hk4 := fun o => hk4.frozen (b := w2.heap.size) (o := o) (by first | omega | (simp; done) | (simp; omega)) (by first | omega | (simp; done) | (simp; omega))
  simp only [tkV, look]
  go_wp2_with fail
  refine bodyPost_ret (v := tkV (look 8)) (by simp [results, Tryz.results89, go_sem, tkV, point, look, again, *]) rfl (RPost.mk (t := (look 8)) (rfl) rfl (hr4.keep (S := fun k => b < k) ?_ (fun k hk hn => by omega)) ?_)
  · (repeat' (first | with_reducible exact Keeps.refl _ _ | with_reducible refine Keeps.set ?_ (by simp <;> omega) _ | with_reducible refine Keeps.alloc ?_ _ | with_reducible refine Keeps.drewN ?_ _ | with_reducible refine Keeps.drew ?_))
  · (repeat' (first | with_reducible exact hK4 | with_reducible refine Keeps.set ?_ (by simp <;> omega) _ | with_reducible refine Keeps.alloc ?_ _ | with_reducible refine Keeps.drewN ?_ _ | with_reducible refine Keeps.drew ?_))

set_option maxHeartbeats 1000000 in
theorem esc_ctrl0 {w : World} {b : Nat} {L s : List Int} {p : Int}  (h : Rs w b 1 L (p :: s)) (Np : 0 ≤ p) (Nq : p ≤ 1114111) (HC : classT p = none) (HA : amongL (codes lookB) p 0 = -1) (HB : amongL (codes ctrlB) p 0 = 0) :
    Calls Tryz.prog 89 #[.pointer (some ⟨b, 0, none⟩)] w fun e w' => RPost b 1 L w (.ok ((point 10), s)) e w' := by
  have hb := h.lt
  have h0 : w.cell? ⟨b, 0, none⟩ = some (.int .i64 1) := by obtain ⟨_, _, _, h0, _⟩ := h; exact h0
  have HC' := hid HC
  clear HC
  have HA' := hid HA
  clear HA
  have HB' := hid HB
  clear HB
  obtain ⟨a0, h2, ha0, ha1, hf2⟩ := h.at2
  go_enter Tryz.func89, Tryz.ntmps89
  go_wp2_with fail
  refine (peek (h.keep (S := fun k => b < k) (by (repeat' (first | with_reducible exact Keeps.refl _ _ | with_reducible refine Keeps.set ?_ (by simp <;> omega) _ | with_reducible refine Keeps.alloc ?_ _ | with_reducible refine Keeps.drewN ?_ _ | with_reducible refine Keeps.drew ?_))) (fun k hk hn => by omega))).mono ?_
  rintro e w1 ⟨rfl, q1, rfl⟩
  simp only [hd]
  go_wp2_with fail
  simp only [setCell_drewN, World.setCell_alloc_past _ _ _ _ hb]
  obtain ⟨wq, hwq⟩ : ∃ wq, w.setCell ⟨b, 2, none⟩ (.int .i64 (a0 + 1)) = wq := ⟨_, rfl⟩
  have hst : Rs wq b 1 L s := by rw [← hwq]; exact Rs.stepAt h h2 (by simp)
  have hkq : Keeps (But b) w wq := by rw [← hwq]; (repeat' (first | with_reducible exact Keeps.refl _ _ | with_reducible refine Keeps.set ?_ (by simp <;> omega) _ | with_reducible refine Keeps.alloc ?_ _ | with_reducible refine Keeps.drewN ?_ _ | with_reducible refine Keeps.drew ?_))
  have hsz : w.heap.size = wq.heap.size := by rw [← hwq]; simp
  have h0' : wq.cell? ⟨b, 0, none⟩ = some (.int .i64 1) := by rw [← hwq, World.cell?_setCell_other _ _ _ _ (by simp)]; exact h0
  have hbq : b < wq.heap.size := by omega
  simp only [hwq, hsz]
  refine (class_calls p _ (by omega) (by omega)).mono ?_
  rintro e w2 ⟨rfl, hk2⟩
  have hr2 := (hst.keep (S := fun k => b < k) (by (repeat' (first | with_reducible exact Keeps.refl _ _ | with_reducible refine Keeps.set ?_ (by simp <;> omega) _ | with_reducible refine Keeps.alloc ?_ _ | with_reducible refine Keeps.drewN ?_ _ | with_reducible refine Keeps.drew ?_))) (fun k hk hn => by omega)).keep hk2 (fun _ _ h => h)
  replace hk2 : Keeps (But b) _ w2 := hk2.mono (fun _ h => h.elim)
  have hK2 : Keeps (But b) w w2 := Keeps.trans (by (repeat' (first | with_reducible exact hkq | with_reducible refine Keeps.set ?_ (by simp <;> omega) _ | with_reducible refine Keeps.alloc ?_ _ | with_reducible refine Keeps.drewN ?_ _ | with_reducible refine Keeps.drew ?_))) hk2
  have hs2 : w.heap.size + 1 ≤ w2.heap.size := by have := hk2.size; (try simp at this); omega
  have hb2 : b < w2.heap.size := by omega
  have c0_hk2 := fun o => hk2.cell (b := wq.heap.size) (o := o) (by first | omega | (simp; done) | (simp; omega)) (by first | omega | (simp; done) | (simp; omega)); have z0_hk2 := fun o => hk2.frozen (b := wq.heap.size) (o := o) (by first | omega | (simp; done) | (simp; omega)) (by first | omega | (simp; done) | (simp; omega))
  have : wq.heap.size < w2.heap.size := by omega
  have : wq.heap.size ≤ w2.heap.size := by omega
  have : wq.heap.size < w2.heap.size + 1 := by omega
  have : ¬ wq.heap.size = w2.heap.size + 1 := by omega
  have : ¬ w2.heap.size + 1 = wq.heap.size := by omega
  have : ¬ w2.heap.size = b := by omega
  have : ¬ b = w2.heap.size := by omega
  have : ¬ w2.heap.size = wq.heap.size := by omega
  have : ¬ wq.heap.size = w2.heap.size := by omega
  rw [HC'.out]; simp only [tkV, Option.getD_none, Option.isSome_none]
  go_wp2_with fail
  refine (among_calls lookB p (by decide) _).mono ?_
  rintro e w3 ⟨rfl, rfl⟩
  rw [HA'.out]
  go_wp2_with fail
  refine (among_calls ctrlB p (by decide) _).mono ?_
  rintro e w4 ⟨rfl, rfl⟩
  rw [HB'.out]
  go_wp2_with fail
  refine (point_calls _ _).mono ?_
  rintro e w5 ⟨rfl, hk5⟩
  have hr5 := (hr2.keep (S := fun k => b < k) (by (repeat' (first | with_reducible exact Keeps.refl _ _ | with_reducible refine Keeps.set ?_ (by simp <;> omega) _ | with_reducible refine Keeps.alloc ?_ _ | with_reducible refine Keeps.drewN ?_ _ | with_reducible refine Keeps.drew ?_))) (fun k hk hn => by omega)).keep hk5 (fun _ _ h => h)
  replace hk5 : Keeps (But b) _ w5 := hk5.mono (fun _ h => h.elim)
  have hK5 : Keeps (But b) w w5 := Keeps.trans (by (repeat' (first | with_reducible exact hK2 | with_reducible refine Keeps.set ?_ (by simp <;> omega) _ | with_reducible refine Keeps.alloc ?_ _ | with_reducible refine Keeps.drewN ?_ _ | with_reducible refine Keeps.drew ?_))) hk5
  have hs5 : w.heap.size + 1 ≤ w5.heap.size := by have := hk5.size; (try simp at this); omega
  have hb5 : b < w5.heap.size := by omega
  have hz5_0 : w2.heap.size < w5.heap.size := by have := hk5.size; (try simp at this); omega
  have c0_hk5 := fun o => hk5.cell (b := wq.heap.size) (o := o) (by first | omega | (simp; done) | (simp; omega)) (by first | omega | (simp; done) | (simp; omega)); have z0_hk5 := fun o => hk5.frozen (b := wq.heap.size) (o := o) (by first | omega | (simp; done) | (simp; omega)) (by first | omega | (simp; done) | (simp; omega)); have c1_hk5 := fun o => hk5.cell (b := w2.heap.size) (o := o) (by first | omega | (simp; done) | (simp; omega)) (by first | omega | (simp; done) | (simp; omega)); have z1_hk5 := fun o => hk5.frozen (b := w2.heap.size) (o := o) (by first | omega | (simp; done) | (simp; omega)) (by first | omega | (simp; done) | (simp; omega))
  simp only [tkV, point]
  go_wp2_with fail
  refine bodyPost_ret (v := tkV (point 10)) (by simp [results, Tryz.results89, go_sem, tkV, point, look, again, *]) rfl (RPost.mk (t := (point 10)) (rfl) rfl (hr5.keep (S := fun k => b < k) ?_ (fun k hk hn => by omega)) ?_)
  · (repeat' (first | with_reducible exact Keeps.refl _ _ | with_reducible refine Keeps.set ?_ (by simp <;> omega) _ | with_reducible refine Keeps.alloc ?_ _ | with_reducible refine Keeps.drewN ?_ _ | with_reducible refine Keeps.drew ?_))
  · (repeat' (first | with_reducible exact hK5 | with_reducible refine Keeps.set ?_ (by simp <;> omega) _ | with_reducible refine Keeps.alloc ?_ _ | with_reducible refine Keeps.drewN ?_ _ | with_reducible refine Keeps.drew ?_))

set_option maxHeartbeats 1000000 in
theorem esc_ctrl1 {w : World} {b : Nat} {L s : List Int} {p : Int}  (h : Rs w b 1 L (p :: s)) (Np : 0 ≤ p) (Nq : p ≤ 1114111) (HC : classT p = none) (HA : amongL (codes lookB) p 0 = -1) (HB : amongL (codes ctrlB) p 0 = 1) :
    Calls Tryz.prog 89 #[.pointer (some ⟨b, 0, none⟩)] w fun e w' => RPost b 1 L w (.ok ((point 9), s)) e w' := by
  have hb := h.lt
  have h0 : w.cell? ⟨b, 0, none⟩ = some (.int .i64 1) := by obtain ⟨_, _, _, h0, _⟩ := h; exact h0
  have HC' := hid HC
  clear HC
  have HA' := hid HA
  clear HA
  have HB' := hid HB
  clear HB
  obtain ⟨a0, h2, ha0, ha1, hf2⟩ := h.at2
  go_enter Tryz.func89, Tryz.ntmps89
  go_wp2_with fail
  refine (peek (h.keep (S := fun k => b < k) (by (repeat' (first | with_reducible exact Keeps.refl _ _ | with_reducible refine Keeps.set ?_ (by simp <;> omega) _ | with_reducible refine Keeps.alloc ?_ _ | with_reducible refine Keeps.drewN ?_ _ | with_reducible refine Keeps.drew ?_))) (fun k hk hn => by omega))).mono ?_
  rintro e w1 ⟨rfl, q1, rfl⟩
  simp only [hd]
  go_wp2_with fail
  simp only [setCell_drewN, World.setCell_alloc_past _ _ _ _ hb]
  obtain ⟨wq, hwq⟩ : ∃ wq, w.setCell ⟨b, 2, none⟩ (.int .i64 (a0 + 1)) = wq := ⟨_, rfl⟩
  have hst : Rs wq b 1 L s := by rw [← hwq]; exact Rs.stepAt h h2 (by simp)
  have hkq : Keeps (But b) w wq := by rw [← hwq]; (repeat' (first | with_reducible exact Keeps.refl _ _ | with_reducible refine Keeps.set ?_ (by simp <;> omega) _ | with_reducible refine Keeps.alloc ?_ _ | with_reducible refine Keeps.drewN ?_ _ | with_reducible refine Keeps.drew ?_))
  have hsz : w.heap.size = wq.heap.size := by rw [← hwq]; simp
  have h0' : wq.cell? ⟨b, 0, none⟩ = some (.int .i64 1) := by rw [← hwq, World.cell?_setCell_other _ _ _ _ (by simp)]; exact h0
  have hbq : b < wq.heap.size := by omega
  simp only [hwq, hsz]
  refine (class_calls p _ (by omega) (by omega)).mono ?_
  rintro e w2 ⟨rfl, hk2⟩
  have hr2 := (hst.keep (S := fun k => b < k) (by (repeat' (first | with_reducible exact Keeps.refl _ _ | with_reducible refine Keeps.set ?_ (by simp <;> omega) _ | with_reducible refine Keeps.alloc ?_ _ | with_reducible refine Keeps.drewN ?_ _ | with_reducible refine Keeps.drew ?_))) (fun k hk hn => by omega)).keep hk2 (fun _ _ h => h)
  replace hk2 : Keeps (But b) _ w2 := hk2.mono (fun _ h => h.elim)
  have hK2 : Keeps (But b) w w2 := Keeps.trans (by (repeat' (first | with_reducible exact hkq | with_reducible refine Keeps.set ?_ (by simp <;> omega) _ | with_reducible refine Keeps.alloc ?_ _ | with_reducible refine Keeps.drewN ?_ _ | with_reducible refine Keeps.drew ?_))) hk2
  have hs2 : w.heap.size + 1 ≤ w2.heap.size := by have := hk2.size; (try simp at this); omega
  have hb2 : b < w2.heap.size := by omega
  have c0_hk2 := fun o => hk2.cell (b := wq.heap.size) (o := o) (by first | omega | (simp; done) | (simp; omega)) (by first | omega | (simp; done) | (simp; omega)); have z0_hk2 := fun o => hk2.frozen (b := wq.heap.size) (o := o) (by first | omega | (simp; done) | (simp; omega)) (by first | omega | (simp; done) | (simp; omega))
  have : wq.heap.size < w2.heap.size := by omega
  have : wq.heap.size ≤ w2.heap.size := by omega
  have : wq.heap.size < w2.heap.size + 1 := by omega
  have : ¬ wq.heap.size = w2.heap.size + 1 := by omega
  have : ¬ w2.heap.size + 1 = wq.heap.size := by omega
  have : ¬ w2.heap.size = b := by omega
  have : ¬ b = w2.heap.size := by omega
  have : ¬ w2.heap.size = wq.heap.size := by omega
  have : ¬ wq.heap.size = w2.heap.size := by omega
  rw [HC'.out]; simp only [tkV, Option.getD_none, Option.isSome_none]
  go_wp2_with fail
  refine (among_calls lookB p (by decide) _).mono ?_
  rintro e w3 ⟨rfl, rfl⟩
  rw [HA'.out]
  go_wp2_with fail
  refine (among_calls ctrlB p (by decide) _).mono ?_
  rintro e w4 ⟨rfl, rfl⟩
  rw [HB'.out]
  go_wp2_with fail
  refine (point_calls _ _).mono ?_
  rintro e w5 ⟨rfl, hk5⟩
  have hr5 := (hr2.keep (S := fun k => b < k) (by (repeat' (first | with_reducible exact Keeps.refl _ _ | with_reducible refine Keeps.set ?_ (by simp <;> omega) _ | with_reducible refine Keeps.alloc ?_ _ | with_reducible refine Keeps.drewN ?_ _ | with_reducible refine Keeps.drew ?_))) (fun k hk hn => by omega)).keep hk5 (fun _ _ h => h)
  replace hk5 : Keeps (But b) _ w5 := hk5.mono (fun _ h => h.elim)
  have hK5 : Keeps (But b) w w5 := Keeps.trans (by (repeat' (first | with_reducible exact hK2 | with_reducible refine Keeps.set ?_ (by simp <;> omega) _ | with_reducible refine Keeps.alloc ?_ _ | with_reducible refine Keeps.drewN ?_ _ | with_reducible refine Keeps.drew ?_))) hk5
  have hs5 : w.heap.size + 1 ≤ w5.heap.size := by have := hk5.size; (try simp at this); omega
  have hb5 : b < w5.heap.size := by omega
  have hz5_0 : w2.heap.size < w5.heap.size := by have := hk5.size; (try simp at this); omega
  have c0_hk5 := fun o => hk5.cell (b := wq.heap.size) (o := o) (by first | omega | (simp; done) | (simp; omega)) (by first | omega | (simp; done) | (simp; omega)); have z0_hk5 := fun o => hk5.frozen (b := wq.heap.size) (o := o) (by first | omega | (simp; done) | (simp; omega)) (by first | omega | (simp; done) | (simp; omega)); have c1_hk5 := fun o => hk5.cell (b := w2.heap.size) (o := o) (by first | omega | (simp; done) | (simp; omega)) (by first | omega | (simp; done) | (simp; omega)); have z1_hk5 := fun o => hk5.frozen (b := w2.heap.size) (o := o) (by first | omega | (simp; done) | (simp; omega)) (by first | omega | (simp; done) | (simp; omega))
  simp only [tkV, point]
  go_wp2_with fail
  refine bodyPost_ret (v := tkV (point 9)) (by simp [results, Tryz.results89, go_sem, tkV, point, look, again, *]) rfl (RPost.mk (t := (point 9)) (rfl) rfl (hr5.keep (S := fun k => b < k) ?_ (fun k hk hn => by omega)) ?_)
  · (repeat' (first | with_reducible exact Keeps.refl _ _ | with_reducible refine Keeps.set ?_ (by simp <;> omega) _ | with_reducible refine Keeps.alloc ?_ _ | with_reducible refine Keeps.drewN ?_ _ | with_reducible refine Keeps.drew ?_))
  · (repeat' (first | with_reducible exact hK5 | with_reducible refine Keeps.set ?_ (by simp <;> omega) _ | with_reducible refine Keeps.alloc ?_ _ | with_reducible refine Keeps.drewN ?_ _ | with_reducible refine Keeps.drew ?_))

set_option maxHeartbeats 1000000 in
theorem esc_ctrl2 {w : World} {b : Nat} {L s : List Int} {p : Int}  (h : Rs w b 1 L (p :: s)) (Np : 0 ≤ p) (Nq : p ≤ 1114111) (HC : classT p = none) (HA : amongL (codes lookB) p 0 = -1) (HB : amongL (codes ctrlB) p 0 = 2) :
    Calls Tryz.prog 89 #[.pointer (some ⟨b, 0, none⟩)] w fun e w' => RPost b 1 L w (.ok ((point 13), s)) e w' := by
  have hb := h.lt
  have h0 : w.cell? ⟨b, 0, none⟩ = some (.int .i64 1) := by obtain ⟨_, _, _, h0, _⟩ := h; exact h0
  have HC' := hid HC
  clear HC
  have HA' := hid HA
  clear HA
  have HB' := hid HB
  clear HB
  obtain ⟨a0, h2, ha0, ha1, hf2⟩ := h.at2
  go_enter Tryz.func89, Tryz.ntmps89
  go_wp2_with fail
  refine (peek (h.keep (S := fun k => b < k) (by (repeat' (first | with_reducible exact Keeps.refl _ _ | with_reducible refine Keeps.set ?_ (by simp <;> omega) _ | with_reducible refine Keeps.alloc ?_ _ | with_reducible refine Keeps.drewN ?_ _ | with_reducible refine Keeps.drew ?_))) (fun k hk hn => by omega))).mono ?_
  rintro e w1 ⟨rfl, q1, rfl⟩
  simp only [hd]
  go_wp2_with fail
  simp only [setCell_drewN, World.setCell_alloc_past _ _ _ _ hb]
  obtain ⟨wq, hwq⟩ : ∃ wq, w.setCell ⟨b, 2, none⟩ (.int .i64 (a0 + 1)) = wq := ⟨_, rfl⟩
  have hst : Rs wq b 1 L s := by rw [← hwq]; exact Rs.stepAt h h2 (by simp)
  have hkq : Keeps (But b) w wq := by rw [← hwq]; (repeat' (first | with_reducible exact Keeps.refl _ _ | with_reducible refine Keeps.set ?_ (by simp <;> omega) _ | with_reducible refine Keeps.alloc ?_ _ | with_reducible refine Keeps.drewN ?_ _ | with_reducible refine Keeps.drew ?_))
  have hsz : w.heap.size = wq.heap.size := by rw [← hwq]; simp
  have h0' : wq.cell? ⟨b, 0, none⟩ = some (.int .i64 1) := by rw [← hwq, World.cell?_setCell_other _ _ _ _ (by simp)]; exact h0
  have hbq : b < wq.heap.size := by omega
  simp only [hwq, hsz]
  refine (class_calls p _ (by omega) (by omega)).mono ?_
  rintro e w2 ⟨rfl, hk2⟩
  have hr2 := (hst.keep (S := fun k => b < k) (by (repeat' (first | with_reducible exact Keeps.refl _ _ | with_reducible refine Keeps.set ?_ (by simp <;> omega) _ | with_reducible refine Keeps.alloc ?_ _ | with_reducible refine Keeps.drewN ?_ _ | with_reducible refine Keeps.drew ?_))) (fun k hk hn => by omega)).keep hk2 (fun _ _ h => h)
  replace hk2 : Keeps (But b) _ w2 := hk2.mono (fun _ h => h.elim)
  have hK2 : Keeps (But b) w w2 := Keeps.trans (by (repeat' (first | with_reducible exact hkq | with_reducible refine Keeps.set ?_ (by simp <;> omega) _ | with_reducible refine Keeps.alloc ?_ _ | with_reducible refine Keeps.drewN ?_ _ | with_reducible refine Keeps.drew ?_))) hk2
  have hs2 : w.heap.size + 1 ≤ w2.heap.size := by have := hk2.size; (try simp at this); omega
  have hb2 : b < w2.heap.size := by omega
  have c0_hk2 := fun o => hk2.cell (b := wq.heap.size) (o := o) (by first | omega | (simp; done) | (simp; omega)) (by first | omega | (simp; done) | (simp; omega)); have z0_hk2 := fun o => hk2.frozen (b := wq.heap.size) (o := o) (by first | omega | (simp; done) | (simp; omega)) (by first | omega | (simp; done) | (simp; omega))
  have : wq.heap.size < w2.heap.size := by omega
  have : wq.heap.size ≤ w2.heap.size := by omega
  have : wq.heap.size < w2.heap.size + 1 := by omega
  have : ¬ wq.heap.size = w2.heap.size + 1 := by omega
  have : ¬ w2.heap.size + 1 = wq.heap.size := by omega
  have : ¬ w2.heap.size = b := by omega
  have : ¬ b = w2.heap.size := by omega
  have : ¬ w2.heap.size = wq.heap.size := by omega
  have : ¬ wq.heap.size = w2.heap.size := by omega
  rw [HC'.out]; simp only [tkV, Option.getD_none, Option.isSome_none]
  go_wp2_with fail
  refine (among_calls lookB p (by decide) _).mono ?_
  rintro e w3 ⟨rfl, rfl⟩
  rw [HA'.out]
  go_wp2_with fail
  refine (among_calls ctrlB p (by decide) _).mono ?_
  rintro e w4 ⟨rfl, rfl⟩
  rw [HB'.out]
  go_wp2_with fail
  refine (point_calls _ _).mono ?_
  rintro e w5 ⟨rfl, hk5⟩
  have hr5 := (hr2.keep (S := fun k => b < k) (by (repeat' (first | with_reducible exact Keeps.refl _ _ | with_reducible refine Keeps.set ?_ (by simp <;> omega) _ | with_reducible refine Keeps.alloc ?_ _ | with_reducible refine Keeps.drewN ?_ _ | with_reducible refine Keeps.drew ?_))) (fun k hk hn => by omega)).keep hk5 (fun _ _ h => h)
  replace hk5 : Keeps (But b) _ w5 := hk5.mono (fun _ h => h.elim)
  have hK5 : Keeps (But b) w w5 := Keeps.trans (by (repeat' (first | with_reducible exact hK2 | with_reducible refine Keeps.set ?_ (by simp <;> omega) _ | with_reducible refine Keeps.alloc ?_ _ | with_reducible refine Keeps.drewN ?_ _ | with_reducible refine Keeps.drew ?_))) hk5
  have hs5 : w.heap.size + 1 ≤ w5.heap.size := by have := hk5.size; (try simp at this); omega
  have hb5 : b < w5.heap.size := by omega
  have hz5_0 : w2.heap.size < w5.heap.size := by have := hk5.size; (try simp at this); omega
  have c0_hk5 := fun o => hk5.cell (b := wq.heap.size) (o := o) (by first | omega | (simp; done) | (simp; omega)) (by first | omega | (simp; done) | (simp; omega)); have z0_hk5 := fun o => hk5.frozen (b := wq.heap.size) (o := o) (by first | omega | (simp; done) | (simp; omega)) (by first | omega | (simp; done) | (simp; omega)); have c1_hk5 := fun o => hk5.cell (b := w2.heap.size) (o := o) (by first | omega | (simp; done) | (simp; omega)) (by first | omega | (simp; done) | (simp; omega)); have z1_hk5 := fun o => hk5.frozen (b := w2.heap.size) (o := o) (by first | omega | (simp; done) | (simp; omega)) (by first | omega | (simp; done) | (simp; omega))
  simp only [tkV, point]
  go_wp2_with fail
  refine bodyPost_ret (v := tkV (point 13)) (by simp [results, Tryz.results89, go_sem, tkV, point, look, again, *]) rfl (RPost.mk (t := (point 13)) (rfl) rfl (hr5.keep (S := fun k => b < k) ?_ (fun k hk hn => by omega)) ?_)
  · (repeat' (first | with_reducible exact Keeps.refl _ _ | with_reducible refine Keeps.set ?_ (by simp <;> omega) _ | with_reducible refine Keeps.alloc ?_ _ | with_reducible refine Keeps.drewN ?_ _ | with_reducible refine Keeps.drew ?_))
  · (repeat' (first | with_reducible exact hK5 | with_reducible refine Keeps.set ?_ (by simp <;> omega) _ | with_reducible refine Keeps.alloc ?_ _ | with_reducible refine Keeps.drewN ?_ _ | with_reducible refine Keeps.drew ?_))

set_option maxHeartbeats 1000000 in
theorem esc_ctrl3 {w : World} {b : Nat} {L s : List Int} {p : Int}  (h : Rs w b 1 L (p :: s)) (Np : 0 ≤ p) (Nq : p ≤ 1114111) (HC : classT p = none) (HA : amongL (codes lookB) p 0 = -1) (HB : amongL (codes ctrlB) p 0 = 3) :
    Calls Tryz.prog 89 #[.pointer (some ⟨b, 0, none⟩)] w fun e w' => RPost b 1 L w (.ok ((point 12), s)) e w' := by
  have hb := h.lt
  have h0 : w.cell? ⟨b, 0, none⟩ = some (.int .i64 1) := by obtain ⟨_, _, _, h0, _⟩ := h; exact h0
  have HC' := hid HC
  clear HC
  have HA' := hid HA
  clear HA
  have HB' := hid HB
  clear HB
  obtain ⟨a0, h2, ha0, ha1, hf2⟩ := h.at2
  go_enter Tryz.func89, Tryz.ntmps89
  go_wp2_with fail
  refine (peek (h.keep (S := fun k => b < k) (by (repeat' (first | with_reducible exact Keeps.refl _ _ | with_reducible refine Keeps.set ?_ (by simp <;> omega) _ | with_reducible refine Keeps.alloc ?_ _ | with_reducible refine Keeps.drewN ?_ _ | with_reducible refine Keeps.drew ?_))) (fun k hk hn => by omega))).mono ?_
  rintro e w1 ⟨rfl, q1, rfl⟩
  simp only [hd]
  go_wp2_with fail
  simp only [setCell_drewN, World.setCell_alloc_past _ _ _ _ hb]
  obtain ⟨wq, hwq⟩ : ∃ wq, w.setCell ⟨b, 2, none⟩ (.int .i64 (a0 + 1)) = wq := ⟨_, rfl⟩
  have hst : Rs wq b 1 L s := by rw [← hwq]; exact Rs.stepAt h h2 (by simp)
  have hkq : Keeps (But b) w wq := by rw [← hwq]; (repeat' (first | with_reducible exact Keeps.refl _ _ | with_reducible refine Keeps.set ?_ (by simp <;> omega) _ | with_reducible refine Keeps.alloc ?_ _ | with_reducible refine Keeps.drewN ?_ _ | with_reducible refine Keeps.drew ?_))
  have hsz : w.heap.size = wq.heap.size := by rw [← hwq]; simp
  have h0' : wq.cell? ⟨b, 0, none⟩ = some (.int .i64 1) := by rw [← hwq, World.cell?_setCell_other _ _ _ _ (by simp)]; exact h0
  have hbq : b < wq.heap.size := by omega
  simp only [hwq, hsz]
  refine (class_calls p _ (by omega) (by omega)).mono ?_
  rintro e w2 ⟨rfl, hk2⟩
  have hr2 := (hst.keep (S := fun k => b < k) (by (repeat' (first | with_reducible exact Keeps.refl _ _ | with_reducible refine Keeps.set ?_ (by simp <;> omega) _ | with_reducible refine Keeps.alloc ?_ _ | with_reducible refine Keeps.drewN ?_ _ | with_reducible refine Keeps.drew ?_))) (fun k hk hn => by omega)).keep hk2 (fun _ _ h => h)
  replace hk2 : Keeps (But b) _ w2 := hk2.mono (fun _ h => h.elim)
  have hK2 : Keeps (But b) w w2 := Keeps.trans (by (repeat' (first | with_reducible exact hkq | with_reducible refine Keeps.set ?_ (by simp <;> omega) _ | with_reducible refine Keeps.alloc ?_ _ | with_reducible refine Keeps.drewN ?_ _ | with_reducible refine Keeps.drew ?_))) hk2
  have hs2 : w.heap.size + 1 ≤ w2.heap.size := by have := hk2.size; (try simp at this); omega
  have hb2 : b < w2.heap.size := by omega
  have c0_hk2 := fun o => hk2.cell (b := wq.heap.size) (o := o) (by first | omega | (simp; done) | (simp; omega)) (by first | omega | (simp; done) | (simp; omega)); have z0_hk2 := fun o => hk2.frozen (b := wq.heap.size) (o := o) (by first | omega | (simp; done) | (simp; omega)) (by first | omega | (simp; done) | (simp; omega))
  have : wq.heap.size < w2.heap.size := by omega
  have : wq.heap.size ≤ w2.heap.size := by omega
  have : wq.heap.size < w2.heap.size + 1 := by omega
  have : ¬ wq.heap.size = w2.heap.size + 1 := by omega
  have : ¬ w2.heap.size + 1 = wq.heap.size := by omega
  have : ¬ w2.heap.size = b := by omega
  have : ¬ b = w2.heap.size := by omega
  have : ¬ w2.heap.size = wq.heap.size := by omega
  have : ¬ wq.heap.size = w2.heap.size := by omega
  rw [HC'.out]; simp only [tkV, Option.getD_none, Option.isSome_none]
  go_wp2_with fail
  refine (among_calls lookB p (by decide) _).mono ?_
  rintro e w3 ⟨rfl, rfl⟩
  rw [HA'.out]
  go_wp2_with fail
  refine (among_calls ctrlB p (by decide) _).mono ?_
  rintro e w4 ⟨rfl, rfl⟩
  rw [HB'.out]
  go_wp2_with fail
  refine (point_calls _ _).mono ?_
  rintro e w5 ⟨rfl, hk5⟩
  have hr5 := (hr2.keep (S := fun k => b < k) (by (repeat' (first | with_reducible exact Keeps.refl _ _ | with_reducible refine Keeps.set ?_ (by simp <;> omega) _ | with_reducible refine Keeps.alloc ?_ _ | with_reducible refine Keeps.drewN ?_ _ | with_reducible refine Keeps.drew ?_))) (fun k hk hn => by omega)).keep hk5 (fun _ _ h => h)
  replace hk5 : Keeps (But b) _ w5 := hk5.mono (fun _ h => h.elim)
  have hK5 : Keeps (But b) w w5 := Keeps.trans (by (repeat' (first | with_reducible exact hK2 | with_reducible refine Keeps.set ?_ (by simp <;> omega) _ | with_reducible refine Keeps.alloc ?_ _ | with_reducible refine Keeps.drewN ?_ _ | with_reducible refine Keeps.drew ?_))) hk5
  have hs5 : w.heap.size + 1 ≤ w5.heap.size := by have := hk5.size; (try simp at this); omega
  have hb5 : b < w5.heap.size := by omega
  have hz5_0 : w2.heap.size < w5.heap.size := by have := hk5.size; (try simp at this); omega
  have c0_hk5 := fun o => hk5.cell (b := wq.heap.size) (o := o) (by first | omega | (simp; done) | (simp; omega)) (by first | omega | (simp; done) | (simp; omega)); have z0_hk5 := fun o => hk5.frozen (b := wq.heap.size) (o := o) (by first | omega | (simp; done) | (simp; omega)) (by first | omega | (simp; done) | (simp; omega)); have c1_hk5 := fun o => hk5.cell (b := w2.heap.size) (o := o) (by first | omega | (simp; done) | (simp; omega)) (by first | omega | (simp; done) | (simp; omega)); have z1_hk5 := fun o => hk5.frozen (b := w2.heap.size) (o := o) (by first | omega | (simp; done) | (simp; omega)) (by first | omega | (simp; done) | (simp; omega))
  simp only [tkV, point]
  go_wp2_with fail
  refine bodyPost_ret (v := tkV (point 12)) (by simp [results, Tryz.results89, go_sem, tkV, point, look, again, *]) rfl (RPost.mk (t := (point 12)) (rfl) rfl (hr5.keep (S := fun k => b < k) ?_ (fun k hk hn => by omega)) ?_)
  · (repeat' (first | with_reducible exact Keeps.refl _ _ | with_reducible refine Keeps.set ?_ (by simp <;> omega) _ | with_reducible refine Keeps.alloc ?_ _ | with_reducible refine Keeps.drewN ?_ _ | with_reducible refine Keeps.drew ?_))
  · (repeat' (first | with_reducible exact hK5 | with_reducible refine Keeps.set ?_ (by simp <;> omega) _ | with_reducible refine Keeps.alloc ?_ _ | with_reducible refine Keeps.drewN ?_ _ | with_reducible refine Keeps.drew ?_))

set_option maxHeartbeats 1000000 in
theorem esc_ctrl4 {w : World} {b : Nat} {L s : List Int} {p : Int}  (h : Rs w b 1 L (p :: s)) (Np : 0 ≤ p) (Nq : p ≤ 1114111) (HC : classT p = none) (HA : amongL (codes lookB) p 0 = -1) (HB : amongL (codes ctrlB) p 0 = 4) :
    Calls Tryz.prog 89 #[.pointer (some ⟨b, 0, none⟩)] w fun e w' => RPost b 1 L w (.ok ((point 11), s)) e w' := by
  have hb := h.lt
  have h0 : w.cell? ⟨b, 0, none⟩ = some (.int .i64 1) := by obtain ⟨_, _, _, h0, _⟩ := h; exact h0
  have HC' := hid HC
  clear HC
  have HA' := hid HA
  clear HA
  have HB' := hid HB
  clear HB
  obtain ⟨a0, h2, ha0, ha1, hf2⟩ := h.at2
  go_enter Tryz.func89, Tryz.ntmps89
  go_wp2_with fail
  refine (peek (h.keep (S := fun k => b < k) (by (repeat' (first | with_reducible exact Keeps.refl _ _ | with_reducible refine Keeps.set ?_ (by simp <;> omega) _ | with_reducible refine Keeps.alloc ?_ _ | with_reducible refine Keeps.drewN ?_ _ | with_reducible refine Keeps.drew ?_))) (fun k hk hn => by omega))).mono ?_
  rintro e w1 ⟨rfl, q1, rfl⟩
  simp only [hd]
  go_wp2_with fail
  simp only [setCell_drewN, World.setCell_alloc_past _ _ _ _ hb]
  obtain ⟨wq, hwq⟩ : ∃ wq, w.setCell ⟨b, 2, none⟩ (.int .i64 (a0 + 1)) = wq := ⟨_, rfl⟩
  have hst : Rs wq b 1 L s := by rw [← hwq]; exact Rs.stepAt h h2 (by simp)
  have hkq : Keeps (But b) w wq := by rw [← hwq]; (repeat' (first | with_reducible exact Keeps.refl _ _ | with_reducible refine Keeps.set ?_ (by simp <;> omega) _ | with_reducible refine Keeps.alloc ?_ _ | with_reducible refine Keeps.drewN ?_ _ | with_reducible refine Keeps.drew ?_))
  have hsz : w.heap.size = wq.heap.size := by rw [← hwq]; simp
  have h0' : wq.cell? ⟨b, 0, none⟩ = some (.int .i64 1) := by rw [← hwq, World.cell?_setCell_other _ _ _ _ (by simp)]; exact h0
  have hbq : b < wq.heap.size := by omega
  simp only [hwq, hsz]
  refine (class_calls p _ (by omega) (by omega)).mono ?_
  rintro e w2 ⟨rfl, hk2⟩
  have hr2 := (hst.keep (S := fun k => b < k) (by (repeat' (first | with_reducible exact Keeps.refl _ _ | with_reducible refine Keeps.set ?_ (by simp <;> omega) _ | with_reducible refine Keeps.alloc ?_ _ | with_reducible refine Keeps.drewN ?_ _ | with_reducible refine Keeps.drew ?_))) (fun k hk hn => by omega)).keep hk2 (fun _ _ h => h)
  replace hk2 : Keeps (But b) _ w2 := hk2.mono (fun _ h => h.elim)
  have hK2 : Keeps (But b) w w2 := Keeps.trans (by (repeat' (first | with_reducible exact hkq | with_reducible refine Keeps.set ?_ (by simp <;> omega) _ | with_reducible refine Keeps.alloc ?_ _ | with_reducible refine Keeps.drewN ?_ _ | with_reducible refine Keeps.drew ?_))) hk2
  have hs2 : w.heap.size + 1 ≤ w2.heap.size := by have := hk2.size; (try simp at this); omega
  have hb2 : b < w2.heap.size := by omega
  have c0_hk2 := fun o => hk2.cell (b := wq.heap.size) (o := o) (by first | omega | (simp; done) | (simp; omega)) (by first | omega | (simp; done) | (simp; omega)); have z0_hk2 := fun o => hk2.frozen (b := wq.heap.size) (o := o) (by first | omega | (simp; done) | (simp; omega)) (by first | omega | (simp; done) | (simp; omega))
  have : wq.heap.size < w2.heap.size := by omega
  have : wq.heap.size ≤ w2.heap.size := by omega
  have : wq.heap.size < w2.heap.size + 1 := by omega
  have : ¬ wq.heap.size = w2.heap.size + 1 := by omega
  have : ¬ w2.heap.size + 1 = wq.heap.size := by omega
  have : ¬ w2.heap.size = b := by omega
  have : ¬ b = w2.heap.size := by omega
  have : ¬ w2.heap.size = wq.heap.size := by omega
  have : ¬ wq.heap.size = w2.heap.size := by omega
  rw [HC'.out]; simp only [tkV, Option.getD_none, Option.isSome_none]
  go_wp2_with fail
  refine (among_calls lookB p (by decide) _).mono ?_
  rintro e w3 ⟨rfl, rfl⟩
  rw [HA'.out]
  go_wp2_with fail
  refine (among_calls ctrlB p (by decide) _).mono ?_
  rintro e w4 ⟨rfl, rfl⟩
  rw [HB'.out]
  go_wp2_with fail
  refine (point_calls _ _).mono ?_
  rintro e w5 ⟨rfl, hk5⟩
  have hr5 := (hr2.keep (S := fun k => b < k) (by (repeat' (first | with_reducible exact Keeps.refl _ _ | with_reducible refine Keeps.set ?_ (by simp <;> omega) _ | with_reducible refine Keeps.alloc ?_ _ | with_reducible refine Keeps.drewN ?_ _ | with_reducible refine Keeps.drew ?_))) (fun k hk hn => by omega)).keep hk5 (fun _ _ h => h)
  replace hk5 : Keeps (But b) _ w5 := hk5.mono (fun _ h => h.elim)
  have hK5 : Keeps (But b) w w5 := Keeps.trans (by (repeat' (first | with_reducible exact hK2 | with_reducible refine Keeps.set ?_ (by simp <;> omega) _ | with_reducible refine Keeps.alloc ?_ _ | with_reducible refine Keeps.drewN ?_ _ | with_reducible refine Keeps.drew ?_))) hk5
  have hs5 : w.heap.size + 1 ≤ w5.heap.size := by have := hk5.size; (try simp at this); omega
  have hb5 : b < w5.heap.size := by omega
  have hz5_0 : w2.heap.size < w5.heap.size := by have := hk5.size; (try simp at this); omega
  have c0_hk5 := fun o => hk5.cell (b := wq.heap.size) (o := o) (by first | omega | (simp; done) | (simp; omega)) (by first | omega | (simp; done) | (simp; omega)); have z0_hk5 := fun o => hk5.frozen (b := wq.heap.size) (o := o) (by first | omega | (simp; done) | (simp; omega)) (by first | omega | (simp; done) | (simp; omega)); have c1_hk5 := fun o => hk5.cell (b := w2.heap.size) (o := o) (by first | omega | (simp; done) | (simp; omega)) (by first | omega | (simp; done) | (simp; omega)); have z1_hk5 := fun o => hk5.frozen (b := w2.heap.size) (o := o) (by first | omega | (simp; done) | (simp; omega)) (by first | omega | (simp; done) | (simp; omega))
  simp only [tkV, point]
  go_wp2_with fail
  refine bodyPost_ret (v := tkV (point 11)) (by simp [results, Tryz.results89, go_sem, tkV, point, look, again, *]) rfl (RPost.mk (t := (point 11)) (rfl) rfl (hr5.keep (S := fun k => b < k) ?_ (fun k hk hn => by omega)) ?_)
  · (repeat' (first | with_reducible exact Keeps.refl _ _ | with_reducible refine Keeps.set ?_ (by simp <;> omega) _ | with_reducible refine Keeps.alloc ?_ _ | with_reducible refine Keeps.drewN ?_ _ | with_reducible refine Keeps.drew ?_))
  · (repeat' (first | with_reducible exact hK5 | with_reducible refine Keeps.set ?_ (by simp <;> omega) _ | with_reducible refine Keeps.alloc ?_ _ | with_reducible refine Keeps.drewN ?_ _ | with_reducible refine Keeps.drew ?_))

set_option maxHeartbeats 1000000 in
theorem esc_ctrl5 {w : World} {b : Nat} {L s : List Int} {p : Int}  (h : Rs w b 1 L (p :: s)) (Np : 0 ≤ p) (Nq : p ≤ 1114111) (HC : classT p = none) (HA : amongL (codes lookB) p 0 = -1) (HB : amongL (codes ctrlB) p 0 = 5) :
    Calls Tryz.prog 89 #[.pointer (some ⟨b, 0, none⟩)] w fun e w' => RPost b 1 L w (.ok ((point 7), s)) e w' := by
  have hb := h.lt
  have h0 : w.cell? ⟨b, 0, none⟩ = some (.int .i64 1) := by obtain ⟨_, _, _, h0, _⟩ := h; exact h0
  have HC' := hid HC
  clear HC
  have HA' := hid HA
  clear HA
  have HB' := hid HB
  clear HB
  obtain ⟨a0, h2, ha0, ha1, hf2⟩ := h.at2
  go_enter Tryz.func89, Tryz.ntmps89
  go_wp2_with fail
  refine (peek (h.keep (S := fun k => b < k) (by (repeat' (first | with_reducible exact Keeps.refl _ _ | with_reducible refine Keeps.set ?_ (by simp <;> omega) _ | with_reducible refine Keeps.alloc ?_ _ | with_reducible refine Keeps.drewN ?_ _ | with_reducible refine Keeps.drew ?_))) (fun k hk hn => by omega))).mono ?_
  rintro e w1 ⟨rfl, q1, rfl⟩
  simp only [hd]
  go_wp2_with fail
  simp only [setCell_drewN, World.setCell_alloc_past _ _ _ _ hb]
  obtain ⟨wq, hwq⟩ : ∃ wq, w.setCell ⟨b, 2, none⟩ (.int .i64 (a0 + 1)) = wq := ⟨_, rfl⟩
  have hst : Rs wq b 1 L s := by rw [← hwq]; exact Rs.stepAt h h2 (by simp)
  have hkq : Keeps (But b) w wq := by rw [← hwq]; (repeat' (first | with_reducible exact Keeps.refl _ _ | with_reducible refine Keeps.set ?_ (by simp <;> omega) _ | with_reducible refine Keeps.alloc ?_ _ | with_reducible refine Keeps.drewN ?_ _ | with_reducible refine Keeps.drew ?_))
  have hsz : w.heap.size = wq.heap.size := by rw [← hwq]; simp
  have h0' : wq.cell? ⟨b, 0, none⟩ = some (.int .i64 1) := by rw [← hwq, World.cell?_setCell_other _ _ _ _ (by simp)]; exact h0
  have hbq : b < wq.heap.size := by omega
  simp only [hwq, hsz]
  refine (class_calls p _ (by omega) (by omega)).mono ?_
  rintro e w2 ⟨rfl, hk2⟩
  have hr2 := (hst.keep (S := fun k => b < k) (by (repeat' (first | with_reducible exact Keeps.refl _ _ | with_reducible refine Keeps.set ?_ (by simp <;> omega) _ | with_reducible refine Keeps.alloc ?_ _ | with_reducible refine Keeps.drewN ?_ _ | with_reducible refine Keeps.drew ?_))) (fun k hk hn => by omega)).keep hk2 (fun _ _ h => h)
  replace hk2 : Keeps (But b) _ w2 := hk2.mono (fun _ h => h.elim)
  have hK2 : Keeps (But b) w w2 := Keeps.trans (by (repeat' (first | with_reducible exact hkq | with_reducible refine Keeps.set ?_ (by simp <;> omega) _ | with_reducible refine Keeps.alloc ?_ _ | with_reducible refine Keeps.drewN ?_ _ | with_reducible refine Keeps.drew ?_))) hk2
  have hs2 : w.heap.size + 1 ≤ w2.heap.size := by have := hk2.size; (try simp at this); omega
  have hb2 : b < w2.heap.size := by omega
  have c0_hk2 := fun o => hk2.cell (b := wq.heap.size) (o := o) (by first | omega | (simp; done) | (simp; omega)) (by first | omega | (simp; done) | (simp; omega)); have z0_hk2 := fun o => hk2.frozen (b := wq.heap.size) (o := o) (by first | omega | (simp; done) | (simp; omega)) (by first | omega | (simp; done) | (simp; omega))
  have : wq.heap.size < w2.heap.size := by omega
  have : wq.heap.size ≤ w2.heap.size := by omega
  have : wq.heap.size < w2.heap.size + 1 := by omega
  have : ¬ wq.heap.size = w2.heap.size + 1 := by omega
  have : ¬ w2.heap.size + 1 = wq.heap.size := by omega
  have : ¬ w2.heap.size = b := by omega
  have : ¬ b = w2.heap.size := by omega
  have : ¬ w2.heap.size = wq.heap.size := by omega
  have : ¬ wq.heap.size = w2.heap.size := by omega
  rw [HC'.out]; simp only [tkV, Option.getD_none, Option.isSome_none]
  go_wp2_with fail
  refine (among_calls lookB p (by decide) _).mono ?_
  rintro e w3 ⟨rfl, rfl⟩
  rw [HA'.out]
  go_wp2_with fail
  refine (among_calls ctrlB p (by decide) _).mono ?_
  rintro e w4 ⟨rfl, rfl⟩
  rw [HB'.out]
  go_wp2_with fail
  refine (point_calls _ _).mono ?_
  rintro e w5 ⟨rfl, hk5⟩
  have hr5 := (hr2.keep (S := fun k => b < k) (by (repeat' (first | with_reducible exact Keeps.refl _ _ | with_reducible refine Keeps.set ?_ (by simp <;> omega) _ | with_reducible refine Keeps.alloc ?_ _ | with_reducible refine Keeps.drewN ?_ _ | with_reducible refine Keeps.drew ?_))) (fun k hk hn => by omega)).keep hk5 (fun _ _ h => h)
  replace hk5 : Keeps (But b) _ w5 := hk5.mono (fun _ h => h.elim)
  have hK5 : Keeps (But b) w w5 := Keeps.trans (by (repeat' (first | with_reducible exact hK2 | with_reducible refine Keeps.set ?_ (by simp <;> omega) _ | with_reducible refine Keeps.alloc ?_ _ | with_reducible refine Keeps.drewN ?_ _ | with_reducible refine Keeps.drew ?_))) hk5
  have hs5 : w.heap.size + 1 ≤ w5.heap.size := by have := hk5.size; (try simp at this); omega
  have hb5 : b < w5.heap.size := by omega
  have hz5_0 : w2.heap.size < w5.heap.size := by have := hk5.size; (try simp at this); omega
  have c0_hk5 := fun o => hk5.cell (b := wq.heap.size) (o := o) (by first | omega | (simp; done) | (simp; omega)) (by first | omega | (simp; done) | (simp; omega)); have z0_hk5 := fun o => hk5.frozen (b := wq.heap.size) (o := o) (by first | omega | (simp; done) | (simp; omega)) (by first | omega | (simp; done) | (simp; omega)); have c1_hk5 := fun o => hk5.cell (b := w2.heap.size) (o := o) (by first | omega | (simp; done) | (simp; omega)) (by first | omega | (simp; done) | (simp; omega)); have z1_hk5 := fun o => hk5.frozen (b := w2.heap.size) (o := o) (by first | omega | (simp; done) | (simp; omega)) (by first | omega | (simp; done) | (simp; omega))
  simp only [tkV, point]
  go_wp2_with fail
  refine bodyPost_ret (v := tkV (point 7)) (by simp [results, Tryz.results89, go_sem, tkV, point, look, again, *]) rfl (RPost.mk (t := (point 7)) (rfl) rfl (hr5.keep (S := fun k => b < k) ?_ (fun k hk hn => by omega)) ?_)
  · (repeat' (first | with_reducible exact Keeps.refl _ _ | with_reducible refine Keeps.set ?_ (by simp <;> omega) _ | with_reducible refine Keeps.alloc ?_ _ | with_reducible refine Keeps.drewN ?_ _ | with_reducible refine Keeps.drew ?_))
  · (repeat' (first | with_reducible exact hK5 | with_reducible refine Keeps.set ?_ (by simp <;> omega) _ | with_reducible refine Keeps.alloc ?_ _ | with_reducible refine Keeps.drewN ?_ _ | with_reducible refine Keeps.drew ?_))

set_option maxHeartbeats 1000000 in
theorem esc_ctrl6 {w : World} {b : Nat} {L s : List Int} {p : Int}  (h : Rs w b 1 L (p :: s)) (Np : 0 ≤ p) (Nq : p ≤ 1114111) (HC : classT p = none) (HA : amongL (codes lookB) p 0 = -1) (HB : amongL (codes ctrlB) p 0 = 6) :
    Calls Tryz.prog 89 #[.pointer (some ⟨b, 0, none⟩)] w fun e w' => RPost b 1 L w (.ok ((point 27), s)) e w' := by
  have hb := h.lt
  have h0 : w.cell? ⟨b, 0, none⟩ = some (.int .i64 1) := by obtain ⟨_, _, _, h0, _⟩ := h; exact h0
  have HC' := hid HC
  clear HC
  have HA' := hid HA
  clear HA
  have HB' := hid HB
  clear HB
  obtain ⟨a0, h2, ha0, ha1, hf2⟩ := h.at2
  go_enter Tryz.func89, Tryz.ntmps89
  go_wp2_with fail
  refine (peek (h.keep (S := fun k => b < k) (by (repeat' (first | with_reducible exact Keeps.refl _ _ | with_reducible refine Keeps.set ?_ (by simp <;> omega) _ | with_reducible refine Keeps.alloc ?_ _ | with_reducible refine Keeps.drewN ?_ _ | with_reducible refine Keeps.drew ?_))) (fun k hk hn => by omega))).mono ?_
  rintro e w1 ⟨rfl, q1, rfl⟩
  simp only [hd]
  go_wp2_with fail
  simp only [setCell_drewN, World.setCell_alloc_past _ _ _ _ hb]
  obtain ⟨wq, hwq⟩ : ∃ wq, w.setCell ⟨b, 2, none⟩ (.int .i64 (a0 + 1)) = wq := ⟨_, rfl⟩
  have hst : Rs wq b 1 L s := by rw [← hwq]; exact Rs.stepAt h h2 (by simp)
  have hkq : Keeps (But b) w wq := by rw [← hwq]; (repeat' (first | with_reducible exact Keeps.refl _ _ | with_reducible refine Keeps.set ?_ (by simp <;> omega) _ | with_reducible refine Keeps.alloc ?_ _ | with_reducible refine Keeps.drewN ?_ _ | with_reducible refine Keeps.drew ?_))
  have hsz : w.heap.size = wq.heap.size := by rw [← hwq]; simp
  have h0' : wq.cell? ⟨b, 0, none⟩ = some (.int .i64 1) := by rw [← hwq, World.cell?_setCell_other _ _ _ _ (by simp)]; exact h0
  have hbq : b < wq.heap.size := by omega
  simp only [hwq, hsz]
  refine (class_calls p _ (by omega) (by omega)).mono ?_
  rintro e w2 ⟨rfl, hk2⟩
  have hr2 := (hst.keep (S := fun k => b < k) (by (repeat' (first | with_reducible exact Keeps.refl _ _ | with_reducible refine Keeps.set ?_ (by simp <;> omega) _ | with_reducible refine Keeps.alloc ?_ _ | with_reducible refine Keeps.drewN ?_ _ | with_reducible refine Keeps.drew ?_))) (fun k hk hn => by omega)).keep hk2 (fun _ _ h => h)
  replace hk2 : Keeps (But b) _ w2 := hk2.mono (fun _ h => h.elim)
  have hK2 : Keeps (But b) w w2 := Keeps.trans (by (repeat' (first | with_reducible exact hkq | with_reducible refine Keeps.set ?_ (by simp <;> omega) _ | with_reducible refine Keeps.alloc ?_ _ | with_reducible refine Keeps.drewN ?_ _ | with_reducible refine Keeps.drew ?_))) hk2
  have hs2 : w.heap.size + 1 ≤ w2.heap.size := by have := hk2.size; (try simp at this); omega
  have hb2 : b < w2.heap.size := by omega
  have c0_hk2 := fun o => hk2.cell (b := wq.heap.size) (o := o) (by first | omega | (simp; done) | (simp; omega)) (by first | omega | (simp; done) | (simp; omega)); have z0_hk2 := fun o => hk2.frozen (b := wq.heap.size) (o := o) (by first | omega | (simp; done) | (simp; omega)) (by first | omega | (simp; done) | (simp; omega))
  have : wq.heap.size < w2.heap.size := by omega
  have : wq.heap.size ≤ w2.heap.size := by omega
  have : wq.heap.size < w2.heap.size + 1 := by omega
  have : ¬ wq.heap.size = w2.heap.size + 1 := by omega
  have : ¬ w2.heap.size + 1 = wq.heap.size := by omega
  have : ¬ w2.heap.size = b := by omega
  have : ¬ b = w2.heap.size := by omega
  have : ¬ w2.heap.size = wq.heap.size := by omega
  have : ¬ wq.heap.size = w2.heap.size := by omega
  rw [HC'.out]; simp only [tkV, Option.getD_none, Option.isSome_none]
  go_wp2_with fail
  refine (among_calls lookB p (by decide) _).mono ?_
  rintro e w3 ⟨rfl, rfl⟩
  rw [HA'.out]
  go_wp2_with fail
  refine (among_calls ctrlB p (by decide) _).mono ?_
  rintro e w4 ⟨rfl, rfl⟩
  rw [HB'.out]
  go_wp2_with fail
  refine (point_calls _ _).mono ?_
  rintro e w5 ⟨rfl, hk5⟩
  have hr5 := (hr2.keep (S := fun k => b < k) (by (repeat' (first | with_reducible exact Keeps.refl _ _ | with_reducible refine Keeps.set ?_ (by simp <;> omega) _ | with_reducible refine Keeps.alloc ?_ _ | with_reducible refine Keeps.drewN ?_ _ | with_reducible refine Keeps.drew ?_))) (fun k hk hn => by omega)).keep hk5 (fun _ _ h => h)
  replace hk5 : Keeps (But b) _ w5 := hk5.mono (fun _ h => h.elim)
  have hK5 : Keeps (But b) w w5 := Keeps.trans (by (repeat' (first | with_reducible exact hK2 | with_reducible refine Keeps.set ?_ (by simp <;> omega) _ | with_reducible refine Keeps.alloc ?_ _ | with_reducible refine Keeps.drewN ?_ _ | with_reducible refine Keeps.drew ?_))) hk5
  have hs5 : w.heap.size + 1 ≤ w5.heap.size := by have := hk5.size; (try simp at this); omega
  have hb5 : b < w5.heap.size := by omega
  have hz5_0 : w2.heap.size < w5.heap.size := by have := hk5.size; (try simp at this); omega
  have c0_hk5 := fun o => hk5.cell (b := wq.heap.size) (o := o) (by first | omega | (simp; done) | (simp; omega)) (by first | omega | (simp; done) | (simp; omega)); have z0_hk5 := fun o => hk5.frozen (b := wq.heap.size) (o := o) (by first | omega | (simp; done) | (simp; omega)) (by first | omega | (simp; done) | (simp; omega)); have c1_hk5 := fun o => hk5.cell (b := w2.heap.size) (o := o) (by first | omega | (simp; done) | (simp; omega)) (by first | omega | (simp; done) | (simp; omega)); have z1_hk5 := fun o => hk5.frozen (b := w2.heap.size) (o := o) (by first | omega | (simp; done) | (simp; omega)) (by first | omega | (simp; done) | (simp; omega))
  simp only [tkV, point]
  go_wp2_with fail
  refine bodyPost_ret (v := tkV (point 27)) (by simp [results, Tryz.results89, go_sem, tkV, point, look, again, *]) rfl (RPost.mk (t := (point 27)) (rfl) rfl (hr5.keep (S := fun k => b < k) ?_ (fun k hk hn => by omega)) ?_)
  · (repeat' (first | with_reducible exact Keeps.refl _ _ | with_reducible refine Keeps.set ?_ (by simp <;> omega) _ | with_reducible refine Keeps.alloc ?_ _ | with_reducible refine Keeps.drewN ?_ _ | with_reducible refine Keeps.drew ?_))
  · (repeat' (first | with_reducible exact hK5 | with_reducible refine Keeps.set ?_ (by simp <;> omega) _ | with_reducible refine Keeps.alloc ?_ _ | with_reducible refine Keeps.drewN ?_ _ | with_reducible refine Keeps.drew ?_))

set_option maxHeartbeats 1000000 in
theorem esc_120_e {w : World} {b : Nat} {L s : List Int}  {n : Int} (h : Rs w b 1 L (120 :: s)) (Np : 0 ≤ 120) (Nq : 120 ≤ 1114111) (HC : classT 120 = none) (HA : amongL (codes lookB) 120 0 = -1) (HB : amongL (codes ctrlB) 120 0 = -1) (HO : scalar 120 s = .error n) :
    Calls Tryz.prog 89 #[.pointer (some ⟨b, 0, none⟩)] w fun e w' => RPost b 1 L w (.error n) e w' := by
  have hb := h.lt
  have h0 : w.cell? ⟨b, 0, none⟩ = some (.int .i64 1) := by obtain ⟨_, _, _, h0, _⟩ := h; exact h0
  have HC' := hid HC
  clear HC
  have HA' := hid HA
  clear HA
  have HB' := hid HB
  clear HB
  have HO' := hid HO
  clear HO
  obtain ⟨a0, h2, ha0, ha1, hf2⟩ := h.at2
  go_enter Tryz.func89, Tryz.ntmps89
  go_wp2_with fail
  refine (peek (h.keep (S := fun k => b < k) (by (repeat' (first | with_reducible exact Keeps.refl _ _ | with_reducible refine Keeps.set ?_ (by simp <;> omega) _ | with_reducible refine Keeps.alloc ?_ _ | with_reducible refine Keeps.drewN ?_ _ | with_reducible refine Keeps.drew ?_))) (fun k hk hn => by omega))).mono ?_
  rintro e w1 ⟨rfl, q1, rfl⟩
  simp only [hd]
  go_wp2_with fail
  simp only [setCell_drewN, World.setCell_alloc_past _ _ _ _ hb]
  obtain ⟨wq, hwq⟩ : ∃ wq, w.setCell ⟨b, 2, none⟩ (.int .i64 (a0 + 1)) = wq := ⟨_, rfl⟩
  have hst : Rs wq b 1 L s := by rw [← hwq]; exact Rs.stepAt h h2 (by simp)
  have hkq : Keeps (But b) w wq := by rw [← hwq]; (repeat' (first | with_reducible exact Keeps.refl _ _ | with_reducible refine Keeps.set ?_ (by simp <;> omega) _ | with_reducible refine Keeps.alloc ?_ _ | with_reducible refine Keeps.drewN ?_ _ | with_reducible refine Keeps.drew ?_))
  have hsz : w.heap.size = wq.heap.size := by rw [← hwq]; simp
  have h0' : wq.cell? ⟨b, 0, none⟩ = some (.int .i64 1) := by rw [← hwq, World.cell?_setCell_other _ _ _ _ (by simp)]; exact h0
  have hbq : b < wq.heap.size := by omega
  simp only [hwq, hsz]
  refine (class_calls 120 _ (by omega) (by omega)).mono ?_
  rintro e w2 ⟨rfl, hk2⟩
  have hr2 := (hst.keep (S := fun k => b < k) (by (repeat' (first | with_reducible exact Keeps.refl _ _ | with_reducible refine Keeps.set ?_ (by simp <;> omega) _ | with_reducible refine Keeps.alloc ?_ _ | with_reducible refine Keeps.drewN ?_ _ | with_reducible refine Keeps.drew ?_))) (fun k hk hn => by omega)).keep hk2 (fun _ _ h => h)
  replace hk2 : Keeps (But b) _ w2 := hk2.mono (fun _ h => h.elim)
  have hK2 : Keeps (But b) w w2 := Keeps.trans (by (repeat' (first | with_reducible exact hkq | with_reducible refine Keeps.set ?_ (by simp <;> omega) _ | with_reducible refine Keeps.alloc ?_ _ | with_reducible refine Keeps.drewN ?_ _ | with_reducible refine Keeps.drew ?_))) hk2
  have hs2 : w.heap.size + 1 ≤ w2.heap.size := by have := hk2.size; (try simp at this); omega
  have hb2 : b < w2.heap.size := by omega
  have c0_hk2 := fun o => hk2.cell (b := wq.heap.size) (o := o) (by first | omega | (simp; done) | (simp; omega)) (by first | omega | (simp; done) | (simp; omega)); have z0_hk2 := fun o => hk2.frozen (b := wq.heap.size) (o := o) (by first | omega | (simp; done) | (simp; omega)) (by first | omega | (simp; done) | (simp; omega))
  have : wq.heap.size < w2.heap.size := by omega
  have : wq.heap.size ≤ w2.heap.size := by omega
  have : wq.heap.size < w2.heap.size + 1 := by omega
  have : ¬ wq.heap.size = w2.heap.size + 1 := by omega
  have : ¬ w2.heap.size + 1 = wq.heap.size := by omega
  have : ¬ w2.heap.size = b := by omega
  have : ¬ b = w2.heap.size := by omega
  have : ¬ w2.heap.size = wq.heap.size := by omega
  have : ¬ wq.heap.size = w2.heap.size := by omega
  rw [HC'.out]; simp only [tkV, Option.getD_none, Option.isSome_none]
  go_wp2_with fail
  refine (among_calls lookB 120 (by decide) _).mono ?_
  rintro e w3 ⟨rfl, rfl⟩
  rw [HA'.out]
  go_wp2_with fail
  refine (among_calls ctrlB 120 (by decide) _).mono ?_
  rintro e w4 ⟨rfl, rfl⟩
  rw [HB'.out]
  go_wp2_with fail
  refine ((scalar_calls 120 (hr2.keep (S := fun k => b < k) (by (repeat' (first | with_reducible exact Keeps.refl _ _ | with_reducible refine Keeps.set ?_ (by simp <;> omega) _ | with_reducible refine Keeps.alloc ?_ _ | with_reducible refine Keeps.drewN ?_ _ | with_reducible refine Keeps.drew ?_))) (fun k hk hn => by omega))).mono (fun e w' hp => RPost.error hp HO'.out)).mono ?_
  rintro e w5 ⟨rfl, hk5⟩
  exact ⟨rfl, RPost.mkE rfl rfl (Keeps.trans (by (repeat' (first | with_reducible exact hK2 | with_reducible refine Keeps.set ?_ (by simp <;> omega) _ | with_reducible refine Keeps.alloc ?_ _ | with_reducible refine Keeps.drewN ?_ _ | with_reducible refine Keeps.drew ?_))) hk5)⟩

set_option maxHeartbeats 1000000 in
theorem esc_120_o {w : World} {b : Nat} {L s : List Int}  {t : Tk} {s2 : List Int} (h : Rs w b 1 L (120 :: s)) (Np : 0 ≤ 120) (Nq : 120 ≤ 1114111) (HC : classT 120 = none) (HA : amongL (codes lookB) 120 0 = -1) (HB : amongL (codes ctrlB) 120 0 = -1) (HO : scalar 120 s = .ok (t, s2)) :
    Calls Tryz.prog 89 #[.pointer (some ⟨b, 0, none⟩)] w fun e w' => RPost b 1 L w (.ok (t, s2)) e w' := by
  have hb := h.lt
  have h0 : w.cell? ⟨b, 0, none⟩ = some (.int .i64 1) := by obtain ⟨_, _, _, h0, _⟩ := h; exact h0
  have HC' := hid HC
  clear HC
  have HA' := hid HA
  clear HA
  have HB' := hid HB
  clear HB
  have HO' := hid HO
  clear HO
  obtain ⟨a0, h2, ha0, ha1, hf2⟩ := h.at2
  go_enter Tryz.func89, Tryz.ntmps89
  go_wp2_with fail
  refine (peek (h.keep (S := fun k => b < k) (by (repeat' (first | with_reducible exact Keeps.refl _ _ | with_reducible refine Keeps.set ?_ (by simp <;> omega) _ | with_reducible refine Keeps.alloc ?_ _ | with_reducible refine Keeps.drewN ?_ _ | with_reducible refine Keeps.drew ?_))) (fun k hk hn => by omega))).mono ?_
  rintro e w1 ⟨rfl, q1, rfl⟩
  simp only [hd]
  go_wp2_with fail
  simp only [setCell_drewN, World.setCell_alloc_past _ _ _ _ hb]
  obtain ⟨wq, hwq⟩ : ∃ wq, w.setCell ⟨b, 2, none⟩ (.int .i64 (a0 + 1)) = wq := ⟨_, rfl⟩
  have hst : Rs wq b 1 L s := by rw [← hwq]; exact Rs.stepAt h h2 (by simp)
  have hkq : Keeps (But b) w wq := by rw [← hwq]; (repeat' (first | with_reducible exact Keeps.refl _ _ | with_reducible refine Keeps.set ?_ (by simp <;> omega) _ | with_reducible refine Keeps.alloc ?_ _ | with_reducible refine Keeps.drewN ?_ _ | with_reducible refine Keeps.drew ?_))
  have hsz : w.heap.size = wq.heap.size := by rw [← hwq]; simp
  have h0' : wq.cell? ⟨b, 0, none⟩ = some (.int .i64 1) := by rw [← hwq, World.cell?_setCell_other _ _ _ _ (by simp)]; exact h0
  have hbq : b < wq.heap.size := by omega
  simp only [hwq, hsz]
  refine (class_calls 120 _ (by omega) (by omega)).mono ?_
  rintro e w2 ⟨rfl, hk2⟩
  have hr2 := (hst.keep (S := fun k => b < k) (by (repeat' (first | with_reducible exact Keeps.refl _ _ | with_reducible refine Keeps.set ?_ (by simp <;> omega) _ | with_reducible refine Keeps.alloc ?_ _ | with_reducible refine Keeps.drewN ?_ _ | with_reducible refine Keeps.drew ?_))) (fun k hk hn => by omega)).keep hk2 (fun _ _ h => h)
  replace hk2 : Keeps (But b) _ w2 := hk2.mono (fun _ h => h.elim)
  have hK2 : Keeps (But b) w w2 := Keeps.trans (by (repeat' (first | with_reducible exact hkq | with_reducible refine Keeps.set ?_ (by simp <;> omega) _ | with_reducible refine Keeps.alloc ?_ _ | with_reducible refine Keeps.drewN ?_ _ | with_reducible refine Keeps.drew ?_))) hk2
  have hs2 : w.heap.size + 1 ≤ w2.heap.size := by have := hk2.size; (try simp at this); omega
  have hb2 : b < w2.heap.size := by omega
  have c0_hk2 := fun o => hk2.cell (b := wq.heap.size) (o := o) (by first | omega | (simp; done) | (simp; omega)) (by first | omega | (simp; done) | (simp; omega)); have z0_hk2 := fun o => hk2.frozen (b := wq.heap.size) (o := o) (by first | omega | (simp; done) | (simp; omega)) (by first | omega | (simp; done) | (simp; omega))
  have : wq.heap.size < w2.heap.size := by omega
  have : wq.heap.size ≤ w2.heap.size := by omega
  have : wq.heap.size < w2.heap.size + 1 := by omega
  have : ¬ wq.heap.size = w2.heap.size + 1 := by omega
  have : ¬ w2.heap.size + 1 = wq.heap.size := by omega
  have : ¬ w2.heap.size = b := by omega
  have : ¬ b = w2.heap.size := by omega
  have : ¬ w2.heap.size = wq.heap.size := by omega
  have : ¬ wq.heap.size = w2.heap.size := by omega
  rw [HC'.out]; simp only [tkV, Option.getD_none, Option.isSome_none]
  go_wp2_with fail
  refine (among_calls lookB 120 (by decide) _).mono ?_
  rintro e w3 ⟨rfl, rfl⟩
  rw [HA'.out]
  go_wp2_with fail
  refine (among_calls ctrlB 120 (by decide) _).mono ?_
  rintro e w4 ⟨rfl, rfl⟩
  rw [HB'.out]
  go_wp2_with fail
  refine ((scalar_calls 120 (hr2.keep (S := fun k => b < k) (by (repeat' (first | with_reducible exact Keeps.refl _ _ | with_reducible refine Keeps.set ?_ (by simp <;> omega) _ | with_reducible refine Keeps.alloc ?_ _ | with_reducible refine Keeps.drewN ?_ _ | with_reducible refine Keeps.drew ?_))) (fun k hk hn => by omega))).mono (fun e w' hp => RPost.ok hp HO'.out)).mono ?_
  rintro e w5 ⟨rfl, hr5, hk5⟩
  have hK5 : Keeps (But b) w w5 := Keeps.trans (by (repeat' (first | with_reducible exact hK2 | with_reducible refine Keeps.set ?_ (by simp <;> omega) _ | with_reducible refine Keeps.alloc ?_ _ | with_reducible refine Keeps.drewN ?_ _ | with_reducible refine Keeps.drew ?_))) hk5
  have hs5 : w.heap.size + 1 ≤ w5.heap.size := by have := hk5.size; (try simp at this); omega
  have hb5 : b < w5.heap.size := by omega
  have hz5_0 : w2.heap.size < w5.heap.size := by have := hk5.size; (try simp at this); omega
  have c0_hk5 := fun o => hk5.cell (b := wq.heap.size) (o := o) (by first | omega | (simp; done) | (simp; omega)) (by first | omega | (simp; done) | (simp; omega)); have z0_hk5 := fun o => hk5.frozen (b := wq.heap.size) (o := o) (by first | omega | (simp; done) | (simp; omega)) (by first | omega | (simp; done) | (simp; omega)); have c1_hk5 := fun o => hk5.cell (b := w2.heap.size) (o := o) (by first | omega | (simp; done) | (simp; omega)) (by first | omega | (simp; done) | (simp; omega)); have z1_hk5 := fun o => hk5.frozen (b := w2.heap.size) (o := o) (by first | omega | (simp; done) | (simp; omega)) (by first | omega | (simp; done) | (simp; omega))
  simp only [tkV]
  go_wp2_with fail
  refine bodyPost_ret (v := tkV t) (by simp [results, Tryz.results89, go_sem, tkV, point, look, again, *]) rfl (RPost.mk (t := t) (rfl) rfl (hr5.keep (S := fun k => b < k) ?_ (fun k hk hn => by omega)) ?_)
  · (repeat' (first | with_reducible exact Keeps.refl _ _ | with_reducible refine Keeps.set ?_ (by simp <;> omega) _ | with_reducible refine Keeps.alloc ?_ _ | with_reducible refine Keeps.drewN ?_ _ | with_reducible refine Keeps.drew ?_))
  · (repeat' (first | with_reducible exact hK5 | with_reducible refine Keeps.set ?_ (by simp <;> omega) _ | with_reducible refine Keeps.alloc ?_ _ | with_reducible refine Keeps.drewN ?_ _ | with_reducible refine Keeps.drew ?_))

set_option maxHeartbeats 1000000 in
theorem esc_117_e {w : World} {b : Nat} {L s : List Int}  {n : Int} (h : Rs w b 1 L (117 :: s)) (Np : 0 ≤ 117) (Nq : 117 ≤ 1114111) (HC : classT 117 = none) (HA : amongL (codes lookB) 117 0 = -1) (HB : amongL (codes ctrlB) 117 0 = -1) (HO : scalar 117 s = .error n) :
    Calls Tryz.prog 89 #[.pointer (some ⟨b, 0, none⟩)] w fun e w' => RPost b 1 L w (.error n) e w' := by
  have hb := h.lt
  have h0 : w.cell? ⟨b, 0, none⟩ = some (.int .i64 1) := by obtain ⟨_, _, _, h0, _⟩ := h; exact h0
  have HC' := hid HC
  clear HC
  have HA' := hid HA
  clear HA
  have HB' := hid HB
  clear HB
  have HO' := hid HO
  clear HO
  obtain ⟨a0, h2, ha0, ha1, hf2⟩ := h.at2
  go_enter Tryz.func89, Tryz.ntmps89
  go_wp2_with fail
  refine (peek (h.keep (S := fun k => b < k) (by (repeat' (first | with_reducible exact Keeps.refl _ _ | with_reducible refine Keeps.set ?_ (by simp <;> omega) _ | with_reducible refine Keeps.alloc ?_ _ | with_reducible refine Keeps.drewN ?_ _ | with_reducible refine Keeps.drew ?_))) (fun k hk hn => by omega))).mono ?_
  rintro e w1 ⟨rfl, q1, rfl⟩
  simp only [hd]
  go_wp2_with fail
  simp only [setCell_drewN, World.setCell_alloc_past _ _ _ _ hb]
  obtain ⟨wq, hwq⟩ : ∃ wq, w.setCell ⟨b, 2, none⟩ (.int .i64 (a0 + 1)) = wq := ⟨_, rfl⟩
  have hst : Rs wq b 1 L s := by rw [← hwq]; exact Rs.stepAt h h2 (by simp)
  have hkq : Keeps (But b) w wq := by rw [← hwq]; (repeat' (first | with_reducible exact Keeps.refl _ _ | with_reducible refine Keeps.set ?_ (by simp <;> omega) _ | with_reducible refine Keeps.alloc ?_ _ | with_reducible refine Keeps.drewN ?_ _ | with_reducible refine Keeps.drew ?_))
  have hsz : w.heap.size = wq.heap.size := by rw [← hwq]; simp
  have h0' : wq.cell? ⟨b, 0, none⟩ = some (.int .i64 1) := by rw [← hwq, World.cell?_setCell_other _ _ _ _ (by simp)]; exact h0
  have hbq : b < wq.heap.size := by omega
  simp only [hwq, hsz]
  refine (class_calls 117 _ (by omega) (by omega)).mono ?_
  rintro e w2 ⟨rfl, hk2⟩
  have hr2 := (hst.keep (S := fun k => b < k) (by (repeat' (first | with_reducible exact Keeps.refl _ _ | with_reducible refine Keeps.set ?_ (by simp <;> omega) _ | with_reducible refine Keeps.alloc ?_ _ | with_reducible refine Keeps.drewN ?_ _ | with_reducible refine Keeps.drew ?_))) (fun k hk hn => by omega)).keep hk2 (fun _ _ h => h)
  replace hk2 : Keeps (But b) _ w2 := hk2.mono (fun _ h => h.elim)
  have hK2 : Keeps (But b) w w2 := Keeps.trans (by (repeat' (first | with_reducible exact hkq | with_reducible refine Keeps.set ?_ (by simp <;> omega) _ | with_reducible refine Keeps.alloc ?_ _ | with_reducible refine Keeps.drewN ?_ _ | with_reducible refine Keeps.drew ?_))) hk2
  have hs2 : w.heap.size + 1 ≤ w2.heap.size := by have := hk2.size; (try simp at this); omega
  have hb2 : b < w2.heap.size := by omega
  have c0_hk2 := fun o => hk2.cell (b := wq.heap.size) (o := o) (by first | omega | (simp; done) | (simp; omega)) (by first | omega | (simp; done) | (simp; omega)); have z0_hk2 := fun o => hk2.frozen (b := wq.heap.size) (o := o) (by first | omega | (simp; done) | (simp; omega)) (by first | omega | (simp; done) | (simp; omega))
  have : wq.heap.size < w2.heap.size := by omega
  have : wq.heap.size ≤ w2.heap.size := by omega
  have : wq.heap.size < w2.heap.size + 1 := by omega
  have : ¬ wq.heap.size = w2.heap.size + 1 := by omega
  have : ¬ w2.heap.size + 1 = wq.heap.size := by omega
  have : ¬ w2.heap.size = b := by omega
  have : ¬ b = w2.heap.size := by omega
  have : ¬ w2.heap.size = wq.heap.size := by omega
  have : ¬ wq.heap.size = w2.heap.size := by omega
  rw [HC'.out]; simp only [tkV, Option.getD_none, Option.isSome_none]
  go_wp2_with fail
  refine (among_calls lookB 117 (by decide) _).mono ?_
  rintro e w3 ⟨rfl, rfl⟩
  rw [HA'.out]
  go_wp2_with fail
  refine (among_calls ctrlB 117 (by decide) _).mono ?_
  rintro e w4 ⟨rfl, rfl⟩
  rw [HB'.out]
  go_wp2_with fail
  refine ((scalar_calls 117 (hr2.keep (S := fun k => b < k) (by (repeat' (first | with_reducible exact Keeps.refl _ _ | with_reducible refine Keeps.set ?_ (by simp <;> omega) _ | with_reducible refine Keeps.alloc ?_ _ | with_reducible refine Keeps.drewN ?_ _ | with_reducible refine Keeps.drew ?_))) (fun k hk hn => by omega))).mono (fun e w' hp => RPost.error hp HO'.out)).mono ?_
  rintro e w5 ⟨rfl, hk5⟩
  exact ⟨rfl, RPost.mkE rfl rfl (Keeps.trans (by (repeat' (first | with_reducible exact hK2 | with_reducible refine Keeps.set ?_ (by simp <;> omega) _ | with_reducible refine Keeps.alloc ?_ _ | with_reducible refine Keeps.drewN ?_ _ | with_reducible refine Keeps.drew ?_))) hk5)⟩

set_option maxHeartbeats 1000000 in
theorem esc_117_o {w : World} {b : Nat} {L s : List Int}  {t : Tk} {s2 : List Int} (h : Rs w b 1 L (117 :: s)) (Np : 0 ≤ 117) (Nq : 117 ≤ 1114111) (HC : classT 117 = none) (HA : amongL (codes lookB) 117 0 = -1) (HB : amongL (codes ctrlB) 117 0 = -1) (HO : scalar 117 s = .ok (t, s2)) :
    Calls Tryz.prog 89 #[.pointer (some ⟨b, 0, none⟩)] w fun e w' => RPost b 1 L w (.ok (t, s2)) e w' := by
  have hb := h.lt
  have h0 : w.cell? ⟨b, 0, none⟩ = some (.int .i64 1) := by obtain ⟨_, _, _, h0, _⟩ := h; exact h0
  have HC' := hid HC
  clear HC
  have HA' := hid HA
  clear HA
  have HB' := hid HB
  clear HB
  have HO' := hid HO
  clear HO
  obtain ⟨a0, h2, ha0, ha1, hf2⟩ := h.at2
  go_enter Tryz.func89, Tryz.ntmps89
  go_wp2_with fail
  refine (peek (h.keep (S := fun k => b < k) (by (repeat' (first | with_reducible exact Keeps.refl _ _ | with_reducible refine Keeps.set ?_ (by simp <;> omega) _ | with_reducible refine Keeps.alloc ?_ _ | with_reducible refine Keeps.drewN ?_ _ | with_reducible refine Keeps.drew ?_))) (fun k hk hn => by omega))).mono ?_
  rintro e w1 ⟨rfl, q1, rfl⟩
  simp only [hd]
  go_wp2_with fail
  simp only [setCell_drewN, World.setCell_alloc_past _ _ _ _ hb]
  obtain ⟨wq, hwq⟩ : ∃ wq, w.setCell ⟨b, 2, none⟩ (.int .i64 (a0 + 1)) = wq := ⟨_, rfl⟩
  have hst : Rs wq b 1 L s := by rw [← hwq]; exact Rs.stepAt h h2 (by simp)
  have hkq : Keeps (But b) w wq := by rw [← hwq]; (repeat' (first | with_reducible exact Keeps.refl _ _ | with_reducible refine Keeps.set ?_ (by simp <;> omega) _ | with_reducible refine Keeps.alloc ?_ _ | with_reducible refine Keeps.drewN ?_ _ | with_reducible refine Keeps.drew ?_))
  have hsz : w.heap.size = wq.heap.size := by rw [← hwq]; simp
  have h0' : wq.cell? ⟨b, 0, none⟩ = some (.int .i64 1) := by rw [← hwq, World.cell?_setCell_other _ _ _ _ (by simp)]; exact h0
  have hbq : b < wq.heap.size := by omega
  simp only [hwq, hsz]
  refine (class_calls 117 _ (by omega) (by omega)).mono ?_
  rintro e w2 ⟨rfl, hk2⟩
  have hr2 := (hst.keep (S := fun k => b < k) (by (repeat' (first | with_reducible exact Keeps.refl _ _ | with_reducible refine Keeps.set ?_ (by simp <;> omega) _ | with_reducible refine Keeps.alloc ?_ _ | with_reducible refine Keeps.drewN ?_ _ | with_reducible refine Keeps.drew ?_))) (fun k hk hn => by omega)).keep hk2 (fun _ _ h => h)
  replace hk2 : Keeps (But b) _ w2 := hk2.mono (fun _ h => h.elim)
  have hK2 : Keeps (But b) w w2 := Keeps.trans (by (repeat' (first | with_reducible exact hkq | with_reducible refine Keeps.set ?_ (by simp <;> omega) _ | with_reducible refine Keeps.alloc ?_ _ | with_reducible refine Keeps.drewN ?_ _ | with_reducible refine Keeps.drew ?_))) hk2
  have hs2 : w.heap.size + 1 ≤ w2.heap.size := by have := hk2.size; (try simp at this); omega
  have hb2 : b < w2.heap.size := by omega
  have c0_hk2 := fun o => hk2.cell (b := wq.heap.size) (o := o) (by first | omega | (simp; done) | (simp; omega)) (by first | omega | (simp; done) | (simp; omega)); have z0_hk2 := fun o => hk2.frozen (b := wq.heap.size) (o := o) (by first | omega | (simp; done) | (simp; omega)) (by first | omega | (simp; done) | (simp; omega))
  have : wq.heap.size < w2.heap.size := by omega
  have : wq.heap.size ≤ w2.heap.size := by omega
  have : wq.heap.size < w2.heap.size + 1 := by omega
  have : ¬ wq.heap.size = w2.heap.size + 1 := by omega
  have : ¬ w2.heap.size + 1 = wq.heap.size := by omega
  have : ¬ w2.heap.size = b := by omega
  have : ¬ b = w2.heap.size := by omega
  have : ¬ w2.heap.size = wq.heap.size := by omega
  have : ¬ wq.heap.size = w2.heap.size := by omega
  rw [HC'.out]; simp only [tkV, Option.getD_none, Option.isSome_none]
  go_wp2_with fail
  refine (among_calls lookB 117 (by decide) _).mono ?_
  rintro e w3 ⟨rfl, rfl⟩
  rw [HA'.out]
  go_wp2_with fail
  refine (among_calls ctrlB 117 (by decide) _).mono ?_
  rintro e w4 ⟨rfl, rfl⟩
  rw [HB'.out]
  go_wp2_with fail
  refine ((scalar_calls 117 (hr2.keep (S := fun k => b < k) (by (repeat' (first | with_reducible exact Keeps.refl _ _ | with_reducible refine Keeps.set ?_ (by simp <;> omega) _ | with_reducible refine Keeps.alloc ?_ _ | with_reducible refine Keeps.drewN ?_ _ | with_reducible refine Keeps.drew ?_))) (fun k hk hn => by omega))).mono (fun e w' hp => RPost.ok hp HO'.out)).mono ?_
  rintro e w5 ⟨rfl, hr5, hk5⟩
  have hK5 : Keeps (But b) w w5 := Keeps.trans (by (repeat' (first | with_reducible exact hK2 | with_reducible refine Keeps.set ?_ (by simp <;> omega) _ | with_reducible refine Keeps.alloc ?_ _ | with_reducible refine Keeps.drewN ?_ _ | with_reducible refine Keeps.drew ?_))) hk5
  have hs5 : w.heap.size + 1 ≤ w5.heap.size := by have := hk5.size; (try simp at this); omega
  have hb5 : b < w5.heap.size := by omega
  have hz5_0 : w2.heap.size < w5.heap.size := by have := hk5.size; (try simp at this); omega
  have c0_hk5 := fun o => hk5.cell (b := wq.heap.size) (o := o) (by first | omega | (simp; done) | (simp; omega)) (by first | omega | (simp; done) | (simp; omega)); have z0_hk5 := fun o => hk5.frozen (b := wq.heap.size) (o := o) (by first | omega | (simp; done) | (simp; omega)) (by first | omega | (simp; done) | (simp; omega)); have c1_hk5 := fun o => hk5.cell (b := w2.heap.size) (o := o) (by first | omega | (simp; done) | (simp; omega)) (by first | omega | (simp; done) | (simp; omega)); have z1_hk5 := fun o => hk5.frozen (b := w2.heap.size) (o := o) (by first | omega | (simp; done) | (simp; omega)) (by first | omega | (simp; done) | (simp; omega))
  simp only [tkV]
  go_wp2_with fail
  refine bodyPost_ret (v := tkV t) (by simp [results, Tryz.results89, go_sem, tkV, point, look, again, *]) rfl (RPost.mk (t := t) (rfl) rfl (hr5.keep (S := fun k => b < k) ?_ (fun k hk hn => by omega)) ?_)
  · (repeat' (first | with_reducible exact Keeps.refl _ _ | with_reducible refine Keeps.set ?_ (by simp <;> omega) _ | with_reducible refine Keeps.alloc ?_ _ | with_reducible refine Keeps.drewN ?_ _ | with_reducible refine Keeps.drew ?_))
  · (repeat' (first | with_reducible exact hK5 | with_reducible refine Keeps.set ?_ (by simp <;> omega) _ | with_reducible refine Keeps.alloc ?_ _ | with_reducible refine Keeps.drewN ?_ _ | with_reducible refine Keeps.drew ?_))

set_option maxHeartbeats 1000000 in
theorem esc_107_e {w : World} {b : Nat} {L s : List Int}  {n : Int} (h : Rs w b 1 L (107 :: s)) (Np : 0 ≤ 107) (Nq : 107 ≤ 1114111) (HC : classT 107 = none) (HA : amongL (codes lookB) 107 0 = -1) (HB : amongL (codes ctrlB) 107 0 = -1) (HO : named s = .error n) :
    Calls Tryz.prog 89 #[.pointer (some ⟨b, 0, none⟩)] w fun e w' => RPost b 1 L w (.error n) e w' := by
  have hb := h.lt
  have h0 : w.cell? ⟨b, 0, none⟩ = some (.int .i64 1) := by obtain ⟨_, _, _, h0, _⟩ := h; exact h0
  have HC' := hid HC
  clear HC
  have HA' := hid HA
  clear HA
  have HB' := hid HB
  clear HB
  have HO' := hid HO
  clear HO
  obtain ⟨a0, h2, ha0, ha1, hf2⟩ := h.at2
  go_enter Tryz.func89, Tryz.ntmps89
  go_wp2_with fail
  refine (peek (h.keep (S := fun k => b < k) (by (repeat' (first | with_reducible exact Keeps.refl _ _ | with_reducible refine Keeps.set ?_ (by simp <;> omega) _ | with_reducible refine Keeps.alloc ?_ _ | with_reducible refine Keeps.drewN ?_ _ | with_reducible refine Keeps.drew ?_))) (fun k hk hn => by omega))).mono ?_
  rintro e w1 ⟨rfl, q1, rfl⟩
  simp only [hd]
  go_wp2_with fail
  simp only [setCell_drewN, World.setCell_alloc_past _ _ _ _ hb]
  obtain ⟨wq, hwq⟩ : ∃ wq, w.setCell ⟨b, 2, none⟩ (.int .i64 (a0 + 1)) = wq := ⟨_, rfl⟩
  have hst : Rs wq b 1 L s := by rw [← hwq]; exact Rs.stepAt h h2 (by simp)
  have hkq : Keeps (But b) w wq := by rw [← hwq]; (repeat' (first | with_reducible exact Keeps.refl _ _ | with_reducible refine Keeps.set ?_ (by simp <;> omega) _ | with_reducible refine Keeps.alloc ?_ _ | with_reducible refine Keeps.drewN ?_ _ | with_reducible refine Keeps.drew ?_))
  have hsz : w.heap.size = wq.heap.size := by rw [← hwq]; simp
  have h0' : wq.cell? ⟨b, 0, none⟩ = some (.int .i64 1) := by rw [← hwq, World.cell?_setCell_other _ _ _ _ (by simp)]; exact h0
  have hbq : b < wq.heap.size := by omega
  simp only [hwq, hsz]
  refine (class_calls 107 _ (by omega) (by omega)).mono ?_
  rintro e w2 ⟨rfl, hk2⟩
  have hr2 := (hst.keep (S := fun k => b < k) (by (repeat' (first | with_reducible exact Keeps.refl _ _ | with_reducible refine Keeps.set ?_ (by simp <;> omega) _ | with_reducible refine Keeps.alloc ?_ _ | with_reducible refine Keeps.drewN ?_ _ | with_reducible refine Keeps.drew ?_))) (fun k hk hn => by omega)).keep hk2 (fun _ _ h => h)
  replace hk2 : Keeps (But b) _ w2 := hk2.mono (fun _ h => h.elim)
  have hK2 : Keeps (But b) w w2 := Keeps.trans (by (repeat' (first | with_reducible exact hkq | with_reducible refine Keeps.set ?_ (by simp <;> omega) _ | with_reducible refine Keeps.alloc ?_ _ | with_reducible refine Keeps.drewN ?_ _ | with_reducible refine Keeps.drew ?_))) hk2
  have hs2 : w.heap.size + 1 ≤ w2.heap.size := by have := hk2.size; (try simp at this); omega
  have hb2 : b < w2.heap.size := by omega
  have c0_hk2 := fun o => hk2.cell (b := wq.heap.size) (o := o) (by first | omega | (simp; done) | (simp; omega)) (by first | omega | (simp; done) | (simp; omega)); have z0_hk2 := fun o => hk2.frozen (b := wq.heap.size) (o := o) (by first | omega | (simp; done) | (simp; omega)) (by first | omega | (simp; done) | (simp; omega))
  have : wq.heap.size < w2.heap.size := by omega
  have : wq.heap.size ≤ w2.heap.size := by omega
  have : wq.heap.size < w2.heap.size + 1 := by omega
  have : ¬ wq.heap.size = w2.heap.size + 1 := by omega
  have : ¬ w2.heap.size + 1 = wq.heap.size := by omega
  have : ¬ w2.heap.size = b := by omega
  have : ¬ b = w2.heap.size := by omega
  have : ¬ w2.heap.size = wq.heap.size := by omega
  have : ¬ wq.heap.size = w2.heap.size := by omega
  rw [HC'.out]; simp only [tkV, Option.getD_none, Option.isSome_none]
  go_wp2_with fail
  refine (among_calls lookB 107 (by decide) _).mono ?_
  rintro e w3 ⟨rfl, rfl⟩
  rw [HA'.out]
  go_wp2_with fail
  refine (among_calls ctrlB 107 (by decide) _).mono ?_
  rintro e w4 ⟨rfl, rfl⟩
  rw [HB'.out]
  go_wp2_with fail
  refine ((named_calls (hr2.keep (S := fun k => b < k) (by (repeat' (first | with_reducible exact Keeps.refl _ _ | with_reducible refine Keeps.set ?_ (by simp <;> omega) _ | with_reducible refine Keeps.alloc ?_ _ | with_reducible refine Keeps.drewN ?_ _ | with_reducible refine Keeps.drew ?_))) (fun k hk hn => by omega))).mono (fun e w' hp => RPost.error hp HO'.out)).mono ?_
  rintro e w5 ⟨rfl, hk5⟩
  exact ⟨rfl, RPost.mkE rfl rfl (Keeps.trans (by (repeat' (first | with_reducible exact hK2 | with_reducible refine Keeps.set ?_ (by simp <;> omega) _ | with_reducible refine Keeps.alloc ?_ _ | with_reducible refine Keeps.drewN ?_ _ | with_reducible refine Keeps.drew ?_))) hk5)⟩

set_option maxHeartbeats 1000000 in
theorem esc_107_o {w : World} {b : Nat} {L s : List Int}  {t : Tk} {s2 : List Int} (h : Rs w b 1 L (107 :: s)) (Np : 0 ≤ 107) (Nq : 107 ≤ 1114111) (HC : classT 107 = none) (HA : amongL (codes lookB) 107 0 = -1) (HB : amongL (codes ctrlB) 107 0 = -1) (HO : named s = .ok (t, s2)) :
    Calls Tryz.prog 89 #[.pointer (some ⟨b, 0, none⟩)] w fun e w' => RPost b 1 L w (.ok (t, s2)) e w' := by
  have hb := h.lt
  have h0 : w.cell? ⟨b, 0, none⟩ = some (.int .i64 1) := by obtain ⟨_, _, _, h0, _⟩ := h; exact h0
  have HC' := hid HC
  clear HC
  have HA' := hid HA
  clear HA
  have HB' := hid HB
  clear HB
  have HO' := hid HO
  clear HO
  obtain ⟨a0, h2, ha0, ha1, hf2⟩ := h.at2
  go_enter Tryz.func89, Tryz.ntmps89
  go_wp2_with fail
  refine (peek (h.keep (S := fun k => b < k) (by (repeat' (first | with_reducible exact Keeps.refl _ _ | with_reducible refine Keeps.set ?_ (by simp <;> omega) _ | with_reducible refine Keeps.alloc ?_ _ | with_reducible refine Keeps.drewN ?_ _ | with_reducible refine Keeps.drew ?_))) (fun k hk hn => by omega))).mono ?_
  rintro e w1 ⟨rfl, q1, rfl⟩
  simp only [hd]
  go_wp2_with fail
  simp only [setCell_drewN, World.setCell_alloc_past _ _ _ _ hb]
  obtain ⟨wq, hwq⟩ : ∃ wq, w.setCell ⟨b, 2, none⟩ (.int .i64 (a0 + 1)) = wq := ⟨_, rfl⟩
  have hst : Rs wq b 1 L s := by rw [← hwq]; exact Rs.stepAt h h2 (by simp)
  have hkq : Keeps (But b) w wq := by rw [← hwq]; (repeat' (first | with_reducible exact Keeps.refl _ _ | with_reducible refine Keeps.set ?_ (by simp <;> omega) _ | with_reducible refine Keeps.alloc ?_ _ | with_reducible refine Keeps.drewN ?_ _ | with_reducible refine Keeps.drew ?_))
  have hsz : w.heap.size = wq.heap.size := by rw [← hwq]; simp
  have h0' : wq.cell? ⟨b, 0, none⟩ = some (.int .i64 1) := by rw [← hwq, World.cell?_setCell_other _ _ _ _ (by simp)]; exact h0
  have hbq : b < wq.heap.size := by omega
  simp only [hwq, hsz]
  refine (class_calls 107 _ (by omega) (by omega)).mono ?_
  rintro e w2 ⟨rfl, hk2⟩
  have hr2 := (hst.keep (S := fun k => b < k) (by (repeat' (first | with_reducible exact Keeps.refl _ _ | with_reducible refine Keeps.set ?_ (by simp <;> omega) _ | with_reducible refine Keeps.alloc ?_ _ | with_reducible refine Keeps.drewN ?_ _ | with_reducible refine Keeps.drew ?_))) (fun k hk hn => by omega)).keep hk2 (fun _ _ h => h)
  replace hk2 : Keeps (But b) _ w2 := hk2.mono (fun _ h => h.elim)
  have hK2 : Keeps (But b) w w2 := Keeps.trans (by (repeat' (first | with_reducible exact hkq | with_reducible refine Keeps.set ?_ (by simp <;> omega) _ | with_reducible refine Keeps.alloc ?_ _ | with_reducible refine Keeps.drewN ?_ _ | with_reducible refine Keeps.drew ?_))) hk2
  have hs2 : w.heap.size + 1 ≤ w2.heap.size := by have := hk2.size; (try simp at this); omega
  have hb2 : b < w2.heap.size := by omega
  have c0_hk2 := fun o => hk2.cell (b := wq.heap.size) (o := o) (by first | omega | (simp; done) | (simp; omega)) (by first | omega | (simp; done) | (simp; omega)); have z0_hk2 := fun o => hk2.frozen (b := wq.heap.size) (o := o) (by first | omega | (simp; done) | (simp; omega)) (by first | omega | (simp; done) | (simp; omega))
  have : wq.heap.size < w2.heap.size := by omega
  have : wq.heap.size ≤ w2.heap.size := by omega
  have : wq.heap.size < w2.heap.size + 1 := by omega
  have : ¬ wq.heap.size = w2.heap.size + 1 := by omega
  have : ¬ w2.heap.size + 1 = wq.heap.size := by omega
  have : ¬ w2.heap.size = b := by omega
  have : ¬ b = w2.heap.size := by omega
  have : ¬ w2.heap.size = wq.heap.size := by omega
  have : ¬ wq.heap.size = w2.heap.size := by omega
  rw [HC'.out]; simp only [tkV, Option.getD_none, Option.isSome_none]
  go_wp2_with fail
  refine (among_calls lookB 107 (by decide) _).mono ?_
  rintro e w3 ⟨rfl, rfl⟩
  rw [HA'.out]
  go_wp2_with fail
  refine (among_calls ctrlB 107 (by decide) _).mono ?_
  rintro e w4 ⟨rfl, rfl⟩
  rw [HB'.out]
  go_wp2_with fail
  refine ((named_calls (hr2.keep (S := fun k => b < k) (by (repeat' (first | with_reducible exact Keeps.refl _ _ | with_reducible refine Keeps.set ?_ (by simp <;> omega) _ | with_reducible refine Keeps.alloc ?_ _ | with_reducible refine Keeps.drewN ?_ _ | with_reducible refine Keeps.drew ?_))) (fun k hk hn => by omega))).mono (fun e w' hp => RPost.ok hp HO'.out)).mono ?_
  rintro e w5 ⟨rfl, hr5, hk5⟩
  have hK5 : Keeps (But b) w w5 := Keeps.trans (by (repeat' (first | with_reducible exact hK2 | with_reducible refine Keeps.set ?_ (by simp <;> omega) _ | with_reducible refine Keeps.alloc ?_ _ | with_reducible refine Keeps.drewN ?_ _ | with_reducible refine Keeps.drew ?_))) hk5
  have hs5 : w.heap.size + 1 ≤ w5.heap.size := by have := hk5.size; (try simp at this); omega
  have hb5 : b < w5.heap.size := by omega
  have hz5_0 : w2.heap.size < w5.heap.size := by have := hk5.size; (try simp at this); omega
  have c0_hk5 := fun o => hk5.cell (b := wq.heap.size) (o := o) (by first | omega | (simp; done) | (simp; omega)) (by first | omega | (simp; done) | (simp; omega)); have z0_hk5 := fun o => hk5.frozen (b := wq.heap.size) (o := o) (by first | omega | (simp; done) | (simp; omega)) (by first | omega | (simp; done) | (simp; omega)); have c1_hk5 := fun o => hk5.cell (b := w2.heap.size) (o := o) (by first | omega | (simp; done) | (simp; omega)) (by first | omega | (simp; done) | (simp; omega)); have z1_hk5 := fun o => hk5.frozen (b := w2.heap.size) (o := o) (by first | omega | (simp; done) | (simp; omega)) (by first | omega | (simp; done) | (simp; omega))
  simp only [tkV]
  go_wp2_with fail
  refine bodyPost_ret (v := tkV t) (by simp [results, Tryz.results89, go_sem, tkV, point, look, again, *]) rfl (RPost.mk (t := t) (rfl) rfl (hr5.keep (S := fun k => b < k) ?_ (fun k hk hn => by omega)) ?_)
  · (repeat' (first | with_reducible exact Keeps.refl _ _ | with_reducible refine Keeps.set ?_ (by simp <;> omega) _ | with_reducible refine Keeps.alloc ?_ _ | with_reducible refine Keeps.drewN ?_ _ | with_reducible refine Keeps.drew ?_))
  · (repeat' (first | with_reducible exact hK5 | with_reducible refine Keeps.set ?_ (by simp <;> omega) _ | with_reducible refine Keeps.alloc ?_ _ | with_reducible refine Keeps.drewN ?_ _ | with_reducible refine Keeps.drew ?_))


end Th
end Go.Proofs
