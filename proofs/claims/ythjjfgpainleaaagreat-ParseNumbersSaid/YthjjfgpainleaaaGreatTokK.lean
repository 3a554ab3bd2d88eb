/- The reader of tokens: scalars. -/
import Derived.Test.YthjjfgpainleaaaGreatTokJ

set_option linter.unusedSimpArgs false
set_option linter.unusedVariables false

namespace Go.Proofs
namespace Th
open Go.RowKit

theorem isDigit_enters : Enters 136 := fun _ _ => by kernel_rfl
theorem isHex_enters : Enters 161 := fun _ _ => by kernel_rfl

theorem len_ne {l : List Int} (h : ¬ l = []) : ((l.length : Int) == 0) = false := by
  cases l with
  | nil => exact absurd rfl h
  | cons => simp; omega

set_option maxHeartbeats 1000000 in
theorem scalar_u0 {w : World} {b : Nat} {L s : List Int}  (h : Rs w b 1 L s) (N1 : (run isHex 4 s).1.length < 4) :
    Calls Tryz.prog 131 #[.pointer (some ⟨b, 0, none⟩), .int .i64 117] w fun e w' => RPost b 1 L w (.error 1) e w' := by
  have hb := h.lt
  have h0 : w.cell? ⟨b, 0, none⟩ = some (.int .i64 1) := by obtain ⟨_, _, _, h0, _⟩ := h; exact h0
  go_enter Tryz.func131, Tryz.ntmps131
  go_wp2_with fail
  refine (run_calls isHex_enters isHex_calls 4 (by omega) (h.keep (S := fun k => b < k) (by (repeat' (first | with_reducible exact Keeps.refl _ _ | with_reducible refine Keeps.set ?_ (by simp <;> omega) _ | with_reducible refine Keeps.alloc ?_ _ | with_reducible refine Keeps.drewN ?_ _ | with_reducible refine Keeps.drew ?_))) (fun k hk hn => by omega))).mono ?_
  rintro e w1 ⟨⟨A1, c1, rfl, hR1, hc1, hx1⟩, hr1, hk1⟩
  have hK1 : Keeps (But b) w w1 := Keeps.trans (by (repeat' (first | with_reducible exact Keeps.refl _ _ | with_reducible refine Keeps.set ?_ (by simp <;> omega) _ | with_reducible refine Keeps.alloc ?_ _ | with_reducible refine Keeps.drewN ?_ _ | with_reducible refine Keeps.drew ?_))) hk1
  have hs1 : w.heap.size + 1 ≤ w1.heap.size := by have := hk1.size; (try simp at this); omega
  have hb1 : b < w1.heap.size := by omega
  have c0_hk1 := fun o => hk1.cell (b := w.heap.size) (o := o) (by first | omega | (simp; done) | (simp; omega)) (by first | omega | (simp; done) | (simp; omega)); have z0_hk1 := fun o => hk1.frozen (b := w.heap.size) (o := o) (by first | omega | (simp; done) | (simp; omega)) (by first | omega | (simp; done) | (simp; omega))
  go_wp2_with fail
  refine (tok_fail _ _).mono ?_
  rintro e w2 ⟨rfl, rfl⟩
  exact ⟨rfl, RPost.mkE rfl rfl (by (repeat' (first | with_reducible exact hK1 | with_reducible refine Keeps.set ?_ (by simp <;> omega) _ | with_reducible refine Keeps.alloc ?_ _ | with_reducible refine Keeps.drewN ?_ _ | with_reducible refine Keeps.drew ?_)))⟩

set_option maxHeartbeats 1000000 in
theorem scalar_u2 {w : World} {b : Nat} {L s : List Int}  (h : Rs w b 1 L s) (N1 : ¬ (run isHex 4 s).1.length < 4) (N4 : 1114111 < number16 (run isHex 4 s).1) :
    Calls Tryz.prog 131 #[.pointer (some ⟨b, 0, none⟩), .int .i64 117] w fun e w' => RPost b 1 L w (.error 3) e w' := by
  have hb := h.lt
  have h0 : w.cell? ⟨b, 0, none⟩ = some (.int .i64 1) := by obtain ⟨_, _, _, h0, _⟩ := h; exact h0
  go_enter Tryz.func131, Tryz.ntmps131
  go_wp2_with fail
  refine (run_calls isHex_enters isHex_calls 4 (by omega) (h.keep (S := fun k => b < k) (by (repeat' (first | with_reducible exact Keeps.refl _ _ | with_reducible refine Keeps.set ?_ (by simp <;> omega) _ | with_reducible refine Keeps.alloc ?_ _ | with_reducible refine Keeps.drewN ?_ _ | with_reducible refine Keeps.drew ?_))) (fun k hk hn => by omega))).mono ?_
  rintro e w1 ⟨⟨A1, c1, rfl, hR1, hc1, hx1⟩, hr1, hk1⟩
  have hK1 : Keeps (But b) w w1 := Keeps.trans (by (repeat' (first | with_reducible exact Keeps.refl _ _ | with_reducible refine Keeps.set ?_ (by simp <;> omega) _ | with_reducible refine Keeps.alloc ?_ _ | with_reducible refine Keeps.drewN ?_ _ | with_reducible refine Keeps.drew ?_))) hk1
  have hs1 : w.heap.size + 1 ≤ w1.heap.size := by have := hk1.size; (try simp at this); omega
  have hb1 : b < w1.heap.size := by omega
  have c0_hk1 := fun o => hk1.cell (b := w.heap.size) (o := o) (by first | omega | (simp; done) | (simp; omega)) (by first | omega | (simp; done) | (simp; omega)); have z0_hk1 := fun o => hk1.frozen (b := w.heap.size) (o := o) (by first | omega | (simp; done) | (simp; omega)) (by first | omega | (simp; done) | (simp; omega))
  have t1 : (((run isHex 4 s).1.length : Int) == 0) = false := len_ne (fun e => N1 (by rw [e]; decide))
  go_wp2_with fail
  refine (number_calls hR1 (run_hexes _ _).1 (by have := (run_hexes 4 s).2; omega)).mono ?_
  rintro e w2 ⟨rfl, rfl⟩
  go_wp2_with fail
  refine (tok_fail _ _).mono ?_
  rintro e w3 ⟨rfl, rfl⟩
  exact ⟨rfl, RPost.mkE rfl rfl (by (repeat' (first | with_reducible exact hK1 | with_reducible refine Keeps.set ?_ (by simp <;> omega) _ | with_reducible refine Keeps.alloc ?_ _ | with_reducible refine Keeps.drewN ?_ _ | with_reducible refine Keeps.drew ?_)))⟩

set_option maxHeartbeats 1000000 in
theorem scalar_u3 {w : World} {b : Nat} {L s : List Int}  (h : Rs w b 1 L s) (N1 : ¬ (run isHex 4 s).1.length < 4) (N4 : ¬ 1114111 < number16 (run isHex 4 s).1) :
    Calls Tryz.prog 131 #[.pointer (some ⟨b, 0, none⟩), .int .i64 117] w fun e w' => RPost b 1 L w (.ok ((point (number16 (run isHex 4 s).1)), (run isHex 4 s).2)) e w' := by
  have hb := h.lt
  have h0 : w.cell? ⟨b, 0, none⟩ = some (.int .i64 1) := by obtain ⟨_, _, _, h0, _⟩ := h; exact h0
  go_enter Tryz.func131, Tryz.ntmps131
  go_wp2_with fail
  refine (run_calls isHex_enters isHex_calls 4 (by omega) (h.keep (S := fun k => b < k) (by (repeat' (first | with_reducible exact Keeps.refl _ _ | with_reducible refine Keeps.set ?_ (by simp <;> omega) _ | with_reducible refine Keeps.alloc ?_ _ | with_reducible refine Keeps.drewN ?_ _ | with_reducible refine Keeps.drew ?_))) (fun k hk hn => by omega))).mono ?_
  rintro e w1 ⟨⟨A1, c1, rfl, hR1, hc1, hx1⟩, hr1, hk1⟩
  have hK1 : Keeps (But b) w w1 := Keeps.trans (by (repeat' (first | with_reducible exact Keeps.refl _ _ | with_reducible refine Keeps.set ?_ (by simp <;> omega) _ | with_reducible refine Keeps.alloc ?_ _ | with_reducible refine Keeps.drewN ?_ _ | with_reducible refine Keeps.drew ?_))) hk1
  have hs1 : w.heap.size + 1 ≤ w1.heap.size := by have := hk1.size; (try simp at this); omega
  have hb1 : b < w1.heap.size := by omega
  have c0_hk1 := fun o => hk1.cell (b := w.heap.size) (o := o) (by first | omega | (simp; done) | (simp; omega)) (by first | omega | (simp; done) | (simp; omega)); have z0_hk1 := fun o => hk1.frozen (b := w.heap.size) (o := o) (by first | omega | (simp; done) | (simp; omega)) (by first | omega | (simp; done) | (simp; omega))
  have t1 : (((run isHex 4 s).1.length : Int) == 0) = false := len_ne (fun e => N1 (by rw [e]; decide))
  go_wp2_with fail
  refine (number_calls hR1 (run_hexes _ _).1 (by have := (run_hexes 4 s).2; omega)).mono ?_
  rintro e w2 ⟨rfl, rfl⟩
  go_wp2_with fail
  refine (point_calls _ _).mono ?_
  rintro e w3 ⟨rfl, hk3⟩
  have hr3 := (hr1.keep (S := fun k => b < k) (by (repeat' (first | with_reducible exact Keeps.refl _ _ | with_reducible refine Keeps.set ?_ (by simp <;> omega) _ | with_reducible refine Keeps.alloc ?_ _ | with_reducible refine Keeps.drewN ?_ _ | with_reducible refine Keeps.drew ?_))) (fun k hk hn => by omega)).keep hk3 (fun _ _ h => h)
  replace hk3 : Keeps (But b) _ w3 := hk3.mono (fun _ h => h.elim)
  have hK3 : Keeps (But b) w w3 := Keeps.trans (by (repeat' (first | with_reducible exact hK1 | with_reducible refine Keeps.set ?_ (by simp <;> omega) _ | with_reducible refine Keeps.alloc ?_ _ | with_reducible refine Keeps.drewN ?_ _ | with_reducible refine Keeps.drew ?_))) hk3
  have hs3 : w.heap.size + 1 ≤ w3.heap.size := by have := hk3.size; (try simp at this); omega
  have hb3 : b < w3.heap.size := by omega
  have c0_hk3 := fun o => hk3.cell (b := w.heap.size) (o := o) (by first | omega | (simp; done) | (simp; omega)) (by first | omega | (simp; done) | (simp; omega)); have z0_hk3 := fun o => hk3.frozen (b := w.heap.size) (o := o) (by first | omega | (simp; done) | (simp; omega)) (by first | omega | (simp; done) | (simp; omega))
  simp only [tkV, point]
  go_wp2_with fail
  refine bodyPost_ret (v := tkV (point (number16 (run isHex 4 s).1))) (by simp [results, Tryz.results131, go_sem, tkV, point, look, again, *]) rfl (RPost.mk (t := (point (number16 (run isHex 4 s).1))) (rfl) rfl (hr3.keep (S := fun k => b < k) ?_ (fun k hk hn => by omega)) ?_)
  · (repeat' (first | with_reducible exact Keeps.refl _ _ | with_reducible refine Keeps.set ?_ (by simp <;> omega) _ | with_reducible refine Keeps.alloc ?_ _ | with_reducible refine Keeps.drewN ?_ _ | with_reducible refine Keeps.drew ?_))
  · (repeat' (first | with_reducible exact hK3 | with_reducible refine Keeps.set ?_ (by simp <;> omega) _ | with_reducible refine Keeps.alloc ?_ _ | with_reducible refine Keeps.drewN ?_ _ | with_reducible refine Keeps.drew ?_))

set_option maxHeartbeats 1000000 in
theorem scalar_bn {w : World} {b : Nat} {L s : List Int} (p : Int) (h : Rs w b 1 L s) (N0 : (p == 117) = false) (H1 : hd s = 123) (H2 : ¬ hd (run isHex 6 s.tail).2 = 125) :
    Calls Tryz.prog 131 #[.pointer (some ⟨b, 0, none⟩), .int .i64 p] w fun e w' => RPost b 1 L w (.error 1) e w' := by
  have hb := h.lt
  have h0 : w.cell? ⟨b, 0, none⟩ = some (.int .i64 1) := by obtain ⟨_, _, _, h0, _⟩ := h; exact h0
  have H1' := hid H1
  clear H1
  have H2' := hid H2
  clear H2
  go_enter Tryz.func131, Tryz.ntmps131
  go_wp2_with fail
  refine (may_yes (h.keep (S := fun k => b < k) (by (repeat' (first | with_reducible exact Keeps.refl _ _ | with_reducible refine Keeps.set ?_ (by simp <;> omega) _ | with_reducible refine Keeps.alloc ?_ _ | with_reducible refine Keeps.drewN ?_ _ | with_reducible refine Keeps.drew ?_))) (fun k hk hn => by omega)) (by omega) (by omega) H1'.out).mono ?_
  rintro e w1 ⟨rfl, hr1, hk1⟩
  have hK1 : Keeps (But b) w w1 := Keeps.trans (by (repeat' (first | with_reducible exact Keeps.refl _ _ | with_reducible refine Keeps.set ?_ (by simp <;> omega) _ | with_reducible refine Keeps.alloc ?_ _ | with_reducible refine Keeps.drewN ?_ _ | with_reducible refine Keeps.drew ?_))) hk1
  have hs1 : w.heap.size + 1 ≤ w1.heap.size := by have := hk1.size; (try simp at this); omega
  have hb1 : b < w1.heap.size := by omega
  have c0_hk1 := fun o => hk1.cell (b := w.heap.size) (o := o) (by first | omega | (simp; done) | (simp; omega)) (by first | omega | (simp; done) | (simp; omega)); have z0_hk1 := fun o => hk1.frozen (b := w.heap.size) (o := o) (by first | omega | (simp; done) | (simp; omega)) (by first | omega | (simp; done) | (simp; omega))
  go_wp2_with fail
  refine (run_calls isHex_enters isHex_calls 6 (by omega) (hr1.keep (S := fun k => b < k) (by (repeat' (first | with_reducible exact Keeps.refl _ _ | with_reducible refine Keeps.set ?_ (by simp <;> omega) _ | with_reducible refine Keeps.alloc ?_ _ | with_reducible refine Keeps.drewN ?_ _ | with_reducible refine Keeps.drew ?_))) (fun k hk hn => by omega))).mono ?_
  rintro e w2 ⟨⟨A2, c2, rfl, hR2, hc2, hx2⟩, hr2, hk2⟩
  have hK2 : Keeps (But b) w w2 := Keeps.trans (by (repeat' (first | with_reducible exact hK1 | with_reducible refine Keeps.set ?_ (by simp <;> omega) _ | with_reducible refine Keeps.alloc ?_ _ | with_reducible refine Keeps.drewN ?_ _ | with_reducible refine Keeps.drew ?_))) hk2
  have hs2 : w.heap.size + 1 ≤ w2.heap.size := by have := hk2.size; (try simp at this); omega
  have hb2 : b < w2.heap.size := by omega
  have c0_hk2 := fun o => hk2.cell (b := w.heap.size) (o := o) (by first | omega | (simp; done) | (simp; omega)) (by first | omega | (simp; done) | (simp; omega)); have z0_hk2 := fun o => hk2.frozen (b := w.heap.size) (o := o) (by first | omega | (simp; done) | (simp; omega)) (by first | omega | (simp; done) | (simp; omega))
  go_wp2_with fail
  refine (must_no (hr2.keep (S := fun k => b < k) (by (repeat' (first | with_reducible exact Keeps.refl _ _ | with_reducible refine Keeps.set ?_ (by simp <;> omega) _ | with_reducible refine Keeps.alloc ?_ _ | with_reducible refine Keeps.drewN ?_ _ | with_reducible refine Keeps.drew ?_))) (fun k hk hn => by omega)) (by omega) (by omega) H2'.out).mono ?_
  rintro e w3 ⟨rfl, q3, rfl⟩
  exact ⟨rfl, RPost.mkE rfl rfl (by (repeat' (first | with_reducible exact hK2 | with_reducible refine Keeps.set ?_ (by simp <;> omega) _ | with_reducible refine Keeps.alloc ?_ _ | with_reducible refine Keeps.drewN ?_ _ | with_reducible refine Keeps.drew ?_)))⟩

set_option maxHeartbeats 1000000 in
theorem scalar_b1 {w : World} {b : Nat} {L s : List Int} (p : Int) (h : Rs w b 1 L s) (N0 : (p == 117) = false) (H1 : hd s = 123) (H2 : hd (run isHex 6 s.tail).2 = 125) (H3 : (run isHex 6 s.tail).1 = []) :
    Calls Tryz.prog 131 #[.pointer (some ⟨b, 0, none⟩), .int .i64 p] w fun e w' => RPost b 1 L w (.error 1) e w' := by
  have hb := h.lt
  have h0 : w.cell? ⟨b, 0, none⟩ = some (.int .i64 1) := by obtain ⟨_, _, _, h0, _⟩ := h; exact h0
  have H1' := hid H1
  clear H1
  have H2' := hid H2
  clear H2
  have H3' := hid H3
  clear H3
  go_enter Tryz.func131, Tryz.ntmps131
  go_wp2_with fail
  refine (may_yes (h.keep (S := fun k => b < k) (by (repeat' (first | with_reducible exact Keeps.refl _ _ | with_reducible refine Keeps.set ?_ (by simp <;> omega) _ | with_reducible refine Keeps.alloc ?_ _ | with_reducible refine Keeps.drewN ?_ _ | with_reducible refine Keeps.drew ?_))) (fun k hk hn => by omega)) (by omega) (by omega) H1'.out).mono ?_
  rintro e w1 ⟨rfl, hr1, hk1⟩
  have hK1 : Keeps (But b) w w1 := Keeps.trans (by (repeat' (first | with_reducible exact Keeps.refl _ _ | with_reducible refine Keeps.set ?_ (by simp <;> omega) _ | with_reducible refine Keeps.alloc ?_ _ | with_reducible refine Keeps.drewN ?_ _ | with_reducible refine Keeps.drew ?_))) hk1
  have hs1 : w.heap.size + 1 ≤ w1.heap.size := by have := hk1.size; (try simp at this); omega
  have hb1 : b < w1.heap.size := by omega
  have c0_hk1 := fun o => hk1.cell (b := w.heap.size) (o := o) (by first | omega | (simp; done) | (simp; omega)) (by first | omega | (simp; done) | (simp; omega)); have z0_hk1 := fun o => hk1.frozen (b := w.heap.size) (o := o) (by first | omega | (simp; done) | (simp; omega)) (by first | omega | (simp; done) | (simp; omega))
  go_wp2_with fail
  refine (run_calls isHex_enters isHex_calls 6 (by omega) (hr1.keep (S := fun k => b < k) (by (repeat' (first | with_reducible exact Keeps.refl _ _ | with_reducible refine Keeps.set ?_ (by simp <;> omega) _ | with_reducible refine Keeps.alloc ?_ _ | with_reducible refine Keeps.drewN ?_ _ | with_reducible refine Keeps.drew ?_))) (fun k hk hn => by omega))).mono ?_
  rintro e w2 ⟨⟨A2, c2, rfl, hR2, hc2, hx2⟩, hr2, hk2⟩
  have hK2 : Keeps (But b) w w2 := Keeps.trans (by (repeat' (first | with_reducible exact hK1 | with_reducible refine Keeps.set ?_ (by simp <;> omega) _ | with_reducible refine Keeps.alloc ?_ _ | with_reducible refine Keeps.drewN ?_ _ | with_reducible refine Keeps.drew ?_))) hk2
  have hs2 : w.heap.size + 1 ≤ w2.heap.size := by have := hk2.size; (try simp at this); omega
  have hb2 : b < w2.heap.size := by omega
  have c0_hk2 := fun o => hk2.cell (b := w.heap.size) (o := o) (by first | omega | (simp; done) | (simp; omega)) (by first | omega | (simp; done) | (simp; omega)); have z0_hk2 := fun o => hk2.frozen (b := w.heap.size) (o := o) (by first | omega | (simp; done) | (simp; omega)) (by first | omega | (simp; done) | (simp; omega))
  rw [H3'.out]
  go_wp2_with fail
  refine (must_yes (hr2.keep (S := fun k => b < k) (by (repeat' (first | with_reducible exact Keeps.refl _ _ | with_reducible refine Keeps.set ?_ (by simp <;> omega) _ | with_reducible refine Keeps.alloc ?_ _ | with_reducible refine Keeps.drewN ?_ _ | with_reducible refine Keeps.drew ?_))) (fun k hk hn => by omega)) (by omega) (by omega) H2'.out).mono ?_
  rintro e w3 ⟨rfl, hr3, hk3⟩
  have hK3 : Keeps (But b) w w3 := Keeps.trans (by (repeat' (first | with_reducible exact hK2 | with_reducible refine Keeps.set ?_ (by simp <;> omega) _ | with_reducible refine Keeps.alloc ?_ _ | with_reducible refine Keeps.drewN ?_ _ | with_reducible refine Keeps.drew ?_))) hk3
  have hs3 : w.heap.size + 1 ≤ w3.heap.size := by have := hk3.size; (try simp at this); omega
  have hb3 : b < w3.heap.size := by omega
  have c0_hk3 := fun o => hk3.cell (b := w.heap.size) (o := o) (by first | omega | (simp; done) | (simp; omega)) (by first | omega | (simp; done) | (simp; omega)); have z0_hk3 := fun o => hk3.frozen (b := w.heap.size) (o := o) (by first | omega | (simp; done) | (simp; omega)) (by first | omega | (simp; done) | (simp; omega))
  go_wp2_with fail
  refine (tok_fail _ _).mono ?_
  rintro e w4 ⟨rfl, rfl⟩
  exact ⟨rfl, RPost.mkE rfl rfl (by (repeat' (first | with_reducible exact hK3 | with_reducible refine Keeps.set ?_ (by simp <;> omega) _ | with_reducible refine Keeps.alloc ?_ _ | with_reducible refine Keeps.drewN ?_ _ | with_reducible refine Keeps.drew ?_)))⟩

set_option maxHeartbeats 1000000 in
theorem scalar_b2 {w : World} {b : Nat} {L s : List Int} (p : Int) (h : Rs w b 1 L s) (N0 : (p == 117) = false) (H1 : hd s = 123) (H2 : hd (run isHex 6 s.tail).2 = 125) (H3 : ¬ (run isHex 6 s.tail).1 = []) (N4 : 1114111 < number16 (run isHex 6 s.tail).1) :
    Calls Tryz.prog 131 #[.pointer (some ⟨b, 0, none⟩), .int .i64 p] w fun e w' => RPost b 1 L w (.error 3) e w' := by
  have hb := h.lt
  have h0 : w.cell? ⟨b, 0, none⟩ = some (.int .i64 1) := by obtain ⟨_, _, _, h0, _⟩ := h; exact h0
  have H1' := hid H1
  clear H1
  have H2' := hid H2
  clear H2
  have H3' := hid H3
  clear H3
  go_enter Tryz.func131, Tryz.ntmps131
  go_wp2_with fail
  refine (may_yes (h.keep (S := fun k => b < k) (by (repeat' (first | with_reducible exact Keeps.refl _ _ | with_reducible refine Keeps.set ?_ (by simp <;> omega) _ | with_reducible refine Keeps.alloc ?_ _ | with_reducible refine Keeps.drewN ?_ _ | with_reducible refine Keeps.drew ?_))) (fun k hk hn => by omega)) (by omega) (by omega) H1'.out).mono ?_
  rintro e w1 ⟨rfl, hr1, hk1⟩
  have hK1 : Keeps (But b) w w1 := Keeps.trans (by (repeat' (first | with_reducible exact Keeps.refl _ _ | with_reducible refine Keeps.set ?_ (by simp <;> omega) _ | with_reducible refine Keeps.alloc ?_ _ | with_reducible refine Keeps.drewN ?_ _ | with_reducible refine Keeps.drew ?_))) hk1
  have hs1 : w.heap.size + 1 ≤ w1.heap.size := by have := hk1.size; (try simp at this); omega
  have hb1 : b < w1.heap.size := by omega
  have c0_hk1 := fun o => hk1.cell (b := w.heap.size) (o := o) (by first | omega | (simp; done) | (simp; omega)) (by first | omega | (simp; done) | (simp; omega)); have z0_hk1 := fun o => hk1.frozen (b := w.heap.size) (o := o) (by first | omega | (simp; done) | (simp; omega)) (by first | omega | (simp; done) | (simp; omega))
  go_wp2_with fail
  refine (run_calls isHex_enters isHex_calls 6 (by omega) (hr1.keep (S := fun k => b < k) (by (repeat' (first | with_reducible exact Keeps.refl _ _ | with_reducible refine Keeps.set ?_ (by simp <;> omega) _ | with_reducible refine Keeps.alloc ?_ _ | with_reducible refine Keeps.drewN ?_ _ | with_reducible refine Keeps.drew ?_))) (fun k hk hn => by omega))).mono ?_
  rintro e w2 ⟨⟨A2, c2, rfl, hR2, hc2, hx2⟩, hr2, hk2⟩
  have hK2 : Keeps (But b) w w2 := Keeps.trans (by (repeat' (first | with_reducible exact hK1 | with_reducible refine Keeps.set ?_ (by simp <;> omega) _ | with_reducible refine Keeps.alloc ?_ _ | with_reducible refine Keeps.drewN ?_ _ | with_reducible refine Keeps.drew ?_))) hk2
  have hs2 : w.heap.size + 1 ≤ w2.heap.size := by have := hk2.size; (try simp at this); omega
  have hb2 : b < w2.heap.size := by omega
  have c0_hk2 := fun o => hk2.cell (b := w.heap.size) (o := o) (by first | omega | (simp; done) | (simp; omega)) (by first | omega | (simp; done) | (simp; omega)); have z0_hk2 := fun o => hk2.frozen (b := w.heap.size) (o := o) (by first | omega | (simp; done) | (simp; omega)) (by first | omega | (simp; done) | (simp; omega))
  have t1 := len_ne H3'.out
  go_wp2_with fail
  refine (must_yes (hr2.keep (S := fun k => b < k) (by (repeat' (first | with_reducible exact Keeps.refl _ _ | with_reducible refine Keeps.set ?_ (by simp <;> omega) _ | with_reducible refine Keeps.alloc ?_ _ | with_reducible refine Keeps.drewN ?_ _ | with_reducible refine Keeps.drew ?_))) (fun k hk hn => by omega)) (by omega) (by omega) H2'.out).mono ?_
  rintro e w3 ⟨rfl, hr3, hk3⟩
  have hK3 : Keeps (But b) w w3 := Keeps.trans (by (repeat' (first | with_reducible exact hK2 | with_reducible refine Keeps.set ?_ (by simp <;> omega) _ | with_reducible refine Keeps.alloc ?_ _ | with_reducible refine Keeps.drewN ?_ _ | with_reducible refine Keeps.drew ?_))) hk3
  have hs3 : w.heap.size + 1 ≤ w3.heap.size := by have := hk3.size; (try simp at this); omega
  have hb3 : b < w3.heap.size := by omega
  have c0_hk3 := fun o => hk3.cell (b := w.heap.size) (o := o) (by first | omega | (simp; done) | (simp; omega)) (by first | omega | (simp; done) | (simp; omega)); have z0_hk3 := fun o => hk3.frozen (b := w.heap.size) (o := o) (by first | omega | (simp; done) | (simp; omega)) (by first | omega | (simp; done) | (simp; omega))
  go_wp2_with fail
  refine (number_calls (hR2.keep hk3 (fun k hk => by show ¬ k = b; omega)) (run_hexes _ _).1 (by have := (run_hexes 6 s.tail).2; omega)).mono ?_
  rintro e w4 ⟨rfl, rfl⟩
  go_wp2_with fail
  refine (tok_fail _ _).mono ?_
  rintro e w5 ⟨rfl, rfl⟩
  exact ⟨rfl, RPost.mkE rfl rfl (by (repeat' (first | with_reducible exact hK3 | with_reducible refine Keeps.set ?_ (by simp <;> omega) _ | with_reducible refine Keeps.alloc ?_ _ | with_reducible refine Keeps.drewN ?_ _ | with_reducible refine Keeps.drew ?_)))⟩

set_option maxHeartbeats 1000000 in
theorem scalar_b3 {w : World} {b : Nat} {L s : List Int} (p : Int) (h : Rs w b 1 L s) (N0 : (p == 117) = false) (H1 : hd s = 123) (H2 : hd (run isHex 6 s.tail).2 = 125) (H3 : ¬ (run isHex 6 s.tail).1 = []) (N4 : ¬ 1114111 < number16 (run isHex 6 s.tail).1) :
    Calls Tryz.prog 131 #[.pointer (some ⟨b, 0, none⟩), .int .i64 p] w fun e w' => RPost b 1 L w (.ok ((point (number16 (run isHex 6 s.tail).1)), (run isHex 6 s.tail).2.tail)) e w' := by
  have hb := h.lt
  have h0 : w.cell? ⟨b, 0, none⟩ = some (.int .i64 1) := by obtain ⟨_, _, _, h0, _⟩ := h; exact h0
  have H1' := hid H1
  clear H1
  have H2' := hid H2
  clear H2
  have H3' := hid H3
  clear H3
  go_enter Tryz.func131, Tryz.ntmps131
  go_wp2_with fail
  refine (may_yes (h.keep (S := fun k => b < k) (by (repeat' (first | with_reducible exact Keeps.refl _ _ | with_reducible refine Keeps.set ?_ (by simp <;> omega) _ | with_reducible refine Keeps.alloc ?_ _ | with_reducible refine Keeps.drewN ?_ _ | with_reducible refine Keeps.drew ?_))) (fun k hk hn => by omega)) (by omega) (by omega) H1'.out).mono ?_
  rintro e w1 ⟨rfl, hr1, hk1⟩
  have hK1 : Keeps (But b) w w1 := Keeps.trans (by (repeat' (first | with_reducible exact Keeps.refl _ _ | with_reducible refine Keeps.set ?_ (by simp <;> omega) _ | with_reducible refine Keeps.alloc ?_ _ | with_reducible refine Keeps.drewN ?_ _ | with_reducible refine Keeps.drew ?_))) hk1
  have hs1 : w.heap.size + 1 ≤ w1.heap.size := by have := hk1.size; (try simp at this); omega
  have hb1 : b < w1.heap.size := by omega
  have c0_hk1 := fun o => hk1.cell (b := w.heap.size) (o := o) (by first | omega | (simp; done) | (simp; omega)) (by first | omega | (simp; done) | (simp; omega)); have z0_hk1 := fun o => hk1.frozen (b := w.heap.size) (o := o) (by first | omega | (simp; done) | (simp; omega)) (by first | omega | (simp; done) | (simp; omega))
  go_wp2_with fail
  refine (run_calls isHex_enters isHex_calls 6 (by omega) (hr1.keep (S := fun k => b < k) (by (repeat' (first | with_reducible exact Keeps.refl _ _ | with_reducible refine Keeps.set ?_ (by simp <;> omega) _ | with_reducible refine Keeps.alloc ?_ _ | with_reducible refine Keeps.drewN ?_ _ | with_reducible refine Keeps.drew ?_))) (fun k hk hn => by omega))).mono ?_
  rintro e w2 ⟨⟨A2, c2, rfl, hR2, hc2, hx2⟩, hr2, hk2⟩
  have hK2 : Keeps (But b) w w2 := Keeps.trans (by (repeat' (first | with_reducible exact hK1 | with_reducible refine Keeps.set ?_ (by simp <;> omega) _ | with_reducible refine Keeps.alloc ?_ _ | with_reducible refine Keeps.drewN ?_ _ | with_reducible refine Keeps.drew ?_))) hk2
  have hs2 : w.heap.size + 1 ≤ w2.heap.size := by have := hk2.size; (try simp at this); omega
  have hb2 : b < w2.heap.size := by omega
  have c0_hk2 := fun o => hk2.cell (b := w.heap.size) (o := o) (by first | omega | (simp; done) | (simp; omega)) (by first | omega | (simp; done) | (simp; omega)); have z0_hk2 := fun o => hk2.frozen (b := w.heap.size) (o := o) (by first | omega | (simp; done) | (simp; omega)) (by first | omega | (simp; done) | (simp; omega))
  have t1 := len_ne H3'.out
  go_wp2_with fail
  refine (must_yes (hr2.keep (S := fun k => b < k) (by (repeat' (first | with_reducible exact Keeps.refl _ _ | with_reducible refine Keeps.set ?_ (by simp <;> omega) _ | with_reducible refine Keeps.alloc ?_ _ | with_reducible refine Keeps.drewN ?_ _ | with_reducible refine Keeps.drew ?_))) (fun k hk hn => by omega)) (by omega) (by omega) H2'.out).mono ?_
  rintro e w3 ⟨rfl, hr3, hk3⟩
  have hK3 : Keeps (But b) w w3 := Keeps.trans (by (repeat' (first | with_reducible exact hK2 | with_reducible refine Keeps.set ?_ (by simp <;> omega) _ | with_reducible refine Keeps.alloc ?_ _ | with_reducible refine Keeps.drewN ?_ _ | with_reducible refine Keeps.drew ?_))) hk3
  have hs3 : w.heap.size + 1 ≤ w3.heap.size := by have := hk3.size; (try simp at this); omega
  have hb3 : b < w3.heap.size := by omega
  have c0_hk3 := fun o => hk3.cell (b := w.heap.size) (o := o) (by first | omega | (simp; done) | (simp; omega)) (by first | omega | (simp; done) | (simp; omega)); have z0_hk3 := fun o => hk3.frozen (b := w.heap.size) (o := o) (by first | omega | (simp; done) | (simp; omega)) (by first | omega | (simp; done) | (simp; omega))
  go_wp2_with fail
  refine (number_calls (hR2.keep hk3 (fun k hk => by show ¬ k = b; omega)) (run_hexes _ _).1 (by have := (run_hexes 6 s.tail).2; omega)).mono ?_
  rintro e w4 ⟨rfl, rfl⟩
  go_wp2_with fail
  refine (point_calls _ _).mono ?_
  rintro e w5 ⟨rfl, hk5⟩
  have hr5 := (hr3.keep (S := fun k => b < k) (by (repeat' (first | with_reducible exact Keeps.refl _ _ | with_reducible refine Keeps.set ?_ (by simp <;> omega) _ | with_reducible refine Keeps.alloc ?_ _ | with_reducible refine Keeps.drewN ?_ _ | with_reducible refine Keeps.drew ?_))) (fun k hk hn => by omega)).keep hk5 (fun _ _ h => h)
  replace hk5 : Keeps (But b) _ w5 := hk5.mono (fun _ h => h.elim)
  have hK5 : Keeps (But b) w w5 := Keeps.trans (by (repeat' (first | with_reducible exact hK3 | with_reducible refine Keeps.set ?_ (by simp <;> omega) _ | with_reducible refine Keeps.alloc ?_ _ | with_reducible refine Keeps.drewN ?_ _ | with_reducible refine Keeps.drew ?_))) hk5
  have hs5 : w.heap.size + 1 ≤ w5.heap.size := by have := hk5.size; (try simp at this); omega
  have hb5 : b < w5.heap.size := by omega
  have c0_hk5 := fun o => hk5.cell (b := w.heap.size) (o := o) (by first | omega | (simp; done) | (simp; omega)) (by first | omega | (simp; done) | (simp; omega)); have z0_hk5 := fun o => hk5.frozen (b := w.heap.size) (o := o) (by first | omega | (simp; done) | (simp; omega)) (by first | omega | (simp; done) | (simp; omega))
  simp only [tkV, point]
  go_wp2_with fail
  refine bodyPost_ret (v := tkV (point (number16 (run isHex 6 s.tail).1))) (by simp [results, Tryz.results131, go_sem, tkV, point, look, again, *]) rfl (RPost.mk (t := (point (number16 (run isHex 6 s.tail).1))) (rfl) rfl (hr5.keep (S := fun k => b < k) ?_ (fun k hk hn => by omega)) ?_)
  · (repeat' (first | with_reducible exact Keeps.refl _ _ | with_reducible refine Keeps.set ?_ (by simp <;> omega) _ | with_reducible refine Keeps.alloc ?_ _ | with_reducible refine Keeps.drewN ?_ _ | with_reducible refine Keeps.drew ?_))
  · (repeat' (first | with_reducible exact hK5 | with_reducible refine Keeps.set ?_ (by simp <;> omega) _ | with_reducible refine Keeps.alloc ?_ _ | with_reducible refine Keeps.drewN ?_ _ | with_reducible refine Keeps.drew ?_))

set_option maxHeartbeats 1000000 in
theorem scalar_x1 {w : World} {b : Nat} {L s : List Int} (p : Int) (h : Rs w b 1 L s) (N0 : (p == 117) = false) (H1 : ¬ hd s = 123) (H3 : (run isHex 2 s).1 = []) :
    Calls Tryz.prog 131 #[.pointer (some ⟨b, 0, none⟩), .int .i64 p] w fun e w' => RPost b 1 L w (.error 1) e w' := by
  have hb := h.lt
  have h0 : w.cell? ⟨b, 0, none⟩ = some (.int .i64 1) := by obtain ⟨_, _, _, h0, _⟩ := h; exact h0
  have H1' := hid H1
  clear H1
  have H3' := hid H3
  clear H3
  go_enter Tryz.func131, Tryz.ntmps131
  go_wp2_with fail
  refine (may_no (h.keep (S := fun k => b < k) (by (repeat' (first | with_reducible exact Keeps.refl _ _ | with_reducible refine Keeps.set ?_ (by simp <;> omega) _ | with_reducible refine Keeps.alloc ?_ _ | with_reducible refine Keeps.drewN ?_ _ | with_reducible refine Keeps.drew ?_))) (fun k hk hn => by omega)) (by omega) (by omega) H1'.out).mono ?_
  rintro e w1 ⟨rfl, q1, rfl⟩
  go_wp2_with fail
  refine (run_calls isHex_enters isHex_calls 2 (by omega) (h.keep (S := fun k => b < k) (by (repeat' (first | with_reducible exact Keeps.refl _ _ | with_reducible refine Keeps.set ?_ (by simp <;> omega) _ | with_reducible refine Keeps.alloc ?_ _ | with_reducible refine Keeps.drewN ?_ _ | with_reducible refine Keeps.drew ?_))) (fun k hk hn => by omega))).mono ?_
  rintro e w2 ⟨⟨A2, c2, rfl, hR2, hc2, hx2⟩, hr2, hk2⟩
  have hK2 : Keeps (But b) w w2 := Keeps.trans (by (repeat' (first | with_reducible exact Keeps.refl _ _ | with_reducible refine Keeps.set ?_ (by simp <;> omega) _ | with_reducible refine Keeps.alloc ?_ _ | with_reducible refine Keeps.drewN ?_ _ | with_reducible refine Keeps.drew ?_))) hk2
  have hs2 : w.heap.size + 1 ≤ w2.heap.size := by have := hk2.size; (try simp at this); omega
  have hb2 : b < w2.heap.size := by omega
  have c0_hk2 := fun o => hk2.cell (b := w.heap.size) (o := o) (by first | omega | (simp; done) | (simp; omega)) (by first | omega | (simp; done) | (simp; omega)); have z0_hk2 := fun o => hk2.frozen (b := w.heap.size) (o := o) (by first | omega | (simp; done) | (simp; omega)) (by first | omega | (simp; done) | (simp; omega))
  rw [H3'.out]
  go_wp2_with fail
  refine (tok_fail _ _).mono ?_
  rintro e w3 ⟨rfl, rfl⟩
  exact ⟨rfl, RPost.mkE rfl rfl (by (repeat' (first | with_reducible exact hK2 | with_reducible refine Keeps.set ?_ (by simp <;> omega) _ | with_reducible refine Keeps.alloc ?_ _ | with_reducible refine Keeps.drewN ?_ _ | with_reducible refine Keeps.drew ?_)))⟩

set_option maxHeartbeats 1000000 in
theorem scalar_x2 {w : World} {b : Nat} {L s : List Int} (p : Int) (h : Rs w b 1 L s) (N0 : (p == 117) = false) (H1 : ¬ hd s = 123) (H3 : ¬ (run isHex 2 s).1 = []) (N4 : 1114111 < number16 (run isHex 2 s).1) :
    Calls Tryz.prog 131 #[.pointer (some ⟨b, 0, none⟩), .int .i64 p] w fun e w' => RPost b 1 L w (.error 3) e w' := by
  have hb := h.lt
  have h0 : w.cell? ⟨b, 0, none⟩ = some (.int .i64 1) := by obtain ⟨_, _, _, h0, _⟩ := h; exact h0
  have H1' := hid H1
  clear H1
  have H3' := hid H3
  clear H3
  go_enter Tryz.func131, Tryz.ntmps131
  go_wp2_with fail
  refine (may_no (h.keep (S := fun k => b < k) (by (repeat' (first | with_reducible exact Keeps.refl _ _ | with_reducible refine Keeps.set ?_ (by simp <;> omega) _ | with_reducible refine Keeps.alloc ?_ _ | with_reducible refine Keeps.drewN ?_ _ | with_reducible refine Keeps.drew ?_))) (fun k hk hn => by omega)) (by omega) (by omega) H1'.out).mono ?_
  rintro e w1 ⟨rfl, q1, rfl⟩
  go_wp2_with fail
  refine (run_calls isHex_enters isHex_calls 2 (by omega) (h.keep (S := fun k => b < k) (by (repeat' (first | with_reducible exact Keeps.refl _ _ | with_reducible refine Keeps.set ?_ (by simp <;> omega) _ | with_reducible refine Keeps.alloc ?_ _ | with_reducible refine Keeps.drewN ?_ _ | with_reducible refine Keeps.drew ?_))) (fun k hk hn => by omega))).mono ?_
  rintro e w2 ⟨⟨A2, c2, rfl, hR2, hc2, hx2⟩, hr2, hk2⟩
  have hK2 : Keeps (But b) w w2 := Keeps.trans (by (repeat' (first | with_reducible exact Keeps.refl _ _ | with_reducible refine Keeps.set ?_ (by simp <;> omega) _ | with_reducible refine Keeps.alloc ?_ _ | with_reducible refine Keeps.drewN ?_ _ | with_reducible refine Keeps.drew ?_))) hk2
  have hs2 : w.heap.size + 1 ≤ w2.heap.size := by have := hk2.size; (try simp at this); omega
  have hb2 : b < w2.heap.size := by omega
  have c0_hk2 := fun o => hk2.cell (b := w.heap.size) (o := o) (by first | omega | (simp; done) | (simp; omega)) (by first | omega | (simp; done) | (simp; omega)); have z0_hk2 := fun o => hk2.frozen (b := w.heap.size) (o := o) (by first | omega | (simp; done) | (simp; omega)) (by first | omega | (simp; done) | (simp; omega))
  have t1 := len_ne H3'.out
  go_wp2_with fail
  refine (number_calls hR2 (run_hexes _ _).1 (by have := (run_hexes 2 s).2; omega)).mono ?_
  rintro e w3 ⟨rfl, rfl⟩
  go_wp2_with fail
  refine (tok_fail _ _).mono ?_
  rintro e w4 ⟨rfl, rfl⟩
  exact ⟨rfl, RPost.mkE rfl rfl (by (repeat' (first | with_reducible exact hK2 | with_reducible refine Keeps.set ?_ (by simp <;> omega) _ | with_reducible refine Keeps.alloc ?_ _ | with_reducible refine Keeps.drewN ?_ _ | with_reducible refine Keeps.drew ?_)))⟩

set_option maxHeartbeats 1000000 in
theorem scalar_x3 {w : World} {b : Nat} {L s : List Int} (p : Int) (h : Rs w b 1 L s) (N0 : (p == 117) = false) (H1 : ¬ hd s = 123) (H3 : ¬ (run isHex 2 s).1 = []) (N4 : ¬ 1114111 < number16 (run isHex 2 s).1) :
    Calls Tryz.prog 131 #[.pointer (some ⟨b, 0, none⟩), .int .i64 p] w fun e w' => RPost b 1 L w (.ok ((point (number16 (run isHex 2 s).1)), (run isHex 2 s).2)) e w' := by
  have hb := h.lt
  have h0 : w.cell? ⟨b, 0, none⟩ = some (.int .i64 1) := by obtain ⟨_, _, _, h0, _⟩ := h; exact h0
  have H1' := hid H1
  clear H1
  have H3' := hid H3
  clear H3
  go_enter Tryz.func131, Tryz.ntmps131
  go_wp2_with fail
  refine (may_no (h.keep (S := fun k => b < k) (by (repeat' (first | with_reducible exact Keeps.refl _ _ | with_reducible refine Keeps.set ?_ (by simp <;> omega) _ | with_reducible refine Keeps.alloc ?_ _ | with_reducible refine Keeps.drewN ?_ _ | with_reducible refine Keeps.drew ?_))) (fun k hk hn => by omega)) (by omega) (by omega) H1'.out).mono ?_
  rintro e w1 ⟨rfl, q1, rfl⟩
  go_wp2_with fail
  refine (run_calls isHex_enters isHex_calls 2 (by omega) (h.keep (S := fun k => b < k) (by (repeat' (first | with_reducible exact Keeps.refl _ _ | with_reducible refine Keeps.set ?_ (by simp <;> omega) _ | with_reducible refine Keeps.alloc ?_ _ | with_reducible refine Keeps.drewN ?_ _ | with_reducible refine Keeps.drew ?_))) (fun k hk hn => by omega))).mono ?_
  rintro e w2 ⟨⟨A2, c2, rfl, hR2, hc2, hx2⟩, hr2, hk2⟩
  have hK2 : Keeps (But b) w w2 := Keeps.trans (by (repeat' (first | with_reducible exact Keeps.refl _ _ | with_reducible refine Keeps.set ?_ (by simp <;> omega) _ | with_reducible refine Keeps.alloc ?_ _ | with_reducible refine Keeps.drewN ?_ _ | with_reducible refine Keeps.drew ?_))) hk2
  have hs2 : w.heap.size + 1 ≤ w2.heap.size := by have := hk2.size; (try simp at this); omega
  have hb2 : b < w2.heap.size := by omega
  have c0_hk2 := fun o => hk2.cell (b := w.heap.size) (o := o) (by first | omega | (simp; done) | (simp; omega)) (by first | omega | (simp; done) | (simp; omega)); have z0_hk2 := fun o => hk2.frozen (b := w.heap.size) (o := o) (by first | omega | (simp; done) | (simp; omega)) (by first | omega | (simp; done) | (simp; omega))
  have t1 := len_ne H3'.out
  go_wp2_with fail
  refine (number_calls hR2 (run_hexes _ _).1 (by have := (run_hexes 2 s).2; omega)).mono ?_
  rintro e w3 ⟨rfl, rfl⟩
  go_wp2_with fail
  refine (point_calls _ _).mono ?_
  rintro e w4 ⟨rfl, hk4⟩
  have hr4 := (hr2.keep (S := fun k => b < k) (by (repeat' (first | with_reducible exact Keeps.refl _ _ | with_reducible refine Keeps.set ?_ (by simp <;> omega) _ | with_reducible refine Keeps.alloc ?_ _ | with_reducible refine Keeps.drewN ?_ _ | with_reducible refine Keeps.drew ?_))) (fun k hk hn => by omega)).keep hk4 (fun _ _ h => h)
  replace hk4 : Keeps (But b) _ w4 := hk4.mono (fun _ h => h.elim)
  have hK4 : Keeps (But b) w w4 := Keeps.trans (by (repeat' (first | with_reducible exact hK2 | with_reducible refine Keeps.set ?_ (by simp <;> omega) _ | with_reducible refine Keeps.alloc ?_ _ | with_reducible refine Keeps.drewN ?_ _ | with_reducible refine Keeps.drew ?_))) hk4
  have hs4 : w.heap.size + 1 ≤ w4.heap.size := by have := hk4.size; (try simp at this); omega
  have hb4 : b < w4.heap.size := by omega
  have c0_hk4 := fun o => hk4.cell (b := w.heap.size) (o := o) (by first | omega | (simp; done) | (simp; omega)) (by first | omega | (simp; done) | (simp; omega)); have z0_hk4 := fun o => hk4.frozen (b := w.heap.size) (o := o) (by first | omega | (simp; done) | (simp; omega)) (by first | omega | (simp; done) | (simp; omega))
  simp only [tkV, point]
  go_wp2_with fail
  refine bodyPost_ret (v := tkV (point (number16 (run isHex 2 s).1))) (by simp [results, Tryz.results131, go_sem, tkV, point, look, again, *]) rfl (RPost.mk (t := (point (number16 (run isHex 2 s).1))) (rfl) rfl (hr4.keep (S := fun k => b < k) ?_ (fun k hk hn => by omega)) ?_)
  · (repeat' (first | with_reducible exact Keeps.refl _ _ | with_reducible refine Keeps.set ?_ (by simp <;> omega) _ | with_reducible refine Keeps.alloc ?_ _ | with_reducible refine Keeps.drewN ?_ _ | with_reducible refine Keeps.drew ?_))
  · (repeat' (first | with_reducible exact hK4 | with_reducible refine Keeps.set ?_ (by simp <;> omega) _ | with_reducible refine Keeps.alloc ?_ _ | with_reducible refine Keeps.drewN ?_ _ | with_reducible refine Keeps.drew ?_))


end Th
end Go.Proofs
