/- The reader of tokens: what stands behind an opening bracket. -/
import Derived.Test.YthjjfgpainleaaaGreatGD

set_option linter.unusedSimpArgs false
set_option linter.unusedVariables false

namespace Go.Proofs
namespace Th
open Go.RowKit

theorem bytes_ne2 {l : List Int} (h : ¬ l = []) : ¬ (bytesOf l).toList = [] := by
  rw [ByteArray.toList_eq]
  simpa [bytesOf] using h
theorem bytes_ne {l : List Int} (h : ¬ l = []) : (bytesOf l).toList.isEmpty = false := by
  have := bytes_ne2 h
  cases e : (bytesOf l).toList with
  | nil => exact absurd e this
  | cons => rfl

set_option maxHeartbeats 1000000 in
theorem open_q0 {w : World} {b : Nat} {L s : List Int}  (h : Rs w b 1 L s) (H1 : ¬ hd s = 63) :
    Calls Tryz.prog 91 #[.pointer (some ⟨b, 0, none⟩)] w fun e w' => RPost b 1 L w (.ok ({ kind := 7, number := 11 }, s)) e w' := by
  have hb := h.lt
  have h0 : w.cell? ⟨b, 0, none⟩ = some (.int .i64 1) := by obtain ⟨_, _, _, h0, _⟩ := h; exact h0
  have H1' := hid H1
  clear H1
  go_enter Tryz.func91, Tryz.ntmps91
  go_wp2_with fail
  refine (may_no (h.keep (S := fun k => b < k) (by (repeat' (first | with_reducible exact Keeps.refl _ _ | with_reducible refine Keeps.set ?_ (by simp <;> omega) _ | with_reducible refine Keeps.alloc ?_ _ | with_reducible refine Keeps.drewN ?_ _ | with_reducible refine Keeps.drew ?_))) (fun k hk hn => by omega)) (by omega) (by omega) H1'.out).mono ?_
  rintro e w1 ⟨rfl, q1, rfl⟩
  go_wp2_with fail
  refine bodyPost_ret (v := tkV { kind := 7, number := 11 }) (by simp [results, Tryz.results91, go_sem, tkV, point, look, again, *]) rfl (RPost.mk (t := { kind := 7, number := 11 }) (rfl) rfl (h.keep (S := fun k => b < k) ?_ (fun k hk hn => by omega)) ?_)
  · (repeat' (first | with_reducible exact Keeps.refl _ _ | with_reducible refine Keeps.set ?_ (by simp <;> omega) _ | with_reducible refine Keeps.alloc ?_ _ | with_reducible refine Keeps.drewN ?_ _ | with_reducible refine Keeps.drew ?_))
  · (repeat' (first | with_reducible exact Keeps.refl _ _ | with_reducible refine Keeps.set ?_ (by simp <;> omega) _ | with_reducible refine Keeps.alloc ?_ _ | with_reducible refine Keeps.drewN ?_ _ | with_reducible refine Keeps.drew ?_))

set_option maxHeartbeats 1000000 in
theorem open_q1 {w : World} {b : Nat} {L s : List Int}  (h : Rs w b 1 L s) (H1 : hd s = 63) (H2 : hd s.tail = 58) :
    Calls Tryz.prog 91 #[.pointer (some ⟨b, 0, none⟩)] w fun e w' => RPost b 1 L w (.ok ({ kind := 7, number := 1 }, s.tail.tail)) e w' := by
  have hb := h.lt
  have h0 : w.cell? ⟨b, 0, none⟩ = some (.int .i64 1) := by obtain ⟨_, _, _, h0, _⟩ := h; exact h0
  have H1' := hid H1
  clear H1
  have H2' := hid H2
  clear H2
  go_enter Tryz.func91, Tryz.ntmps91
  go_wp2_with fail
  refine (may_yes (h.keep (S := fun k => b < k) (by (repeat' (first | with_reducible exact Keeps.refl _ _ | with_reducible refine Keeps.set ?_ (by simp <;> omega) _ | with_reducible refine Keeps.alloc ?_ _ | with_reducible refine Keeps.drewN ?_ _ | with_reducible refine Keeps.drew ?_))) (fun k hk hn => by omega)) (by omega) (by omega) H1'.out).mono ?_
  rintro e w1 ⟨rfl, hr1, hk1⟩
  have hK1 : Keeps (But b) w w1 := Keeps.trans (by (repeat' (first | with_reducible exact Keeps.refl _ _ | with_reducible refine Keeps.set ?_ (by simp <;> omega) _ | with_reducible refine Keeps.alloc ?_ _ | with_reducible refine Keeps.drewN ?_ _ | with_reducible refine Keeps.drew ?_))) hk1
  have hs1 : w.heap.size + 2 ≤ w1.heap.size := by have := hk1.size; (try simp at this); omega
  have hb1 : b < w1.heap.size := by omega
  have c0_hk1 := fun o => hk1.cell (b := w.heap.size) (o := o) (by first | omega | (simp; done) | (simp; omega)) (by first | omega | (simp; done) | (simp; omega)); have z0_hk1 := fun o => hk1.frozen (b := w.heap.size) (o := o) (by first | omega | (simp; done) | (simp; omega)) (by first | omega | (simp; done) | (simp; omega)); have c1_hk1 := fun o => hk1.cell (b := w.heap.size + 1) (o := o) (by first | omega | (simp; done) | (simp; omega)) (by first | omega | (simp; done) | (simp; omega)); have z1_hk1 := fun o => hk1.frozen (b := w.heap.size + 1) (o := o) (by first | omega | (simp; done) | (simp; omega)) (by first | omega | (simp; done) | (simp; omega))
  go_wp2_with fail
  refine (may_yes (hr1.keep (S := fun k => b < k) (by (repeat' (first | with_reducible exact Keeps.refl _ _ | with_reducible refine Keeps.set ?_ (by simp <;> omega) _ | with_reducible refine Keeps.alloc ?_ _ | with_reducible refine Keeps.drewN ?_ _ | with_reducible refine Keeps.drew ?_))) (fun k hk hn => by omega)) (by omega) (by omega) H2'.out).mono ?_
  rintro e w2 ⟨rfl, hr2, hk2⟩
  have hK2 : Keeps (But b) w w2 := Keeps.trans (by (repeat' (first | with_reducible exact hK1 | with_reducible refine Keeps.set ?_ (by simp <;> omega) _ | with_reducible refine Keeps.alloc ?_ _ | with_reducible refine Keeps.drewN ?_ _ | with_reducible refine Keeps.drew ?_))) hk2
  have hs2 : w.heap.size + 2 ≤ w2.heap.size := by have := hk2.size; (try simp at this); omega
  have hb2 : b < w2.heap.size := by omega
  have c0_hk2 := fun o => hk2.cell (b := w.heap.size) (o := o) (by first | omega | (simp; done) | (simp; omega)) (by first | omega | (simp; done) | (simp; omega)); have z0_hk2 := fun o => hk2.frozen (b := w.heap.size) (o := o) (by first | omega | (simp; done) | (simp; omega)) (by first | omega | (simp; done) | (simp; omega)); have c1_hk2 := fun o => hk2.cell (b := w.heap.size + 1) (o := o) (by first | omega | (simp; done) | (simp; omega)) (by first | omega | (simp; done) | (simp; omega)); have z1_hk2 := fun o => hk2.frozen (b := w.heap.size + 1) (o := o) (by first | omega | (simp; done) | (simp; omega)) (by first | omega | (simp; done) | (simp; omega))
  go_wp2_with fail
  refine bodyPost_ret (v := tkV { kind := 7, number := 1 }) (by simp [results, Tryz.results91, go_sem, tkV, point, look, again, *]) rfl (RPost.mk (t := { kind := 7, number := 1 }) (rfl) rfl (hr2.keep (S := fun k => b < k) ?_ (fun k hk hn => by omega)) ?_)
  · (repeat' (first | with_reducible exact Keeps.refl _ _ | with_reducible refine Keeps.set ?_ (by simp <;> omega) _ | with_reducible refine Keeps.alloc ?_ _ | with_reducible refine Keeps.drewN ?_ _ | with_reducible refine Keeps.drew ?_))
  · (repeat' (first | with_reducible exact hK2 | with_reducible refine Keeps.set ?_ (by simp <;> omega) _ | with_reducible refine Keeps.alloc ?_ _ | with_reducible refine Keeps.drewN ?_ _ | with_reducible refine Keeps.drew ?_))

set_option maxHeartbeats 1000000 in
theorem open_q2 {w : World} {b : Nat} {L s : List Int}  (h : Rs w b 1 L s) (H1 : hd s = 63) (H2 : ¬ hd s.tail = 58) (H3 : hd s.tail = 62) :
    Calls Tryz.prog 91 #[.pointer (some ⟨b, 0, none⟩)] w fun e w' => RPost b 1 L w (.ok ({ kind := 7, number := 13 }, s.tail.tail)) e w' := by
  have hb := h.lt
  have h0 : w.cell? ⟨b, 0, none⟩ = some (.int .i64 1) := by obtain ⟨_, _, _, h0, _⟩ := h; exact h0
  have H1' := hid H1
  clear H1
  have H2' := hid H2
  clear H2
  have H3' := hid H3
  clear H3
  go_enter Tryz.func91, Tryz.ntmps91
  go_wp2_with fail
  refine (may_yes (h.keep (S := fun k => b < k) (by (repeat' (first | with_reducible exact Keeps.refl _ _ | with_reducible refine Keeps.set ?_ (by simp <;> omega) _ | with_reducible refine Keeps.alloc ?_ _ | with_reducible refine Keeps.drewN ?_ _ | with_reducible refine Keeps.drew ?_))) (fun k hk hn => by omega)) (by omega) (by omega) H1'.out).mono ?_
  rintro e w1 ⟨rfl, hr1, hk1⟩
  have hK1 : Keeps (But b) w w1 := Keeps.trans (by (repeat' (first | with_reducible exact Keeps.refl _ _ | with_reducible refine Keeps.set ?_ (by simp <;> omega) _ | with_reducible refine Keeps.alloc ?_ _ | with_reducible refine Keeps.drewN ?_ _ | with_reducible refine Keeps.drew ?_))) hk1
  have hs1 : w.heap.size + 2 ≤ w1.heap.size := by have := hk1.size; (try simp at this); omega
  have hb1 : b < w1.heap.size := by omega
  have c0_hk1 := fun o => hk1.cell (b := w.heap.size) (o := o) (by first | omega | (simp; done) | (simp; omega)) (by first | omega | (simp; done) | (simp; omega)); have z0_hk1 := fun o => hk1.frozen (b := w.heap.size) (o := o) (by first | omega | (simp; done) | (simp; omega)) (by first | omega | (simp; done) | (simp; omega)); have c1_hk1 := fun o => hk1.cell (b := w.heap.size + 1) (o := o) (by first | omega | (simp; done) | (simp; omega)) (by first | omega | (simp; done) | (simp; omega)); have z1_hk1 := fun o => hk1.frozen (b := w.heap.size + 1) (o := o) (by first | omega | (simp; done) | (simp; omega)) (by first | omega | (simp; done) | (simp; omega))
  go_wp2_with fail
  refine (may_no (hr1.keep (S := fun k => b < k) (by (repeat' (first | with_reducible exact Keeps.refl _ _ | with_reducible refine Keeps.set ?_ (by simp <;> omega) _ | with_reducible refine Keeps.alloc ?_ _ | with_reducible refine Keeps.drewN ?_ _ | with_reducible refine Keeps.drew ?_))) (fun k hk hn => by omega)) (by omega) (by omega) H2'.out).mono ?_
  rintro e w2 ⟨rfl, q2, rfl⟩
  go_wp2_with fail
  refine (may_yes (hr1.keep (S := fun k => b < k) (by (repeat' (first | with_reducible exact Keeps.refl _ _ | with_reducible refine Keeps.set ?_ (by simp <;> omega) _ | with_reducible refine Keeps.alloc ?_ _ | with_reducible refine Keeps.drewN ?_ _ | with_reducible refine Keeps.drew ?_))) (fun k hk hn => by omega)) (by omega) (by omega) H3'.out).mono ?_
  rintro e w3 ⟨rfl, hr3, hk3⟩
  have hK3 : Keeps (But b) w w3 := Keeps.trans (by (repeat' (first | with_reducible exact hK1 | with_reducible refine Keeps.set ?_ (by simp <;> omega) _ | with_reducible refine Keeps.alloc ?_ _ | with_reducible refine Keeps.drewN ?_ _ | with_reducible refine Keeps.drew ?_))) hk3
  have hs3 : w.heap.size + 2 ≤ w3.heap.size := by have := hk3.size; (try simp at this); omega
  have hb3 : b < w3.heap.size := by omega
  have c0_hk3 := fun o => hk3.cell (b := w.heap.size) (o := o) (by first | omega | (simp; done) | (simp; omega)) (by first | omega | (simp; done) | (simp; omega)); have z0_hk3 := fun o => hk3.frozen (b := w.heap.size) (o := o) (by first | omega | (simp; done) | (simp; omega)) (by first | omega | (simp; done) | (simp; omega)); have c1_hk3 := fun o => hk3.cell (b := w.heap.size + 1) (o := o) (by first | omega | (simp; done) | (simp; omega)) (by first | omega | (simp; done) | (simp; omega)); have z1_hk3 := fun o => hk3.frozen (b := w.heap.size + 1) (o := o) (by first | omega | (simp; done) | (simp; omega)) (by first | omega | (simp; done) | (simp; omega))
  go_wp2_with fail
  refine bodyPost_ret (v := tkV { kind := 7, number := 13 }) (by simp [results, Tryz.results91, go_sem, tkV, point, look, again, *]) rfl (RPost.mk (t := { kind := 7, number := 13 }) (rfl) rfl (hr3.keep (S := fun k => b < k) ?_ (fun k hk hn => by omega)) ?_)
  · (repeat' (first | with_reducible exact Keeps.refl _ _ | with_reducible refine Keeps.set ?_ (by simp <;> omega) _ | with_reducible refine Keeps.alloc ?_ _ | with_reducible refine Keeps.drewN ?_ _ | with_reducible refine Keeps.drew ?_))
  · (repeat' (first | with_reducible exact hK3 | with_reducible refine Keeps.set ?_ (by simp <;> omega) _ | with_reducible refine Keeps.alloc ?_ _ | with_reducible refine Keeps.drewN ?_ _ | with_reducible refine Keeps.drew ?_))

set_option maxHeartbeats 1000000 in
theorem open_q3 {w : World} {b : Nat} {L s : List Int}  (h : Rs w b 1 L s) (H1 : hd s = 63) (H2 : ¬ hd s.tail = 58) (H3 : ¬ hd s.tail = 62) (H4 : hd s.tail = 61) :
    Calls Tryz.prog 91 #[.pointer (some ⟨b, 0, none⟩)] w fun e w' => RPost b 1 L w (.ok ({ kind := 7, number := 14 }, s.tail.tail)) e w' := by
  have hb := h.lt
  have h0 : w.cell? ⟨b, 0, none⟩ = some (.int .i64 1) := by obtain ⟨_, _, _, h0, _⟩ := h; exact h0
  have H1' := hid H1
  clear H1
  have H2' := hid H2
  clear H2
  have H3' := hid H3
  clear H3
  have H4' := hid H4
  clear H4
  go_enter Tryz.func91, Tryz.ntmps91
  go_wp2_with fail
  refine (may_yes (h.keep (S := fun k => b < k) (by (repeat' (first | with_reducible exact Keeps.refl _ _ | with_reducible refine Keeps.set ?_ (by simp <;> omega) _ | with_reducible refine Keeps.alloc ?_ _ | with_reducible refine Keeps.drewN ?_ _ | with_reducible refine Keeps.drew ?_))) (fun k hk hn => by omega)) (by omega) (by omega) H1'.out).mono ?_
  rintro e w1 ⟨rfl, hr1, hk1⟩
  have hK1 : Keeps (But b) w w1 := Keeps.trans (by (repeat' (first | with_reducible exact Keeps.refl _ _ | with_reducible refine Keeps.set ?_ (by simp <;> omega) _ | with_reducible refine Keeps.alloc ?_ _ | with_reducible refine Keeps.drewN ?_ _ | with_reducible refine Keeps.drew ?_))) hk1
  have hs1 : w.heap.size + 2 ≤ w1.heap.size := by have := hk1.size; (try simp at this); omega
  have hb1 : b < w1.heap.size := by omega
  have c0_hk1 := fun o => hk1.cell (b := w.heap.size) (o := o) (by first | omega | (simp; done) | (simp; omega)) (by first | omega | (simp; done) | (simp; omega)); have z0_hk1 := fun o => hk1.frozen (b := w.heap.size) (o := o) (by first | omega | (simp; done) | (simp; omega)) (by first | omega | (simp; done) | (simp; omega)); have c1_hk1 := fun o => hk1.cell (b := w.heap.size + 1) (o := o) (by first | omega | (simp; done) | (simp; omega)) (by first | omega | (simp; done) | (simp; omega)); have z1_hk1 := fun o => hk1.frozen (b := w.heap.size + 1) (o := o) (by first | omega | (simp; done) | (simp; omega)) (by first | omega | (simp; done) | (simp; omega))
  go_wp2_with fail
  refine (may_no (hr1.keep (S := fun k => b < k) (by (repeat' (first | with_reducible exact Keeps.refl _ _ | with_reducible refine Keeps.set ?_ (by simp <;> omega) _ | with_reducible refine Keeps.alloc ?_ _ | with_reducible refine Keeps.drewN ?_ _ | with_reducible refine Keeps.drew ?_))) (fun k hk hn => by omega)) (by omega) (by omega) H2'.out).mono ?_
  rintro e w2 ⟨rfl, q2, rfl⟩
  go_wp2_with fail
  refine (may_no (hr1.keep (S := fun k => b < k) (by (repeat' (first | with_reducible exact Keeps.refl _ _ | with_reducible refine Keeps.set ?_ (by simp <;> omega) _ | with_reducible refine Keeps.alloc ?_ _ | with_reducible refine Keeps.drewN ?_ _ | with_reducible refine Keeps.drew ?_))) (fun k hk hn => by omega)) (by omega) (by omega) H3'.out).mono ?_
  rintro e w3 ⟨rfl, q3, rfl⟩
  go_wp2_with fail
  refine (may_yes (hr1.keep (S := fun k => b < k) (by (repeat' (first | with_reducible exact Keeps.refl _ _ | with_reducible refine Keeps.set ?_ (by simp <;> omega) _ | with_reducible refine Keeps.alloc ?_ _ | with_reducible refine Keeps.drewN ?_ _ | with_reducible refine Keeps.drew ?_))) (fun k hk hn => by omega)) (by omega) (by omega) H4'.out).mono ?_
  rintro e w4 ⟨rfl, hr4, hk4⟩
  have hK4 : Keeps (But b) w w4 := Keeps.trans (by (repeat' (first | with_reducible exact hK1 | with_reducible refine Keeps.set ?_ (by simp <;> omega) _ | with_reducible refine Keeps.alloc ?_ _ | with_reducible refine Keeps.drewN ?_ _ | with_reducible refine Keeps.drew ?_))) hk4
  have hs4 : w.heap.size + 2 ≤ w4.heap.size := by have := hk4.size; (try simp at this); omega
  have hb4 : b < w4.heap.size := by omega
  have c0_hk4 := fun o => hk4.cell (b := w.heap.size) (o := o) (by first | omega | (simp; done) | (simp; omega)) (by first | omega | (simp; done) | (simp; omega)); have z0_hk4 := fun o => hk4.frozen (b := w.heap.size) (o := o) (by first | omega | (simp; done) | (simp; omega)) (by first | omega | (simp; done) | (simp; omega)); have c1_hk4 := fun o => hk4.cell (b := w.heap.size + 1) (o := o) (by first | omega | (simp; done) | (simp; omega)) (by first | omega | (simp; done) | (simp; omega)); have z1_hk4 := fun o => hk4.frozen (b := w.heap.size + 1) (o := o) (by first | omega | (simp; done) | (simp; omega)) (by first | omega | (simp; done) | (simp; omega))
  go_wp2_with fail
  refine bodyPost_ret (v := tkV { kind := 7, number := 14 }) (by simp [results, Tryz.results91, go_sem, tkV, point, look, again, *]) rfl (RPost.mk (t := { kind := 7, number := 14 }) (rfl) rfl (hr4.keep (S := fun k => b < k) ?_ (fun k hk hn => by omega)) ?_)
  · (repeat' (first | with_reducible exact Keeps.refl _ _ | with_reducible refine Keeps.set ?_ (by simp <;> omega) _ | with_reducible refine Keeps.alloc ?_ _ | with_reducible refine Keeps.drewN ?_ _ | with_reducible refine Keeps.drew ?_))
  · (repeat' (first | with_reducible exact hK4 | with_reducible refine Keeps.set ?_ (by simp <;> omega) _ | with_reducible refine Keeps.alloc ?_ _ | with_reducible refine Keeps.drewN ?_ _ | with_reducible refine Keeps.drew ?_))

set_option maxHeartbeats 1000000 in
theorem open_q4 {w : World} {b : Nat} {L s : List Int}  (h : Rs w b 1 L s) (H1 : hd s = 63) (H2 : ¬ hd s.tail = 58) (H3 : ¬ hd s.tail = 62) (H4 : ¬ hd s.tail = 61) (H5 : hd s.tail = 33) :
    Calls Tryz.prog 91 #[.pointer (some ⟨b, 0, none⟩)] w fun e w' => RPost b 1 L w (.ok ({ kind := 7, number := 15 }, s.tail.tail)) e w' := by
  have hb := h.lt
  have h0 : w.cell? ⟨b, 0, none⟩ = some (.int .i64 1) := by obtain ⟨_, _, _, h0, _⟩ := h; exact h0
  have H1' := hid H1
  clear H1
  have H2' := hid H2
  clear H2
  have H3' := hid H3
  clear H3
  have H4' := hid H4
  clear H4
  have H5' := hid H5
  clear H5
  go_enter Tryz.func91, Tryz.ntmps91
  go_wp2_with fail
  refine (may_yes (h.keep (S := fun k => b < k) (by (repeat' (first | with_reducible exact Keeps.refl _ _ | with_reducible refine Keeps.set ?_ (by simp <;> omega) _ | with_reducible refine Keeps.alloc ?_ _ | with_reducible refine Keeps.drewN ?_ _ | with_reducible refine Keeps.drew ?_))) (fun k hk hn => by omega)) (by omega) (by omega) H1'.out).mono ?_
  rintro e w1 ⟨rfl, hr1, hk1⟩
  have hK1 : Keeps (But b) w w1 := Keeps.trans (by (repeat' (first | with_reducible exact Keeps.refl _ _ | with_reducible refine Keeps.set ?_ (by simp <;> omega) _ | with_reducible refine Keeps.alloc ?_ _ | with_reducible refine Keeps.drewN ?_ _ | with_reducible refine Keeps.drew ?_))) hk1
  have hs1 : w.heap.size + 2 ≤ w1.heap.size := by have := hk1.size; (try simp at this); omega
  have hb1 : b < w1.heap.size := by omega
  have c0_hk1 := fun o => hk1.cell (b := w.heap.size) (o := o) (by first | omega | (simp; done) | (simp; omega)) (by first | omega | (simp; done) | (simp; omega)); have z0_hk1 := fun o => hk1.frozen (b := w.heap.size) (o := o) (by first | omega | (simp; done) | (simp; omega)) (by first | omega | (simp; done) | (simp; omega)); have c1_hk1 := fun o => hk1.cell (b := w.heap.size + 1) (o := o) (by first | omega | (simp; done) | (simp; omega)) (by first | omega | (simp; done) | (simp; omega)); have z1_hk1 := fun o => hk1.frozen (b := w.heap.size + 1) (o := o) (by first | omega | (simp; done) | (simp; omega)) (by first | omega | (simp; done) | (simp; omega))
  go_wp2_with fail
  refine (may_no (hr1.keep (S := fun k => b < k) (by (repeat' (first | with_reducible exact Keeps.refl _ _ | with_reducible refine Keeps.set ?_ (by simp <;> omega) _ | with_reducible refine Keeps.alloc ?_ _ | with_reducible refine Keeps.drewN ?_ _ | with_reducible refine Keeps.drew ?_))) (fun k hk hn => by omega)) (by omega) (by omega) H2'.out).mono ?_
  rintro e w2 ⟨rfl, q2, rfl⟩
  go_wp2_with fail
  refine (may_no (hr1.keep (S := fun k => b < k) (by (repeat' (first | with_reducible exact Keeps.refl _ _ | with_reducible refine Keeps.set ?_ (by simp <;> omega) _ | with_reducible refine Keeps.alloc ?_ _ | with_reducible refine Keeps.drewN ?_ _ | with_reducible refine Keeps.drew ?_))) (fun k hk hn => by omega)) (by omega) (by omega) H3'.out).mono ?_
  rintro e w3 ⟨rfl, q3, rfl⟩
  go_wp2_with fail
  refine (may_no (hr1.keep (S := fun k => b < k) (by (repeat' (first | with_reducible exact Keeps.refl _ _ | with_reducible refine Keeps.set ?_ (by simp <;> omega) _ | with_reducible refine Keeps.alloc ?_ _ | with_reducible refine Keeps.drewN ?_ _ | with_reducible refine Keeps.drew ?_))) (fun k hk hn => by omega)) (by omega) (by omega) H4'.out).mono ?_
  rintro e w4 ⟨rfl, q4, rfl⟩
  go_wp2_with fail
  refine (may_yes (hr1.keep (S := fun k => b < k) (by (repeat' (first | with_reducible exact Keeps.refl _ _ | with_reducible refine Keeps.set ?_ (by simp <;> omega) _ | with_reducible refine Keeps.alloc ?_ _ | with_reducible refine Keeps.drewN ?_ _ | with_reducible refine Keeps.drew ?_))) (fun k hk hn => by omega)) (by omega) (by omega) H5'.out).mono ?_
  rintro e w5 ⟨rfl, hr5, hk5⟩
  have hK5 : Keeps (But b) w w5 := Keeps.trans (by (repeat' (first | with_reducible exact hK1 | with_reducible refine Keeps.set ?_ (by simp <;> omega) _ | with_reducible refine Keeps.alloc ?_ _ | with_reducible refine Keeps.drewN ?_ _ | with_reducible refine Keeps.drew ?_))) hk5
  have hs5 : w.heap.size + 2 ≤ w5.heap.size := by have := hk5.size; (try simp at this); omega
  have hb5 : b < w5.heap.size := by omega
  have c0_hk5 := fun o => hk5.cell (b := w.heap.size) (o := o) (by first | omega | (simp; done) | (simp; omega)) (by first | omega | (simp; done) | (simp; omega)); have z0_hk5 := fun o => hk5.frozen (b := w.heap.size) (o := o) (by first | omega | (simp; done) | (simp; omega)) (by first | omega | (simp; done) | (simp; omega)); have c1_hk5 := fun o => hk5.cell (b := w.heap.size + 1) (o := o) (by first | omega | (simp; done) | (simp; omega)) (by first | omega | (simp; done) | (simp; omega)); have z1_hk5 := fun o => hk5.frozen (b := w.heap.size + 1) (o := o) (by first | omega | (simp; done) | (simp; omega)) (by first | omega | (simp; done) | (simp; omega))
  go_wp2_with fail
  refine bodyPost_ret (v := tkV { kind := 7, number := 15 }) (by simp [results, Tryz.results91, go_sem, tkV, point, look, again, *]) rfl (RPost.mk (t := { kind := 7, number := 15 }) (rfl) rfl (hr5.keep (S := fun k => b < k) ?_ (fun k hk hn => by omega)) ?_)
  · (repeat' (first | with_reducible exact Keeps.refl _ _ | with_reducible refine Keeps.set ?_ (by simp <;> omega) _ | with_reducible refine Keeps.alloc ?_ _ | with_reducible refine Keeps.drewN ?_ _ | with_reducible refine Keeps.drew ?_))
  · (repeat' (first | with_reducible exact hK5 | with_reducible refine Keeps.set ?_ (by simp <;> omega) _ | with_reducible refine Keeps.alloc ?_ _ | with_reducible refine Keeps.drewN ?_ _ | with_reducible refine Keeps.drew ?_))

set_option maxHeartbeats 1000000 in
theorem open_q5 {w : World} {b : Nat} {L s : List Int}  (h : Rs w b 1 L s) (H1 : hd s = 63) (H2 : ¬ hd s.tail = 58) (H3 : ¬ hd s.tail = 62) (H4 : ¬ hd s.tail = 61) (H5 : ¬ hd s.tail = 33) (H6 : hd s.tail = 60) (H7 : hd s.tail.tail = 61) :
    Calls Tryz.prog 91 #[.pointer (some ⟨b, 0, none⟩)] w fun e w' => RPost b 1 L w (.ok ({ kind := 7, number := 16 }, s.tail.tail.tail)) e w' := by
  have hb := h.lt
  have h0 : w.cell? ⟨b, 0, none⟩ = some (.int .i64 1) := by obtain ⟨_, _, _, h0, _⟩ := h; exact h0
  have H1' := hid H1
  clear H1
  have H2' := hid H2
  clear H2
  have H3' := hid H3
  clear H3
  have H4' := hid H4
  clear H4
  have H5' := hid H5
  clear H5
  have H6' := hid H6
  clear H6
  have H7' := hid H7
  clear H7
  go_enter Tryz.func91, Tryz.ntmps91
  go_wp2_with fail
  refine (may_yes (h.keep (S := fun k => b < k) (by (repeat' (first | with_reducible exact Keeps.refl _ _ | with_reducible refine Keeps.set ?_ (by simp <;> omega) _ | with_reducible refine Keeps.alloc ?_ _ | with_reducible refine Keeps.drewN ?_ _ | with_reducible refine Keeps.drew ?_))) (fun k hk hn => by omega)) (by omega) (by omega) H1'.out).mono ?_
  rintro e w1 ⟨rfl, hr1, hk1⟩
  have hK1 : Keeps (But b) w w1 := Keeps.trans (by (repeat' (first | with_reducible exact Keeps.refl _ _ | with_reducible refine Keeps.set ?_ (by simp <;> omega) _ | with_reducible refine Keeps.alloc ?_ _ | with_reducible refine Keeps.drewN ?_ _ | with_reducible refine Keeps.drew ?_))) hk1
  have hs1 : w.heap.size + 2 ≤ w1.heap.size := by have := hk1.size; (try simp at this); omega
  have hb1 : b < w1.heap.size := by omega
  have c0_hk1 := fun o => hk1.cell (b := w.heap.size) (o := o) (by first | omega | (simp; done) | (simp; omega)) (by first | omega | (simp; done) | (simp; omega)); have z0_hk1 := fun o => hk1.frozen (b := w.heap.size) (o := o) (by first | omega | (simp; done) | (simp; omega)) (by first | omega | (simp; done) | (simp; omega)); have c1_hk1 := fun o => hk1.cell (b := w.heap.size + 1) (o := o) (by first | omega | (simp; done) | (simp; omega)) (by first | omega | (simp; done) | (simp; omega)); have z1_hk1 := fun o => hk1.frozen (b := w.heap.size + 1) (o := o) (by first | omega | (simp; done) | (simp; omega)) (by first | omega | (simp; done) | (simp; omega))
  go_wp2_with fail
  refine (may_no (hr1.keep (S := fun k => b < k) (by (repeat' (first | with_reducible exact Keeps.refl _ _ | with_reducible refine Keeps.set ?_ (by simp <;> omega) _ | with_reducible refine Keeps.alloc ?_ _ | with_reducible refine Keeps.drewN ?_ _ | with_reducible refine Keeps.drew ?_))) (fun k hk hn => by omega)) (by omega) (by omega) H2'.out).mono ?_
  rintro e w2 ⟨rfl, q2, rfl⟩
  go_wp2_with fail
  refine (may_no (hr1.keep (S := fun k => b < k) (by (repeat' (first | with_reducible exact Keeps.refl _ _ | with_reducible refine Keeps.set ?_ (by simp <;> omega) _ | with_reducible refine Keeps.alloc ?_ _ | with_reducible refine Keeps.drewN ?_ _ | with_reducible refine Keeps.drew ?_))) (fun k hk hn => by omega)) (by omega) (by omega) H3'.out).mono ?_
  rintro e w3 ⟨rfl, q3, rfl⟩
  go_wp2_with fail
  refine (may_no (hr1.keep (S := fun k => b < k) (by (repeat' (first | with_reducible exact Keeps.refl _ _ | with_reducible refine Keeps.set ?_ (by simp <;> omega) _ | with_reducible refine Keeps.alloc ?_ _ | with_reducible refine Keeps.drewN ?_ _ | with_reducible refine Keeps.drew ?_))) (fun k hk hn => by omega)) (by omega) (by omega) H4'.out).mono ?_
  rintro e w4 ⟨rfl, q4, rfl⟩
  go_wp2_with fail
  refine (may_no (hr1.keep (S := fun k => b < k) (by (repeat' (first | with_reducible exact Keeps.refl _ _ | with_reducible refine Keeps.set ?_ (by simp <;> omega) _ | with_reducible refine Keeps.alloc ?_ _ | with_reducible refine Keeps.drewN ?_ _ | with_reducible refine Keeps.drew ?_))) (fun k hk hn => by omega)) (by omega) (by omega) H5'.out).mono ?_
  rintro e w5 ⟨rfl, q5, rfl⟩
  go_wp2_with fail
  refine (may_yes (hr1.keep (S := fun k => b < k) (by (repeat' (first | with_reducible exact Keeps.refl _ _ | with_reducible refine Keeps.set ?_ (by simp <;> omega) _ | with_reducible refine Keeps.alloc ?_ _ | with_reducible refine Keeps.drewN ?_ _ | with_reducible refine Keeps.drew ?_))) (fun k hk hn => by omega)) (by omega) (by omega) H6'.out).mono ?_
  rintro e w6 ⟨rfl, hr6, hk6⟩
  have hK6 : Keeps (But b) w w6 := Keeps.trans (by (repeat' (first | with_reducible exact hK1 | with_reducible refine Keeps.set ?_ (by simp <;> omega) _ | with_reducible refine Keeps.alloc ?_ _ | with_reducible refine Keeps.drewN ?_ _ | with_reducible refine Keeps.drew ?_))) hk6
  have hs6 : w.heap.size + 2 ≤ w6.heap.size := by have := hk6.size; (try simp at this); omega
  have hb6 : b < w6.heap.size := by omega
  have c0_hk6 := fun o => hk6.cell (b := w.heap.size) (o := o) (by first | omega | (simp; done) | (simp; omega)) (by first | omega | (simp; done) | (simp; omega)); have z0_hk6 := fun o => hk6.frozen (b := w.heap.size) (o := o) (by first | omega | (simp; done) | (simp; omega)) (by first | omega | (simp; done) | (simp; omega)); have c1_hk6 := fun o => hk6.cell (b := w.heap.size + 1) (o := o) (by first | omega | (simp; done) | (simp; omega)) (by first | omega | (simp; done) | (simp; omega)); have z1_hk6 := fun o => hk6.frozen (b := w.heap.size + 1) (o := o) (by first | omega | (simp; done) | (simp; omega)) (by first | omega | (simp; done) | (simp; omega))
  go_wp2_with fail
  refine (may_yes (hr6.keep (S := fun k => b < k) (by (repeat' (first | with_reducible exact Keeps.refl _ _ | with_reducible refine Keeps.set ?_ (by simp <;> omega) _ | with_reducible refine Keeps.alloc ?_ _ | with_reducible refine Keeps.drewN ?_ _ | with_reducible refine Keeps.drew ?_))) (fun k hk hn => by omega)) (by omega) (by omega) H7'.out).mono ?_
  rintro e w7 ⟨rfl, hr7, hk7⟩
  have hK7 : Keeps (But b) w w7 := Keeps.trans (by (repeat' (first | with_reducible exact hK6 | with_reducible refine Keeps.set ?_ (by simp <;> omega) _ | with_reducible refine Keeps.alloc ?_ _ | with_reducible refine Keeps.drewN ?_ _ | with_reducible refine Keeps.drew ?_))) hk7
  have hs7 : w.heap.size + 2 ≤ w7.heap.size := by have := hk7.size; (try simp at this); omega
  have hb7 : b < w7.heap.size := by omega
  have c0_hk7 := fun o => hk7.cell (b := w.heap.size) (o := o) (by first | omega | (simp; done) | (simp; omega)) (by first | omega | (simp; done) | (simp; omega)); have z0_hk7 := fun o => hk7.frozen (b := w.heap.size) (o := o) (by first | omega | (simp; done) | (simp; omega)) (by first | omega | (simp; done) | (simp; omega)); have c1_hk7 := fun o => hk7.cell (b := w.heap.size + 1) (o := o) (by first | omega | (simp; done) | (simp; omega)) (by first | omega | (simp; done) | (simp; omega)); have z1_hk7 := fun o => hk7.frozen (b := w.heap.size + 1) (o := o) (by first | omega | (simp; done) | (simp; omega)) (by first | omega | (simp; done) | (simp; omega))
  go_wp2_with fail
  refine bodyPost_ret (v := tkV { kind := 7, number := 16 }) (by simp [results, Tryz.results91, go_sem, tkV, point, look, again, *]) rfl (RPost.mk (t := { kind := 7, number := 16 }) (rfl) rfl (hr7.keep (S := fun k => b < k) ?_ (fun k hk hn => by omega)) ?_)
  · (repeat' (first | with_reducible exact Keeps.refl _ _ | with_reducible refine Keeps.set ?_ (by simp <;> omega) _ | with_reducible refine Keeps.alloc ?_ _ | with_reducible refine Keeps.drewN ?_ _ | with_reducible refine Keeps.drew ?_))
  · (repeat' (first | with_reducible exact hK7 | with_reducible refine Keeps.set ?_ (by simp <;> omega) _ | with_reducible refine Keeps.alloc ?_ _ | with_reducible refine Keeps.drewN ?_ _ | with_reducible refine Keeps.drew ?_))

set_option maxHeartbeats 1000000 in
theorem open_q6 {w : World} {b : Nat} {L s : List Int}  (h : Rs w b 1 L s) (H1 : hd s = 63) (H2 : ¬ hd s.tail = 58) (H3 : ¬ hd s.tail = 62) (H4 : ¬ hd s.tail = 61) (H5 : ¬ hd s.tail = 33) (H6 : hd s.tail = 60) (H7 : ¬ hd s.tail.tail = 61) (H8 : hd s.tail.tail = 33) :
    Calls Tryz.prog 91 #[.pointer (some ⟨b, 0, none⟩)] w fun e w' => RPost b 1 L w (.ok ({ kind := 7, number := 17 }, s.tail.tail.tail)) e w' := by
  have hb := h.lt
  have h0 : w.cell? ⟨b, 0, none⟩ = some (.int .i64 1) := by obtain ⟨_, _, _, h0, _⟩ := h; exact h0
  have H1' := hid H1
  clear H1
  have H2' := hid H2
  clear H2
  have H3' := hid H3
  clear H3
  have H4' := hid H4
  clear H4
  have H5' := hid H5
  clear H5
  have H6' := hid H6
  clear H6
  have H7' := hid H7
  clear H7
  have H8' := hid H8
  clear H8
  go_enter Tryz.func91, Tryz.ntmps91
  go_wp2_with fail
  refine (may_yes (h.keep (S := fun k => b < k) (by (repeat' (first | with_reducible exact Keeps.refl _ _ | with_reducible refine Keeps.set ?_ (by simp <;> omega) _ | with_reducible refine Keeps.alloc ?_ _ | with_reducible refine Keeps.drewN ?_ _ | with_reducible refine Keeps.drew ?_))) (fun k hk hn => by omega)) (by omega) (by omega) H1'.out).mono ?_
  rintro e w1 ⟨rfl, hr1, hk1⟩
  have hK1 : Keeps (But b) w w1 := Keeps.trans (by (repeat' (first | with_reducible exact Keeps.refl _ _ | with_reducible refine Keeps.set ?_ (by simp <;> omega) _ | with_reducible refine Keeps.alloc ?_ _ | with_reducible refine Keeps.drewN ?_ _ | with_reducible refine Keeps.drew ?_))) hk1
  have hs1 : w.heap.size + 2 ≤ w1.heap.size := by have := hk1.size; (try simp at this); omega
  have hb1 : b < w1.heap.size := by omega
  have c0_hk1 := fun o => hk1.cell (b := w.heap.size) (o := o) (by first | omega | (simp; done) | (simp; omega)) (by first | omega | (simp; done) | (simp; omega)); have z0_hk1 := fun o => hk1.frozen (b := w.heap.size) (o := o) (by first | omega | (simp; done) | (simp; omega)) (by first | omega | (simp; done) | (simp; omega)); have c1_hk1 := fun o => hk1.cell (b := w.heap.size + 1) (o := o) (by first | omega | (simp; done) | (simp; omega)) (by first | omega | (simp; done) | (simp; omega)); have z1_hk1 := fun o => hk1.frozen (b := w.heap.size + 1) (o := o) (by first | omega | (simp; done) | (simp; omega)) (by first | omega | (simp; done) | (simp; omega))
  go_wp2_with fail
  refine (may_no (hr1.keep (S := fun k => b < k) (by (repeat' (first | with_reducible exact Keeps.refl _ _ | with_reducible refine Keeps.set ?_ (by simp <;> omega) _ | with_reducible refine Keeps.alloc ?_ _ | with_reducible refine Keeps.drewN ?_ _ | with_reducible refine Keeps.drew ?_))) (fun k hk hn => by omega)) (by omega) (by omega) H2'.out).mono ?_
  rintro e w2 ⟨rfl, q2, rfl⟩
  go_wp2_with fail
  refine (may_no (hr1.keep (S := fun k => b < k) (by (repeat' (first | with_reducible exact Keeps.refl _ _ | with_reducible refine Keeps.set ?_ (by simp <;> omega) _ | with_reducible refine Keeps.alloc ?_ _ | with_reducible refine Keeps.drewN ?_ _ | with_reducible refine Keeps.drew ?_))) (fun k hk hn => by omega)) (by omega) (by omega) H3'.out).mono ?_
  rintro e w3 ⟨rfl, q3, rfl⟩
  go_wp2_with fail
  refine (may_no (hr1.keep (S := fun k => b < k) (by (repeat' (first | with_reducible exact Keeps.refl _ _ | with_reducible refine Keeps.set ?_ (by simp <;> omega) _ | with_reducible refine Keeps.alloc ?_ _ | with_reducible refine Keeps.drewN ?_ _ | with_reducible refine Keeps.drew ?_))) (fun k hk hn => by omega)) (by omega) (by omega) H4'.out).mono ?_
  rintro e w4 ⟨rfl, q4, rfl⟩
  go_wp2_with fail
  refine (may_no (hr1.keep (S := fun k => b < k) (by (repeat' (first | with_reducible exact Keeps.refl _ _ | with_reducible refine Keeps.set ?_ (by simp <;> omega) _ | with_reducible refine Keeps.alloc ?_ _ | with_reducible refine Keeps.drewN ?_ _ | with_reducible refine Keeps.drew ?_))) (fun k hk hn => by omega)) (by omega) (by omega) H5'.out).mono ?_
  rintro e w5 ⟨rfl, q5, rfl⟩
  go_wp2_with fail
  refine (may_yes (hr1.keep (S := fun k => b < k) (by (repeat' (first | with_reducible exact Keeps.refl _ _ | with_reducible refine Keeps.set ?_ (by simp <;> omega) _ | with_reducible refine Keeps.alloc ?_ _ | with_reducible refine Keeps.drewN ?_ _ | with_reducible refine Keeps.drew ?_))) (fun k hk hn => by omega)) (by omega) (by omega) H6'.out).mono ?_
  rintro e w6 ⟨rfl, hr6, hk6⟩
  have hK6 : Keeps (But b) w w6 := Keeps.trans (by (repeat' (first | with_reducible exact hK1 | with_reducible refine Keeps.set ?_ (by simp <;> omega) _ | with_reducible refine Keeps.alloc ?_ _ | with_reducible refine Keeps.drewN ?_ _ | with_reducible refine Keeps.drew ?_))) hk6
  have hs6 : w.heap.size + 2 ≤ w6.heap.size := by have := hk6.size; (try simp at this); omega
  have hb6 : b < w6.heap.size := by omega
  have c0_hk6 := fun o => hk6.cell (b := w.heap.size) (o := o) (by first | omega | (simp; done) | (simp; omega)) (by first | omega | (simp; done) | (simp; omega)); have z0_hk6 := fun o => hk6.frozen (b := w.heap.size) (o := o) (by first | omega | (simp; done) | (simp; omega)) (by first | omega | (simp; done) | (simp; omega)); have c1_hk6 := fun o => hk6.cell (b := w.heap.size + 1) (o := o) (by first | omega | (simp; done) | (simp; omega)) (by first | omega | (simp; done) | (simp; omega)); have z1_hk6 := fun o => hk6.frozen (b := w.heap.size + 1) (o := o) (by first | omega | (simp; done) | (simp; omega)) (by first | omega | (simp; done) | (simp; omega))
  go_wp2_with fail
  refine (may_no (hr6.keep (S := fun k => b < k) (by (repeat' (first | with_reducible exact Keeps.refl _ _ | with_reducible refine Keeps.set ?_ (by simp <;> omega) _ | with_reducible refine Keeps.alloc ?_ _ | with_reducible refine Keeps.drewN ?_ _ | with_reducible refine Keeps.drew ?_))) (fun k hk hn => by omega)) (by omega) (by omega) H7'.out).mono ?_
  rintro e w7 ⟨rfl, q7, rfl⟩
  go_wp2_with fail
  refine (may_yes (hr6.keep (S := fun k => b < k) (by (repeat' (first | with_reducible exact Keeps.refl _ _ | with_reducible refine Keeps.set ?_ (by simp <;> omega) _ | with_reducible refine Keeps.alloc ?_ _ | with_reducible refine Keeps.drewN ?_ _ | with_reducible refine Keeps.drew ?_))) (fun k hk hn => by omega)) (by omega) (by omega) H8'.out).mono ?_
  rintro e w8 ⟨rfl, hr8, hk8⟩
  have hK8 : Keeps (But b) w w8 := Keeps.trans (by (repeat' (first | with_reducible exact hK6 | with_reducible refine Keeps.set ?_ (by simp <;> omega) _ | with_reducible refine Keeps.alloc ?_ _ | with_reducible refine Keeps.drewN ?_ _ | with_reducible refine Keeps.drew ?_))) hk8
  have hs8 : w.heap.size + 2 ≤ w8.heap.size := by have := hk8.size; (try simp at this); omega
  have hb8 : b < w8.heap.size := by omega
  have c0_hk8 := fun o => hk8.cell (b := w.heap.size) (o := o) (by first | omega | (simp; done) | (simp; omega)) (by first | omega | (simp; done) | (simp; omega)); have z0_hk8 := fun o => hk8.frozen (b := w.heap.size) (o := o) (by first | omega | (simp; done) | (simp; omega)) (by first | omega | (simp; done) | (simp; omega)); have c1_hk8 := fun o => hk8.cell (b := w.heap.size + 1) (o := o) (by first | omega | (simp; done) | (simp; omega)) (by first | omega | (simp; done) | (simp; omega)); have z1_hk8 := fun o => hk8.frozen (b := w.heap.size + 1) (o := o) (by first | omega | (simp; done) | (simp; omega)) (by first | omega | (simp; done) | (simp; omega))
  go_wp2_with fail
  refine bodyPost_ret (v := tkV { kind := 7, number := 17 }) (by simp [results, Tryz.results91, go_sem, tkV, point, look, again, *]) rfl (RPost.mk (t := { kind := 7, number := 17 }) (rfl) rfl (hr8.keep (S := fun k => b < k) ?_ (fun k hk hn => by omega)) ?_)
  · (repeat' (first | with_reducible exact Keeps.refl _ _ | with_reducible refine Keeps.set ?_ (by simp <;> omega) _ | with_reducible refine Keeps.alloc ?_ _ | with_reducible refine Keeps.drewN ?_ _ | with_reducible refine Keeps.drew ?_))
  · (repeat' (first | with_reducible exact hK8 | with_reducible refine Keeps.set ?_ (by simp <;> omega) _ | with_reducible refine Keeps.alloc ?_ _ | with_reducible refine Keeps.drewN ?_ _ | with_reducible refine Keeps.drew ?_))

set_option maxHeartbeats 1000000 in
theorem open_q7 {w : World} {b : Nat} {L s : List Int}  (h : Rs w b 1 L s) (H1 : hd s = 63) (H2 : ¬ hd s.tail = 58) (H3 : ¬ hd s.tail = 62) (H4 : ¬ hd s.tail = 61) (H5 : ¬ hd s.tail = 33) (H6 : hd s.tail = 60) (H7 : ¬ hd s.tail.tail = 61) (H8 : ¬ hd s.tail.tail = 33) (H9 : (nameL s.tail.tail).1 = []) :
    Calls Tryz.prog 91 #[.pointer (some ⟨b, 0, none⟩)] w fun e w' => RPost b 1 L w (.error 1) e w' := by
  have hb := h.lt
  have h0 : w.cell? ⟨b, 0, none⟩ = some (.int .i64 1) := by obtain ⟨_, _, _, h0, _⟩ := h; exact h0
  have H1' := hid H1
  clear H1
  have H2' := hid H2
  clear H2
  have H3' := hid H3
  clear H3
  have H4' := hid H4
  clear H4
  have H5' := hid H5
  clear H5
  have H6' := hid H6
  clear H6
  have H7' := hid H7
  clear H7
  have H8' := hid H8
  clear H8
  have H9' := hid H9
  clear H9
  go_enter Tryz.func91, Tryz.ntmps91
  go_wp2_with fail
  refine (may_yes (h.keep (S := fun k => b < k) (by (repeat' (first | with_reducible exact Keeps.refl _ _ | with_reducible refine Keeps.set ?_ (by simp <;> omega) _ | with_reducible refine Keeps.alloc ?_ _ | with_reducible refine Keeps.drewN ?_ _ | with_reducible refine Keeps.drew ?_))) (fun k hk hn => by omega)) (by omega) (by omega) H1'.out).mono ?_
  rintro e w1 ⟨rfl, hr1, hk1⟩
  have hK1 : Keeps (But b) w w1 := Keeps.trans (by (repeat' (first | with_reducible exact Keeps.refl _ _ | with_reducible refine Keeps.set ?_ (by simp <;> omega) _ | with_reducible refine Keeps.alloc ?_ _ | with_reducible refine Keeps.drewN ?_ _ | with_reducible refine Keeps.drew ?_))) hk1
  have hs1 : w.heap.size + 2 ≤ w1.heap.size := by have := hk1.size; (try simp at this); omega
  have hb1 : b < w1.heap.size := by omega
  have c0_hk1 := fun o => hk1.cell (b := w.heap.size) (o := o) (by first | omega | (simp; done) | (simp; omega)) (by first | omega | (simp; done) | (simp; omega)); have z0_hk1 := fun o => hk1.frozen (b := w.heap.size) (o := o) (by first | omega | (simp; done) | (simp; omega)) (by first | omega | (simp; done) | (simp; omega)); have c1_hk1 := fun o => hk1.cell (b := w.heap.size + 1) (o := o) (by first | omega | (simp; done) | (simp; omega)) (by first | omega | (simp; done) | (simp; omega)); have z1_hk1 := fun o => hk1.frozen (b := w.heap.size + 1) (o := o) (by first | omega | (simp; done) | (simp; omega)) (by first | omega | (simp; done) | (simp; omega))
  go_wp2_with fail
  refine (may_no (hr1.keep (S := fun k => b < k) (by (repeat' (first | with_reducible exact Keeps.refl _ _ | with_reducible refine Keeps.set ?_ (by simp <;> omega) _ | with_reducible refine Keeps.alloc ?_ _ | with_reducible refine Keeps.drewN ?_ _ | with_reducible refine Keeps.drew ?_))) (fun k hk hn => by omega)) (by omega) (by omega) H2'.out).mono ?_
  rintro e w2 ⟨rfl, q2, rfl⟩
  go_wp2_with fail
  refine (may_no (hr1.keep (S := fun k => b < k) (by (repeat' (first | with_reducible exact Keeps.refl _ _ | with_reducible refine Keeps.set ?_ (by simp <;> omega) _ | with_reducible refine Keeps.alloc ?_ _ | with_reducible refine Keeps.drewN ?_ _ | with_reducible refine Keeps.drew ?_))) (fun k hk hn => by omega)) (by omega) (by omega) H3'.out).mono ?_
  rintro e w3 ⟨rfl, q3, rfl⟩
  go_wp2_with fail
  refine (may_no (hr1.keep (S := fun k => b < k) (by (repeat' (first | with_reducible exact Keeps.refl _ _ | with_reducible refine Keeps.set ?_ (by simp <;> omega) _ | with_reducible refine Keeps.alloc ?_ _ | with_reducible refine Keeps.drewN ?_ _ | with_reducible refine Keeps.drew ?_))) (fun k hk hn => by omega)) (by omega) (by omega) H4'.out).mono ?_
  rintro e w4 ⟨rfl, q4, rfl⟩
  go_wp2_with fail
  refine (may_no (hr1.keep (S := fun k => b < k) (by (repeat' (first | with_reducible exact Keeps.refl _ _ | with_reducible refine Keeps.set ?_ (by simp <;> omega) _ | with_reducible refine Keeps.alloc ?_ _ | with_reducible refine Keeps.drewN ?_ _ | with_reducible refine Keeps.drew ?_))) (fun k hk hn => by omega)) (by omega) (by omega) H5'.out).mono ?_
  rintro e w5 ⟨rfl, q5, rfl⟩
  go_wp2_with fail
  refine (may_yes (hr1.keep (S := fun k => b < k) (by (repeat' (first | with_reducible exact Keeps.refl _ _ | with_reducible refine Keeps.set ?_ (by simp <;> omega) _ | with_reducible refine Keeps.alloc ?_ _ | with_reducible refine Keeps.drewN ?_ _ | with_reducible refine Keeps.drew ?_))) (fun k hk hn => by omega)) (by omega) (by omega) H6'.out).mono ?_
  rintro e w6 ⟨rfl, hr6, hk6⟩
  have hK6 : Keeps (But b) w w6 := Keeps.trans (by (repeat' (first | with_reducible exact hK1 | with_reducible refine Keeps.set ?_ (by simp <;> omega) _ | with_reducible refine Keeps.alloc ?_ _ | with_reducible refine Keeps.drewN ?_ _ | with_reducible refine Keeps.drew ?_))) hk6
  have hs6 : w.heap.size + 2 ≤ w6.heap.size := by have := hk6.size; (try simp at this); omega
  have hb6 : b < w6.heap.size := by omega
  have c0_hk6 := fun o => hk6.cell (b := w.heap.size) (o := o) (by first | omega | (simp; done) | (simp; omega)) (by first | omega | (simp; done) | (simp; omega)); have z0_hk6 := fun o => hk6.frozen (b := w.heap.size) (o := o) (by first | omega | (simp; done) | (simp; omega)) (by first | omega | (simp; done) | (simp; omega)); have c1_hk6 := fun o => hk6.cell (b := w.heap.size + 1) (o := o) (by first | omega | (simp; done) | (simp; omega)) (by first | omega | (simp; done) | (simp; omega)); have z1_hk6 := fun o => hk6.frozen (b := w.heap.size + 1) (o := o) (by first | omega | (simp; done) | (simp; omega)) (by first | omega | (simp; done) | (simp; omega))
  go_wp2_with fail
  refine (may_no (hr6.keep (S := fun k => b < k) (by (repeat' (first | with_reducible exact Keeps.refl _ _ | with_reducible refine Keeps.set ?_ (by simp <;> omega) _ | with_reducible refine Keeps.alloc ?_ _ | with_reducible refine Keeps.drewN ?_ _ | with_reducible refine Keeps.drew ?_))) (fun k hk hn => by omega)) (by omega) (by omega) H7'.out).mono ?_
  rintro e w7 ⟨rfl, q7, rfl⟩
  go_wp2_with fail
  refine (may_no (hr6.keep (S := fun k => b < k) (by (repeat' (first | with_reducible exact Keeps.refl _ _ | with_reducible refine Keeps.set ?_ (by simp <;> omega) _ | with_reducible refine Keeps.alloc ?_ _ | with_reducible refine Keeps.drewN ?_ _ | with_reducible refine Keeps.drew ?_))) (fun k hk hn => by omega)) (by omega) (by omega) H8'.out).mono ?_
  rintro e w8 ⟨rfl, q8, rfl⟩
  go_wp2_with fail
  refine (name_calls (hr6.keep (S := fun k => b < k) (by (repeat' (first | with_reducible exact Keeps.refl _ _ | with_reducible refine Keeps.set ?_ (by simp <;> omega) _ | with_reducible refine Keeps.alloc ?_ _ | with_reducible refine Keeps.drewN ?_ _ | with_reducible refine Keeps.drew ?_))) (fun k hk hn => by omega))).mono ?_
  rintro e w9 ⟨rfl, hr9, hk9⟩
  have hK9 : Keeps (But b) w w9 := Keeps.trans (by (repeat' (first | with_reducible exact hK6 | with_reducible refine Keeps.set ?_ (by simp <;> omega) _ | with_reducible refine Keeps.alloc ?_ _ | with_reducible refine Keeps.drewN ?_ _ | with_reducible refine Keeps.drew ?_))) hk9
  have hs9 : w.heap.size + 2 ≤ w9.heap.size := by have := hk9.size; (try simp at this); omega
  have hb9 : b < w9.heap.size := by omega
  have c0_hk9 := fun o => hk9.cell (b := w.heap.size) (o := o) (by first | omega | (simp; done) | (simp; omega)) (by first | omega | (simp; done) | (simp; omega)); have z0_hk9 := fun o => hk9.frozen (b := w.heap.size) (o := o) (by first | omega | (simp; done) | (simp; omega)) (by first | omega | (simp; done) | (simp; omega)); have c1_hk9 := fun o => hk9.cell (b := w.heap.size + 1) (o := o) (by first | omega | (simp; done) | (simp; omega)) (by first | omega | (simp; done) | (simp; omega)); have z1_hk9 := fun o => hk9.frozen (b := w.heap.size + 1) (o := o) (by first | omega | (simp; done) | (simp; omega)) (by first | omega | (simp; done) | (simp; omega))
  rw [H9'.out]; have tb : bytesOf [] = ⟨#[]⟩ := rfl; rw [tb]
  go_wp2_with fail
  refine (tok_fail _ _).mono ?_
  rintro e w10 ⟨rfl, rfl⟩
  exact ⟨rfl, RPost.mkE rfl rfl (by (repeat' (first | with_reducible exact hK9 | with_reducible refine Keeps.set ?_ (by simp <;> omega) _ | with_reducible refine Keeps.alloc ?_ _ | with_reducible refine Keeps.drewN ?_ _ | with_reducible refine Keeps.drew ?_)))⟩

set_option maxHeartbeats 1000000 in
theorem open_q8 {w : World} {b : Nat} {L s : List Int}  (h : Rs w b 1 L s) (H1 : hd s = 63) (H2 : ¬ hd s.tail = 58) (H3 : ¬ hd s.tail = 62) (H4 : ¬ hd s.tail = 61) (H5 : ¬ hd s.tail = 33) (H6 : hd s.tail = 60) (H7 : ¬ hd s.tail.tail = 61) (H8 : ¬ hd s.tail.tail = 33) (H9 : ¬ (nameL s.tail.tail).1 = []) (H10 : hd (nameL s.tail.tail).2 = 62) :
    Calls Tryz.prog 91 #[.pointer (some ⟨b, 0, none⟩)] w fun e w' => RPost b 1 L w (.ok ({ kind := 7, number := 11, text := bytesOf (nameL s.tail.tail).1 }, (nameL s.tail.tail).2.tail)) e w' := by
  have hb := h.lt
  have h0 : w.cell? ⟨b, 0, none⟩ = some (.int .i64 1) := by obtain ⟨_, _, _, h0, _⟩ := h; exact h0
  have H1' := hid H1
  clear H1
  have H2' := hid H2
  clear H2
  have H3' := hid H3
  clear H3
  have H4' := hid H4
  clear H4
  have H5' := hid H5
  clear H5
  have H6' := hid H6
  clear H6
  have H7' := hid H7
  clear H7
  have H8' := hid H8
  clear H8
  have H9' := hid H9
  clear H9
  have H10' := hid H10
  clear H10
  go_enter Tryz.func91, Tryz.ntmps91
  go_wp2_with fail
  refine (may_yes (h.keep (S := fun k => b < k) (by (repeat' (first | with_reducible exact Keeps.refl _ _ | with_reducible refine Keeps.set ?_ (by simp <;> omega) _ | with_reducible refine Keeps.alloc ?_ _ | with_reducible refine Keeps.drewN ?_ _ | with_reducible refine Keeps.drew ?_))) (fun k hk hn => by omega)) (by omega) (by omega) H1'.out).mono ?_
  rintro e w1 ⟨rfl, hr1, hk1⟩
  have hK1 : Keeps (But b) w w1 := Keeps.trans (by (repeat' (first | with_reducible exact Keeps.refl _ _ | with_reducible refine Keeps.set ?_ (by simp <;> omega) _ | with_reducible refine Keeps.alloc ?_ _ | with_reducible refine Keeps.drewN ?_ _ | with_reducible refine Keeps.drew ?_))) hk1
  have hs1 : w.heap.size + 2 ≤ w1.heap.size := by have := hk1.size; (try simp at this); omega
  have hb1 : b < w1.heap.size := by omega
  have c0_hk1 := fun o => hk1.cell (b := w.heap.size) (o := o) (by first | omega | (simp; done) | (simp; omega)) (by first | omega | (simp; done) | (simp; omega)); have z0_hk1 := fun o => hk1.frozen (b := w.heap.size) (o := o) (by first | omega | (simp; done) | (simp; omega)) (by first | omega | (simp; done) | (simp; omega)); have c1_hk1 := fun o => hk1.cell (b := w.heap.size + 1) (o := o) (by first | omega | (simp; done) | (simp; omega)) (by first | omega | (simp; done) | (simp; omega)); have z1_hk1 := fun o => hk1.frozen (b := w.heap.size + 1) (o := o) (by first | omega | (simp; done) | (simp; omega)) (by first | omega | (simp; done) | (simp; omega))
  go_wp2_with fail
  refine (may_no (hr1.keep (S := fun k => b < k) (by (repeat' (first | with_reducible exact Keeps.refl _ _ | with_reducible refine Keeps.set ?_ (by simp <;> omega) _ | with_reducible refine Keeps.alloc ?_ _ | with_reducible refine Keeps.drewN ?_ _ | with_reducible refine Keeps.drew ?_))) (fun k hk hn => by omega)) (by omega) (by omega) H2'.out).mono ?_
  rintro e w2 ⟨rfl, q2, rfl⟩
  go_wp2_with fail
  refine (may_no (hr1.keep (S := fun k => b < k) (by (repeat' (first | with_reducible exact Keeps.refl _ _ | with_reducible refine Keeps.set ?_ (by simp <;> omega) _ | with_reducible refine Keeps.alloc ?_ _ | with_reducible refine Keeps.drewN ?_ _ | with_reducible refine Keeps.drew ?_))) (fun k hk hn => by omega)) (by omega) (by omega) H3'.out).mono ?_
  rintro e w3 ⟨rfl, q3, rfl⟩
  go_wp2_with fail
  refine (may_no (hr1.keep (S := fun k => b < k) (by (repeat' (first | with_reducible exact Keeps.refl _ _ | with_reducible refine Keeps.set ?_ (by simp <;> omega) _ | with_reducible refine Keeps.alloc ?_ _ | with_reducible refine Keeps.drewN ?_ _ | with_reducible refine Keeps.drew ?_))) (fun k hk hn => by omega)) (by omega) (by omega) H4'.out).mono ?_
  rintro e w4 ⟨rfl, q4, rfl⟩
  go_wp2_with fail
  refine (may_no (hr1.keep (S := fun k => b < k) (by (repeat' (first | with_reducible exact Keeps.refl _ _ | with_reducible refine Keeps.set ?_ (by simp <;> omega) _ | with_reducible refine Keeps.alloc ?_ _ | with_reducible refine Keeps.drewN ?_ _ | with_reducible refine Keeps.drew ?_))) (fun k hk hn => by omega)) (by omega) (by omega) H5'.out).mono ?_
  rintro e w5 ⟨rfl, q5, rfl⟩
  go_wp2_with fail
  refine (may_yes (hr1.keep (S := fun k => b < k) (by (repeat' (first | with_reducible exact Keeps.refl _ _ | with_reducible refine Keeps.set ?_ (by simp <;> omega) _ | with_reducible refine Keeps.alloc ?_ _ | with_reducible refine Keeps.drewN ?_ _ | with_reducible refine Keeps.drew ?_))) (fun k hk hn => by omega)) (by omega) (by omega) H6'.out).mono ?_
  rintro e w6 ⟨rfl, hr6, hk6⟩
  have hK6 : Keeps (But b) w w6 := Keeps.trans (by (repeat' (first | with_reducible exact hK1 | with_reducible refine Keeps.set ?_ (by simp <;> omega) _ | with_reducible refine Keeps.alloc ?_ _ | with_reducible refine Keeps.drewN ?_ _ | with_reducible refine Keeps.drew ?_))) hk6
  have hs6 : w.heap.size + 2 ≤ w6.heap.size := by have := hk6.size; (try simp at this); omega
  have hb6 : b < w6.heap.size := by omega
  have c0_hk6 := fun o => hk6.cell (b := w.heap.size) (o := o) (by first | omega | (simp; done) | (simp; omega)) (by first | omega | (simp; done) | (simp; omega)); have z0_hk6 := fun o => hk6.frozen (b := w.heap.size) (o := o) (by first | omega | (simp; done) | (simp; omega)) (by first | omega | (simp; done) | (simp; omega)); have c1_hk6 := fun o => hk6.cell (b := w.heap.size + 1) (o := o) (by first | omega | (simp; done) | (simp; omega)) (by first | omega | (simp; done) | (simp; omega)); have z1_hk6 := fun o => hk6.frozen (b := w.heap.size + 1) (o := o) (by first | omega | (simp; done) | (simp; omega)) (by first | omega | (simp; done) | (simp; omega))
  go_wp2_with fail
  refine (may_no (hr6.keep (S := fun k => b < k) (by (repeat' (first | with_reducible exact Keeps.refl _ _ | with_reducible refine Keeps.set ?_ (by simp <;> omega) _ | with_reducible refine Keeps.alloc ?_ _ | with_reducible refine Keeps.drewN ?_ _ | with_reducible refine Keeps.drew ?_))) (fun k hk hn => by omega)) (by omega) (by omega) H7'.out).mono ?_
  rintro e w7 ⟨rfl, q7, rfl⟩
  go_wp2_with fail
  refine (may_no (hr6.keep (S := fun k => b < k) (by (repeat' (first | with_reducible exact Keeps.refl _ _ | with_reducible refine Keeps.set ?_ (by simp <;> omega) _ | with_reducible refine Keeps.alloc ?_ _ | with_reducible refine Keeps.drewN ?_ _ | with_reducible refine Keeps.drew ?_))) (fun k hk hn => by omega)) (by omega) (by omega) H8'.out).mono ?_
  rintro e w8 ⟨rfl, q8, rfl⟩
  go_wp2_with fail
  refine (name_calls (hr6.keep (S := fun k => b < k) (by (repeat' (first | with_reducible exact Keeps.refl _ _ | with_reducible refine Keeps.set ?_ (by simp <;> omega) _ | with_reducible refine Keeps.alloc ?_ _ | with_reducible refine Keeps.drewN ?_ _ | with_reducible refine Keeps.drew ?_))) (fun k hk hn => by omega))).mono ?_
  rintro e w9 ⟨rfl, hr9, hk9⟩
  have hK9 : Keeps (But b) w w9 := Keeps.trans (by (repeat' (first | with_reducible exact hK6 | with_reducible refine Keeps.set ?_ (by simp <;> omega) _ | with_reducible refine Keeps.alloc ?_ _ | with_reducible refine Keeps.drewN ?_ _ | with_reducible refine Keeps.drew ?_))) hk9
  have hs9 : w.heap.size + 2 ≤ w9.heap.size := by have := hk9.size; (try simp at this); omega
  have hb9 : b < w9.heap.size := by omega
  have c0_hk9 := fun o => hk9.cell (b := w.heap.size) (o := o) (by first | omega | (simp; done) | (simp; omega)) (by first | omega | (simp; done) | (simp; omega)); have z0_hk9 := fun o => hk9.frozen (b := w.heap.size) (o := o) (by first | omega | (simp; done) | (simp; omega)) (by first | omega | (simp; done) | (simp; omega)); have c1_hk9 := fun o => hk9.cell (b := w.heap.size + 1) (o := o) (by first | omega | (simp; done) | (simp; omega)) (by first | omega | (simp; done) | (simp; omega)); have z1_hk9 := fun o => hk9.frozen (b := w.heap.size + 1) (o := o) (by first | omega | (simp; done) | (simp; omega)) (by first | omega | (simp; done) | (simp; omega))
  have t1 := bytes_ne H9'.out; have t2 := bytes_ne2 H9'.out
  go_wp2_with fail
  refine (must_yes (hr9.keep (S := fun k => b < k) (by (repeat' (first | with_reducible exact Keeps.refl _ _ | with_reducible refine Keeps.set ?_ (by simp <;> omega) _ | with_reducible refine Keeps.alloc ?_ _ | with_reducible refine Keeps.drewN ?_ _ | with_reducible refine Keeps.drew ?_))) (fun k hk hn => by omega)) (by omega) (by omega) H10'.out).mono ?_
  rintro e w10 ⟨rfl, hr10, hk10⟩
  have hK10 : Keeps (But b) w w10 := Keeps.trans (by (repeat' (first | with_reducible exact hK9 | with_reducible refine Keeps.set ?_ (by simp <;> omega) _ | with_reducible refine Keeps.alloc ?_ _ | with_reducible refine Keeps.drewN ?_ _ | with_reducible refine Keeps.drew ?_))) hk10
  have hs10 : w.heap.size + 2 ≤ w10.heap.size := by have := hk10.size; (try simp at this); omega
  have hb10 : b < w10.heap.size := by omega
  have c0_hk10 := fun o => hk10.cell (b := w.heap.size) (o := o) (by first | omega | (simp; done) | (simp; omega)) (by first | omega | (simp; done) | (simp; omega)); have z0_hk10 := fun o => hk10.frozen (b := w.heap.size) (o := o) (by first | omega | (simp; done) | (simp; omega)) (by first | omega | (simp; done) | (simp; omega)); have c1_hk10 := fun o => hk10.cell (b := w.heap.size + 1) (o := o) (by first | omega | (simp; done) | (simp; omega)) (by first | omega | (simp; done) | (simp; omega)); have z1_hk10 := fun o => hk10.frozen (b := w.heap.size + 1) (o := o) (by first | omega | (simp; done) | (simp; omega)) (by first | omega | (simp; done) | (simp; omega))
  go_wp2_with fail
  refine bodyPost_ret (v := tkV { kind := 7, number := 11, text := bytesOf (nameL s.tail.tail).1 }) (by simp [results, Tryz.results91, go_sem, tkV, point, look, again, *]) rfl (RPost.mk (t := { kind := 7, number := 11, text := bytesOf (nameL s.tail.tail).1 }) (rfl) rfl (hr10.keep (S := fun k => b < k) ?_ (fun k hk hn => by omega)) ?_)
  · (repeat' (first | with_reducible exact Keeps.refl _ _ | with_reducible refine Keeps.set ?_ (by simp <;> omega) _ | with_reducible refine Keeps.alloc ?_ _ | with_reducible refine Keeps.drewN ?_ _ | with_reducible refine Keeps.drew ?_))
  · (repeat' (first | with_reducible exact hK10 | with_reducible refine Keeps.set ?_ (by simp <;> omega) _ | with_reducible refine Keeps.alloc ?_ _ | with_reducible refine Keeps.drewN ?_ _ | with_reducible refine Keeps.drew ?_))

set_option maxHeartbeats 1000000 in
theorem open_q9 {w : World} {b : Nat} {L s : List Int}  (h : Rs w b 1 L s) (H1 : hd s = 63) (H2 : ¬ hd s.tail = 58) (H3 : ¬ hd s.tail = 62) (H4 : ¬ hd s.tail = 61) (H5 : ¬ hd s.tail = 33) (H6 : hd s.tail = 60) (H7 : ¬ hd s.tail.tail = 61) (H8 : ¬ hd s.tail.tail = 33) (H9 : ¬ (nameL s.tail.tail).1 = []) (H10 : ¬ hd (nameL s.tail.tail).2 = 62) :
    Calls Tryz.prog 91 #[.pointer (some ⟨b, 0, none⟩)] w fun e w' => RPost b 1 L w (.error 1) e w' := by
  have hb := h.lt
  have h0 : w.cell? ⟨b, 0, none⟩ = some (.int .i64 1) := by obtain ⟨_, _, _, h0, _⟩ := h; exact h0
  have H1' := hid H1
  clear H1
  have H2' := hid H2
  clear H2
  have H3' := hid H3
  clear H3
  have H4' := hid H4
  clear H4
  have H5' := hid H5
  clear H5
  have H6' := hid H6
  clear H6
  have H7' := hid H7
  clear H7
  have H8' := hid H8
  clear H8
  have H9' := hid H9
  clear H9
  have H10' := hid H10
  clear H10
  go_enter Tryz.func91, Tryz.ntmps91
  go_wp2_with fail
  refine (may_yes (h.keep (S := fun k => b < k) (by (repeat' (first | with_reducible exact Keeps.refl _ _ | with_reducible refine Keeps.set ?_ (by simp <;> omega) _ | with_reducible refine Keeps.alloc ?_ _ | with_reducible refine Keeps.drewN ?_ _ | with_reducible refine Keeps.drew ?_))) (fun k hk hn => by omega)) (by omega) (by omega) H1'.out).mono ?_
  rintro e w1 ⟨rfl, hr1, hk1⟩
  have hK1 : Keeps (But b) w w1 := Keeps.trans (by (repeat' (first | with_reducible exact Keeps.refl _ _ | with_reducible refine Keeps.set ?_ (by simp <;> omega) _ | with_reducible refine Keeps.alloc ?_ _ | with_reducible refine Keeps.drewN ?_ _ | with_reducible refine Keeps.drew ?_))) hk1
  have hs1 : w.heap.size + 2 ≤ w1.heap.size := by have := hk1.size; (try simp at this); omega
  have hb1 : b < w1.heap.size := by omega
  have c0_hk1 := fun o => hk1.cell (b := w.heap.size) (o := o) (by first | omega | (simp; done) | (simp; omega)) (by first | omega | (simp; done) | (simp; omega)); have z0_hk1 := fun o => hk1.frozen (b := w.heap.size) (o := o) (by first | omega | (simp; done) | (simp; omega)) (by first | omega | (simp; done) | (simp; omega)); have c1_hk1 := fun o => hk1.cell (b := w.heap.size + 1) (o := o) (by first | omega | (simp; done) | (simp; omega)) (by first | omega | (simp; done) | (simp; omega)); have z1_hk1 := fun o => hk1.frozen (b := w.heap.size + 1) (o := o) (by first | omega | (simp; done) | (simp; omega)) (by first | omega | (simp; done) | (simp; omega))
  go_wp2_with fail
  refine (may_no (hr1.keep (S := fun k => b < k) (by (repeat' (first | with_reducible exact Keeps.refl _ _ | with_reducible refine Keeps.set ?_ (by simp <;> omega) _ | with_reducible refine Keeps.alloc ?_ _ | with_reducible refine Keeps.drewN ?_ _ | with_reducible refine Keeps.drew ?_))) (fun k hk hn => by omega)) (by omega) (by omega) H2'.out).mono ?_
  rintro e w2 ⟨rfl, q2, rfl⟩
  go_wp2_with fail
  refine (may_no (hr1.keep (S := fun k => b < k) (by (repeat' (first | with_reducible exact Keeps.refl _ _ | with_reducible refine Keeps.set ?_ (by simp <;> omega) _ | with_reducible refine Keeps.alloc ?_ _ | with_reducible refine Keeps.drewN ?_ _ | with_reducible refine Keeps.drew ?_))) (fun k hk hn => by omega)) (by omega) (by omega) H3'.out).mono ?_
  rintro e w3 ⟨rfl, q3, rfl⟩
  go_wp2_with fail
  refine (may_no (hr1.keep (S := fun k => b < k) (by (repeat' (first | with_reducible exact Keeps.refl _ _ | with_reducible refine Keeps.set ?_ (by simp <;> omega) _ | with_reducible refine Keeps.alloc ?_ _ | with_reducible refine Keeps.drewN ?_ _ | with_reducible refine Keeps.drew ?_))) (fun k hk hn => by omega)) (by omega) (by omega) H4'.out).mono ?_
  rintro e w4 ⟨rfl, q4, rfl⟩
  go_wp2_with fail
  refine (may_no (hr1.keep (S := fun k => b < k) (by (repeat' (first | with_reducible exact Keeps.refl _ _ | with_reducible refine Keeps.set ?_ (by simp <;> omega) _ | with_reducible refine Keeps.alloc ?_ _ | with_reducible refine Keeps.drewN ?_ _ | with_reducible refine Keeps.drew ?_))) (fun k hk hn => by omega)) (by omega) (by omega) H5'.out).mono ?_
  rintro e w5 ⟨rfl, q5, rfl⟩
  go_wp2_with fail
  refine (may_yes (hr1.keep (S := fun k => b < k) (by (repeat' (first | with_reducible exact Keeps.refl _ _ | with_reducible refine Keeps.set ?_ (by simp <;> omega) _ | with_reducible refine Keeps.alloc ?_ _ | with_reducible refine Keeps.drewN ?_ _ | with_reducible refine Keeps.drew ?_))) (fun k hk hn => by omega)) (by omega) (by omega) H6'.out).mono ?_
  rintro e w6 ⟨rfl, hr6, hk6⟩
  have hK6 : Keeps (But b) w w6 := Keeps.trans (by (repeat' (first | with_reducible exact hK1 | with_reducible refine Keeps.set ?_ (by simp <;> omega) _ | with_reducible refine Keeps.alloc ?_ _ | with_reducible refine Keeps.drewN ?_ _ | with_reducible refine Keeps.drew ?_))) hk6
  have hs6 : w.heap.size + 2 ≤ w6.heap.size := by have := hk6.size; (try simp at this); omega
  have hb6 : b < w6.heap.size := by omega
  have c0_hk6 := fun o => hk6.cell (b := w.heap.size) (o := o) (by first | omega | (simp; done) | (simp; omega)) (by first | omega | (simp; done) | (simp; omega)); have z0_hk6 := fun o => hk6.frozen (b := w.heap.size) (o := o) (by first | omega | (simp; done) | (simp; omega)) (by first | omega | (simp; done) | (simp; omega)); have c1_hk6 := fun o => hk6.cell (b := w.heap.size + 1) (o := o) (by first | omega | (simp; done) | (simp; omega)) (by first | omega | (simp; done) | (simp; omega)); have z1_hk6 := fun o => hk6.frozen (b := w.heap.size + 1) (o := o) (by first | omega | (simp; done) | (simp; omega)) (by first | omega | (simp; done) | (simp; omega))
  go_wp2_with fail
  refine (may_no (hr6.keep (S := fun k => b < k) (by (repeat' (first | with_reducible exact Keeps.refl _ _ | with_reducible refine Keeps.set ?_ (by simp <;> omega) _ | with_reducible refine Keeps.alloc ?_ _ | with_reducible refine Keeps.drewN ?_ _ | with_reducible refine Keeps.drew ?_))) (fun k hk hn => by omega)) (by omega) (by omega) H7'.out).mono ?_
  rintro e w7 ⟨rfl, q7, rfl⟩
  go_wp2_with fail
  refine (may_no (hr6.keep (S := fun k => b < k) (by (repeat' (first | with_reducible exact Keeps.refl _ _ | with_reducible refine Keeps.set ?_ (by simp <;> omega) _ | with_reducible refine Keeps.alloc ?_ _ | with_reducible refine Keeps.drewN ?_ _ | with_reducible refine Keeps.drew ?_))) (fun k hk hn => by omega)) (by omega) (by omega) H8'.out).mono ?_
  rintro e w8 ⟨rfl, q8, rfl⟩
  go_wp2_with fail
  refine (name_calls (hr6.keep (S := fun k => b < k) (by (repeat' (first | with_reducible exact Keeps.refl _ _ | with_reducible refine Keeps.set ?_ (by simp <;> omega) _ | with_reducible refine Keeps.alloc ?_ _ | with_reducible refine Keeps.drewN ?_ _ | with_reducible refine Keeps.drew ?_))) (fun k hk hn => by omega))).mono ?_
  rintro e w9 ⟨rfl, hr9, hk9⟩
  have hK9 : Keeps (But b) w w9 := Keeps.trans (by (repeat' (first | with_reducible exact hK6 | with_reducible refine Keeps.set ?_ (by simp <;> omega) _ | with_reducible refine Keeps.alloc ?_ _ | with_reducible refine Keeps.drewN ?_ _ | with_reducible refine Keeps.drew ?_))) hk9
  have hs9 : w.heap.size + 2 ≤ w9.heap.size := by have := hk9.size; (try simp at this); omega
  have hb9 : b < w9.heap.size := by omega
  have c0_hk9 := fun o => hk9.cell (b := w.heap.size) (o := o) (by first | omega | (simp; done) | (simp; omega)) (by first | omega | (simp; done) | (simp; omega)); have z0_hk9 := fun o => hk9.frozen (b := w.heap.size) (o := o) (by first | omega | (simp; done) | (simp; omega)) (by first | omega | (simp; done) | (simp; omega)); have c1_hk9 := fun o => hk9.cell (b := w.heap.size + 1) (o := o) (by first | omega | (simp; done) | (simp; omega)) (by first | omega | (simp; done) | (simp; omega)); have z1_hk9 := fun o => hk9.frozen (b := w.heap.size + 1) (o := o) (by first | omega | (simp; done) | (simp; omega)) (by first | omega | (simp; done) | (simp; omega))
  have t1 := bytes_ne H9'.out; have t2 := bytes_ne2 H9'.out
  go_wp2_with fail
  refine (must_no (hr9.keep (S := fun k => b < k) (by (repeat' (first | with_reducible exact Keeps.refl _ _ | with_reducible refine Keeps.set ?_ (by simp <;> omega) _ | with_reducible refine Keeps.alloc ?_ _ | with_reducible refine Keeps.drewN ?_ _ | with_reducible refine Keeps.drew ?_))) (fun k hk hn => by omega)) (by omega) (by omega) H10'.out).mono ?_
  rintro e w10 ⟨rfl, q10, rfl⟩
  exact ⟨rfl, RPost.mkE rfl rfl (by (repeat' (first | with_reducible exact hK9 | with_reducible refine Keeps.set ?_ (by simp <;> omega) _ | with_reducible refine Keeps.alloc ?_ _ | with_reducible refine Keeps.drewN ?_ _ | with_reducible refine Keeps.drew ?_)))⟩

set_option maxHeartbeats 1000000 in
theorem open_f01 {w : World} {b : Nat} {L s : List Int}  (h : Rs w b 1 L s) (H1 : hd s = 63) (H2 : ¬ hd s.tail = 58) (H3 : ¬ hd s.tail = 62) (H4 : ¬ hd s.tail = 61) (H5 : ¬ hd s.tail = 33) (H6 : ¬ hd s.tail = 60) (H7 : hd s.tail = 45) (H8 : ¬ hd s.tail.tail = 105) :
    Calls Tryz.prog 91 #[.pointer (some ⟨b, 0, none⟩)] w fun e w' => RPost b 1 L w (.error 1) e w' := by
  have hb := h.lt
  have h0 : w.cell? ⟨b, 0, none⟩ = some (.int .i64 1) := by obtain ⟨_, _, _, h0, _⟩ := h; exact h0
  have H1' := hid H1
  clear H1
  have H2' := hid H2
  clear H2
  have H3' := hid H3
  clear H3
  have H4' := hid H4
  clear H4
  have H5' := hid H5
  clear H5
  have H6' := hid H6
  clear H6
  have H7' := hid H7
  clear H7
  have H8' := hid H8
  clear H8
  go_enter Tryz.func91, Tryz.ntmps91
  go_wp2_with fail
  refine (may_yes (h.keep (S := fun k => b < k) (by (repeat' (first | with_reducible exact Keeps.refl _ _ | with_reducible refine Keeps.set ?_ (by simp <;> omega) _ | with_reducible refine Keeps.alloc ?_ _ | with_reducible refine Keeps.drewN ?_ _ | with_reducible refine Keeps.drew ?_))) (fun k hk hn => by omega)) (by omega) (by omega) H1'.out).mono ?_
  rintro e w1 ⟨rfl, hr1, hk1⟩
  have hK1 : Keeps (But b) w w1 := Keeps.trans (by (repeat' (first | with_reducible exact Keeps.refl _ _ | with_reducible refine Keeps.set ?_ (by simp <;> omega) _ | with_reducible refine Keeps.alloc ?_ _ | with_reducible refine Keeps.drewN ?_ _ | with_reducible refine Keeps.drew ?_))) hk1
  have hs1 : w.heap.size + 2 ≤ w1.heap.size := by have := hk1.size; (try simp at this); omega
  have hb1 : b < w1.heap.size := by omega
  have c0_hk1 := fun o => hk1.cell (b := w.heap.size) (o := o) (by first | omega | (simp; done) | (simp; omega)) (by first | omega | (simp; done) | (simp; omega)); have z0_hk1 := fun o => hk1.frozen (b := w.heap.size) (o := o) (by first | omega | (simp; done) | (simp; omega)) (by first | omega | (simp; done) | (simp; omega)); have c1_hk1 := fun o => hk1.cell (b := w.heap.size + 1) (o := o) (by first | omega | (simp; done) | (simp; omega)) (by first | omega | (simp; done) | (simp; omega)); have z1_hk1 := fun o => hk1.frozen (b := w.heap.size + 1) (o := o) (by first | omega | (simp; done) | (simp; omega)) (by first | omega | (simp; done) | (simp; omega))
  go_wp2_with fail
  refine (may_no (hr1.keep (S := fun k => b < k) (by (repeat' (first | with_reducible exact Keeps.refl _ _ | with_reducible refine Keeps.set ?_ (by simp <;> omega) _ | with_reducible refine Keeps.alloc ?_ _ | with_reducible refine Keeps.drewN ?_ _ | with_reducible refine Keeps.drew ?_))) (fun k hk hn => by omega)) (by omega) (by omega) H2'.out).mono ?_
  rintro e w2 ⟨rfl, q2, rfl⟩
  go_wp2_with fail
  refine (may_no (hr1.keep (S := fun k => b < k) (by (repeat' (first | with_reducible exact Keeps.refl _ _ | with_reducible refine Keeps.set ?_ (by simp <;> omega) _ | with_reducible refine Keeps.alloc ?_ _ | with_reducible refine Keeps.drewN ?_ _ | with_reducible refine Keeps.drew ?_))) (fun k hk hn => by omega)) (by omega) (by omega) H3'.out).mono ?_
  rintro e w3 ⟨rfl, q3, rfl⟩
  go_wp2_with fail
  refine (may_no (hr1.keep (S := fun k => b < k) (by (repeat' (first | with_reducible exact Keeps.refl _ _ | with_reducible refine Keeps.set ?_ (by simp <;> omega) _ | with_reducible refine Keeps.alloc ?_ _ | with_reducible refine Keeps.drewN ?_ _ | with_reducible refine Keeps.drew ?_))) (fun k hk hn => by omega)) (by omega) (by omega) H4'.out).mono ?_
  rintro e w4 ⟨rfl, q4, rfl⟩
  go_wp2_with fail
  refine (may_no (hr1.keep (S := fun k => b < k) (by (repeat' (first | with_reducible exact Keeps.refl _ _ | with_reducible refine Keeps.set ?_ (by simp <;> omega) _ | with_reducible refine Keeps.alloc ?_ _ | with_reducible refine Keeps.drewN ?_ _ | with_reducible refine Keeps.drew ?_))) (fun k hk hn => by omega)) (by omega) (by omega) H5'.out).mono ?_
  rintro e w5 ⟨rfl, q5, rfl⟩
  go_wp2_with fail
  refine (may_no (hr1.keep (S := fun k => b < k) (by (repeat' (first | with_reducible exact Keeps.refl _ _ | with_reducible refine Keeps.set ?_ (by simp <;> omega) _ | with_reducible refine Keeps.alloc ?_ _ | with_reducible refine Keeps.drewN ?_ _ | with_reducible refine Keeps.drew ?_))) (fun k hk hn => by omega)) (by omega) (by omega) H6'.out).mono ?_
  rintro e w6 ⟨rfl, q6, rfl⟩
  go_wp2_with fail
  refine (may_yes (hr1.keep (S := fun k => b < k) (by (repeat' (first | with_reducible exact Keeps.refl _ _ | with_reducible refine Keeps.set ?_ (by simp <;> omega) _ | with_reducible refine Keeps.alloc ?_ _ | with_reducible refine Keeps.drewN ?_ _ | with_reducible refine Keeps.drew ?_))) (fun k hk hn => by omega)) (by omega) (by omega) H7'.out).mono ?_
  rintro e w7 ⟨rfl, hr7, hk7⟩
  have hK7 : Keeps (But b) w w7 := Keeps.trans (by (repeat' (first | with_reducible exact hK1 | with_reducible refine Keeps.set ?_ (by simp <;> omega) _ | with_reducible refine Keeps.alloc ?_ _ | with_reducible refine Keeps.drewN ?_ _ | with_reducible refine Keeps.drew ?_))) hk7
  have hs7 : w.heap.size + 2 ≤ w7.heap.size := by have := hk7.size; (try simp at this); omega
  have hb7 : b < w7.heap.size := by omega
  have c0_hk7 := fun o => hk7.cell (b := w.heap.size) (o := o) (by first | omega | (simp; done) | (simp; omega)) (by first | omega | (simp; done) | (simp; omega)); have z0_hk7 := fun o => hk7.frozen (b := w.heap.size) (o := o) (by first | omega | (simp; done) | (simp; omega)) (by first | omega | (simp; done) | (simp; omega)); have c1_hk7 := fun o => hk7.cell (b := w.heap.size + 1) (o := o) (by first | omega | (simp; done) | (simp; omega)) (by first | omega | (simp; done) | (simp; omega)); have z1_hk7 := fun o => hk7.frozen (b := w.heap.size + 1) (o := o) (by first | omega | (simp; done) | (simp; omega)) (by first | omega | (simp; done) | (simp; omega))
  go_wp2_with fail
  refine (must_no (hr7.keep (S := fun k => b < k) (by (repeat' (first | with_reducible exact Keeps.refl _ _ | with_reducible refine Keeps.set ?_ (by simp <;> omega) _ | with_reducible refine Keeps.alloc ?_ _ | with_reducible refine Keeps.drewN ?_ _ | with_reducible refine Keeps.drew ?_))) (fun k hk hn => by omega)) (by omega) (by omega) H8'.out).mono ?_
  rintro e w8 ⟨rfl, q8, rfl⟩
  exact ⟨rfl, RPost.mkE rfl rfl (by (repeat' (first | with_reducible exact hK7 | with_reducible refine Keeps.set ?_ (by simp <;> omega) _ | with_reducible refine Keeps.alloc ?_ _ | with_reducible refine Keeps.drewN ?_ _ | with_reducible refine Keeps.drew ?_)))⟩

set_option maxHeartbeats 1000000 in
theorem open_f02 {w : World} {b : Nat} {L s : List Int}  (h : Rs w b 1 L s) (H1 : hd s = 63) (H2 : ¬ hd s.tail = 58) (H3 : ¬ hd s.tail = 62) (H4 : ¬ hd s.tail = 61) (H5 : ¬ hd s.tail = 33) (H6 : ¬ hd s.tail = 60) (H7 : hd s.tail = 45) (H8 : hd s.tail.tail = 105) (H9 : hd s.tail.tail.tail = 41) :
    Calls Tryz.prog 91 #[.pointer (some ⟨b, 0, none⟩)] w fun e w' => RPost b 1 L w (.ok ({ kind := 11, fold := -1 }, s.tail.tail.tail.tail)) e w' := by
  have hb := h.lt
  have h0 : w.cell? ⟨b, 0, none⟩ = some (.int .i64 1) := by obtain ⟨_, _, _, h0, _⟩ := h; exact h0
  have H1' := hid H1
  clear H1
  have H2' := hid H2
  clear H2
  have H3' := hid H3
  clear H3
  have H4' := hid H4
  clear H4
  have H5' := hid H5
  clear H5
  have H6' := hid H6
  clear H6
  have H7' := hid H7
  clear H7
  have H8' := hid H8
  clear H8
  have H9' := hid H9
  clear H9
  go_enter Tryz.func91, Tryz.ntmps91
  go_wp2_with fail
  refine (may_yes (h.keep (S := fun k => b < k) (by (repeat' (first | with_reducible exact Keeps.refl _ _ | with_reducible refine Keeps.set ?_ (by simp <;> omega) _ | with_reducible refine Keeps.alloc ?_ _ | with_reducible refine Keeps.drewN ?_ _ | with_reducible refine Keeps.drew ?_))) (fun k hk hn => by omega)) (by omega) (by omega) H1'.out).mono ?_
  rintro e w1 ⟨rfl, hr1, hk1⟩
  have hK1 : Keeps (But b) w w1 := Keeps.trans (by (repeat' (first | with_reducible exact Keeps.refl _ _ | with_reducible refine Keeps.set ?_ (by simp <;> omega) _ | with_reducible refine Keeps.alloc ?_ _ | with_reducible refine Keeps.drewN ?_ _ | with_reducible refine Keeps.drew ?_))) hk1
  have hs1 : w.heap.size + 2 ≤ w1.heap.size := by have := hk1.size; (try simp at this); omega
  have hb1 : b < w1.heap.size := by omega
  have c0_hk1 := fun o => hk1.cell (b := w.heap.size) (o := o) (by first | omega | (simp; done) | (simp; omega)) (by first | omega | (simp; done) | (simp; omega)); have z0_hk1 := fun o => hk1.frozen (b := w.heap.size) (o := o) (by first | omega | (simp; done) | (simp; omega)) (by first | omega | (simp; done) | (simp; omega)); have c1_hk1 := fun o => hk1.cell (b := w.heap.size + 1) (o := o) (by first | omega | (simp; done) | (simp; omega)) (by first | omega | (simp; done) | (simp; omega)); have z1_hk1 := fun o => hk1.frozen (b := w.heap.size + 1) (o := o) (by first | omega | (simp; done) | (simp; omega)) (by first | omega | (simp; done) | (simp; omega))
  go_wp2_with fail
  refine (may_no (hr1.keep (S := fun k => b < k) (by (repeat' (first | with_reducible exact Keeps.refl _ _ | with_reducible refine Keeps.set ?_ (by simp <;> omega) _ | with_reducible refine Keeps.alloc ?_ _ | with_reducible refine Keeps.drewN ?_ _ | with_reducible refine Keeps.drew ?_))) (fun k hk hn => by omega)) (by omega) (by omega) H2'.out).mono ?_
  rintro e w2 ⟨rfl, q2, rfl⟩
  go_wp2_with fail
  refine (may_no (hr1.keep (S := fun k => b < k) (by (repeat' (first | with_reducible exact Keeps.refl _ _ | with_reducible refine Keeps.set ?_ (by simp <;> omega) _ | with_reducible refine Keeps.alloc ?_ _ | with_reducible refine Keeps.drewN ?_ _ | with_reducible refine Keeps.drew ?_))) (fun k hk hn => by omega)) (by omega) (by omega) H3'.out).mono ?_
  rintro e w3 ⟨rfl, q3, rfl⟩
  go_wp2_with fail
  refine (may_no (hr1.keep (S := fun k => b < k) (by (repeat' (first | with_reducible exact Keeps.refl _ _ | with_reducible refine Keeps.set ?_ (by simp <;> omega) _ | with_reducible refine Keeps.alloc ?_ _ | with_reducible refine Keeps.drewN ?_ _ | with_reducible refine Keeps.drew ?_))) (fun k hk hn => by omega)) (by omega) (by omega) H4'.out).mono ?_
  rintro e w4 ⟨rfl, q4, rfl⟩
  go_wp2_with fail
  refine (may_no (hr1.keep (S := fun k => b < k) (by (repeat' (first | with_reducible exact Keeps.refl _ _ | with_reducible refine Keeps.set ?_ (by simp <;> omega) _ | with_reducible refine Keeps.alloc ?_ _ | with_reducible refine Keeps.drewN ?_ _ | with_reducible refine Keeps.drew ?_))) (fun k hk hn => by omega)) (by omega) (by omega) H5'.out).mono ?_
  rintro e w5 ⟨rfl, q5, rfl⟩
  go_wp2_with fail
  refine (may_no (hr1.keep (S := fun k => b < k) (by (repeat' (first | with_reducible exact Keeps.refl _ _ | with_reducible refine Keeps.set ?_ (by simp <;> omega) _ | with_reducible refine Keeps.alloc ?_ _ | with_reducible refine Keeps.drewN ?_ _ | with_reducible refine Keeps.drew ?_))) (fun k hk hn => by omega)) (by omega) (by omega) H6'.out).mono ?_
  rintro e w6 ⟨rfl, q6, rfl⟩
  go_wp2_with fail
  refine (may_yes (hr1.keep (S := fun k => b < k) (by (repeat' (first | with_reducible exact Keeps.refl _ _ | with_reducible refine Keeps.set ?_ (by simp <;> omega) _ | with_reducible refine Keeps.alloc ?_ _ | with_reducible refine Keeps.drewN ?_ _ | with_reducible refine Keeps.drew ?_))) (fun k hk hn => by omega)) (by omega) (by omega) H7'.out).mono ?_
  rintro e w7 ⟨rfl, hr7, hk7⟩
  have hK7 : Keeps (But b) w w7 := Keeps.trans (by (repeat' (first | with_reducible exact hK1 | with_reducible refine Keeps.set ?_ (by simp <;> omega) _ | with_reducible refine Keeps.alloc ?_ _ | with_reducible refine Keeps.drewN ?_ _ | with_reducible refine Keeps.drew ?_))) hk7
  have hs7 : w.heap.size + 2 ≤ w7.heap.size := by have := hk7.size; (try simp at this); omega
  have hb7 : b < w7.heap.size := by omega
  have c0_hk7 := fun o => hk7.cell (b := w.heap.size) (o := o) (by first | omega | (simp; done) | (simp; omega)) (by first | omega | (simp; done) | (simp; omega)); have z0_hk7 := fun o => hk7.frozen (b := w.heap.size) (o := o) (by first | omega | (simp; done) | (simp; omega)) (by first | omega | (simp; done) | (simp; omega)); have c1_hk7 := fun o => hk7.cell (b := w.heap.size + 1) (o := o) (by first | omega | (simp; done) | (simp; omega)) (by first | omega | (simp; done) | (simp; omega)); have z1_hk7 := fun o => hk7.frozen (b := w.heap.size + 1) (o := o) (by first | omega | (simp; done) | (simp; omega)) (by first | omega | (simp; done) | (simp; omega))
  go_wp2_with fail
  refine (must_yes (hr7.keep (S := fun k => b < k) (by (repeat' (first | with_reducible exact Keeps.refl _ _ | with_reducible refine Keeps.set ?_ (by simp <;> omega) _ | with_reducible refine Keeps.alloc ?_ _ | with_reducible refine Keeps.drewN ?_ _ | with_reducible refine Keeps.drew ?_))) (fun k hk hn => by omega)) (by omega) (by omega) H8'.out).mono ?_
  rintro e w8 ⟨rfl, hr8, hk8⟩
  have hK8 : Keeps (But b) w w8 := Keeps.trans (by (repeat' (first | with_reducible exact hK7 | with_reducible refine Keeps.set ?_ (by simp <;> omega) _ | with_reducible refine Keeps.alloc ?_ _ | with_reducible refine Keeps.drewN ?_ _ | with_reducible refine Keeps.drew ?_))) hk8
  have hs8 : w.heap.size + 2 ≤ w8.heap.size := by have := hk8.size; (try simp at this); omega
  have hb8 : b < w8.heap.size := by omega
  have c0_hk8 := fun o => hk8.cell (b := w.heap.size) (o := o) (by first | omega | (simp; done) | (simp; omega)) (by first | omega | (simp; done) | (simp; omega)); have z0_hk8 := fun o => hk8.frozen (b := w.heap.size) (o := o) (by first | omega | (simp; done) | (simp; omega)) (by first | omega | (simp; done) | (simp; omega)); have c1_hk8 := fun o => hk8.cell (b := w.heap.size + 1) (o := o) (by first | omega | (simp; done) | (simp; omega)) (by first | omega | (simp; done) | (simp; omega)); have z1_hk8 := fun o => hk8.frozen (b := w.heap.size + 1) (o := o) (by first | omega | (simp; done) | (simp; omega)) (by first | omega | (simp; done) | (simp; omega))
  go_wp2_with fail
  refine (may_yes (hr8.keep (S := fun k => b < k) (by (repeat' (first | with_reducible exact Keeps.refl _ _ | with_reducible refine Keeps.set ?_ (by simp <;> omega) _ | with_reducible refine Keeps.alloc ?_ _ | with_reducible refine Keeps.drewN ?_ _ | with_reducible refine Keeps.drew ?_))) (fun k hk hn => by omega)) (by omega) (by omega) H9'.out).mono ?_
  rintro e w9 ⟨rfl, hr9, hk9⟩
  have hK9 : Keeps (But b) w w9 := Keeps.trans (by (repeat' (first | with_reducible exact hK8 | with_reducible refine Keeps.set ?_ (by simp <;> omega) _ | with_reducible refine Keeps.alloc ?_ _ | with_reducible refine Keeps.drewN ?_ _ | with_reducible refine Keeps.drew ?_))) hk9
  have hs9 : w.heap.size + 2 ≤ w9.heap.size := by have := hk9.size; (try simp at this); omega
  have hb9 : b < w9.heap.size := by omega
  have c0_hk9 := fun o => hk9.cell (b := w.heap.size) (o := o) (by first | omega | (simp; done) | (simp; omega)) (by first | omega | (simp; done) | (simp; omega)); have z0_hk9 := fun o => hk9.frozen (b := w.heap.size) (o := o) (by first | omega | (simp; done) | (simp; omega)) (by first | omega | (simp; done) | (simp; omega)); have c1_hk9 := fun o => hk9.cell (b := w.heap.size + 1) (o := o) (by first | omega | (simp; done) | (simp; omega)) (by first | omega | (simp; done) | (simp; omega)); have z1_hk9 := fun o => hk9.frozen (b := w.heap.size + 1) (o := o) (by first | omega | (simp; done) | (simp; omega)) (by first | omega | (simp; done) | (simp; omega))
  go_wp2_with fail
  refine bodyPost_ret (v := tkV { kind := 11, fold := -1 }) (by simp [results, Tryz.results91, go_sem, tkV, point, look, again, *]) rfl (RPost.mk (t := { kind := 11, fold := -1 }) (rfl) rfl (hr9.keep (S := fun k => b < k) ?_ (fun k hk hn => by omega)) ?_)
  · (repeat' (first | with_reducible exact Keeps.refl _ _ | with_reducible refine Keeps.set ?_ (by simp <;> omega) _ | with_reducible refine Keeps.alloc ?_ _ | with_reducible refine Keeps.drewN ?_ _ | with_reducible refine Keeps.drew ?_))
  · (repeat' (first | with_reducible exact hK9 | with_reducible refine Keeps.set ?_ (by simp <;> omega) _ | with_reducible refine Keeps.alloc ?_ _ | with_reducible refine Keeps.drewN ?_ _ | with_reducible refine Keeps.drew ?_))

set_option maxHeartbeats 1000000 in
theorem open_f03 {w : World} {b : Nat} {L s : List Int}  (h : Rs w b 1 L s) (H1 : hd s = 63) (H2 : ¬ hd s.tail = 58) (H3 : ¬ hd s.tail = 62) (H4 : ¬ hd s.tail = 61) (H5 : ¬ hd s.tail = 33) (H6 : ¬ hd s.tail = 60) (H7 : hd s.tail = 45) (H8 : hd s.tail.tail = 105) (H9 : ¬ hd s.tail.tail.tail = 41) (H10 : hd s.tail.tail.tail = 58) :
    Calls Tryz.prog 91 #[.pointer (some ⟨b, 0, none⟩)] w fun e w' => RPost b 1 L w (.ok ({ kind := 7, number := 1, fold := -1 }, s.tail.tail.tail.tail)) e w' := by
  have hb := h.lt
  have h0 : w.cell? ⟨b, 0, none⟩ = some (.int .i64 1) := by obtain ⟨_, _, _, h0, _⟩ := h; exact h0
  have H1' := hid H1
  clear H1
  have H2' := hid H2
  clear H2
  have H3' := hid H3
  clear H3
  have H4' := hid H4
  clear H4
  have H5' := hid H5
  clear H5
  have H6' := hid H6
  clear H6
  have H7' := hid H7
  clear H7
  have H8' := hid H8
  clear H8
  have H9' := hid H9
  clear H9
  have H10' := hid H10
  clear H10
  go_enter Tryz.func91, Tryz.ntmps91
  go_wp2_with fail
  refine (may_yes (h.keep (S := fun k => b < k) (by (repeat' (first | with_reducible exact Keeps.refl _ _ | with_reducible refine Keeps.set ?_ (by simp <;> omega) _ | with_reducible refine Keeps.alloc ?_ _ | with_reducible refine Keeps.drewN ?_ _ | with_reducible refine Keeps.drew ?_))) (fun k hk hn => by omega)) (by omega) (by omega) H1'.out).mono ?_
  rintro e w1 ⟨rfl, hr1, hk1⟩
  have hK1 : Keeps (But b) w w1 := Keeps.trans (by (repeat' (first | with_reducible exact Keeps.refl _ _ | with_reducible refine Keeps.set ?_ (by simp <;> omega) _ | with_reducible refine Keeps.alloc ?_ _ | with_reducible refine Keeps.drewN ?_ _ | with_reducible refine Keeps.drew ?_))) hk1
  have hs1 : w.heap.size + 2 ≤ w1.heap.size := by have := hk1.size; (try simp at this); omega
  have hb1 : b < w1.heap.size := by omega
  have c0_hk1 := fun o => hk1.cell (b := w.heap.size) (o := o) (by first | omega | (simp; done) | (simp; omega)) (by first | omega | (simp; done) | (simp; omega)); have z0_hk1 := fun o => hk1.frozen (b := w.heap.size) (o := o) (by first | omega | (simp; done) | (simp; omega)) (by first | omega | (simp; done) | (simp; omega)); have c1_hk1 := fun o => hk1.cell (b := w.heap.size + 1) (o := o) (by first | omega | (simp; done) | (simp; omega)) (by first | omega | (simp; done) | (simp; omega)); have z1_hk1 := fun o => hk1.frozen (b := w.heap.size + 1) (o := o) (by first | omega | (simp; done) | (simp; omega)) (by first | omega | (simp; done) | (simp; omega))
  go_wp2_with fail
  refine (may_no (hr1.keep (S := fun k => b < k) (by (repeat' (first | with_reducible exact Keeps.refl _ _ | with_reducible refine Keeps.set ?_ (by simp <;> omega) _ | with_reducible refine Keeps.alloc ?_ _ | with_reducible refine Keeps.drewN ?_ _ | with_reducible refine Keeps.drew ?_))) (fun k hk hn => by omega)) (by omega) (by omega) H2'.out).mono ?_
  rintro e w2 ⟨rfl, q2, rfl⟩
  go_wp2_with fail
  refine (may_no (hr1.keep (S := fun k => b < k) (by (repeat' (first | with_reducible exact Keeps.refl _ _ | with_reducible refine Keeps.set ?_ (by simp <;> omega) _ | with_reducible refine Keeps.alloc ?_ _ | with_reducible refine Keeps.drewN ?_ _ | with_reducible refine Keeps.drew ?_))) (fun k hk hn => by omega)) (by omega) (by omega) H3'.out).mono ?_
  rintro e w3 ⟨rfl, q3, rfl⟩
  go_wp2_with fail
  refine (may_no (hr1.keep (S := fun k => b < k) (by (repeat' (first | with_reducible exact Keeps.refl _ _ | with_reducible refine Keeps.set ?_ (by simp <;> omega) _ | with_reducible refine Keeps.alloc ?_ _ | with_reducible refine Keeps.drewN ?_ _ | with_reducible refine Keeps.drew ?_))) (fun k hk hn => by omega)) (by omega) (by omega) H4'.out).mono ?_
  rintro e w4 ⟨rfl, q4, rfl⟩
  go_wp2_with fail
  refine (may_no (hr1.keep (S := fun k => b < k) (by (repeat' (first | with_reducible exact Keeps.refl _ _ | with_reducible refine Keeps.set ?_ (by simp <;> omega) _ | with_reducible refine Keeps.alloc ?_ _ | with_reducible refine Keeps.drewN ?_ _ | with_reducible refine Keeps.drew ?_))) (fun k hk hn => by omega)) (by omega) (by omega) H5'.out).mono ?_
  rintro e w5 ⟨rfl, q5, rfl⟩
  go_wp2_with fail
  refine (may_no (hr1.keep (S := fun k => b < k) (by (repeat' (first | with_reducible exact Keeps.refl _ _ | with_reducible refine Keeps.set ?_ (by simp <;> omega) _ | with_reducible refine Keeps.alloc ?_ _ | with_reducible refine Keeps.drewN ?_ _ | with_reducible refine Keeps.drew ?_))) (fun k hk hn => by omega)) (by omega) (by omega) H6'.out).mono ?_
  rintro e w6 ⟨rfl, q6, rfl⟩
  go_wp2_with fail
  refine (may_yes (hr1.keep (S := fun k => b < k) (by (repeat' (first | with_reducible exact Keeps.refl _ _ | with_reducible refine Keeps.set ?_ (by simp <;> omega) _ | with_reducible refine Keeps.alloc ?_ _ | with_reducible refine Keeps.drewN ?_ _ | with_reducible refine Keeps.drew ?_))) (fun k hk hn => by omega)) (by omega) (by omega) H7'.out).mono ?_
  rintro e w7 ⟨rfl, hr7, hk7⟩
  have hK7 : Keeps (But b) w w7 := Keeps.trans (by (repeat' (first | with_reducible exact hK1 | with_reducible refine Keeps.set ?_ (by simp <;> omega) _ | with_reducible refine Keeps.alloc ?_ _ | with_reducible refine Keeps.drewN ?_ _ | with_reducible refine Keeps.drew ?_))) hk7
  have hs7 : w.heap.size + 2 ≤ w7.heap.size := by have := hk7.size; (try simp at this); omega
  have hb7 : b < w7.heap.size := by omega
  have c0_hk7 := fun o => hk7.cell (b := w.heap.size) (o := o) (by first | omega | (simp; done) | (simp; omega)) (by first | omega | (simp; done) | (simp; omega)); have z0_hk7 := fun o => hk7.frozen (b := w.heap.size) (o := o) (by first | omega | (simp; done) | (simp; omega)) (by first | omega | (simp; done) | (simp; omega)); have c1_hk7 := fun o => hk7.cell (b := w.heap.size + 1) (o := o) (by first | omega | (simp; done) | (simp; omega)) (by first | omega | (simp; done) | (simp; omega)); have z1_hk7 := fun o => hk7.frozen (b := w.heap.size + 1) (o := o) (by first | omega | (simp; done) | (simp; omega)) (by first | omega | (simp; done) | (simp; omega))
  go_wp2_with fail
  refine (must_yes (hr7.keep (S := fun k => b < k) (by (repeat' (first | with_reducible exact Keeps.refl _ _ | with_reducible refine Keeps.set ?_ (by simp <;> omega) _ | with_reducible refine Keeps.alloc ?_ _ | with_reducible refine Keeps.drewN ?_ _ | with_reducible refine Keeps.drew ?_))) (fun k hk hn => by omega)) (by omega) (by omega) H8'.out).mono ?_
  rintro e w8 ⟨rfl, hr8, hk8⟩
  have hK8 : Keeps (But b) w w8 := Keeps.trans (by (repeat' (first | with_reducible exact hK7 | with_reducible refine Keeps.set ?_ (by simp <;> omega) _ | with_reducible refine Keeps.alloc ?_ _ | with_reducible refine Keeps.drewN ?_ _ | with_reducible refine Keeps.drew ?_))) hk8
  have hs8 : w.heap.size + 2 ≤ w8.heap.size := by have := hk8.size; (try simp at this); omega
  have hb8 : b < w8.heap.size := by omega
  have c0_hk8 := fun o => hk8.cell (b := w.heap.size) (o := o) (by first | omega | (simp; done) | (simp; omega)) (by first | omega | (simp; done) | (simp; omega)); have z0_hk8 := fun o => hk8.frozen (b := w.heap.size) (o := o) (by first | omega | (simp; done) | (simp; omega)) (by first | omega | (simp; done) | (simp; omega)); have c1_hk8 := fun o => hk8.cell (b := w.heap.size + 1) (o := o) (by first | omega | (simp; done) | (simp; omega)) (by first | omega | (simp; done) | (simp; omega)); have z1_hk8 := fun o => hk8.frozen (b := w.heap.size + 1) (o := o) (by first | omega | (simp; done) | (simp; omega)) (by first | omega | (simp; done) | (simp; omega))
  go_wp2_with fail
  refine (may_no (hr8.keep (S := fun k => b < k) (by (repeat' (first | with_reducible exact Keeps.refl _ _ | with_reducible refine Keeps.set ?_ (by simp <;> omega) _ | with_reducible refine Keeps.alloc ?_ _ | with_reducible refine Keeps.drewN ?_ _ | with_reducible refine Keeps.drew ?_))) (fun k hk hn => by omega)) (by omega) (by omega) H9'.out).mono ?_
  rintro e w9 ⟨rfl, q9, rfl⟩
  go_wp2_with fail
  refine (must_yes (hr8.keep (S := fun k => b < k) (by (repeat' (first | with_reducible exact Keeps.refl _ _ | with_reducible refine Keeps.set ?_ (by simp <;> omega) _ | with_reducible refine Keeps.alloc ?_ _ | with_reducible refine Keeps.drewN ?_ _ | with_reducible refine Keeps.drew ?_))) (fun k hk hn => by omega)) (by omega) (by omega) H10'.out).mono ?_
  rintro e w10 ⟨rfl, hr10, hk10⟩
  have hK10 : Keeps (But b) w w10 := Keeps.trans (by (repeat' (first | with_reducible exact hK8 | with_reducible refine Keeps.set ?_ (by simp <;> omega) _ | with_reducible refine Keeps.alloc ?_ _ | with_reducible refine Keeps.drewN ?_ _ | with_reducible refine Keeps.drew ?_))) hk10
  have hs10 : w.heap.size + 2 ≤ w10.heap.size := by have := hk10.size; (try simp at this); omega
  have hb10 : b < w10.heap.size := by omega
  have c0_hk10 := fun o => hk10.cell (b := w.heap.size) (o := o) (by first | omega | (simp; done) | (simp; omega)) (by first | omega | (simp; done) | (simp; omega)); have z0_hk10 := fun o => hk10.frozen (b := w.heap.size) (o := o) (by first | omega | (simp; done) | (simp; omega)) (by first | omega | (simp; done) | (simp; omega)); have c1_hk10 := fun o => hk10.cell (b := w.heap.size + 1) (o := o) (by first | omega | (simp; done) | (simp; omega)) (by first | omega | (simp; done) | (simp; omega)); have z1_hk10 := fun o => hk10.frozen (b := w.heap.size + 1) (o := o) (by first | omega | (simp; done) | (simp; omega)) (by first | omega | (simp; done) | (simp; omega))
  go_wp2_with fail
  refine bodyPost_ret (v := tkV { kind := 7, number := 1, fold := -1 }) (by simp [results, Tryz.results91, go_sem, tkV, point, look, again, *]) rfl (RPost.mk (t := { kind := 7, number := 1, fold := -1 }) (rfl) rfl (hr10.keep (S := fun k => b < k) ?_ (fun k hk hn => by omega)) ?_)
  · (repeat' (first | with_reducible exact Keeps.refl _ _ | with_reducible refine Keeps.set ?_ (by simp <;> omega) _ | with_reducible refine Keeps.alloc ?_ _ | with_reducible refine Keeps.drewN ?_ _ | with_reducible refine Keeps.drew ?_))
  · (repeat' (first | with_reducible exact hK10 | with_reducible refine Keeps.set ?_ (by simp <;> omega) _ | with_reducible refine Keeps.alloc ?_ _ | with_reducible refine Keeps.drewN ?_ _ | with_reducible refine Keeps.drew ?_))

set_option maxHeartbeats 1000000 in
theorem open_f04 {w : World} {b : Nat} {L s : List Int}  (h : Rs w b 1 L s) (H1 : hd s = 63) (H2 : ¬ hd s.tail = 58) (H3 : ¬ hd s.tail = 62) (H4 : ¬ hd s.tail = 61) (H5 : ¬ hd s.tail = 33) (H6 : ¬ hd s.tail = 60) (H7 : hd s.tail = 45) (H8 : hd s.tail.tail = 105) (H9 : ¬ hd s.tail.tail.tail = 41) (H10 : ¬ hd s.tail.tail.tail = 58) :
    Calls Tryz.prog 91 #[.pointer (some ⟨b, 0, none⟩)] w fun e w' => RPost b 1 L w (.error 1) e w' := by
  have hb := h.lt
  have h0 : w.cell? ⟨b, 0, none⟩ = some (.int .i64 1) := by obtain ⟨_, _, _, h0, _⟩ := h; exact h0
  have H1' := hid H1
  clear H1
  have H2' := hid H2
  clear H2
  have H3' := hid H3
  clear H3
  have H4' := hid H4
  clear H4
  have H5' := hid H5
  clear H5
  have H6' := hid H6
  clear H6
  have H7' := hid H7
  clear H7
  have H8' := hid H8
  clear H8
  have H9' := hid H9
  clear H9
  have H10' := hid H10
  clear H10
  go_enter Tryz.func91, Tryz.ntmps91
  go_wp2_with fail
  refine (may_yes (h.keep (S := fun k => b < k) (by (repeat' (first | with_reducible exact Keeps.refl _ _ | with_reducible refine Keeps.set ?_ (by simp <;> omega) _ | with_reducible refine Keeps.alloc ?_ _ | with_reducible refine Keeps.drewN ?_ _ | with_reducible refine Keeps.drew ?_))) (fun k hk hn => by omega)) (by omega) (by omega) H1'.out).mono ?_
  rintro e w1 ⟨rfl, hr1, hk1⟩
  have hK1 : Keeps (But b) w w1 := Keeps.trans (by (repeat' (first | with_reducible exact Keeps.refl _ _ | with_reducible refine Keeps.set ?_ (by simp <;> omega) _ | with_reducible refine Keeps.alloc ?_ _ | with_reducible refine Keeps.drewN ?_ _ | with_reducible refine Keeps.drew ?_))) hk1
  have hs1 : w.heap.size + 2 ≤ w1.heap.size := by have := hk1.size; (try simp at this); omega
  have hb1 : b < w1.heap.size := by omega
  have c0_hk1 := fun o => hk1.cell (b := w.heap.size) (o := o) (by first | omega | (simp; done) | (simp; omega)) (by first | omega | (simp; done) | (simp; omega)); have z0_hk1 := fun o => hk1.frozen (b := w.heap.size) (o := o) (by first | omega | (simp; done) | (simp; omega)) (by first | omega | (simp; done) | (simp; omega)); have c1_hk1 := fun o => hk1.cell (b := w.heap.size + 1) (o := o) (by first | omega | (simp; done) | (simp; omega)) (by first | omega | (simp; done) | (simp; omega)); have z1_hk1 := fun o => hk1.frozen (b := w.heap.size + 1) (o := o) (by first | omega | (simp; done) | (simp; omega)) (by first | omega | (simp; done) | (simp; omega))
  go_wp2_with fail
  refine (may_no (hr1.keep (S := fun k => b < k) (by (repeat' (first | with_reducible exact Keeps.refl _ _ | with_reducible refine Keeps.set ?_ (by simp <;> omega) _ | with_reducible refine Keeps.alloc ?_ _ | with_reducible refine Keeps.drewN ?_ _ | with_reducible refine Keeps.drew ?_))) (fun k hk hn => by omega)) (by omega) (by omega) H2'.out).mono ?_
  rintro e w2 ⟨rfl, q2, rfl⟩
  go_wp2_with fail
  refine (may_no (hr1.keep (S := fun k => b < k) (by (repeat' (first | with_reducible exact Keeps.refl _ _ | with_reducible refine Keeps.set ?_ (by simp <;> omega) _ | with_reducible refine Keeps.alloc ?_ _ | with_reducible refine Keeps.drewN ?_ _ | with_reducible refine Keeps.drew ?_))) (fun k hk hn => by omega)) (by omega) (by omega) H3'.out).mono ?_
  rintro e w3 ⟨rfl, q3, rfl⟩
  go_wp2_with fail
  refine (may_no (hr1.keep (S := fun k => b < k) (by (repeat' (first | with_reducible exact Keeps.refl _ _ | with_reducible refine Keeps.set ?_ (by simp <;> omega) _ | with_reducible refine Keeps.alloc ?_ _ | with_reducible refine Keeps.drewN ?_ _ | with_reducible refine Keeps.drew ?_))) (fun k hk hn => by omega)) (by omega) (by omega) H4'.out).mono ?_
  rintro e w4 ⟨rfl, q4, rfl⟩
  go_wp2_with fail
  refine (may_no (hr1.keep (S := fun k => b < k) (by (repeat' (first | with_reducible exact Keeps.refl _ _ | with_reducible refine Keeps.set ?_ (by simp <;> omega) _ | with_reducible refine Keeps.alloc ?_ _ | with_reducible refine Keeps.drewN ?_ _ | with_reducible refine Keeps.drew ?_))) (fun k hk hn => by omega)) (by omega) (by omega) H5'.out).mono ?_
  rintro e w5 ⟨rfl, q5, rfl⟩
  go_wp2_with fail
  refine (may_no (hr1.keep (S := fun k => b < k) (by (repeat' (first | with_reducible exact Keeps.refl _ _ | with_reducible refine Keeps.set ?_ (by simp <;> omega) _ | with_reducible refine Keeps.alloc ?_ _ | with_reducible refine Keeps.drewN ?_ _ | with_reducible refine Keeps.drew ?_))) (fun k hk hn => by omega)) (by omega) (by omega) H6'.out).mono ?_
  rintro e w6 ⟨rfl, q6, rfl⟩
  go_wp2_with fail
  refine (may_yes (hr1.keep (S := fun k => b < k) (by (repeat' (first | with_reducible exact Keeps.refl _ _ | with_reducible refine Keeps.set ?_ (by simp <;> omega) _ | with_reducible refine Keeps.alloc ?_ _ | with_reducible refine Keeps.drewN ?_ _ | with_reducible refine Keeps.drew ?_))) (fun k hk hn => by omega)) (by omega) (by omega) H7'.out).mono ?_
  rintro e w7 ⟨rfl, hr7, hk7⟩
  have hK7 : Keeps (But b) w w7 := Keeps.trans (by (repeat' (first | with_reducible exact hK1 | with_reducible refine Keeps.set ?_ (by simp <;> omega) _ | with_reducible refine Keeps.alloc ?_ _ | with_reducible refine Keeps.drewN ?_ _ | with_reducible refine Keeps.drew ?_))) hk7
  have hs7 : w.heap.size + 2 ≤ w7.heap.size := by have := hk7.size; (try simp at this); omega
  have hb7 : b < w7.heap.size := by omega
  have c0_hk7 := fun o => hk7.cell (b := w.heap.size) (o := o) (by first | omega | (simp; done) | (simp; omega)) (by first | omega | (simp; done) | (simp; omega)); have z0_hk7 := fun o => hk7.frozen (b := w.heap.size) (o := o) (by first | omega | (simp; done) | (simp; omega)) (by first | omega | (simp; done) | (simp; omega)); have c1_hk7 := fun o => hk7.cell (b := w.heap.size + 1) (o := o) (by first | omega | (simp; done) | (simp; omega)) (by first | omega | (simp; done) | (simp; omega)); have z1_hk7 := fun o => hk7.frozen (b := w.heap.size + 1) (o := o) (by first | omega | (simp; done) | (simp; omega)) (by first | omega | (simp; done) | (simp; omega))
  go_wp2_with fail
  refine (must_yes (hr7.keep (S := fun k => b < k) (by (repeat' (first | with_reducible exact Keeps.refl _ _ | with_reducible refine Keeps.set ?_ (by simp <;> omega) _ | with_reducible refine Keeps.alloc ?_ _ | with_reducible refine Keeps.drewN ?_ _ | with_reducible refine Keeps.drew ?_))) (fun k hk hn => by omega)) (by omega) (by omega) H8'.out).mono ?_
  rintro e w8 ⟨rfl, hr8, hk8⟩
  have hK8 : Keeps (But b) w w8 := Keeps.trans (by (repeat' (first | with_reducible exact hK7 | with_reducible refine Keeps.set ?_ (by simp <;> omega) _ | with_reducible refine Keeps.alloc ?_ _ | with_reducible refine Keeps.drewN ?_ _ | with_reducible refine Keeps.drew ?_))) hk8
  have hs8 : w.heap.size + 2 ≤ w8.heap.size := by have := hk8.size; (try simp at this); omega
  have hb8 : b < w8.heap.size := by omega
  have c0_hk8 := fun o => hk8.cell (b := w.heap.size) (o := o) (by first | omega | (simp; done) | (simp; omega)) (by first | omega | (simp; done) | (simp; omega)); have z0_hk8 := fun o => hk8.frozen (b := w.heap.size) (o := o) (by first | omega | (simp; done) | (simp; omega)) (by first | omega | (simp; done) | (simp; omega)); have c1_hk8 := fun o => hk8.cell (b := w.heap.size + 1) (o := o) (by first | omega | (simp; done) | (simp; omega)) (by first | omega | (simp; done) | (simp; omega)); have z1_hk8 := fun o => hk8.frozen (b := w.heap.size + 1) (o := o) (by first | omega | (simp; done) | (simp; omega)) (by first | omega | (simp; done) | (simp; omega))
  go_wp2_with fail
  refine (may_no (hr8.keep (S := fun k => b < k) (by (repeat' (first | with_reducible exact Keeps.refl _ _ | with_reducible refine Keeps.set ?_ (by simp <;> omega) _ | with_reducible refine Keeps.alloc ?_ _ | with_reducible refine Keeps.drewN ?_ _ | with_reducible refine Keeps.drew ?_))) (fun k hk hn => by omega)) (by omega) (by omega) H9'.out).mono ?_
  rintro e w9 ⟨rfl, q9, rfl⟩
  go_wp2_with fail
  refine (must_no (hr8.keep (S := fun k => b < k) (by (repeat' (first | with_reducible exact Keeps.refl _ _ | with_reducible refine Keeps.set ?_ (by simp <;> omega) _ | with_reducible refine Keeps.alloc ?_ _ | with_reducible refine Keeps.drewN ?_ _ | with_reducible refine Keeps.drew ?_))) (fun k hk hn => by omega)) (by omega) (by omega) H10'.out).mono ?_
  rintro e w10 ⟨rfl, q10, rfl⟩
  exact ⟨rfl, RPost.mkE rfl rfl (by (repeat' (first | with_reducible exact hK8 | with_reducible refine Keeps.set ?_ (by simp <;> omega) _ | with_reducible refine Keeps.alloc ?_ _ | with_reducible refine Keeps.drewN ?_ _ | with_reducible refine Keeps.drew ?_)))⟩

set_option maxHeartbeats 1000000 in
theorem open_f11 {w : World} {b : Nat} {L s : List Int}  (h : Rs w b 1 L s) (H1 : hd s = 63) (H2 : ¬ hd s.tail = 58) (H3 : ¬ hd s.tail = 62) (H4 : ¬ hd s.tail = 61) (H5 : ¬ hd s.tail = 33) (H6 : ¬ hd s.tail = 60) (H7 : ¬ hd s.tail = 45) (H8 : ¬ hd s.tail = 105) :
    Calls Tryz.prog 91 #[.pointer (some ⟨b, 0, none⟩)] w fun e w' => RPost b 1 L w (.error 1) e w' := by
  have hb := h.lt
  have h0 : w.cell? ⟨b, 0, none⟩ = some (.int .i64 1) := by obtain ⟨_, _, _, h0, _⟩ := h; exact h0
  have H1' := hid H1
  clear H1
  have H2' := hid H2
  clear H2
  have H3' := hid H3
  clear H3
  have H4' := hid H4
  clear H4
  have H5' := hid H5
  clear H5
  have H6' := hid H6
  clear H6
  have H7' := hid H7
  clear H7
  have H8' := hid H8
  clear H8
  go_enter Tryz.func91, Tryz.ntmps91
  go_wp2_with fail
  refine (may_yes (h.keep (S := fun k => b < k) (by (repeat' (first | with_reducible exact Keeps.refl _ _ | with_reducible refine Keeps.set ?_ (by simp <;> omega) _ | with_reducible refine Keeps.alloc ?_ _ | with_reducible refine Keeps.drewN ?_ _ | with_reducible refine Keeps.drew ?_))) (fun k hk hn => by omega)) (by omega) (by omega) H1'.out).mono ?_
  rintro e w1 ⟨rfl, hr1, hk1⟩
  have hK1 : Keeps (But b) w w1 := Keeps.trans (by (repeat' (first | with_reducible exact Keeps.refl _ _ | with_reducible refine Keeps.set ?_ (by simp <;> omega) _ | with_reducible refine Keeps.alloc ?_ _ | with_reducible refine Keeps.drewN ?_ _ | with_reducible refine Keeps.drew ?_))) hk1
  have hs1 : w.heap.size + 2 ≤ w1.heap.size := by have := hk1.size; (try simp at this); omega
  have hb1 : b < w1.heap.size := by omega
  have c0_hk1 := fun o => hk1.cell (b := w.heap.size) (o := o) (by first | omega | (simp; done) | (simp; omega)) (by first | omega | (simp; done) | (simp; omega)); have z0_hk1 := fun o => hk1.frozen (b := w.heap.size) (o := o) (by first | omega | (simp; done) | (simp; omega)) (by first | omega | (simp; done) | (simp; omega)); have c1_hk1 := fun o => hk1.cell (b := w.heap.size + 1) (o := o) (by first | omega | (simp; done) | (simp; omega)) (by first | omega | (simp; done) | (simp; omega)); have z1_hk1 := fun o => hk1.frozen (b := w.heap.size + 1) (o := o) (by first | omega | (simp; done) | (simp; omega)) (by first | omega | (simp; done) | (simp; omega))
  go_wp2_with fail
  refine (may_no (hr1.keep (S := fun k => b < k) (by (repeat' (first | with_reducible exact Keeps.refl _ _ | with_reducible refine Keeps.set ?_ (by simp <;> omega) _ | with_reducible refine Keeps.alloc ?_ _ | with_reducible refine Keeps.drewN ?_ _ | with_reducible refine Keeps.drew ?_))) (fun k hk hn => by omega)) (by omega) (by omega) H2'.out).mono ?_
  rintro e w2 ⟨rfl, q2, rfl⟩
  go_wp2_with fail
  refine (may_no (hr1.keep (S := fun k => b < k) (by (repeat' (first | with_reducible exact Keeps.refl _ _ | with_reducible refine Keeps.set ?_ (by simp <;> omega) _ | with_reducible refine Keeps.alloc ?_ _ | with_reducible refine Keeps.drewN ?_ _ | with_reducible refine Keeps.drew ?_))) (fun k hk hn => by omega)) (by omega) (by omega) H3'.out).mono ?_
  rintro e w3 ⟨rfl, q3, rfl⟩
  go_wp2_with fail
  refine (may_no (hr1.keep (S := fun k => b < k) (by (repeat' (first | with_reducible exact Keeps.refl _ _ | with_reducible refine Keeps.set ?_ (by simp <;> omega) _ | with_reducible refine Keeps.alloc ?_ _ | with_reducible refine Keeps.drewN ?_ _ | with_reducible refine Keeps.drew ?_))) (fun k hk hn => by omega)) (by omega) (by omega) H4'.out).mono ?_
  rintro e w4 ⟨rfl, q4, rfl⟩
  go_wp2_with fail
  refine (may_no (hr1.keep (S := fun k => b < k) (by (repeat' (first | with_reducible exact Keeps.refl _ _ | with_reducible refine Keeps.set ?_ (by simp <;> omega) _ | with_reducible refine Keeps.alloc ?_ _ | with_reducible refine Keeps.drewN ?_ _ | with_reducible refine Keeps.drew ?_))) (fun k hk hn => by omega)) (by omega) (by omega) H5'.out).mono ?_
  rintro e w5 ⟨rfl, q5, rfl⟩
  go_wp2_with fail
  refine (may_no (hr1.keep (S := fun k => b < k) (by (repeat' (first | with_reducible exact Keeps.refl _ _ | with_reducible refine Keeps.set ?_ (by simp <;> omega) _ | with_reducible refine Keeps.alloc ?_ _ | with_reducible refine Keeps.drewN ?_ _ | with_reducible refine Keeps.drew ?_))) (fun k hk hn => by omega)) (by omega) (by omega) H6'.out).mono ?_
  rintro e w6 ⟨rfl, q6, rfl⟩
  go_wp2_with fail
  refine (may_no (hr1.keep (S := fun k => b < k) (by (repeat' (first | with_reducible exact Keeps.refl _ _ | with_reducible refine Keeps.set ?_ (by simp <;> omega) _ | with_reducible refine Keeps.alloc ?_ _ | with_reducible refine Keeps.drewN ?_ _ | with_reducible refine Keeps.drew ?_))) (fun k hk hn => by omega)) (by omega) (by omega) H7'.out).mono ?_
  rintro e w7 ⟨rfl, q7, rfl⟩
  go_wp2_with fail
  refine (must_no (hr1.keep (S := fun k => b < k) (by (repeat' (first | with_reducible exact Keeps.refl _ _ | with_reducible refine Keeps.set ?_ (by simp <;> omega) _ | with_reducible refine Keeps.alloc ?_ _ | with_reducible refine Keeps.drewN ?_ _ | with_reducible refine Keeps.drew ?_))) (fun k hk hn => by omega)) (by omega) (by omega) H8'.out).mono ?_
  rintro e w8 ⟨rfl, q8, rfl⟩
  exact ⟨rfl, RPost.mkE rfl rfl (by (repeat' (first | with_reducible exact hK1 | with_reducible refine Keeps.set ?_ (by simp <;> omega) _ | with_reducible refine Keeps.alloc ?_ _ | with_reducible refine Keeps.drewN ?_ _ | with_reducible refine Keeps.drew ?_)))⟩

set_option maxHeartbeats 1000000 in
theorem open_f12 {w : World} {b : Nat} {L s : List Int}  (h : Rs w b 1 L s) (H1 : hd s = 63) (H2 : ¬ hd s.tail = 58) (H3 : ¬ hd s.tail = 62) (H4 : ¬ hd s.tail = 61) (H5 : ¬ hd s.tail = 33) (H6 : ¬ hd s.tail = 60) (H7 : ¬ hd s.tail = 45) (H8 : hd s.tail = 105) (H9 : hd s.tail.tail = 41) :
    Calls Tryz.prog 91 #[.pointer (some ⟨b, 0, none⟩)] w fun e w' => RPost b 1 L w (.ok ({ kind := 11, fold := 1 }, s.tail.tail.tail)) e w' := by
  have hb := h.lt
  have h0 : w.cell? ⟨b, 0, none⟩ = some (.int .i64 1) := by obtain ⟨_, _, _, h0, _⟩ := h; exact h0
  have H1' := hid H1
  clear H1
  have H2' := hid H2
  clear H2
  have H3' := hid H3
  clear H3
  have H4' := hid H4
  clear H4
  have H5' := hid H5
  clear H5
  have H6' := hid H6
  clear H6
  have H7' := hid H7
  clear H7
  have H8' := hid H8
  clear H8
  have H9' := hid H9
  clear H9
  go_enter Tryz.func91, Tryz.ntmps91
  go_wp2_with fail
  refine (may_yes (h.keep (S := fun k => b < k) (by (repeat' (first | with_reducible exact Keeps.refl _ _ | with_reducible refine Keeps.set ?_ (by simp <;> omega) _ | with_reducible refine Keeps.alloc ?_ _ | with_reducible refine Keeps.drewN ?_ _ | with_reducible refine Keeps.drew ?_))) (fun k hk hn => by omega)) (by omega) (by omega) H1'.out).mono ?_
  rintro e w1 ⟨rfl, hr1, hk1⟩
  have hK1 : Keeps (But b) w w1 := Keeps.trans (by (repeat' (first | with_reducible exact Keeps.refl _ _ | with_reducible refine Keeps.set ?_ (by simp <;> omega) _ | with_reducible refine Keeps.alloc ?_ _ | with_reducible refine Keeps.drewN ?_ _ | with_reducible refine Keeps.drew ?_))) hk1
  have hs1 : w.heap.size + 2 ≤ w1.heap.size := by have := hk1.size; (try simp at this); omega
  have hb1 : b < w1.heap.size := by omega
  have c0_hk1 := fun o => hk1.cell (b := w.heap.size) (o := o) (by first | omega | (simp; done) | (simp; omega)) (by first | omega | (simp; done) | (simp; omega)); have z0_hk1 := fun o => hk1.frozen (b := w.heap.size) (o := o) (by first | omega | (simp; done) | (simp; omega)) (by first | omega | (simp; done) | (simp; omega)); have c1_hk1 := fun o => hk1.cell (b := w.heap.size + 1) (o := o) (by first | omega | (simp; done) | (simp; omega)) (by first | omega | (simp; done) | (simp; omega)); have z1_hk1 := fun o => hk1.frozen (b := w.heap.size + 1) (o := o) (by first | omega | (simp; done) | (simp; omega)) (by first | omega | (simp; done) | (simp; omega))
  go_wp2_with fail
  refine (may_no (hr1.keep (S := fun k => b < k) (by (repeat' (first | with_reducible exact Keeps.refl _ _ | with_reducible refine Keeps.set ?_ (by simp <;> omega) _ | with_reducible refine Keeps.alloc ?_ _ | with_reducible refine Keeps.drewN ?_ _ | with_reducible refine Keeps.drew ?_))) (fun k hk hn => by omega)) (by omega) (by omega) H2'.out).mono ?_
  rintro e w2 ⟨rfl, q2, rfl⟩
  go_wp2_with fail
  refine (may_no (hr1.keep (S := fun k => b < k) (by (repeat' (first | with_reducible exact Keeps.refl _ _ | with_reducible refine Keeps.set ?_ (by simp <;> omega) _ | with_reducible refine Keeps.alloc ?_ _ | with_reducible refine Keeps.drewN ?_ _ | with_reducible refine Keeps.drew ?_))) (fun k hk hn => by omega)) (by omega) (by omega) H3'.out).mono ?_
  rintro e w3 ⟨rfl, q3, rfl⟩
  go_wp2_with fail
  refine (may_no (hr1.keep (S := fun k => b < k) (by (repeat' (first | with_reducible exact Keeps.refl _ _ | with_reducible refine Keeps.set ?_ (by simp <;> omega) _ | with_reducible refine Keeps.alloc ?_ _ | with_reducible refine Keeps.drewN ?_ _ | with_reducible refine Keeps.drew ?_))) (fun k hk hn => by omega)) (by omega) (by omega) H4'.out).mono ?_
  rintro e w4 ⟨rfl, q4, rfl⟩
  go_wp2_with fail
  refine (may_no (hr1.keep (S := fun k => b < k) (by (repeat' (first | with_reducible exact Keeps.refl _ _ | with_reducible refine Keeps.set ?_ (by simp <;> omega) _ | with_reducible refine Keeps.alloc ?_ _ | with_reducible refine Keeps.drewN ?_ _ | with_reducible refine Keeps.drew ?_))) (fun k hk hn => by omega)) (by omega) (by omega) H5'.out).mono ?_
  rintro e w5 ⟨rfl, q5, rfl⟩
  go_wp2_with fail
  refine (may_no (hr1.keep (S := fun k => b < k) (by (repeat' (first | with_reducible exact Keeps.refl _ _ | with_reducible refine Keeps.set ?_ (by simp <;> omega) _ | with_reducible refine Keeps.alloc ?_ _ | with_reducible refine Keeps.drewN ?_ _ | with_reducible refine Keeps.drew ?_))) (fun k hk hn => by omega)) (by omega) (by omega) H6'.out).mono ?_
  rintro e w6 ⟨rfl, q6, rfl⟩
  go_wp2_with fail
  refine (may_no (hr1.keep (S := fun k => b < k) (by (repeat' (first | with_reducible exact Keeps.refl _ _ | with_reducible refine Keeps.set ?_ (by simp <;> omega) _ | with_reducible refine Keeps.alloc ?_ _ | with_reducible refine Keeps.drewN ?_ _ | with_reducible refine Keeps.drew ?_))) (fun k hk hn => by omega)) (by omega) (by omega) H7'.out).mono ?_
  rintro e w7 ⟨rfl, q7, rfl⟩
  go_wp2_with fail
  refine (must_yes (hr1.keep (S := fun k => b < k) (by (repeat' (first | with_reducible exact Keeps.refl _ _ | with_reducible refine Keeps.set ?_ (by simp <;> omega) _ | with_reducible refine Keeps.alloc ?_ _ | with_reducible refine Keeps.drewN ?_ _ | with_reducible refine Keeps.drew ?_))) (fun k hk hn => by omega)) (by omega) (by omega) H8'.out).mono ?_
  rintro e w8 ⟨rfl, hr8, hk8⟩
  have hK8 : Keeps (But b) w w8 := Keeps.trans (by (repeat' (first | with_reducible exact hK1 | with_reducible refine Keeps.set ?_ (by simp <;> omega) _ | with_reducible refine Keeps.alloc ?_ _ | with_reducible refine Keeps.drewN ?_ _ | with_reducible refine Keeps.drew ?_))) hk8
  have hs8 : w.heap.size + 2 ≤ w8.heap.size := by have := hk8.size; (try simp at this); omega
  have hb8 : b < w8.heap.size := by omega
  have c0_hk8 := fun o => hk8.cell (b := w.heap.size) (o := o) (by first | omega | (simp; done) | (simp; omega)) (by first | omega | (simp; done) | (simp; omega)); have z0_hk8 := fun o => hk8.frozen (b := w.heap.size) (o := o) (by first | omega | (simp; done) | (simp; omega)) (by first | omega | (simp; done) | (simp; omega)); have c1_hk8 := fun o => hk8.cell (b := w.heap.size + 1) (o := o) (by first | omega | (simp; done) | (simp; omega)) (by first | omega | (simp; done) | (simp; omega)); have z1_hk8 := fun o => hk8.frozen (b := w.heap.size + 1) (o := o) (by first | omega | (simp; done) | (simp; omega)) (by first | omega | (simp; done) | (simp; omega))
  go_wp2_with fail
  refine (may_yes (hr8.keep (S := fun k => b < k) (by (repeat' (first | with_reducible exact Keeps.refl _ _ | with_reducible refine Keeps.set ?_ (by simp <;> omega) _ | with_reducible refine Keeps.alloc ?_ _ | with_reducible refine Keeps.drewN ?_ _ | with_reducible refine Keeps.drew ?_))) (fun k hk hn => by omega)) (by omega) (by omega) H9'.out).mono ?_
  rintro e w9 ⟨rfl, hr9, hk9⟩
  have hK9 : Keeps (But b) w w9 := Keeps.trans (by (repeat' (first | with_reducible exact hK8 | with_reducible refine Keeps.set ?_ (by simp <;> omega) _ | with_reducible refine Keeps.alloc ?_ _ | with_reducible refine Keeps.drewN ?_ _ | with_reducible refine Keeps.drew ?_))) hk9
  have hs9 : w.heap.size + 2 ≤ w9.heap.size := by have := hk9.size; (try simp at this); omega
  have hb9 : b < w9.heap.size := by omega
  have c0_hk9 := fun o => hk9.cell (b := w.heap.size) (o := o) (by first | omega | (simp; done) | (simp; omega)) (by first | omega | (simp; done) | (simp; omega)); have z0_hk9 := fun o => hk9.frozen (b := w.heap.size) (o := o) (by first | omega | (simp; done) | (simp; omega)) (by first | omega | (simp; done) | (simp; omega)); have c1_hk9 := fun o => hk9.cell (b := w.heap.size + 1) (o := o) (by first | omega | (simp; done) | (simp; omega)) (by first | omega | (simp; done) | (simp; omega)); have z1_hk9 := fun o => hk9.frozen (b := w.heap.size + 1) (o := o) (by first | omega | (simp; done) | (simp; omega)) (by first | omega | (simp; done) | (simp; omega))
  go_wp2_with fail
  refine bodyPost_ret (v := tkV { kind := 11, fold := 1 }) (by simp [results, Tryz.results91, go_sem, tkV, point, look, again, *]) rfl (RPost.mk (t := { kind := 11, fold := 1 }) (rfl) rfl (hr9.keep (S := fun k => b < k) ?_ (fun k hk hn => by omega)) ?_)
  · (repeat' (first | with_reducible exact Keeps.refl _ _ | with_reducible refine Keeps.set ?_ (by simp <;> omega) _ | with_reducible refine Keeps.alloc ?_ _ | with_reducible refine Keeps.drewN ?_ _ | with_reducible refine Keeps.drew ?_))
  · (repeat' (first | with_reducible exact hK9 | with_reducible refine Keeps.set ?_ (by simp <;> omega) _ | with_reducible refine Keeps.alloc ?_ _ | with_reducible refine Keeps.drewN ?_ _ | with_reducible refine Keeps.drew ?_))

set_option maxHeartbeats 1000000 in
theorem open_f13 {w : World} {b : Nat} {L s : List Int}  (h : Rs w b 1 L s) (H1 : hd s = 63) (H2 : ¬ hd s.tail = 58) (H3 : ¬ hd s.tail = 62) (H4 : ¬ hd s.tail = 61) (H5 : ¬ hd s.tail = 33) (H6 : ¬ hd s.tail = 60) (H7 : ¬ hd s.tail = 45) (H8 : hd s.tail = 105) (H9 : ¬ hd s.tail.tail = 41) (H10 : hd s.tail.tail = 58) :
    Calls Tryz.prog 91 #[.pointer (some ⟨b, 0, none⟩)] w fun e w' => RPost b 1 L w (.ok ({ kind := 7, number := 1, fold := 1 }, s.tail.tail.tail)) e w' := by
  have hb := h.lt
  have h0 : w.cell? ⟨b, 0, none⟩ = some (.int .i64 1) := by obtain ⟨_, _, _, h0, _⟩ := h; exact h0
  have H1' := hid H1
  clear H1
  have H2' := hid H2
  clear H2
  have H3' := hid H3
  clear H3
  have H4' := hid H4
  clear H4
  have H5' := hid H5
  clear H5
  have H6' := hid H6
  clear H6
  have H7' := hid H7
  clear H7
  have H8' := hid H8
  clear H8
  have H9' := hid H9
  clear H9
  have H10' := hid H10
  clear H10
  go_enter Tryz.func91, Tryz.ntmps91
  go_wp2_with fail
  refine (may_yes (h.keep (S := fun k => b < k) (by (repeat' (first | with_reducible exact Keeps.refl _ _ | with_reducible refine Keeps.set ?_ (by simp <;> omega) _ | with_reducible refine Keeps.alloc ?_ _ | with_reducible refine Keeps.drewN ?_ _ | with_reducible refine Keeps.drew ?_))) (fun k hk hn => by omega)) (by omega) (by omega) H1'.out).mono ?_
  rintro e w1 ⟨rfl, hr1, hk1⟩
  have hK1 : Keeps (But b) w w1 := Keeps.trans (by (repeat' (first | with_reducible exact Keeps.refl _ _ | with_reducible refine Keeps.set ?_ (by simp <;> omega) _ | with_reducible refine Keeps.alloc ?_ _ | with_reducible refine Keeps.drewN ?_ _ | with_reducible refine Keeps.drew ?_))) hk1
  have hs1 : w.heap.size + 2 ≤ w1.heap.size := by have := hk1.size; (try simp at this); omega
  have hb1 : b < w1.heap.size := by omega
  have c0_hk1 := fun o => hk1.cell (b := w.heap.size) (o := o) (by first | omega | (simp; done) | (simp; omega)) (by first | omega | (simp; done) | (simp; omega)); have z0_hk1 := fun o => hk1.frozen (b := w.heap.size) (o := o) (by first | omega | (simp; done) | (simp; omega)) (by first | omega | (simp; done) | (simp; omega)); have c1_hk1 := fun o => hk1.cell (b := w.heap.size + 1) (o := o) (by first | omega | (simp; done) | (simp; omega)) (by first | omega | (simp; done) | (simp; omega)); have z1_hk1 := fun o => hk1.frozen (b := w.heap.size + 1) (o := o) (by first | omega | (simp; done) | (simp; omega)) (by first | omega | (simp; done) | (simp; omega))
  go_wp2_with fail
  refine (may_no (hr1.keep (S := fun k => b < k) (by (repeat' (first | with_reducible exact Keeps.refl _ _ | with_reducible refine Keeps.set ?_ (by simp <;> omega) _ | with_reducible refine Keeps.alloc ?_ _ | with_reducible refine Keeps.drewN ?_ _ | with_reducible refine Keeps.drew ?_))) (fun k hk hn => by omega)) (by omega) (by omega) H2'.out).mono ?_
  rintro e w2 ⟨rfl, q2, rfl⟩
  go_wp2_with fail
  refine (may_no (hr1.keep (S := fun k => b < k) (by (repeat' (first | with_reducible exact Keeps.refl _ _ | with_reducible refine Keeps.set ?_ (by simp <;> omega) _ | with_reducible refine Keeps.alloc ?_ _ | with_reducible refine Keeps.drewN ?_ _ | with_reducible refine Keeps.drew ?_))) (fun k hk hn => by omega)) (by omega) (by omega) H3'.out).mono ?_
  rintro e w3 ⟨rfl, q3, rfl⟩
  go_wp2_with fail
  refine (may_no (hr1.keep (S := fun k => b < k) (by (repeat' (first | with_reducible exact Keeps.refl _ _ | with_reducible refine Keeps.set ?_ (by simp <;> omega) _ | with_reducible refine Keeps.alloc ?_ _ | with_reducible refine Keeps.drewN ?_ _ | with_reducible refine Keeps.drew ?_))) (fun k hk hn => by omega)) (by omega) (by omega) H4'.out).mono ?_
  rintro e w4 ⟨rfl, q4, rfl⟩
  go_wp2_with fail
  refine (may_no (hr1.keep (S := fun k => b < k) (by (repeat' (first | with_reducible exact Keeps.refl _ _ | with_reducible refine Keeps.set ?_ (by simp <;> omega) _ | with_reducible refine Keeps.alloc ?_ _ | with_reducible refine Keeps.drewN ?_ _ | with_reducible refine Keeps.drew ?_))) (fun k hk hn => by omega)) (by omega) (by omega) H5'.out).mono ?_
  rintro e w5 ⟨rfl, q5, rfl⟩
  go_wp2_with fail
  refine (may_no (hr1.keep (S := fun k => b < k) (by (repeat' (first | with_reducible exact Keeps.refl _ _ | with_reducible refine Keeps.set ?_ (by simp <;> omega) _ | with_reducible refine Keeps.alloc ?_ _ | with_reducible refine Keeps.drewN ?_ _ | with_reducible refine Keeps.drew ?_))) (fun k hk hn => by omega)) (by omega) (by omega) H6'.out).mono ?_
  rintro e w6 ⟨rfl, q6, rfl⟩
  go_wp2_with fail
  refine (may_no (hr1.keep (S := fun k => b < k) (by (repeat' (first | with_reducible exact Keeps.refl _ _ | with_reducible refine Keeps.set ?_ (by simp <;> omega) _ | with_reducible refine Keeps.alloc ?_ _ | with_reducible refine Keeps.drewN ?_ _ | with_reducible refine Keeps.drew ?_))) (fun k hk hn => by omega)) (by omega) (by omega) H7'.out).mono ?_
  rintro e w7 ⟨rfl, q7, rfl⟩
  go_wp2_with fail
  refine (must_yes (hr1.keep (S := fun k => b < k) (by (repeat' (first | with_reducible exact Keeps.refl _ _ | with_reducible refine Keeps.set ?_ (by simp <;> omega) _ | with_reducible refine Keeps.alloc ?_ _ | with_reducible refine Keeps.drewN ?_ _ | with_reducible refine Keeps.drew ?_))) (fun k hk hn => by omega)) (by omega) (by omega) H8'.out).mono ?_
  rintro e w8 ⟨rfl, hr8, hk8⟩
  have hK8 : Keeps (But b) w w8 := Keeps.trans (by (repeat' (first | with_reducible exact hK1 | with_reducible refine Keeps.set ?_ (by simp <;> omega) _ | with_reducible refine Keeps.alloc ?_ _ | with_reducible refine Keeps.drewN ?_ _ | with_reducible refine Keeps.drew ?_))) hk8
  have hs8 : w.heap.size + 2 ≤ w8.heap.size := by have := hk8.size; (try simp at this); omega
  have hb8 : b < w8.heap.size := by omega
  have c0_hk8 := fun o => hk8.cell (b := w.heap.size) (o := o) (by first | omega | (simp; done) | (simp; omega)) (by first | omega | (simp; done) | (simp; omega)); have z0_hk8 := fun o => hk8.frozen (b := w.heap.size) (o := o) (by first | omega | (simp; done) | (simp; omega)) (by first | omega | (simp; done) | (simp; omega)); have c1_hk8 := fun o => hk8.cell (b := w.heap.size + 1) (o := o) (by first | omega | (simp; done) | (simp; omega)) (by first | omega | (simp; done) | (simp; omega)); have z1_hk8 := fun o => hk8.frozen (b := w.heap.size + 1) (o := o) (by first | omega | (simp; done) | (simp; omega)) (by first | omega | (simp; done) | (simp; omega))
  go_wp2_with fail
  refine (may_no (hr8.keep (S := fun k => b < k) (by (repeat' (first | with_reducible exact Keeps.refl _ _ | with_reducible refine Keeps.set ?_ (by simp <;> omega) _ | with_reducible refine Keeps.alloc ?_ _ | with_reducible refine Keeps.drewN ?_ _ | with_reducible refine Keeps.drew ?_))) (fun k hk hn => by omega)) (by omega) (by omega) H9'.out).mono ?_
  rintro e w9 ⟨rfl, q9, rfl⟩
  go_wp2_with fail
  refine (must_yes (hr8.keep (S := fun k => b < k) (by (repeat' (first | with_reducible exact Keeps.refl _ _ | with_reducible refine Keeps.set ?_ (by simp <;> omega) _ | with_reducible refine Keeps.alloc ?_ _ | with_reducible refine Keeps.drewN ?_ _ | with_reducible refine Keeps.drew ?_))) (fun k hk hn => by omega)) (by omega) (by omega) H10'.out).mono ?_
  rintro e w10 ⟨rfl, hr10, hk10⟩
  have hK10 : Keeps (But b) w w10 := Keeps.trans (by (repeat' (first | with_reducible exact hK8 | with_reducible refine Keeps.set ?_ (by simp <;> omega) _ | with_reducible refine Keeps.alloc ?_ _ | with_reducible refine Keeps.drewN ?_ _ | with_reducible refine Keeps.drew ?_))) hk10
  have hs10 : w.heap.size + 2 ≤ w10.heap.size := by have := hk10.size; (try simp at this); omega
  have hb10 : b < w10.heap.size := by omega
  have c0_hk10 := fun o => hk10.cell (b := w.heap.size) (o := o) (by first | omega | (simp; done) | (simp; omega)) (by first | omega | (simp; done) | (simp; omega)); have z0_hk10 := fun o => hk10.frozen (b := w.heap.size) (o := o) (by first | omega | (simp; done) | (simp; omega)) (by first | omega | (simp; done) | (simp; omega)); have c1_hk10 := fun o => hk10.cell (b := w.heap.size + 1) (o := o) (by first | omega | (simp; done) | (simp; omega)) (by first | omega | (simp; done) | (simp; omega)); have z1_hk10 := fun o => hk10.frozen (b := w.heap.size + 1) (o := o) (by first | omega | (simp; done) | (simp; omega)) (by first | omega | (simp; done) | (simp; omega))
  go_wp2_with fail
  refine bodyPost_ret (v := tkV { kind := 7, number := 1, fold := 1 }) (by simp [results, Tryz.results91, go_sem, tkV, point, look, again, *]) rfl (RPost.mk (t := { kind := 7, number := 1, fold := 1 }) (rfl) rfl (hr10.keep (S := fun k => b < k) ?_ (fun k hk hn => by omega)) ?_)
  · (repeat' (first | with_reducible exact Keeps.refl _ _ | with_reducible refine Keeps.set ?_ (by simp <;> omega) _ | with_reducible refine Keeps.alloc ?_ _ | with_reducible refine Keeps.drewN ?_ _ | with_reducible refine Keeps.drew ?_))
  · (repeat' (first | with_reducible exact hK10 | with_reducible refine Keeps.set ?_ (by simp <;> omega) _ | with_reducible refine Keeps.alloc ?_ _ | with_reducible refine Keeps.drewN ?_ _ | with_reducible refine Keeps.drew ?_))

set_option maxHeartbeats 1000000 in
theorem open_f14 {w : World} {b : Nat} {L s : List Int}  (h : Rs w b 1 L s) (H1 : hd s = 63) (H2 : ¬ hd s.tail = 58) (H3 : ¬ hd s.tail = 62) (H4 : ¬ hd s.tail = 61) (H5 : ¬ hd s.tail = 33) (H6 : ¬ hd s.tail = 60) (H7 : ¬ hd s.tail = 45) (H8 : hd s.tail = 105) (H9 : ¬ hd s.tail.tail = 41) (H10 : ¬ hd s.tail.tail = 58) :
    Calls Tryz.prog 91 #[.pointer (some ⟨b, 0, none⟩)] w fun e w' => RPost b 1 L w (.error 1) e w' := by
  have hb := h.lt
  have h0 : w.cell? ⟨b, 0, none⟩ = some (.int .i64 1) := by obtain ⟨_, _, _, h0, _⟩ := h; exact h0
  have H1' := hid H1
  clear H1
  have H2' := hid H2
  clear H2
  have H3' := hid H3
  clear H3
  have H4' := hid H4
  clear H4
  have H5' := hid H5
  clear H5
  have H6' := hid H6
  clear H6
  have H7' := hid H7
  clear H7
  have H8' := hid H8
  clear H8
  have H9' := hid H9
  clear H9
  have H10' := hid H10
  clear H10
  go_enter Tryz.func91, Tryz.ntmps91
  go_wp2_with fail
  refine (may_yes (h.keep (S := fun k => b < k) (by (repeat' (first | with_reducible exact Keeps.refl _ _ | with_reducible refine Keeps.set ?_ (by simp <;> omega) _ | with_reducible refine Keeps.alloc ?_ _ | with_reducible refine Keeps.drewN ?_ _ | with_reducible refine Keeps.drew ?_))) (fun k hk hn => by omega)) (by omega) (by omega) H1'.out).mono ?_
  rintro e w1 ⟨rfl, hr1, hk1⟩
  have hK1 : Keeps (But b) w w1 := Keeps.trans (by (repeat' (first | with_reducible exact Keeps.refl _ _ | with_reducible refine Keeps.set ?_ (by simp <;> omega) _ | with_reducible refine Keeps.alloc ?_ _ | with_reducible refine Keeps.drewN ?_ _ | with_reducible refine Keeps.drew ?_))) hk1
  have hs1 : w.heap.size + 2 ≤ w1.heap.size := by have := hk1.size; (try simp at this); omega
  have hb1 : b < w1.heap.size := by omega
  have c0_hk1 := fun o => hk1.cell (b := w.heap.size) (o := o) (by first | omega | (simp; done) | (simp; omega)) (by first | omega | (simp; done) | (simp; omega)); have z0_hk1 := fun o => hk1.frozen (b := w.heap.size) (o := o) (by first | omega | (simp; done) | (simp; omega)) (by first | omega | (simp; done) | (simp; omega)); have c1_hk1 := fun o => hk1.cell (b := w.heap.size + 1) (o := o) (by first | omega | (simp; done) | (simp; omega)) (by first | omega | (simp; done) | (simp; omega)); have z1_hk1 := fun o => hk1.frozen (b := w.heap.size + 1) (o := o) (by first | omega | (simp; done) | (simp; omega)) (by first | omega | (simp; done) | (simp; omega))
  go_wp2_with fail
  refine (may_no (hr1.keep (S := fun k => b < k) (by (repeat' (first | with_reducible exact Keeps.refl _ _ | with_reducible refine Keeps.set ?_ (by simp <;> omega) _ | with_reducible refine Keeps.alloc ?_ _ | with_reducible refine Keeps.drewN ?_ _ | with_reducible refine Keeps.drew ?_))) (fun k hk hn => by omega)) (by omega) (by omega) H2'.out).mono ?_
  rintro e w2 ⟨rfl, q2, rfl⟩
  go_wp2_with fail
  refine (may_no (hr1.keep (S := fun k => b < k) (by (repeat' (first | with_reducible exact Keeps.refl _ _ | with_reducible refine Keeps.set ?_ (by simp <;> omega) _ | with_reducible refine Keeps.alloc ?_ _ | with_reducible refine Keeps.drewN ?_ _ | with_reducible refine Keeps.drew ?_))) (fun k hk hn => by omega)) (by omega) (by omega) H3'.out).mono ?_
  rintro e w3 ⟨rfl, q3, rfl⟩
  go_wp2_with fail
  refine (may_no (hr1.keep (S := fun k => b < k) (by (repeat' (first | with_reducible exact Keeps.refl _ _ | with_reducible refine Keeps.set ?_ (by simp <;> omega) _ | with_reducible refine Keeps.alloc ?_ _ | with_reducible refine Keeps.drewN ?_ _ | with_reducible refine Keeps.drew ?_))) (fun k hk hn => by omega)) (by omega) (by omega) H4'.out).mono ?_
  rintro e w4 ⟨rfl, q4, rfl⟩
  go_wp2_with fail
  refine (may_no (hr1.keep (S := fun k => b < k) (by (repeat' (first | with_reducible exact Keeps.refl _ _ | with_reducible refine Keeps.set ?_ (by simp <;> omega) _ | with_reducible refine Keeps.alloc ?_ _ | with_reducible refine Keeps.drewN ?_ _ | with_reducible refine Keeps.drew ?_))) (fun k hk hn => by omega)) (by omega) (by omega) H5'.out).mono ?_
  rintro e w5 ⟨rfl, q5, rfl⟩
  go_wp2_with fail
  refine (may_no (hr1.keep (S := fun k => b < k) (by (repeat' (first | with_reducible exact Keeps.refl _ _ | with_reducible refine Keeps.set ?_ (by simp <;> omega) _ | with_reducible refine Keeps.alloc ?_ _ | with_reducible refine Keeps.drewN ?_ _ | with_reducible refine Keeps.drew ?_))) (fun k hk hn => by omega)) (by omega) (by omega) H6'.out).mono ?_
  rintro e w6 ⟨rfl, q6, rfl⟩
  go_wp2_with fail
  refine (may_no (hr1.keep (S := fun k => b < k) (by (repeat' (first | with_reducible exact Keeps.refl _ _ | with_reducible refine Keeps.set ?_ (by simp <;> omega) _ | with_reducible refine Keeps.alloc ?_ _ | with_reducible refine Keeps.drewN ?_ _ | with_reducible refine Keeps.drew ?_))) (fun k hk hn => by omega)) (by omega) (by omega) H7'.out).mono ?_
  rintro e w7 ⟨rfl, q7, rfl⟩
  go_wp2_with fail
  refine (must_yes (hr1.keep (S := fun k => b < k) (by (repeat' (first | with_reducible exact Keeps.refl _ _ | with_reducible refine Keeps.set ?_ (by simp <;> omega) _ | with_reducible refine Keeps.alloc ?_ _ | with_reducible refine Keeps.drewN ?_ _ | with_reducible refine Keeps.drew ?_))) (fun k hk hn => by omega)) (by omega) (by omega) H8'.out).mono ?_
  rintro e w8 ⟨rfl, hr8, hk8⟩
  have hK8 : Keeps (But b) w w8 := Keeps.trans (by (repeat' (first | with_reducible exact hK1 | with_reducible refine Keeps.set ?_ (by simp <;> omega) _ | with_reducible refine Keeps.alloc ?_ _ | with_reducible refine Keeps.drewN ?_ _ | with_reducible refine Keeps.drew ?_))) hk8
  have hs8 : w.heap.size + 2 ≤ w8.heap.size := by have := hk8.size; (try simp at this); omega
  have hb8 : b < w8.heap.size := by omega
  have c0_hk8 := fun o => hk8.cell (b := w.heap.size) (o := o) (by first | omega | (simp; done) | (simp; omega)) (by first | omega | (simp; done) | (simp; omega)); have z0_hk8 := fun o => hk8.frozen (b := w.heap.size) (o := o) (by first | omega | (simp; done) | (simp; omega)) (by first | omega | (simp; done) | (simp; omega)); have c1_hk8 := fun o => hk8.cell (b := w.heap.size + 1) (o := o) (by first | omega | (simp; done) | (simp; omega)) (by first | omega | (simp; done) | (simp; omega)); have z1_hk8 := fun o => hk8.frozen (b := w.heap.size + 1) (o := o) (by first | omega | (simp; done) | (simp; omega)) (by first | omega | (simp; done) | (simp; omega))
  go_wp2_with fail
  refine (may_no (hr8.keep (S := fun k => b < k) (by (repeat' (first | with_reducible exact Keeps.refl _ _ | with_reducible refine Keeps.set ?_ (by simp <;> omega) _ | with_reducible refine Keeps.alloc ?_ _ | with_reducible refine Keeps.drewN ?_ _ | with_reducible refine Keeps.drew ?_))) (fun k hk hn => by omega)) (by omega) (by omega) H9'.out).mono ?_
  rintro e w9 ⟨rfl, q9, rfl⟩
  go_wp2_with fail
  refine (must_no (hr8.keep (S := fun k => b < k) (by (repeat' (first | with_reducible exact Keeps.refl _ _ | with_reducible refine Keeps.set ?_ (by simp <;> omega) _ | with_reducible refine Keeps.alloc ?_ _ | with_reducible refine Keeps.drewN ?_ _ | with_reducible refine Keeps.drew ?_))) (fun k hk hn => by omega)) (by omega) (by omega) H10'.out).mono ?_
  rintro e w10 ⟨rfl, q10, rfl⟩
  exact ⟨rfl, RPost.mkE rfl rfl (by (repeat' (first | with_reducible exact hK8 | with_reducible refine Keeps.set ?_ (by simp <;> omega) _ | with_reducible refine Keeps.alloc ?_ _ | with_reducible refine Keeps.drewN ?_ _ | with_reducible refine Keeps.drew ?_)))⟩


set_option maxHeartbeats 400000 in
theorem open_qd {w : World} {b : Nat} {d : Int} {L s : List Int} (h : Rs w b d L s) (hd1 : ¬ d = 1) :
    Calls Tryz.prog 91 #[.pointer (some ⟨b, 0, none⟩)] w fun e w' => RPost b d L w (.ok ({ kind := 7, number := 11 }, s)) e w' := by
  have hb := h.lt
  have h0 : w.cell? ⟨b, 0, none⟩ = some (.int .i64 d) := by obtain ⟨_, _, _, h0, _⟩ := h; exact h0
  have hdb : (d != 1) = true := by rw [bne_iff_ne]; exact hd1
  go_enter Tryz.func91, Tryz.ntmps91
  go_wp2_with fail
  refine bodyPost_ret (v := tkV { kind := 7, number := 11 }) (by simp [results, Tryz.results91, go_sem, tkV, *]) rfl (RPost.mk rfl rfl (h.keep (S := fun k => b < k) ?_ (fun k hk hn => by omega)) ?_)
  · (repeat' (first | with_reducible exact Keeps.refl _ _ | with_reducible refine Keeps.set ?_ (by simp <;> omega) _ | with_reducible refine Keeps.alloc ?_ _ | with_reducible refine Keeps.drewN ?_ _ | with_reducible refine Keeps.drew ?_))
  · (repeat' (first | with_reducible exact Keeps.refl _ _ | with_reducible refine Keeps.set ?_ (by simp <;> omega) _ | with_reducible refine Keeps.alloc ?_ _ | with_reducible refine Keeps.drewN ?_ _ | with_reducible refine Keeps.drew ?_))

theorem open_calls {w : World} {b : Nat} {d : Int} {L s : List Int} (h : Rs w b d L s) :
    Calls Tryz.prog 91 #[.pointer (some ⟨b, 0, none⟩)] w fun e w' => RPost b d L w (openT d s) e w' := by
  by_cases hd1 : d = 1
  · subst hd1
    unfold openT
    rw [if_neg (by simp)]
    by_cases H1 : hd s = 63
    · rw [if_neg (by simpa using H1)]
      by_cases H2 : hd s.tail = 58
      · rw [if_pos H2]; exact open_q1 h H1 H2
      rw [if_neg H2]
      by_cases H3 : hd s.tail = 62
      · rw [if_pos H3]; exact open_q2 h H1 H2 H3
      rw [if_neg H3]
      by_cases H4 : hd s.tail = 61
      · rw [if_pos H4]; exact open_q3 h H1 H2 H3 H4
      rw [if_neg H4]
      by_cases H5 : hd s.tail = 33
      · rw [if_pos H5]; exact open_q4 h H1 H2 H3 H4 H5
      rw [if_neg H5]
      by_cases H6 : hd s.tail = 60
      · rw [if_pos H6]
        by_cases H7 : hd s.tail.tail = 61
        · rw [if_pos H7]; exact open_q5 h H1 H2 H3 H4 H5 H6 H7
        rw [if_neg H7]
        by_cases H8 : hd s.tail.tail = 33
        · rw [if_pos H8]; exact open_q6 h H1 H2 H3 H4 H5 H6 H7 H8
        rw [if_neg H8]
        by_cases H9 : (nameL s.tail.tail).1 = []
        · rw [if_pos H9]; exact open_q7 h H1 H2 H3 H4 H5 H6 H7 H8 H9
        rw [if_neg H9]
        by_cases H10 : hd (nameL s.tail.tail).2 = 62
        · rw [if_pos H10]; exact open_q8 h H1 H2 H3 H4 H5 H6 H7 H8 H9 H10
        · rw [if_neg H10]; exact open_q9 h H1 H2 H3 H4 H5 H6 H7 H8 H9 H10
      · rw [if_neg H6]
        by_cases H7 : hd s.tail = 45
        · simp only [H7, if_true]
          by_cases H8 : hd s.tail.tail = 105
          · rw [if_neg (by simpa using H8)]
            by_cases H9 : hd s.tail.tail.tail = 41
            · rw [if_pos H9]; exact open_f02 h H1 H2 H3 H4 H5 H6 H7 H8 H9
            rw [if_neg H9]
            by_cases H10 : hd s.tail.tail.tail = 58
            · rw [if_pos H10]; exact open_f03 h H1 H2 H3 H4 H5 H6 H7 H8 H9 H10
            · rw [if_neg H10]; exact open_f04 h H1 H2 H3 H4 H5 H6 H7 H8 H9 H10
          · rw [if_pos H8]; exact open_f01 h H1 H2 H3 H4 H5 H6 H7 H8
        · simp only [H7, if_false]
          by_cases H8 : hd s.tail = 105
          · rw [if_neg (by simpa using H8)]
            by_cases H9 : hd s.tail.tail = 41
            · rw [if_pos H9]; exact open_f12 h H1 H2 H3 H4 H5 H6 H7 H8 H9
            rw [if_neg H9]
            by_cases H10 : hd s.tail.tail = 58
            · rw [if_pos H10]; exact open_f13 h H1 H2 H3 H4 H5 H6 H7 H8 H9 H10
            · rw [if_neg H10]; exact open_f14 h H1 H2 H3 H4 H5 H6 H7 H8 H9 H10
          · rw [if_pos H8]; exact open_f11 h H1 H2 H3 H4 H5 H6 H7 H8
    · rw [if_pos H1]; exact open_q0 h H1
  · have e : openT d s = .ok ({ kind := 7, number := 11 }, s) := by unfold openT; rw [if_pos hd1]
    rw [e]
    exact open_qd h hd1

end Th
end Go.Proofs
