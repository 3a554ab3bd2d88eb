/- The reader of tokens: scalars as one; what is spoken of by name or number. -/
import Derived.Test.YthjjfgpainleaaaGreatTokK

set_option linter.unusedSimpArgs false
set_option linter.unusedVariables false

namespace Go.Proofs
namespace Th
open Go.RowKit

theorem four_hex {l : List Int} (h : Hexes l) (hl : l.length ≤ 4) : ¬ 1114111 < number16 l := by
  have hb := number16_bd h
  have : (16 : Int) ^ l.length ≤ 16 ^ 4 := by exact_mod_cast Nat.pow_le_pow_right (by omega) hl
  have e : (16 : Int) ^ 4 = 65536 := rfl
  omega

theorem bytes_ne3 {l : List Int} (h : ¬ l = []) : ¬ bytesOf l = ⟨#[]⟩ := fun e => bytes_ne2 h (by rw [e, ByteArray.toList_eq])

theorem scalar_calls {w : World} {b : Nat} {L s : List Int} (p : Int) (h : Rs w b 1 L s) :
    Calls Tryz.prog 131 #[.pointer (some ⟨b, 0, none⟩), .int .i64 p] w fun e w' => RPost b 1 L w (scalar p s) e w' := by
  unfold scalar
  by_cases N0 : p = 117
  · rw [if_pos N0]
    subst N0
    by_cases N1 : (run isHex 4 s).1.length < 4
    · rw [if_pos N1]; exact scalar_u0 h N1
    · rw [if_neg N1]
      unfold scalarEnd
      rw [if_neg (fun e => N1 (by rw [e]; decide))]
      by_cases N4 : 1114111 < number16 (run isHex 4 s).1
      · rw [if_pos N4]; exact scalar_u2 h N1 N4
      · rw [if_neg N4]; exact scalar_u3 h N1 N4
  · rw [if_neg N0]
    have NB : (p == 117) = false := by simpa using N0
    by_cases H1 : hd s = 123
    · rw [if_pos H1]
      by_cases H2 : hd (run isHex 6 s.tail).2 = 125
      · rw [if_pos H2]
        unfold scalarEnd
        by_cases H3 : (run isHex 6 s.tail).1 = []
        · rw [if_pos H3]; exact scalar_b1 p h NB H1 H2 H3
        rw [if_neg H3]
        by_cases N4 : 1114111 < number16 (run isHex 6 s.tail).1
        · rw [if_pos N4]; exact scalar_b2 p h NB H1 H2 H3 N4
        · rw [if_neg N4]; exact scalar_b3 p h NB H1 H2 H3 N4
      · rw [if_neg H2]; exact scalar_bn p h NB H1 H2
    · rw [if_neg H1]
      unfold scalarEnd
      by_cases H3 : (run isHex 2 s).1 = []
      · rw [if_pos H3]; exact scalar_x1 p h NB H1 H3
      rw [if_neg H3]
      by_cases N4 : 1114111 < number16 (run isHex 2 s).1
      · rw [if_pos N4]; exact scalar_x2 p h NB H1 H3 N4
      · rw [if_neg N4]; exact scalar_x3 p h NB H1 H3 N4

theorem decimal3 {n : Nat} (s : List Int) (hn : n ≤ 3) : 0 ≤ decimal (run isDigit n s).1 ∧ decimal (run isDigit n s).1 < 1000 := by
  have hd_ := run_digits n s
  have hb := decimal_bd hd_.1
  have : (10 : Int) ^ (run isDigit n s).1.length ≤ 10 ^ 3 := by exact_mod_cast Nat.pow_le_pow_right (by omega) (by omega)
  have e : (10 : Int) ^ 3 = 1000 := rfl
  omega

set_option maxHeartbeats 1000000 in
theorem named_0 {w : World} {b : Nat} {L s : List Int}  (h : Rs w b 1 L s) (H1 : ¬ hd s = 60) :
    Calls Tryz.prog 132 #[.pointer (some ⟨b, 0, none⟩)] w fun e w' => RPost b 1 L w (.error 1) e w' := by
  have hb := h.lt
  have h0 : w.cell? ⟨b, 0, none⟩ = some (.int .i64 1) := by obtain ⟨_, _, _, h0, _⟩ := h; exact h0
  have H1' := hid H1
  clear H1
  go_enter Tryz.func132, Tryz.ntmps132
  go_wp2_with fail
  refine (must_no (h.keep (S := fun k => b < k) (by (repeat' (first | with_reducible exact Keeps.refl _ _ | with_reducible refine Keeps.set ?_ (by simp <;> omega) _ | with_reducible refine Keeps.alloc ?_ _ | with_reducible refine Keeps.drewN ?_ _ | with_reducible refine Keeps.drew ?_))) (fun k hk hn => by omega)) (by omega) (by omega) H1'.out).mono ?_
  rintro e w1 ⟨rfl, q1, rfl⟩
  exact ⟨rfl, RPost.mkE rfl rfl (by (repeat' (first | with_reducible exact Keeps.refl _ _ | with_reducible refine Keeps.set ?_ (by simp <;> omega) _ | with_reducible refine Keeps.alloc ?_ _ | with_reducible refine Keeps.drewN ?_ _ | with_reducible refine Keeps.drew ?_)))⟩

set_option maxHeartbeats 1000000 in
theorem named_1 {w : World} {b : Nat} {L s : List Int}  (h : Rs w b 1 L s) (H1 : hd s = 60) (H2 : ¬ (nameL s.tail).1 = []) (H3 : ¬ hd (nameL s.tail).2 = 62) :
    Calls Tryz.prog 132 #[.pointer (some ⟨b, 0, none⟩)] w fun e w' => RPost b 1 L w (.error 1) e w' := by
  have hb := h.lt
  have h0 : w.cell? ⟨b, 0, none⟩ = some (.int .i64 1) := by obtain ⟨_, _, _, h0, _⟩ := h; exact h0
  have H1' := hid H1
  clear H1
  have H2' := hid H2
  clear H2
  have H3' := hid H3
  clear H3
  go_enter Tryz.func132, Tryz.ntmps132
  go_wp2_with fail
  refine (must_yes (h.keep (S := fun k => b < k) (by (repeat' (first | with_reducible exact Keeps.refl _ _ | with_reducible refine Keeps.set ?_ (by simp <;> omega) _ | with_reducible refine Keeps.alloc ?_ _ | with_reducible refine Keeps.drewN ?_ _ | with_reducible refine Keeps.drew ?_))) (fun k hk hn => by omega)) (by omega) (by omega) H1'.out).mono ?_
  rintro e w1 ⟨rfl, hr1, hk1⟩
  have hK1 : Keeps (But b) w w1 := Keeps.trans (by (repeat' (first | with_reducible exact Keeps.refl _ _ | with_reducible refine Keeps.set ?_ (by simp <;> omega) _ | with_reducible refine Keeps.alloc ?_ _ | with_reducible refine Keeps.drewN ?_ _ | with_reducible refine Keeps.drew ?_))) hk1
  have hs1 : w.heap.size + 1 ≤ w1.heap.size := by have := hk1.size; (try simp at this); omega
  have hb1 : b < w1.heap.size := by omega
  have c0_hk1 := fun o => hk1.cell (b := w.heap.size) (o := o) (by first | omega | (simp; done) | (simp; omega)) (by first | omega | (simp; done) | (simp; omega)); have z0_hk1 := fun o => hk1.frozen (b := w.heap.size) (o := o) (by first | omega | (simp; done) | (simp; omega)) (by first | omega | (simp; done) | (simp; omega))
  go_wp2_with fail
  refine (name_calls (hr1.keep (S := fun k => b < k) (by (repeat' (first | with_reducible exact Keeps.refl _ _ | with_reducible refine Keeps.set ?_ (by simp <;> omega) _ | with_reducible refine Keeps.alloc ?_ _ | with_reducible refine Keeps.drewN ?_ _ | with_reducible refine Keeps.drew ?_))) (fun k hk hn => by omega))).mono ?_
  rintro e w2 ⟨rfl, hr2, hk2⟩
  have hK2 : Keeps (But b) w w2 := Keeps.trans (by (repeat' (first | with_reducible exact hK1 | with_reducible refine Keeps.set ?_ (by simp <;> omega) _ | with_reducible refine Keeps.alloc ?_ _ | with_reducible refine Keeps.drewN ?_ _ | with_reducible refine Keeps.drew ?_))) hk2
  have hs2 : w.heap.size + 1 ≤ w2.heap.size := by have := hk2.size; (try simp at this); omega
  have hb2 : b < w2.heap.size := by omega
  have c0_hk2 := fun o => hk2.cell (b := w.heap.size) (o := o) (by first | omega | (simp; done) | (simp; omega)) (by first | omega | (simp; done) | (simp; omega)); have z0_hk2 := fun o => hk2.frozen (b := w.heap.size) (o := o) (by first | omega | (simp; done) | (simp; omega)) (by first | omega | (simp; done) | (simp; omega))
  have : w.heap.size < w2.heap.size := by omega
  have : w.heap.size ≤ w2.heap.size := by omega
  have : w.heap.size < w2.heap.size + 1 := by omega
  have : ¬ w.heap.size = w2.heap.size + 1 := by omega
  have : ¬ w2.heap.size + 1 = w.heap.size := by omega
  have : ¬ w2.heap.size = b := by omega
  have : ¬ b = w2.heap.size := by omega
  have : ¬ w2.heap.size = w.heap.size := by omega
  have : ¬ w.heap.size = w2.heap.size := by omega
  have t1 := bytes_ne H2'.out; have t2 := bytes_ne2 H2'.out; have t3 := bytes_ne3 H2'.out
  go_wp2_with fail
  refine (must_no (hr2.keep (S := fun k => b < k) (by (repeat' (first | with_reducible exact Keeps.refl _ _ | with_reducible refine Keeps.set ?_ (by simp <;> omega) _ | with_reducible refine Keeps.alloc ?_ _ | with_reducible refine Keeps.drewN ?_ _ | with_reducible refine Keeps.drew ?_))) (fun k hk hn => by omega)) (by omega) (by omega) H3'.out).mono ?_
  rintro e w3 ⟨rfl, q3, rfl⟩
  exact ⟨rfl, RPost.mkE rfl rfl (by (repeat' (first | with_reducible exact hK2 | with_reducible refine Keeps.set ?_ (by simp <;> omega) _ | with_reducible refine Keeps.alloc ?_ _ | with_reducible refine Keeps.drewN ?_ _ | with_reducible refine Keeps.drew ?_)))⟩

set_option maxHeartbeats 1000000 in
theorem named_2 {w : World} {b : Nat} {L s : List Int}  (h : Rs w b 1 L s) (H1 : hd s = 60) (H2 : ¬ (nameL s.tail).1 = []) (H3 : hd (nameL s.tail).2 = 62) :
    Calls Tryz.prog 132 #[.pointer (some ⟨b, 0, none⟩)] w fun e w' => RPost b 1 L w (.ok ({ kind := 10, text := bytesOf (nameL s.tail).1 }, (nameL s.tail).2.tail)) e w' := by
  have hb := h.lt
  have h0 : w.cell? ⟨b, 0, none⟩ = some (.int .i64 1) := by obtain ⟨_, _, _, h0, _⟩ := h; exact h0
  have H1' := hid H1
  clear H1
  have H2' := hid H2
  clear H2
  have H3' := hid H3
  clear H3
  go_enter Tryz.func132, Tryz.ntmps132
  go_wp2_with fail
  refine (must_yes (h.keep (S := fun k => b < k) (by (repeat' (first | with_reducible exact Keeps.refl _ _ | with_reducible refine Keeps.set ?_ (by simp <;> omega) _ | with_reducible refine Keeps.alloc ?_ _ | with_reducible refine Keeps.drewN ?_ _ | with_reducible refine Keeps.drew ?_))) (fun k hk hn => by omega)) (by omega) (by omega) H1'.out).mono ?_
  rintro e w1 ⟨rfl, hr1, hk1⟩
  have hK1 : Keeps (But b) w w1 := Keeps.trans (by (repeat' (first | with_reducible exact Keeps.refl _ _ | with_reducible refine Keeps.set ?_ (by simp <;> omega) _ | with_reducible refine Keeps.alloc ?_ _ | with_reducible refine Keeps.drewN ?_ _ | with_reducible refine Keeps.drew ?_))) hk1
  have hs1 : w.heap.size + 1 ≤ w1.heap.size := by have := hk1.size; (try simp at this); omega
  have hb1 : b < w1.heap.size := by omega
  have c0_hk1 := fun o => hk1.cell (b := w.heap.size) (o := o) (by first | omega | (simp; done) | (simp; omega)) (by first | omega | (simp; done) | (simp; omega)); have z0_hk1 := fun o => hk1.frozen (b := w.heap.size) (o := o) (by first | omega | (simp; done) | (simp; omega)) (by first | omega | (simp; done) | (simp; omega))
  go_wp2_with fail
  refine (name_calls (hr1.keep (S := fun k => b < k) (by (repeat' (first | with_reducible exact Keeps.refl _ _ | with_reducible refine Keeps.set ?_ (by simp <;> omega) _ | with_reducible refine Keeps.alloc ?_ _ | with_reducible refine Keeps.drewN ?_ _ | with_reducible refine Keeps.drew ?_))) (fun k hk hn => by omega))).mono ?_
  rintro e w2 ⟨rfl, hr2, hk2⟩
  have hK2 : Keeps (But b) w w2 := Keeps.trans (by (repeat' (first | with_reducible exact hK1 | with_reducible refine Keeps.set ?_ (by simp <;> omega) _ | with_reducible refine Keeps.alloc ?_ _ | with_reducible refine Keeps.drewN ?_ _ | with_reducible refine Keeps.drew ?_))) hk2
  have hs2 : w.heap.size + 1 ≤ w2.heap.size := by have := hk2.size; (try simp at this); omega
  have hb2 : b < w2.heap.size := by omega
  have c0_hk2 := fun o => hk2.cell (b := w.heap.size) (o := o) (by first | omega | (simp; done) | (simp; omega)) (by first | omega | (simp; done) | (simp; omega)); have z0_hk2 := fun o => hk2.frozen (b := w.heap.size) (o := o) (by first | omega | (simp; done) | (simp; omega)) (by first | omega | (simp; done) | (simp; omega))
  have : w.heap.size < w2.heap.size := by omega
  have : w.heap.size ≤ w2.heap.size := by omega
  have : w.heap.size < w2.heap.size + 1 := by omega
  have : ¬ w.heap.size = w2.heap.size + 1 := by omega
  have : ¬ w2.heap.size + 1 = w.heap.size := by omega
  have : ¬ w2.heap.size = b := by omega
  have : ¬ b = w2.heap.size := by omega
  have : ¬ w2.heap.size = w.heap.size := by omega
  have : ¬ w.heap.size = w2.heap.size := by omega
  have t1 := bytes_ne H2'.out; have t2 := bytes_ne2 H2'.out; have t3 := bytes_ne3 H2'.out
  go_wp2_with fail
  refine (must_yes (hr2.keep (S := fun k => b < k) (by (repeat' (first | with_reducible exact Keeps.refl _ _ | with_reducible refine Keeps.set ?_ (by simp <;> omega) _ | with_reducible refine Keeps.alloc ?_ _ | with_reducible refine Keeps.drewN ?_ _ | with_reducible refine Keeps.drew ?_))) (fun k hk hn => by omega)) (by omega) (by omega) H3'.out).mono ?_
  rintro e w3 ⟨rfl, hr3, hk3⟩
  have hK3 : Keeps (But b) w w3 := Keeps.trans (by (repeat' (first | with_reducible exact hK2 | with_reducible refine Keeps.set ?_ (by simp <;> omega) _ | with_reducible refine Keeps.alloc ?_ _ | with_reducible refine Keeps.drewN ?_ _ | with_reducible refine Keeps.drew ?_))) hk3
  have hs3 : w.heap.size + 1 ≤ w3.heap.size := by have := hk3.size; (try simp at this); omega
  have hb3 : b < w3.heap.size := by omega
  have hz3_0 : w2.heap.size < w3.heap.size := by have := hk3.size; (try simp at this); omega
  have c0_hk3 := fun o => hk3.cell (b := w.heap.size) (o := o) (by first | omega | (simp; done) | (simp; omega)) (by first | omega | (simp; done) | (simp; omega)); have z0_hk3 := fun o => hk3.frozen (b := w.heap.size) (o := o) (by first | omega | (simp; done) | (simp; omega)) (by first | omega | (simp; done) | (simp; omega)); have c1_hk3 := fun o => hk3.cell (b := w2.heap.size) (o := o) (by first | omega | (simp; done) | (simp; omega)) (by first | omega | (simp; done) | (simp; omega)); have z1_hk3 := fun o => hk3.frozen (b := w2.heap.size) (o := o) (by first | omega | (simp; done) | (simp; omega)) (by first | omega | (simp; done) | (simp; omega))
  go_wp2_with fail
  refine bodyPost_ret (v := tkV { kind := 10, text := bytesOf (nameL s.tail).1 }) (by simp [results, Tryz.results132, go_sem, tkV, point, look, again, *]) rfl (RPost.mk (t := { kind := 10, text := bytesOf (nameL s.tail).1 }) (rfl) rfl (hr3.keep (S := fun k => b < k) ?_ (fun k hk hn => by omega)) ?_)
  · (repeat' (first | with_reducible exact Keeps.refl _ _ | with_reducible refine Keeps.set ?_ (by simp <;> omega) _ | with_reducible refine Keeps.alloc ?_ _ | with_reducible refine Keeps.drewN ?_ _ | with_reducible refine Keeps.drew ?_))
  · (repeat' (first | with_reducible exact hK3 | with_reducible refine Keeps.set ?_ (by simp <;> omega) _ | with_reducible refine Keeps.alloc ?_ _ | with_reducible refine Keeps.drewN ?_ _ | with_reducible refine Keeps.drew ?_))

set_option maxHeartbeats 1000000 in
theorem named_0n {w : World} {b : Nat} {L s : List Int}  (h : Rs w b 1 L s) (H1 : hd s = 60) (H2 : (nameL s.tail).1 = []) (H9 : (nameL s.tail).2 = s.tail) (H3 : ¬ hd s.tail = 45) (H4 : (run isDigit 3 s.tail).1 = []) :
    Calls Tryz.prog 132 #[.pointer (some ⟨b, 0, none⟩)] w fun e w' => RPost b 1 L w (.error 1) e w' := by
  have hb := h.lt
  have h0 : w.cell? ⟨b, 0, none⟩ = some (.int .i64 1) := by obtain ⟨_, _, _, h0, _⟩ := h; exact h0
  have H1' := hid H1
  clear H1
  have H2' := hid H2
  clear H2
  have H9' := hid H9
  clear H9
  have H3' := hid H3
  clear H3
  have H4' := hid H4
  clear H4
  go_enter Tryz.func132, Tryz.ntmps132
  go_wp2_with fail
  refine (must_yes (h.keep (S := fun k => b < k) (by (repeat' (first | with_reducible exact Keeps.refl _ _ | with_reducible refine Keeps.set ?_ (by simp <;> omega) _ | with_reducible refine Keeps.alloc ?_ _ | with_reducible refine Keeps.drewN ?_ _ | with_reducible refine Keeps.drew ?_))) (fun k hk hn => by omega)) (by omega) (by omega) H1'.out).mono ?_
  rintro e w1 ⟨rfl, hr1, hk1⟩
  have hK1 : Keeps (But b) w w1 := Keeps.trans (by (repeat' (first | with_reducible exact Keeps.refl _ _ | with_reducible refine Keeps.set ?_ (by simp <;> omega) _ | with_reducible refine Keeps.alloc ?_ _ | with_reducible refine Keeps.drewN ?_ _ | with_reducible refine Keeps.drew ?_))) hk1
  have hs1 : w.heap.size + 1 ≤ w1.heap.size := by have := hk1.size; (try simp at this); omega
  have hb1 : b < w1.heap.size := by omega
  have c0_hk1 := fun o => hk1.cell (b := w.heap.size) (o := o) (by first | omega | (simp; done) | (simp; omega)) (by first | omega | (simp; done) | (simp; omega)); have z0_hk1 := fun o => hk1.frozen (b := w.heap.size) (o := o) (by first | omega | (simp; done) | (simp; omega)) (by first | omega | (simp; done) | (simp; omega))
  go_wp2_with fail
  refine (name_calls (hr1.keep (S := fun k => b < k) (by (repeat' (first | with_reducible exact Keeps.refl _ _ | with_reducible refine Keeps.set ?_ (by simp <;> omega) _ | with_reducible refine Keeps.alloc ?_ _ | with_reducible refine Keeps.drewN ?_ _ | with_reducible refine Keeps.drew ?_))) (fun k hk hn => by omega))).mono ?_
  rintro e w2 ⟨rfl, hr2, hk2⟩
  have hK2 : Keeps (But b) w w2 := Keeps.trans (by (repeat' (first | with_reducible exact hK1 | with_reducible refine Keeps.set ?_ (by simp <;> omega) _ | with_reducible refine Keeps.alloc ?_ _ | with_reducible refine Keeps.drewN ?_ _ | with_reducible refine Keeps.drew ?_))) hk2
  have hs2 : w.heap.size + 1 ≤ w2.heap.size := by have := hk2.size; (try simp at this); omega
  have hb2 : b < w2.heap.size := by omega
  have c0_hk2 := fun o => hk2.cell (b := w.heap.size) (o := o) (by first | omega | (simp; done) | (simp; omega)) (by first | omega | (simp; done) | (simp; omega)); have z0_hk2 := fun o => hk2.frozen (b := w.heap.size) (o := o) (by first | omega | (simp; done) | (simp; omega)) (by first | omega | (simp; done) | (simp; omega))
  have : w.heap.size < w2.heap.size := by omega
  have : w.heap.size ≤ w2.heap.size := by omega
  have : w.heap.size < w2.heap.size + 1 := by omega
  have : ¬ w.heap.size = w2.heap.size + 1 := by omega
  have : ¬ w2.heap.size + 1 = w.heap.size := by omega
  have : ¬ w2.heap.size = b := by omega
  have : ¬ b = w2.heap.size := by omega
  have : ¬ w2.heap.size = w.heap.size := by omega
  have : ¬ w.heap.size = w2.heap.size := by omega
  rw [H2'.out]; have tb : bytesOf [] = ⟨#[]⟩ := rfl; rw [tb]; have hr2 := (show Rs w2 b 1 L s.tail by have := hr2; rw [H9'.out] at this; exact this)
  go_wp2_with fail
  refine (may_no (hr2.keep (S := fun k => b < k) (by (repeat' (first | with_reducible exact Keeps.refl _ _ | with_reducible refine Keeps.set ?_ (by simp <;> omega) _ | with_reducible refine Keeps.alloc ?_ _ | with_reducible refine Keeps.drewN ?_ _ | with_reducible refine Keeps.drew ?_))) (fun k hk hn => by omega)) (by omega) (by omega) H3'.out).mono ?_
  rintro e w3 ⟨rfl, q3, rfl⟩
  go_wp2_with fail
  refine (run_calls isDigit_enters isDigit_calls 3 (by omega) (hr2.keep (S := fun k => b < k) (by (repeat' (first | with_reducible exact Keeps.refl _ _ | with_reducible refine Keeps.set ?_ (by simp <;> omega) _ | with_reducible refine Keeps.alloc ?_ _ | with_reducible refine Keeps.drewN ?_ _ | with_reducible refine Keeps.drew ?_))) (fun k hk hn => by omega))).mono ?_
  rintro e w4 ⟨⟨A4, c4, rfl, hR4, hc4, hx4⟩, hr4, hk4⟩
  have hK4 : Keeps (But b) w w4 := Keeps.trans (by (repeat' (first | with_reducible exact hK2 | with_reducible refine Keeps.set ?_ (by simp <;> omega) _ | with_reducible refine Keeps.alloc ?_ _ | with_reducible refine Keeps.drewN ?_ _ | with_reducible refine Keeps.drew ?_))) hk4
  have hs4 : w.heap.size + 1 ≤ w4.heap.size := by have := hk4.size; (try simp at this); omega
  have hb4 : b < w4.heap.size := by omega
  have hz4_0 : w2.heap.size < w4.heap.size := by have := hk4.size; (try simp at this); omega
  have c0_hk4 := fun o => hk4.cell (b := w.heap.size) (o := o) (by first | omega | (simp; done) | (simp; omega)) (by first | omega | (simp; done) | (simp; omega)); have z0_hk4 := fun o => hk4.frozen (b := w.heap.size) (o := o) (by first | omega | (simp; done) | (simp; omega)) (by first | omega | (simp; done) | (simp; omega)); have c1_hk4 := fun o => hk4.cell (b := w2.heap.size) (o := o) (by first | omega | (simp; done) | (simp; omega)) (by first | omega | (simp; done) | (simp; omega)); have z1_hk4 := fun o => hk4.frozen (b := w2.heap.size) (o := o) (by first | omega | (simp; done) | (simp; omega)) (by first | omega | (simp; done) | (simp; omega))
  rw [H4'.out]
  go_wp2_with fail
  refine (tok_fail _ _).mono ?_
  rintro e w5 ⟨rfl, rfl⟩
  exact ⟨rfl, RPost.mkE rfl rfl (by (repeat' (first | with_reducible exact hK4 | with_reducible refine Keeps.set ?_ (by simp <;> omega) _ | with_reducible refine Keeps.alloc ?_ _ | with_reducible refine Keeps.drewN ?_ _ | with_reducible refine Keeps.drew ?_)))⟩

set_option maxHeartbeats 1000000 in
theorem named_0e {w : World} {b : Nat} {L s : List Int}  (h : Rs w b 1 L s) (H1 : hd s = 60) (H2 : (nameL s.tail).1 = []) (H9 : (nameL s.tail).2 = s.tail) (H3 : ¬ hd s.tail = 45) (H4 : ¬ (run isDigit 3 s.tail).1 = []) (H5 : ¬ hd (run isDigit 3 s.tail).2 = 62) :
    Calls Tryz.prog 132 #[.pointer (some ⟨b, 0, none⟩)] w fun e w' => RPost b 1 L w (.error 1) e w' := by
  have hb := h.lt
  have h0 : w.cell? ⟨b, 0, none⟩ = some (.int .i64 1) := by obtain ⟨_, _, _, h0, _⟩ := h; exact h0
  have H1' := hid H1
  clear H1
  have H2' := hid H2
  clear H2
  have H9' := hid H9
  clear H9
  have H3' := hid H3
  clear H3
  have H4' := hid H4
  clear H4
  have H5' := hid H5
  clear H5
  go_enter Tryz.func132, Tryz.ntmps132
  go_wp2_with fail
  refine (must_yes (h.keep (S := fun k => b < k) (by (repeat' (first | with_reducible exact Keeps.refl _ _ | with_reducible refine Keeps.set ?_ (by simp <;> omega) _ | with_reducible refine Keeps.alloc ?_ _ | with_reducible refine Keeps.drewN ?_ _ | with_reducible refine Keeps.drew ?_))) (fun k hk hn => by omega)) (by omega) (by omega) H1'.out).mono ?_
  rintro e w1 ⟨rfl, hr1, hk1⟩
  have hK1 : Keeps (But b) w w1 := Keeps.trans (by (repeat' (first | with_reducible exact Keeps.refl _ _ | with_reducible refine Keeps.set ?_ (by simp <;> omega) _ | with_reducible refine Keeps.alloc ?_ _ | with_reducible refine Keeps.drewN ?_ _ | with_reducible refine Keeps.drew ?_))) hk1
  have hs1 : w.heap.size + 1 ≤ w1.heap.size := by have := hk1.size; (try simp at this); omega
  have hb1 : b < w1.heap.size := by omega
  have c0_hk1 := fun o => hk1.cell (b := w.heap.size) (o := o) (by first | omega | (simp; done) | (simp; omega)) (by first | omega | (simp; done) | (simp; omega)); have z0_hk1 := fun o => hk1.frozen (b := w.heap.size) (o := o) (by first | omega | (simp; done) | (simp; omega)) (by first | omega | (simp; done) | (simp; omega))
  go_wp2_with fail
  refine (name_calls (hr1.keep (S := fun k => b < k) (by (repeat' (first | with_reducible exact Keeps.refl _ _ | with_reducible refine Keeps.set ?_ (by simp <;> omega) _ | with_reducible refine Keeps.alloc ?_ _ | with_reducible refine Keeps.drewN ?_ _ | with_reducible refine Keeps.drew ?_))) (fun k hk hn => by omega))).mono ?_
  rintro e w2 ⟨rfl, hr2, hk2⟩
  have hK2 : Keeps (But b) w w2 := Keeps.trans (by (repeat' (first | with_reducible exact hK1 | with_reducible refine Keeps.set ?_ (by simp <;> omega) _ | with_reducible refine Keeps.alloc ?_ _ | with_reducible refine Keeps.drewN ?_ _ | with_reducible refine Keeps.drew ?_))) hk2
  have hs2 : w.heap.size + 1 ≤ w2.heap.size := by have := hk2.size; (try simp at this); omega
  have hb2 : b < w2.heap.size := by omega
  have c0_hk2 := fun o => hk2.cell (b := w.heap.size) (o := o) (by first | omega | (simp; done) | (simp; omega)) (by first | omega | (simp; done) | (simp; omega)); have z0_hk2 := fun o => hk2.frozen (b := w.heap.size) (o := o) (by first | omega | (simp; done) | (simp; omega)) (by first | omega | (simp; done) | (simp; omega))
  have : w.heap.size < w2.heap.size := by omega
  have : w.heap.size ≤ w2.heap.size := by omega
  have : w.heap.size < w2.heap.size + 1 := by omega
  have : ¬ w.heap.size = w2.heap.size + 1 := by omega
  have : ¬ w2.heap.size + 1 = w.heap.size := by omega
  have : ¬ w2.heap.size = b := by omega
  have : ¬ b = w2.heap.size := by omega
  have : ¬ w2.heap.size = w.heap.size := by omega
  have : ¬ w.heap.size = w2.heap.size := by omega
  rw [H2'.out]; have tb : bytesOf [] = ⟨#[]⟩ := rfl; rw [tb]; have hr2 := (show Rs w2 b 1 L s.tail by have := hr2; rw [H9'.out] at this; exact this)
  go_wp2_with fail
  refine (may_no (hr2.keep (S := fun k => b < k) (by (repeat' (first | with_reducible exact Keeps.refl _ _ | with_reducible refine Keeps.set ?_ (by simp <;> omega) _ | with_reducible refine Keeps.alloc ?_ _ | with_reducible refine Keeps.drewN ?_ _ | with_reducible refine Keeps.drew ?_))) (fun k hk hn => by omega)) (by omega) (by omega) H3'.out).mono ?_
  rintro e w3 ⟨rfl, q3, rfl⟩
  go_wp2_with fail
  refine (run_calls isDigit_enters isDigit_calls 3 (by omega) (hr2.keep (S := fun k => b < k) (by (repeat' (first | with_reducible exact Keeps.refl _ _ | with_reducible refine Keeps.set ?_ (by simp <;> omega) _ | with_reducible refine Keeps.alloc ?_ _ | with_reducible refine Keeps.drewN ?_ _ | with_reducible refine Keeps.drew ?_))) (fun k hk hn => by omega))).mono ?_
  rintro e w4 ⟨⟨A4, c4, rfl, hR4, hc4, hx4⟩, hr4, hk4⟩
  have hK4 : Keeps (But b) w w4 := Keeps.trans (by (repeat' (first | with_reducible exact hK2 | with_reducible refine Keeps.set ?_ (by simp <;> omega) _ | with_reducible refine Keeps.alloc ?_ _ | with_reducible refine Keeps.drewN ?_ _ | with_reducible refine Keeps.drew ?_))) hk4
  have hs4 : w.heap.size + 1 ≤ w4.heap.size := by have := hk4.size; (try simp at this); omega
  have hb4 : b < w4.heap.size := by omega
  have hz4_0 : w2.heap.size < w4.heap.size := by have := hk4.size; (try simp at this); omega
  have c0_hk4 := fun o => hk4.cell (b := w.heap.size) (o := o) (by first | omega | (simp; done) | (simp; omega)) (by first | omega | (simp; done) | (simp; omega)); have z0_hk4 := fun o => hk4.frozen (b := w.heap.size) (o := o) (by first | omega | (simp; done) | (simp; omega)) (by first | omega | (simp; done) | (simp; omega)); have c1_hk4 := fun o => hk4.cell (b := w2.heap.size) (o := o) (by first | omega | (simp; done) | (simp; omega)) (by first | omega | (simp; done) | (simp; omega)); have z1_hk4 := fun o => hk4.frozen (b := w2.heap.size) (o := o) (by first | omega | (simp; done) | (simp; omega)) (by first | omega | (simp; done) | (simp; omega))
  have t1 := len_ne H4'.out
  go_wp2_with fail
  refine (decimal_calls hR4 (run_digits _ _).1 (run_digits 3 s.tail).2).mono ?_
  rintro e w5 ⟨rfl, rfl⟩
  have hdb := decimal3 s.tail (Nat.le_refl 3); generalize hde : decimal (run isDigit 3 s.tail).1 = dn at *; have HDE := hid hde; clear hde
  go_wp2_with fail
  refine (must_no (hr4.keep (S := fun k => b < k) (by (repeat' (first | with_reducible exact Keeps.refl _ _ | with_reducible refine Keeps.set ?_ (by simp <;> omega) _ | with_reducible refine Keeps.alloc ?_ _ | with_reducible refine Keeps.drewN ?_ _ | with_reducible refine Keeps.drew ?_))) (fun k hk hn => by omega)) (by omega) (by omega) H5'.out).mono ?_
  rintro e w6 ⟨rfl, q6, rfl⟩
  exact ⟨rfl, RPost.mkE rfl rfl (by (repeat' (first | with_reducible exact hK4 | with_reducible refine Keeps.set ?_ (by simp <;> omega) _ | with_reducible refine Keeps.alloc ?_ _ | with_reducible refine Keeps.drewN ?_ _ | with_reducible refine Keeps.drew ?_)))⟩

set_option maxHeartbeats 1000000 in
theorem named_0z {w : World} {b : Nat} {L s : List Int}  (h : Rs w b 1 L s) (H1 : hd s = 60) (H2 : (nameL s.tail).1 = []) (H9 : (nameL s.tail).2 = s.tail) (H3 : ¬ hd s.tail = 45) (H4 : ¬ (run isDigit 3 s.tail).1 = []) (H5 : hd (run isDigit 3 s.tail).2 = 62) (N6 : decimal (run isDigit 3 s.tail).1 = 0) :
    Calls Tryz.prog 132 #[.pointer (some ⟨b, 0, none⟩)] w fun e w' => RPost b 1 L w (.error 3) e w' := by
  have hb := h.lt
  have h0 : w.cell? ⟨b, 0, none⟩ = some (.int .i64 1) := by obtain ⟨_, _, _, h0, _⟩ := h; exact h0
  have H1' := hid H1
  clear H1
  have H2' := hid H2
  clear H2
  have H9' := hid H9
  clear H9
  have H3' := hid H3
  clear H3
  have H4' := hid H4
  clear H4
  have H5' := hid H5
  clear H5
  go_enter Tryz.func132, Tryz.ntmps132
  go_wp2_with fail
  refine (must_yes (h.keep (S := fun k => b < k) (by (repeat' (first | with_reducible exact Keeps.refl _ _ | with_reducible refine Keeps.set ?_ (by simp <;> omega) _ | with_reducible refine Keeps.alloc ?_ _ | with_reducible refine Keeps.drewN ?_ _ | with_reducible refine Keeps.drew ?_))) (fun k hk hn => by omega)) (by omega) (by omega) H1'.out).mono ?_
  rintro e w1 ⟨rfl, hr1, hk1⟩
  have hK1 : Keeps (But b) w w1 := Keeps.trans (by (repeat' (first | with_reducible exact Keeps.refl _ _ | with_reducible refine Keeps.set ?_ (by simp <;> omega) _ | with_reducible refine Keeps.alloc ?_ _ | with_reducible refine Keeps.drewN ?_ _ | with_reducible refine Keeps.drew ?_))) hk1
  have hs1 : w.heap.size + 1 ≤ w1.heap.size := by have := hk1.size; (try simp at this); omega
  have hb1 : b < w1.heap.size := by omega
  have c0_hk1 := fun o => hk1.cell (b := w.heap.size) (o := o) (by first | omega | (simp; done) | (simp; omega)) (by first | omega | (simp; done) | (simp; omega)); have z0_hk1 := fun o => hk1.frozen (b := w.heap.size) (o := o) (by first | omega | (simp; done) | (simp; omega)) (by first | omega | (simp; done) | (simp; omega))
  go_wp2_with fail
  refine (name_calls (hr1.keep (S := fun k => b < k) (by (repeat' (first | with_reducible exact Keeps.refl _ _ | with_reducible refine Keeps.set ?_ (by simp <;> omega) _ | with_reducible refine Keeps.alloc ?_ _ | with_reducible refine Keeps.drewN ?_ _ | with_reducible refine Keeps.drew ?_))) (fun k hk hn => by omega))).mono ?_
  rintro e w2 ⟨rfl, hr2, hk2⟩
  have hK2 : Keeps (But b) w w2 := Keeps.trans (by (repeat' (first | with_reducible exact hK1 | with_reducible refine Keeps.set ?_ (by simp <;> omega) _ | with_reducible refine Keeps.alloc ?_ _ | with_reducible refine Keeps.drewN ?_ _ | with_reducible refine Keeps.drew ?_))) hk2
  have hs2 : w.heap.size + 1 ≤ w2.heap.size := by have := hk2.size; (try simp at this); omega
  have hb2 : b < w2.heap.size := by omega
  have c0_hk2 := fun o => hk2.cell (b := w.heap.size) (o := o) (by first | omega | (simp; done) | (simp; omega)) (by first | omega | (simp; done) | (simp; omega)); have z0_hk2 := fun o => hk2.frozen (b := w.heap.size) (o := o) (by first | omega | (simp; done) | (simp; omega)) (by first | omega | (simp; done) | (simp; omega))
  have : w.heap.size < w2.heap.size := by omega
  have : w.heap.size ≤ w2.heap.size := by omega
  have : w.heap.size < w2.heap.size + 1 := by omega
  have : ¬ w.heap.size = w2.heap.size + 1 := by omega
  have : ¬ w2.heap.size + 1 = w.heap.size := by omega
  have : ¬ w2.heap.size = b := by omega
  have : ¬ b = w2.heap.size := by omega
  have : ¬ w2.heap.size = w.heap.size := by omega
  have : ¬ w.heap.size = w2.heap.size := by omega
  rw [H2'.out]; have tb : bytesOf [] = ⟨#[]⟩ := rfl; rw [tb]; have hr2 := (show Rs w2 b 1 L s.tail by have := hr2; rw [H9'.out] at this; exact this)
  go_wp2_with fail
  refine (may_no (hr2.keep (S := fun k => b < k) (by (repeat' (first | with_reducible exact Keeps.refl _ _ | with_reducible refine Keeps.set ?_ (by simp <;> omega) _ | with_reducible refine Keeps.alloc ?_ _ | with_reducible refine Keeps.drewN ?_ _ | with_reducible refine Keeps.drew ?_))) (fun k hk hn => by omega)) (by omega) (by omega) H3'.out).mono ?_
  rintro e w3 ⟨rfl, q3, rfl⟩
  go_wp2_with fail
  refine (run_calls isDigit_enters isDigit_calls 3 (by omega) (hr2.keep (S := fun k => b < k) (by (repeat' (first | with_reducible exact Keeps.refl _ _ | with_reducible refine Keeps.set ?_ (by simp <;> omega) _ | with_reducible refine Keeps.alloc ?_ _ | with_reducible refine Keeps.drewN ?_ _ | with_reducible refine Keeps.drew ?_))) (fun k hk hn => by omega))).mono ?_
  rintro e w4 ⟨⟨A4, c4, rfl, hR4, hc4, hx4⟩, hr4, hk4⟩
  have hK4 : Keeps (But b) w w4 := Keeps.trans (by (repeat' (first | with_reducible exact hK2 | with_reducible refine Keeps.set ?_ (by simp <;> omega) _ | with_reducible refine Keeps.alloc ?_ _ | with_reducible refine Keeps.drewN ?_ _ | with_reducible refine Keeps.drew ?_))) hk4
  have hs4 : w.heap.size + 1 ≤ w4.heap.size := by have := hk4.size; (try simp at this); omega
  have hb4 : b < w4.heap.size := by omega
  have hz4_0 : w2.heap.size < w4.heap.size := by have := hk4.size; (try simp at this); omega
  have c0_hk4 := fun o => hk4.cell (b := w.heap.size) (o := o) (by first | omega | (simp; done) | (simp; omega)) (by first | omega | (simp; done) | (simp; omega)); have z0_hk4 := fun o => hk4.frozen (b := w.heap.size) (o := o) (by first | omega | (simp; done) | (simp; omega)) (by first | omega | (simp; done) | (simp; omega)); have c1_hk4 := fun o => hk4.cell (b := w2.heap.size) (o := o) (by first | omega | (simp; done) | (simp; omega)) (by first | omega | (simp; done) | (simp; omega)); have z1_hk4 := fun o => hk4.frozen (b := w2.heap.size) (o := o) (by first | omega | (simp; done) | (simp; omega)) (by first | omega | (simp; done) | (simp; omega))
  have t1 := len_ne H4'.out
  go_wp2_with fail
  refine (decimal_calls hR4 (run_digits _ _).1 (run_digits 3 s.tail).2).mono ?_
  rintro e w5 ⟨rfl, rfl⟩
  have hdb := decimal3 s.tail (Nat.le_refl 3); generalize hde : decimal (run isDigit 3 s.tail).1 = dn at *; have HDE := hid hde; clear hde
  go_wp2_with fail
  refine (must_yes (hr4.keep (S := fun k => b < k) (by (repeat' (first | with_reducible exact Keeps.refl _ _ | with_reducible refine Keeps.set ?_ (by simp <;> omega) _ | with_reducible refine Keeps.alloc ?_ _ | with_reducible refine Keeps.drewN ?_ _ | with_reducible refine Keeps.drew ?_))) (fun k hk hn => by omega)) (by omega) (by omega) H5'.out).mono ?_
  rintro e w6 ⟨rfl, hr6, hk6⟩
  have hK6 : Keeps (But b) w w6 := Keeps.trans (by (repeat' (first | with_reducible exact hK4 | with_reducible refine Keeps.set ?_ (by simp <;> omega) _ | with_reducible refine Keeps.alloc ?_ _ | with_reducible refine Keeps.drewN ?_ _ | with_reducible refine Keeps.drew ?_))) hk6
  have hs6 : w.heap.size + 1 ≤ w6.heap.size := by have := hk6.size; (try simp at this); omega
  have hb6 : b < w6.heap.size := by omega
  have hz6_0 : w2.heap.size < w6.heap.size := by have := hk6.size; (try simp at this); omega
  have c0_hk6 := fun o => hk6.cell (b := w.heap.size) (o := o) (by first | omega | (simp; done) | (simp; omega)) (by first | omega | (simp; done) | (simp; omega)); have z0_hk6 := fun o => hk6.frozen (b := w.heap.size) (o := o) (by first | omega | (simp; done) | (simp; omega)) (by first | omega | (simp; done) | (simp; omega)); have c1_hk6 := fun o => hk6.cell (b := w2.heap.size) (o := o) (by first | omega | (simp; done) | (simp; omega)) (by first | omega | (simp; done) | (simp; omega)); have z1_hk6 := fun o => hk6.frozen (b := w2.heap.size) (o := o) (by first | omega | (simp; done) | (simp; omega)) (by first | omega | (simp; done) | (simp; omega))
  go_wp2_with fail
  refine (tok_fail _ _).mono ?_
  rintro e w7 ⟨rfl, rfl⟩
  exact ⟨rfl, RPost.mkE rfl rfl (by (repeat' (first | with_reducible exact hK6 | with_reducible refine Keeps.set ?_ (by simp <;> omega) _ | with_reducible refine Keeps.alloc ?_ _ | with_reducible refine Keeps.drewN ?_ _ | with_reducible refine Keeps.drew ?_)))⟩

set_option maxHeartbeats 1000000 in
theorem named_0k {w : World} {b : Nat} {L s : List Int}  (h : Rs w b 1 L s) (H1 : hd s = 60) (H2 : (nameL s.tail).1 = []) (H9 : (nameL s.tail).2 = s.tail) (H3 : ¬ hd s.tail = 45) (H4 : ¬ (run isDigit 3 s.tail).1 = []) (H5 : hd (run isDigit 3 s.tail).2 = 62) (N6 : ¬ decimal (run isDigit 3 s.tail).1 = 0) :
    Calls Tryz.prog 132 #[.pointer (some ⟨b, 0, none⟩)] w fun e w' => RPost b 1 L w (.ok ({ kind := 10, number := decimal (run isDigit 3 s.tail).1 }, (run isDigit 3 s.tail).2.tail)) e w' := by
  have hb := h.lt
  have h0 : w.cell? ⟨b, 0, none⟩ = some (.int .i64 1) := by obtain ⟨_, _, _, h0, _⟩ := h; exact h0
  have H1' := hid H1
  clear H1
  have H2' := hid H2
  clear H2
  have H9' := hid H9
  clear H9
  have H3' := hid H3
  clear H3
  have H4' := hid H4
  clear H4
  have H5' := hid H5
  clear H5
  go_enter Tryz.func132, Tryz.ntmps132
  go_wp2_with fail
  refine (must_yes (h.keep (S := fun k => b < k) (by (repeat' (first | with_reducible exact Keeps.refl _ _ | with_reducible refine Keeps.set ?_ (by simp <;> omega) _ | with_reducible refine Keeps.alloc ?_ _ | with_reducible refine Keeps.drewN ?_ _ | with_reducible refine Keeps.drew ?_))) (fun k hk hn => by omega)) (by omega) (by omega) H1'.out).mono ?_
  rintro e w1 ⟨rfl, hr1, hk1⟩
  have hK1 : Keeps (But b) w w1 := Keeps.trans (by (repeat' (first | with_reducible exact Keeps.refl _ _ | with_reducible refine Keeps.set ?_ (by simp <;> omega) _ | with_reducible refine Keeps.alloc ?_ _ | with_reducible refine Keeps.drewN ?_ _ | with_reducible refine Keeps.drew ?_))) hk1
  have hs1 : w.heap.size + 1 ≤ w1.heap.size := by have := hk1.size; (try simp at this); omega
  have hb1 : b < w1.heap.size := by omega
  have c0_hk1 := fun o => hk1.cell (b := w.heap.size) (o := o) (by first | omega | (simp; done) | (simp; omega)) (by first | omega | (simp; done) | (simp; omega)); have z0_hk1 := fun o => hk1.frozen (b := w.heap.size) (o := o) (by first | omega | (simp; done) | (simp; omega)) (by first | omega | (simp; done) | (simp; omega))
  go_wp2_with fail
  refine (name_calls (hr1.keep (S := fun k => b < k) (by (repeat' (first | with_reducible exact Keeps.refl _ _ | with_reducible refine Keeps.set ?_ (by simp <;> omega) _ | with_reducible refine Keeps.alloc ?_ _ | with_reducible refine Keeps.drewN ?_ _ | with_reducible refine Keeps.drew ?_))) (fun k hk hn => by omega))).mono ?_
  rintro e w2 ⟨rfl, hr2, hk2⟩
  have hK2 : Keeps (But b) w w2 := Keeps.trans (by (repeat' (first | with_reducible exact hK1 | with_reducible refine Keeps.set ?_ (by simp <;> omega) _ | with_reducible refine Keeps.alloc ?_ _ | with_reducible refine Keeps.drewN ?_ _ | with_reducible refine Keeps.drew ?_))) hk2
  have hs2 : w.heap.size + 1 ≤ w2.heap.size := by have := hk2.size; (try simp at this); omega
  have hb2 : b < w2.heap.size := by omega
  have c0_hk2 := fun o => hk2.cell (b := w.heap.size) (o := o) (by first | omega | (simp; done) | (simp; omega)) (by first | omega | (simp; done) | (simp; omega)); have z0_hk2 := fun o => hk2.frozen (b := w.heap.size) (o := o) (by first | omega | (simp; done) | (simp; omega)) (by first | omega | (simp; done) | (simp; omega))
  have : w.heap.size < w2.heap.size := by omega
  have : w.heap.size ≤ w2.heap.size := by omega
  have : w.heap.size < w2.heap.size + 1 := by omega
  have : ¬ w.heap.size = w2.heap.size + 1 := by omega
  have : ¬ w2.heap.size + 1 = w.heap.size := by omega
  have : ¬ w2.heap.size = b := by omega
  have : ¬ b = w2.heap.size := by omega
  have : ¬ w2.heap.size = w.heap.size := by omega
  have : ¬ w.heap.size = w2.heap.size := by omega
  rw [H2'.out]; have tb : bytesOf [] = ⟨#[]⟩ := rfl; rw [tb]; have hr2 := (show Rs w2 b 1 L s.tail by have := hr2; rw [H9'.out] at this; exact this)
  go_wp2_with fail
  refine (may_no (hr2.keep (S := fun k => b < k) (by (repeat' (first | with_reducible exact Keeps.refl _ _ | with_reducible refine Keeps.set ?_ (by simp <;> omega) _ | with_reducible refine Keeps.alloc ?_ _ | with_reducible refine Keeps.drewN ?_ _ | with_reducible refine Keeps.drew ?_))) (fun k hk hn => by omega)) (by omega) (by omega) H3'.out).mono ?_
  rintro e w3 ⟨rfl, q3, rfl⟩
  go_wp2_with fail
  refine (run_calls isDigit_enters isDigit_calls 3 (by omega) (hr2.keep (S := fun k => b < k) (by (repeat' (first | with_reducible exact Keeps.refl _ _ | with_reducible refine Keeps.set ?_ (by simp <;> omega) _ | with_reducible refine Keeps.alloc ?_ _ | with_reducible refine Keeps.drewN ?_ _ | with_reducible refine Keeps.drew ?_))) (fun k hk hn => by omega))).mono ?_
  rintro e w4 ⟨⟨A4, c4, rfl, hR4, hc4, hx4⟩, hr4, hk4⟩
  have hK4 : Keeps (But b) w w4 := Keeps.trans (by (repeat' (first | with_reducible exact hK2 | with_reducible refine Keeps.set ?_ (by simp <;> omega) _ | with_reducible refine Keeps.alloc ?_ _ | with_reducible refine Keeps.drewN ?_ _ | with_reducible refine Keeps.drew ?_))) hk4
  have hs4 : w.heap.size + 1 ≤ w4.heap.size := by have := hk4.size; (try simp at this); omega
  have hb4 : b < w4.heap.size := by omega
  have hz4_0 : w2.heap.size < w4.heap.size := by have := hk4.size; (try simp at this); omega
  have c0_hk4 := fun o => hk4.cell (b := w.heap.size) (o := o) (by first | omega | (simp; done) | (simp; omega)) (by first | omega | (simp; done) | (simp; omega)); have z0_hk4 := fun o => hk4.frozen (b := w.heap.size) (o := o) (by first | omega | (simp; done) | (simp; omega)) (by first | omega | (simp; done) | (simp; omega)); have c1_hk4 := fun o => hk4.cell (b := w2.heap.size) (o := o) (by first | omega | (simp; done) | (simp; omega)) (by first | omega | (simp; done) | (simp; omega)); have z1_hk4 := fun o => hk4.frozen (b := w2.heap.size) (o := o) (by first | omega | (simp; done) | (simp; omega)) (by first | omega | (simp; done) | (simp; omega))
  have t1 := len_ne H4'.out
  go_wp2_with fail
  refine (decimal_calls hR4 (run_digits _ _).1 (run_digits 3 s.tail).2).mono ?_
  rintro e w5 ⟨rfl, rfl⟩
  have hdb := decimal3 s.tail (Nat.le_refl 3); generalize hde : decimal (run isDigit 3 s.tail).1 = dn at *; have HDE := hid hde; clear hde
  go_wp2_with fail
  refine (must_yes (hr4.keep (S := fun k => b < k) (by (repeat' (first | with_reducible exact Keeps.refl _ _ | with_reducible refine Keeps.set ?_ (by simp <;> omega) _ | with_reducible refine Keeps.alloc ?_ _ | with_reducible refine Keeps.drewN ?_ _ | with_reducible refine Keeps.drew ?_))) (fun k hk hn => by omega)) (by omega) (by omega) H5'.out).mono ?_
  rintro e w6 ⟨rfl, hr6, hk6⟩
  have hK6 : Keeps (But b) w w6 := Keeps.trans (by (repeat' (first | with_reducible exact hK4 | with_reducible refine Keeps.set ?_ (by simp <;> omega) _ | with_reducible refine Keeps.alloc ?_ _ | with_reducible refine Keeps.drewN ?_ _ | with_reducible refine Keeps.drew ?_))) hk6
  have hs6 : w.heap.size + 1 ≤ w6.heap.size := by have := hk6.size; (try simp at this); omega
  have hb6 : b < w6.heap.size := by omega
  have hz6_0 : w2.heap.size < w6.heap.size := by have := hk6.size; (try simp at this); omega
  have c0_hk6 := fun o => hk6.cell (b := w.heap.size) (o := o) (by first | omega | (simp; done) | (simp; omega)) (by first | omega | (simp; done) | (simp; omega)); have z0_hk6 := fun o => hk6.frozen (b := w.heap.size) (o := o) (by first | omega | (simp; done) | (simp; omega)) (by first | omega | (simp; done) | (simp; omega)); have c1_hk6 := fun o => hk6.cell (b := w2.heap.size) (o := o) (by first | omega | (simp; done) | (simp; omega)) (by first | omega | (simp; done) | (simp; omega)); have z1_hk6 := fun o => hk6.frozen (b := w2.heap.size) (o := o) (by first | omega | (simp; done) | (simp; omega)) (by first | omega | (simp; done) | (simp; omega))
  go_wp2_with fail
  refine bodyPost_ret (v := tkV { kind := 10, number := dn }) (by simp [results, Tryz.results132, go_sem, tkV, point, look, again, *]) rfl (RPost.mk (t := { kind := 10, number := dn }) (by rw [HDE.out]) rfl (hr6.keep (S := fun k => b < k) ?_ (fun k hk hn => by omega)) ?_)
  · (repeat' (first | with_reducible exact Keeps.refl _ _ | with_reducible refine Keeps.set ?_ (by simp <;> omega) _ | with_reducible refine Keeps.alloc ?_ _ | with_reducible refine Keeps.drewN ?_ _ | with_reducible refine Keeps.drew ?_))
  · (repeat' (first | with_reducible exact hK6 | with_reducible refine Keeps.set ?_ (by simp <;> omega) _ | with_reducible refine Keeps.alloc ?_ _ | with_reducible refine Keeps.drewN ?_ _ | with_reducible refine Keeps.drew ?_))

set_option maxHeartbeats 1000000 in
theorem named_1n {w : World} {b : Nat} {L s : List Int}  (h : Rs w b 1 L s) (H1 : hd s = 60) (H2 : (nameL s.tail).1 = []) (H9 : (nameL s.tail).2 = s.tail) (H3 : hd s.tail = 45) (H4 : (run isDigit 3 s.tail.tail).1 = []) :
    Calls Tryz.prog 132 #[.pointer (some ⟨b, 0, none⟩)] w fun e w' => RPost b 1 L w (.error 1) e w' := by
  have hb := h.lt
  have h0 : w.cell? ⟨b, 0, none⟩ = some (.int .i64 1) := by obtain ⟨_, _, _, h0, _⟩ := h; exact h0
  have H1' := hid H1
  clear H1
  have H2' := hid H2
  clear H2
  have H9' := hid H9
  clear H9
  have H3' := hid H3
  clear H3
  have H4' := hid H4
  clear H4
  go_enter Tryz.func132, Tryz.ntmps132
  go_wp2_with fail
  refine (must_yes (h.keep (S := fun k => b < k) (by (repeat' (first | with_reducible exact Keeps.refl _ _ | with_reducible refine Keeps.set ?_ (by simp <;> omega) _ | with_reducible refine Keeps.alloc ?_ _ | with_reducible refine Keeps.drewN ?_ _ | with_reducible refine Keeps.drew ?_))) (fun k hk hn => by omega)) (by omega) (by omega) H1'.out).mono ?_
  rintro e w1 ⟨rfl, hr1, hk1⟩
  have hK1 : Keeps (But b) w w1 := Keeps.trans (by (repeat' (first | with_reducible exact Keeps.refl _ _ | with_reducible refine Keeps.set ?_ (by simp <;> omega) _ | with_reducible refine Keeps.alloc ?_ _ | with_reducible refine Keeps.drewN ?_ _ | with_reducible refine Keeps.drew ?_))) hk1
  have hs1 : w.heap.size + 1 ≤ w1.heap.size := by have := hk1.size; (try simp at this); omega
  have hb1 : b < w1.heap.size := by omega
  have c0_hk1 := fun o => hk1.cell (b := w.heap.size) (o := o) (by first | omega | (simp; done) | (simp; omega)) (by first | omega | (simp; done) | (simp; omega)); have z0_hk1 := fun o => hk1.frozen (b := w.heap.size) (o := o) (by first | omega | (simp; done) | (simp; omega)) (by first | omega | (simp; done) | (simp; omega))
  go_wp2_with fail
  refine (name_calls (hr1.keep (S := fun k => b < k) (by (repeat' (first | with_reducible exact Keeps.refl _ _ | with_reducible refine Keeps.set ?_ (by simp <;> omega) _ | with_reducible refine Keeps.alloc ?_ _ | with_reducible refine Keeps.drewN ?_ _ | with_reducible refine Keeps.drew ?_))) (fun k hk hn => by omega))).mono ?_
  rintro e w2 ⟨rfl, hr2, hk2⟩
  have hK2 : Keeps (But b) w w2 := Keeps.trans (by (repeat' (first | with_reducible exact hK1 | with_reducible refine Keeps.set ?_ (by simp <;> omega) _ | with_reducible refine Keeps.alloc ?_ _ | with_reducible refine Keeps.drewN ?_ _ | with_reducible refine Keeps.drew ?_))) hk2
  have hs2 : w.heap.size + 1 ≤ w2.heap.size := by have := hk2.size; (try simp at this); omega
  have hb2 : b < w2.heap.size := by omega
  have c0_hk2 := fun o => hk2.cell (b := w.heap.size) (o := o) (by first | omega | (simp; done) | (simp; omega)) (by first | omega | (simp; done) | (simp; omega)); have z0_hk2 := fun o => hk2.frozen (b := w.heap.size) (o := o) (by first | omega | (simp; done) | (simp; omega)) (by first | omega | (simp; done) | (simp; omega))
  have : w.heap.size < w2.heap.size := by omega
  have : w.heap.size ≤ w2.heap.size := by omega
  have : w.heap.size < w2.heap.size + 1 := by omega
  have : ¬ w.heap.size = w2.heap.size + 1 := by omega
  have : ¬ w2.heap.size + 1 = w.heap.size := by omega
  have : ¬ w2.heap.size = b := by omega
  have : ¬ b = w2.heap.size := by omega
  have : ¬ w2.heap.size = w.heap.size := by omega
  have : ¬ w.heap.size = w2.heap.size := by omega
  rw [H2'.out]; have tb : bytesOf [] = ⟨#[]⟩ := rfl; rw [tb]; have hr2 := (show Rs w2 b 1 L s.tail by have := hr2; rw [H9'.out] at this; exact this)
  go_wp2_with fail
  refine (may_yes (hr2.keep (S := fun k => b < k) (by (repeat' (first | with_reducible exact Keeps.refl _ _ | with_reducible refine Keeps.set ?_ (by simp <;> omega) _ | with_reducible refine Keeps.alloc ?_ _ | with_reducible refine Keeps.drewN ?_ _ | with_reducible refine Keeps.drew ?_))) (fun k hk hn => by omega)) (by omega) (by omega) H3'.out).mono ?_
  rintro e w3 ⟨rfl, hr3, hk3⟩
  have hK3 : Keeps (But b) w w3 := Keeps.trans (by (repeat' (first | with_reducible exact hK2 | with_reducible refine Keeps.set ?_ (by simp <;> omega) _ | with_reducible refine Keeps.alloc ?_ _ | with_reducible refine Keeps.drewN ?_ _ | with_reducible refine Keeps.drew ?_))) hk3
  have hs3 : w.heap.size + 1 ≤ w3.heap.size := by have := hk3.size; (try simp at this); omega
  have hb3 : b < w3.heap.size := by omega
  have hz3_0 : w2.heap.size < w3.heap.size := by have := hk3.size; (try simp at this); omega
  have c0_hk3 := fun o => hk3.cell (b := w.heap.size) (o := o) (by first | omega | (simp; done) | (simp; omega)) (by first | omega | (simp; done) | (simp; omega)); have z0_hk3 := fun o => hk3.frozen (b := w.heap.size) (o := o) (by first | omega | (simp; done) | (simp; omega)) (by first | omega | (simp; done) | (simp; omega)); have c1_hk3 := fun o => hk3.cell (b := w2.heap.size) (o := o) (by first | omega | (simp; done) | (simp; omega)) (by first | omega | (simp; done) | (simp; omega)); have z1_hk3 := fun o => hk3.frozen (b := w2.heap.size) (o := o) (by first | omega | (simp; done) | (simp; omega)) (by first | omega | (simp; done) | (simp; omega))
  go_wp2_with fail
  refine (run_calls isDigit_enters isDigit_calls 3 (by omega) (hr3.keep (S := fun k => b < k) (by (repeat' (first | with_reducible exact Keeps.refl _ _ | with_reducible refine Keeps.set ?_ (by simp <;> omega) _ | with_reducible refine Keeps.alloc ?_ _ | with_reducible refine Keeps.drewN ?_ _ | with_reducible refine Keeps.drew ?_))) (fun k hk hn => by omega))).mono ?_
  rintro e w4 ⟨⟨A4, c4, rfl, hR4, hc4, hx4⟩, hr4, hk4⟩
  have hK4 : Keeps (But b) w w4 := Keeps.trans (by (repeat' (first | with_reducible exact hK3 | with_reducible refine Keeps.set ?_ (by simp <;> omega) _ | with_reducible refine Keeps.alloc ?_ _ | with_reducible refine Keeps.drewN ?_ _ | with_reducible refine Keeps.drew ?_))) hk4
  have hs4 : w.heap.size + 1 ≤ w4.heap.size := by have := hk4.size; (try simp at this); omega
  have hb4 : b < w4.heap.size := by omega
  have hz4_0 : w2.heap.size < w4.heap.size := by have := hk4.size; (try simp at this); omega
  have c0_hk4 := fun o => hk4.cell (b := w.heap.size) (o := o) (by first | omega | (simp; done) | (simp; omega)) (by first | omega | (simp; done) | (simp; omega)); have z0_hk4 := fun o => hk4.frozen (b := w.heap.size) (o := o) (by first | omega | (simp; done) | (simp; omega)) (by first | omega | (simp; done) | (simp; omega)); have c1_hk4 := fun o => hk4.cell (b := w2.heap.size) (o := o) (by first | omega | (simp; done) | (simp; omega)) (by first | omega | (simp; done) | (simp; omega)); have z1_hk4 := fun o => hk4.frozen (b := w2.heap.size) (o := o) (by first | omega | (simp; done) | (simp; omega)) (by first | omega | (simp; done) | (simp; omega))
  rw [H4'.out]
  go_wp2_with fail
  refine (tok_fail _ _).mono ?_
  rintro e w5 ⟨rfl, rfl⟩
  exact ⟨rfl, RPost.mkE rfl rfl (by (repeat' (first | with_reducible exact hK4 | with_reducible refine Keeps.set ?_ (by simp <;> omega) _ | with_reducible refine Keeps.alloc ?_ _ | with_reducible refine Keeps.drewN ?_ _ | with_reducible refine Keeps.drew ?_)))⟩

set_option maxHeartbeats 1000000 in
theorem named_1e {w : World} {b : Nat} {L s : List Int}  (h : Rs w b 1 L s) (H1 : hd s = 60) (H2 : (nameL s.tail).1 = []) (H9 : (nameL s.tail).2 = s.tail) (H3 : hd s.tail = 45) (H4 : ¬ (run isDigit 3 s.tail.tail).1 = []) (H5 : ¬ hd (run isDigit 3 s.tail.tail).2 = 62) :
    Calls Tryz.prog 132 #[.pointer (some ⟨b, 0, none⟩)] w fun e w' => RPost b 1 L w (.error 1) e w' := by
  have hb := h.lt
  have h0 : w.cell? ⟨b, 0, none⟩ = some (.int .i64 1) := by obtain ⟨_, _, _, h0, _⟩ := h; exact h0
  have H1' := hid H1
  clear H1
  have H2' := hid H2
  clear H2
  have H9' := hid H9
  clear H9
  have H3' := hid H3
  clear H3
  have H4' := hid H4
  clear H4
  have H5' := hid H5
  clear H5
  go_enter Tryz.func132, Tryz.ntmps132
  go_wp2_with fail
  refine (must_yes (h.keep (S := fun k => b < k) (by (repeat' (first | with_reducible exact Keeps.refl _ _ | with_reducible refine Keeps.set ?_ (by simp <;> omega) _ | with_reducible refine Keeps.alloc ?_ _ | with_reducible refine Keeps.drewN ?_ _ | with_reducible refine Keeps.drew ?_))) (fun k hk hn => by omega)) (by omega) (by omega) H1'.out).mono ?_
  rintro e w1 ⟨rfl, hr1, hk1⟩
  have hK1 : Keeps (But b) w w1 := Keeps.trans (by (repeat' (first | with_reducible exact Keeps.refl _ _ | with_reducible refine Keeps.set ?_ (by simp <;> omega) _ | with_reducible refine Keeps.alloc ?_ _ | with_reducible refine Keeps.drewN ?_ _ | with_reducible refine Keeps.drew ?_))) hk1
  have hs1 : w.heap.size + 1 ≤ w1.heap.size := by have := hk1.size; (try simp at this); omega
  have hb1 : b < w1.heap.size := by omega
  have c0_hk1 := fun o => hk1.cell (b := w.heap.size) (o := o) (by first | omega | (simp; done) | (simp; omega)) (by first | omega | (simp; done) | (simp; omega)); have z0_hk1 := fun o => hk1.frozen (b := w.heap.size) (o := o) (by first | omega | (simp; done) | (simp; omega)) (by first | omega | (simp; done) | (simp; omega))
  go_wp2_with fail
  refine (name_calls (hr1.keep (S := fun k => b < k) (by (repeat' (first | with_reducible exact Keeps.refl _ _ | with_reducible refine Keeps.set ?_ (by simp <;> omega) _ | with_reducible refine Keeps.alloc ?_ _ | with_reducible refine Keeps.drewN ?_ _ | with_reducible refine Keeps.drew ?_))) (fun k hk hn => by omega))).mono ?_
  rintro e w2 ⟨rfl, hr2, hk2⟩
  have hK2 : Keeps (But b) w w2 := Keeps.trans (by (repeat' (first | with_reducible exact hK1 | with_reducible refine Keeps.set ?_ (by simp <;> omega) _ | with_reducible refine Keeps.alloc ?_ _ | with_reducible refine Keeps.drewN ?_ _ | with_reducible refine Keeps.drew ?_))) hk2
  have hs2 : w.heap.size + 1 ≤ w2.heap.size := by have := hk2.size; (try simp at this); omega
  have hb2 : b < w2.heap.size := by omega
  have c0_hk2 := fun o => hk2.cell (b := w.heap.size) (o := o) (by first | omega | (simp; done) | (simp; omega)) (by first | omega | (simp; done) | (simp; omega)); have z0_hk2 := fun o => hk2.frozen (b := w.heap.size) (o := o) (by first | omega | (simp; done) | (simp; omega)) (by first | omega | (simp; done) | (simp; omega))
  have : w.heap.size < w2.heap.size := by omega
  have : w.heap.size ≤ w2.heap.size := by omega
  have : w.heap.size < w2.heap.size + 1 := by omega
  have : ¬ w.heap.size = w2.heap.size + 1 := by omega
  have : ¬ w2.heap.size + 1 = w.heap.size := by omega
  have : ¬ w2.heap.size = b := by omega
  have : ¬ b = w2.heap.size := by omega
  have : ¬ w2.heap.size = w.heap.size := by omega
  have : ¬ w.heap.size = w2.heap.size := by omega
  rw [H2'.out]; have tb : bytesOf [] = ⟨#[]⟩ := rfl; rw [tb]; have hr2 := (show Rs w2 b 1 L s.tail by have := hr2; rw [H9'.out] at this; exact this)
  go_wp2_with fail
  refine (may_yes (hr2.keep (S := fun k => b < k) (by (repeat' (first | with_reducible exact Keeps.refl _ _ | with_reducible refine Keeps.set ?_ (by simp <;> omega) _ | with_reducible refine Keeps.alloc ?_ _ | with_reducible refine Keeps.drewN ?_ _ | with_reducible refine Keeps.drew ?_))) (fun k hk hn => by omega)) (by omega) (by omega) H3'.out).mono ?_
  rintro e w3 ⟨rfl, hr3, hk3⟩
  have hK3 : Keeps (But b) w w3 := Keeps.trans (by (repeat' (first | with_reducible exact hK2 | with_reducible refine Keeps.set ?_ (by simp <;> omega) _ | with_reducible refine Keeps.alloc ?_ _ | with_reducible refine Keeps.drewN ?_ _ | with_reducible refine Keeps.drew ?_))) hk3
  have hs3 : w.heap.size + 1 ≤ w3.heap.size := by have := hk3.size; (try simp at this); omega
  have hb3 : b < w3.heap.size := by omega
  have hz3_0 : w2.heap.size < w3.heap.size := by have := hk3.size; (try simp at this); omega
  have c0_hk3 := fun o => hk3.cell (b := w.heap.size) (o := o) (by first | omega | (simp; done) | (simp; omega)) (by first | omega | (simp; done) | (simp; omega)); have z0_hk3 := fun o => hk3.frozen (b := w.heap.size) (o := o) (by first | omega | (simp; done) | (simp; omega)) (by first | omega | (simp; done) | (simp; omega)); have c1_hk3 := fun o => hk3.cell (b := w2.heap.size) (o := o) (by first | omega | (simp; done) | (simp; omega)) (by first | omega | (simp; done) | (simp; omega)); have z1_hk3 := fun o => hk3.frozen (b := w2.heap.size) (o := o) (by first | omega | (simp; done) | (simp; omega)) (by first | omega | (simp; done) | (simp; omega))
  go_wp2_with fail
  refine (run_calls isDigit_enters isDigit_calls 3 (by omega) (hr3.keep (S := fun k => b < k) (by (repeat' (first | with_reducible exact Keeps.refl _ _ | with_reducible refine Keeps.set ?_ (by simp <;> omega) _ | with_reducible refine Keeps.alloc ?_ _ | with_reducible refine Keeps.drewN ?_ _ | with_reducible refine Keeps.drew ?_))) (fun k hk hn => by omega))).mono ?_
  rintro e w4 ⟨⟨A4, c4, rfl, hR4, hc4, hx4⟩, hr4, hk4⟩
  have hK4 : Keeps (But b) w w4 := Keeps.trans (by (repeat' (first | with_reducible exact hK3 | with_reducible refine Keeps.set ?_ (by simp <;> omega) _ | with_reducible refine Keeps.alloc ?_ _ | with_reducible refine Keeps.drewN ?_ _ | with_reducible refine Keeps.drew ?_))) hk4
  have hs4 : w.heap.size + 1 ≤ w4.heap.size := by have := hk4.size; (try simp at this); omega
  have hb4 : b < w4.heap.size := by omega
  have hz4_0 : w2.heap.size < w4.heap.size := by have := hk4.size; (try simp at this); omega
  have c0_hk4 := fun o => hk4.cell (b := w.heap.size) (o := o) (by first | omega | (simp; done) | (simp; omega)) (by first | omega | (simp; done) | (simp; omega)); have z0_hk4 := fun o => hk4.frozen (b := w.heap.size) (o := o) (by first | omega | (simp; done) | (simp; omega)) (by first | omega | (simp; done) | (simp; omega)); have c1_hk4 := fun o => hk4.cell (b := w2.heap.size) (o := o) (by first | omega | (simp; done) | (simp; omega)) (by first | omega | (simp; done) | (simp; omega)); have z1_hk4 := fun o => hk4.frozen (b := w2.heap.size) (o := o) (by first | omega | (simp; done) | (simp; omega)) (by first | omega | (simp; done) | (simp; omega))
  have t1 := len_ne H4'.out
  go_wp2_with fail
  refine (decimal_calls hR4 (run_digits _ _).1 (run_digits 3 s.tail.tail).2).mono ?_
  rintro e w5 ⟨rfl, rfl⟩
  have hdb := decimal3 s.tail.tail (Nat.le_refl 3); generalize hde : decimal (run isDigit 3 s.tail.tail).1 = dn at *; have HDE := hid hde; clear hde
  go_wp2_with fail
  refine (must_no (hr4.keep (S := fun k => b < k) (by (repeat' (first | with_reducible exact Keeps.refl _ _ | with_reducible refine Keeps.set ?_ (by simp <;> omega) _ | with_reducible refine Keeps.alloc ?_ _ | with_reducible refine Keeps.drewN ?_ _ | with_reducible refine Keeps.drew ?_))) (fun k hk hn => by omega)) (by omega) (by omega) H5'.out).mono ?_
  rintro e w6 ⟨rfl, q6, rfl⟩
  exact ⟨rfl, RPost.mkE rfl rfl (by (repeat' (first | with_reducible exact hK4 | with_reducible refine Keeps.set ?_ (by simp <;> omega) _ | with_reducible refine Keeps.alloc ?_ _ | with_reducible refine Keeps.drewN ?_ _ | with_reducible refine Keeps.drew ?_)))⟩

set_option maxHeartbeats 1000000 in
theorem named_1z {w : World} {b : Nat} {L s : List Int}  (h : Rs w b 1 L s) (H1 : hd s = 60) (H2 : (nameL s.tail).1 = []) (H9 : (nameL s.tail).2 = s.tail) (H3 : hd s.tail = 45) (H4 : ¬ (run isDigit 3 s.tail.tail).1 = []) (H5 : hd (run isDigit 3 s.tail.tail).2 = 62) (N6 : decimal (run isDigit 3 s.tail.tail).1 = 0) :
    Calls Tryz.prog 132 #[.pointer (some ⟨b, 0, none⟩)] w fun e w' => RPost b 1 L w (.error 3) e w' := by
  have hb := h.lt
  have h0 : w.cell? ⟨b, 0, none⟩ = some (.int .i64 1) := by obtain ⟨_, _, _, h0, _⟩ := h; exact h0
  have H1' := hid H1
  clear H1
  have H2' := hid H2
  clear H2
  have H9' := hid H9
  clear H9
  have H3' := hid H3
  clear H3
  have H4' := hid H4
  clear H4
  have H5' := hid H5
  clear H5
  go_enter Tryz.func132, Tryz.ntmps132
  go_wp2_with fail
  refine (must_yes (h.keep (S := fun k => b < k) (by (repeat' (first | with_reducible exact Keeps.refl _ _ | with_reducible refine Keeps.set ?_ (by simp <;> omega) _ | with_reducible refine Keeps.alloc ?_ _ | with_reducible refine Keeps.drewN ?_ _ | with_reducible refine Keeps.drew ?_))) (fun k hk hn => by omega)) (by omega) (by omega) H1'.out).mono ?_
  rintro e w1 ⟨rfl, hr1, hk1⟩
  have hK1 : Keeps (But b) w w1 := Keeps.trans (by (repeat' (first | with_reducible exact Keeps.refl _ _ | with_reducible refine Keeps.set ?_ (by simp <;> omega) _ | with_reducible refine Keeps.alloc ?_ _ | with_reducible refine Keeps.drewN ?_ _ | with_reducible refine Keeps.drew ?_))) hk1
  have hs1 : w.heap.size + 1 ≤ w1.heap.size := by have := hk1.size; (try simp at this); omega
  have hb1 : b < w1.heap.size := by omega
  have c0_hk1 := fun o => hk1.cell (b := w.heap.size) (o := o) (by first | omega | (simp; done) | (simp; omega)) (by first | omega | (simp; done) | (simp; omega)); have z0_hk1 := fun o => hk1.frozen (b := w.heap.size) (o := o) (by first | omega | (simp; done) | (simp; omega)) (by first | omega | (simp; done) | (simp; omega))
  go_wp2_with fail
  refine (name_calls (hr1.keep (S := fun k => b < k) (by (repeat' (first | with_reducible exact Keeps.refl _ _ | with_reducible refine Keeps.set ?_ (by simp <;> omega) _ | with_reducible refine Keeps.alloc ?_ _ | with_reducible refine Keeps.drewN ?_ _ | with_reducible refine Keeps.drew ?_))) (fun k hk hn => by omega))).mono ?_
  rintro e w2 ⟨rfl, hr2, hk2⟩
  have hK2 : Keeps (But b) w w2 := Keeps.trans (by (repeat' (first | with_reducible exact hK1 | with_reducible refine Keeps.set ?_ (by simp <;> omega) _ | with_reducible refine Keeps.alloc ?_ _ | with_reducible refine Keeps.drewN ?_ _ | with_reducible refine Keeps.drew ?_))) hk2
  have hs2 : w.heap.size + 1 ≤ w2.heap.size := by have := hk2.size; (try simp at this); omega
  have hb2 : b < w2.heap.size := by omega
  have c0_hk2 := fun o => hk2.cell (b := w.heap.size) (o := o) (by first | omega | (simp; done) | (simp; omega)) (by first | omega | (simp; done) | (simp; omega)); have z0_hk2 := fun o => hk2.frozen (b := w.heap.size) (o := o) (by first | omega | (simp; done) | (simp; omega)) (by first | omega | (simp; done) | (simp; omega))
  have : w.heap.size < w2.heap.size := by omega
  have : w.heap.size ≤ w2.heap.size := by omega
  have : w.heap.size < w2.heap.size + 1 := by omega
  have : ¬ w.heap.size = w2.heap.size + 1 := by omega
  have : ¬ w2.heap.size + 1 = w.heap.size := by omega
  have : ¬ w2.heap.size = b := by omega
  have : ¬ b = w2.heap.size := by omega
  have : ¬ w2.heap.size = w.heap.size := by omega
  have : ¬ w.heap.size = w2.heap.size := by omega
  rw [H2'.out]; have tb : bytesOf [] = ⟨#[]⟩ := rfl; rw [tb]; have hr2 := (show Rs w2 b 1 L s.tail by have := hr2; rw [H9'.out] at this; exact this)
  go_wp2_with fail
  refine (may_yes (hr2.keep (S := fun k => b < k) (by (repeat' (first | with_reducible exact Keeps.refl _ _ | with_reducible refine Keeps.set ?_ (by simp <;> omega) _ | with_reducible refine Keeps.alloc ?_ _ | with_reducible refine Keeps.drewN ?_ _ | with_reducible refine Keeps.drew ?_))) (fun k hk hn => by omega)) (by omega) (by omega) H3'.out).mono ?_
  rintro e w3 ⟨rfl, hr3, hk3⟩
  have hK3 : Keeps (But b) w w3 := Keeps.trans (by (repeat' (first | with_reducible exact hK2 | with_reducible refine Keeps.set ?_ (by simp <;> omega) _ | with_reducible refine Keeps.alloc ?_ _ | with_reducible refine Keeps.drewN ?_ _ | with_reducible refine Keeps.drew ?_))) hk3
  have hs3 : w.heap.size + 1 ≤ w3.heap.size := by have := hk3.size; (try simp at this); omega
  have hb3 : b < w3.heap.size := by omega
  have hz3_0 : w2.heap.size < w3.heap.size := by have := hk3.size; (try simp at this); omega
  have c0_hk3 := fun o => hk3.cell (b := w.heap.size) (o := o) (by first | omega | (simp; done) | (simp; omega)) (by first | omega | (simp; done) | (simp; omega)); have z0_hk3 := fun o => hk3.frozen (b := w.heap.size) (o := o) (by first | omega | (simp; done) | (simp; omega)) (by first | omega | (simp; done) | (simp; omega)); have c1_hk3 := fun o => hk3.cell (b := w2.heap.size) (o := o) (by first | omega | (simp; done) | (simp; omega)) (by first | omega | (simp; done) | (simp; omega)); have z1_hk3 := fun o => hk3.frozen (b := w2.heap.size) (o := o) (by first | omega | (simp; done) | (simp; omega)) (by first | omega | (simp; done) | (simp; omega))
  go_wp2_with fail
  refine (run_calls isDigit_enters isDigit_calls 3 (by omega) (hr3.keep (S := fun k => b < k) (by (repeat' (first | with_reducible exact Keeps.refl _ _ | with_reducible refine Keeps.set ?_ (by simp <;> omega) _ | with_reducible refine Keeps.alloc ?_ _ | with_reducible refine Keeps.drewN ?_ _ | with_reducible refine Keeps.drew ?_))) (fun k hk hn => by omega))).mono ?_
  rintro e w4 ⟨⟨A4, c4, rfl, hR4, hc4, hx4⟩, hr4, hk4⟩
  have hK4 : Keeps (But b) w w4 := Keeps.trans (by (repeat' (first | with_reducible exact hK3 | with_reducible refine Keeps.set ?_ (by simp <;> omega) _ | with_reducible refine Keeps.alloc ?_ _ | with_reducible refine Keeps.drewN ?_ _ | with_reducible refine Keeps.drew ?_))) hk4
  have hs4 : w.heap.size + 1 ≤ w4.heap.size := by have := hk4.size; (try simp at this); omega
  have hb4 : b < w4.heap.size := by omega
  have hz4_0 : w2.heap.size < w4.heap.size := by have := hk4.size; (try simp at this); omega
  have c0_hk4 := fun o => hk4.cell (b := w.heap.size) (o := o) (by first | omega | (simp; done) | (simp; omega)) (by first | omega | (simp; done) | (simp; omega)); have z0_hk4 := fun o => hk4.frozen (b := w.heap.size) (o := o) (by first | omega | (simp; done) | (simp; omega)) (by first | omega | (simp; done) | (simp; omega)); have c1_hk4 := fun o => hk4.cell (b := w2.heap.size) (o := o) (by first | omega | (simp; done) | (simp; omega)) (by first | omega | (simp; done) | (simp; omega)); have z1_hk4 := fun o => hk4.frozen (b := w2.heap.size) (o := o) (by first | omega | (simp; done) | (simp; omega)) (by first | omega | (simp; done) | (simp; omega))
  have t1 := len_ne H4'.out
  go_wp2_with fail
  refine (decimal_calls hR4 (run_digits _ _).1 (run_digits 3 s.tail.tail).2).mono ?_
  rintro e w5 ⟨rfl, rfl⟩
  have hdb := decimal3 s.tail.tail (Nat.le_refl 3); generalize hde : decimal (run isDigit 3 s.tail.tail).1 = dn at *; have HDE := hid hde; clear hde
  go_wp2_with fail
  refine (must_yes (hr4.keep (S := fun k => b < k) (by (repeat' (first | with_reducible exact Keeps.refl _ _ | with_reducible refine Keeps.set ?_ (by simp <;> omega) _ | with_reducible refine Keeps.alloc ?_ _ | with_reducible refine Keeps.drewN ?_ _ | with_reducible refine Keeps.drew ?_))) (fun k hk hn => by omega)) (by omega) (by omega) H5'.out).mono ?_
  rintro e w6 ⟨rfl, hr6, hk6⟩
  have hK6 : Keeps (But b) w w6 := Keeps.trans (by (repeat' (first | with_reducible exact hK4 | with_reducible refine Keeps.set ?_ (by simp <;> omega) _ | with_reducible refine Keeps.alloc ?_ _ | with_reducible refine Keeps.drewN ?_ _ | with_reducible refine Keeps.drew ?_))) hk6
  have hs6 : w.heap.size + 1 ≤ w6.heap.size := by have := hk6.size; (try simp at this); omega
  have hb6 : b < w6.heap.size := by omega
  have hz6_0 : w2.heap.size < w6.heap.size := by have := hk6.size; (try simp at this); omega
  have c0_hk6 := fun o => hk6.cell (b := w.heap.size) (o := o) (by first | omega | (simp; done) | (simp; omega)) (by first | omega | (simp; done) | (simp; omega)); have z0_hk6 := fun o => hk6.frozen (b := w.heap.size) (o := o) (by first | omega | (simp; done) | (simp; omega)) (by first | omega | (simp; done) | (simp; omega)); have c1_hk6 := fun o => hk6.cell (b := w2.heap.size) (o := o) (by first | omega | (simp; done) | (simp; omega)) (by first | omega | (simp; done) | (simp; omega)); have z1_hk6 := fun o => hk6.frozen (b := w2.heap.size) (o := o) (by first | omega | (simp; done) | (simp; omega)) (by first | omega | (simp; done) | (simp; omega))
  go_wp2_with fail
  refine (tok_fail _ _).mono ?_
  rintro e w7 ⟨rfl, rfl⟩
  exact ⟨rfl, RPost.mkE rfl rfl (by (repeat' (first | with_reducible exact hK6 | with_reducible refine Keeps.set ?_ (by simp <;> omega) _ | with_reducible refine Keeps.alloc ?_ _ | with_reducible refine Keeps.drewN ?_ _ | with_reducible refine Keeps.drew ?_)))⟩

set_option maxHeartbeats 1000000 in
theorem named_1k {w : World} {b : Nat} {L s : List Int}  (h : Rs w b 1 L s) (H1 : hd s = 60) (H2 : (nameL s.tail).1 = []) (H9 : (nameL s.tail).2 = s.tail) (H3 : hd s.tail = 45) (H4 : ¬ (run isDigit 3 s.tail.tail).1 = []) (H5 : hd (run isDigit 3 s.tail.tail).2 = 62) (N6 : ¬ decimal (run isDigit 3 s.tail.tail).1 = 0) :
    Calls Tryz.prog 132 #[.pointer (some ⟨b, 0, none⟩)] w fun e w' => RPost b 1 L w (.ok ({ kind := 10, number := -decimal (run isDigit 3 s.tail.tail).1 }, (run isDigit 3 s.tail.tail).2.tail)) e w' := by
  have hb := h.lt
  have h0 : w.cell? ⟨b, 0, none⟩ = some (.int .i64 1) := by obtain ⟨_, _, _, h0, _⟩ := h; exact h0
  have H1' := hid H1
  clear H1
  have H2' := hid H2
  clear H2
  have H9' := hid H9
  clear H9
  have H3' := hid H3
  clear H3
  have H4' := hid H4
  clear H4
  have H5' := hid H5
  clear H5
  go_enter Tryz.func132, Tryz.ntmps132
  go_wp2_with fail
  refine (must_yes (h.keep (S := fun k => b < k) (by (repeat' (first | with_reducible exact Keeps.refl _ _ | with_reducible refine Keeps.set ?_ (by simp <;> omega) _ | with_reducible refine Keeps.alloc ?_ _ | with_reducible refine Keeps.drewN ?_ _ | with_reducible refine Keeps.drew ?_))) (fun k hk hn => by omega)) (by omega) (by omega) H1'.out).mono ?_
  rintro e w1 ⟨rfl, hr1, hk1⟩
  have hK1 : Keeps (But b) w w1 := Keeps.trans (by (repeat' (first | with_reducible exact Keeps.refl _ _ | with_reducible refine Keeps.set ?_ (by simp <;> omega) _ | with_reducible refine Keeps.alloc ?_ _ | with_reducible refine Keeps.drewN ?_ _ | with_reducible refine Keeps.drew ?_))) hk1
  have hs1 : w.heap.size + 1 ≤ w1.heap.size := by have := hk1.size; (try simp at this); omega
  have hb1 : b < w1.heap.size := by omega
  have c0_hk1 := fun o => hk1.cell (b := w.heap.size) (o := o) (by first | omega | (simp; done) | (simp; omega)) (by first | omega | (simp; done) | (simp; omega)); have z0_hk1 := fun o => hk1.frozen (b := w.heap.size) (o := o) (by first | omega | (simp; done) | (simp; omega)) (by first | omega | (simp; done) | (simp; omega))
  go_wp2_with fail
  refine (name_calls (hr1.keep (S := fun k => b < k) (by (repeat' (first | with_reducible exact Keeps.refl _ _ | with_reducible refine Keeps.set ?_ (by simp <;> omega) _ | with_reducible refine Keeps.alloc ?_ _ | with_reducible refine Keeps.drewN ?_ _ | with_reducible refine Keeps.drew ?_))) (fun k hk hn => by omega))).mono ?_
  rintro e w2 ⟨rfl, hr2, hk2⟩
  have hK2 : Keeps (But b) w w2 := Keeps.trans (by (repeat' (first | with_reducible exact hK1 | with_reducible refine Keeps.set ?_ (by simp <;> omega) _ | with_reducible refine Keeps.alloc ?_ _ | with_reducible refine Keeps.drewN ?_ _ | with_reducible refine Keeps.drew ?_))) hk2
  have hs2 : w.heap.size + 1 ≤ w2.heap.size := by have := hk2.size; (try simp at this); omega
  have hb2 : b < w2.heap.size := by omega
  have c0_hk2 := fun o => hk2.cell (b := w.heap.size) (o := o) (by first | omega | (simp; done) | (simp; omega)) (by first | omega | (simp; done) | (simp; omega)); have z0_hk2 := fun o => hk2.frozen (b := w.heap.size) (o := o) (by first | omega | (simp; done) | (simp; omega)) (by first | omega | (simp; done) | (simp; omega))
  have : w.heap.size < w2.heap.size := by omega
  have : w.heap.size ≤ w2.heap.size := by omega
  have : w.heap.size < w2.heap.size + 1 := by omega
  have : ¬ w.heap.size = w2.heap.size + 1 := by omega
  have : ¬ w2.heap.size + 1 = w.heap.size := by omega
  have : ¬ w2.heap.size = b := by omega
  have : ¬ b = w2.heap.size := by omega
  have : ¬ w2.heap.size = w.heap.size := by omega
  have : ¬ w.heap.size = w2.heap.size := by omega
  rw [H2'.out]; have tb : bytesOf [] = ⟨#[]⟩ := rfl; rw [tb]; have hr2 := (show Rs w2 b 1 L s.tail by have := hr2; rw [H9'.out] at this; exact this)
  go_wp2_with fail
  refine (may_yes (hr2.keep (S := fun k => b < k) (by (repeat' (first | with_reducible exact Keeps.refl _ _ | with_reducible refine Keeps.set ?_ (by simp <;> omega) _ | with_reducible refine Keeps.alloc ?_ _ | with_reducible refine Keeps.drewN ?_ _ | with_reducible refine Keeps.drew ?_))) (fun k hk hn => by omega)) (by omega) (by omega) H3'.out).mono ?_
  rintro e w3 ⟨rfl, hr3, hk3⟩
  have hK3 : Keeps (But b) w w3 := Keeps.trans (by (repeat' (first | with_reducible exact hK2 | with_reducible refine Keeps.set ?_ (by simp <;> omega) _ | with_reducible refine Keeps.alloc ?_ _ | with_reducible refine Keeps.drewN ?_ _ | with_reducible refine Keeps.drew ?_))) hk3
  have hs3 : w.heap.size + 1 ≤ w3.heap.size := by have := hk3.size; (try simp at this); omega
  have hb3 : b < w3.heap.size := by omega
  have hz3_0 : w2.heap.size < w3.heap.size := by have := hk3.size; (try simp at this); omega
  have c0_hk3 := fun o => hk3.cell (b := w.heap.size) (o := o) (by first | omega | (simp; done) | (simp; omega)) (by first | omega | (simp; done) | (simp; omega)); have z0_hk3 := fun o => hk3.frozen (b := w.heap.size) (o := o) (by first | omega | (simp; done) | (simp; omega)) (by first | omega | (simp; done) | (simp; omega)); have c1_hk3 := fun o => hk3.cell (b := w2.heap.size) (o := o) (by first | omega | (simp; done) | (simp; omega)) (by first | omega | (simp; done) | (simp; omega)); have z1_hk3 := fun o => hk3.frozen (b := w2.heap.size) (o := o) (by first | omega | (simp; done) | (simp; omega)) (by first | omega | (simp; done) | (simp; omega))
  go_wp2_with fail
  refine (run_calls isDigit_enters isDigit_calls 3 (by omega) (hr3.keep (S := fun k => b < k) (by (repeat' (first | with_reducible exact Keeps.refl _ _ | with_reducible refine Keeps.set ?_ (by simp <;> omega) _ | with_reducible refine Keeps.alloc ?_ _ | with_reducible refine Keeps.drewN ?_ _ | with_reducible refine Keeps.drew ?_))) (fun k hk hn => by omega))).mono ?_
  rintro e w4 ⟨⟨A4, c4, rfl, hR4, hc4, hx4⟩, hr4, hk4⟩
  have hK4 : Keeps (But b) w w4 := Keeps.trans (by (repeat' (first | with_reducible exact hK3 | with_reducible refine Keeps.set ?_ (by simp <;> omega) _ | with_reducible refine Keeps.alloc ?_ _ | with_reducible refine Keeps.drewN ?_ _ | with_reducible refine Keeps.drew ?_))) hk4
  have hs4 : w.heap.size + 1 ≤ w4.heap.size := by have := hk4.size; (try simp at this); omega
  have hb4 : b < w4.heap.size := by omega
  have hz4_0 : w2.heap.size < w4.heap.size := by have := hk4.size; (try simp at this); omega
  have c0_hk4 := fun o => hk4.cell (b := w.heap.size) (o := o) (by first | omega | (simp; done) | (simp; omega)) (by first | omega | (simp; done) | (simp; omega)); have z0_hk4 := fun o => hk4.frozen (b := w.heap.size) (o := o) (by first | omega | (simp; done) | (simp; omega)) (by first | omega | (simp; done) | (simp; omega)); have c1_hk4 := fun o => hk4.cell (b := w2.heap.size) (o := o) (by first | omega | (simp; done) | (simp; omega)) (by first | omega | (simp; done) | (simp; omega)); have z1_hk4 := fun o => hk4.frozen (b := w2.heap.size) (o := o) (by first | omega | (simp; done) | (simp; omega)) (by first | omega | (simp; done) | (simp; omega))
  have t1 := len_ne H4'.out
  go_wp2_with fail
  refine (decimal_calls hR4 (run_digits _ _).1 (run_digits 3 s.tail.tail).2).mono ?_
  rintro e w5 ⟨rfl, rfl⟩
  have hdb := decimal3 s.tail.tail (Nat.le_refl 3); generalize hde : decimal (run isDigit 3 s.tail.tail).1 = dn at *; have HDE := hid hde; clear hde
  go_wp2_with fail
  refine (must_yes (hr4.keep (S := fun k => b < k) (by (repeat' (first | with_reducible exact Keeps.refl _ _ | with_reducible refine Keeps.set ?_ (by simp <;> omega) _ | with_reducible refine Keeps.alloc ?_ _ | with_reducible refine Keeps.drewN ?_ _ | with_reducible refine Keeps.drew ?_))) (fun k hk hn => by omega)) (by omega) (by omega) H5'.out).mono ?_
  rintro e w6 ⟨rfl, hr6, hk6⟩
  have hK6 : Keeps (But b) w w6 := Keeps.trans (by (repeat' (first | with_reducible exact hK4 | with_reducible refine Keeps.set ?_ (by simp <;> omega) _ | with_reducible refine Keeps.alloc ?_ _ | with_reducible refine Keeps.drewN ?_ _ | with_reducible refine Keeps.drew ?_))) hk6
  have hs6 : w.heap.size + 1 ≤ w6.heap.size := by have := hk6.size; (try simp at this); omega
  have hb6 : b < w6.heap.size := by omega
  have hz6_0 : w2.heap.size < w6.heap.size := by have := hk6.size; (try simp at this); omega
  have c0_hk6 := fun o => hk6.cell (b := w.heap.size) (o := o) (by first | omega | (simp; done) | (simp; omega)) (by first | omega | (simp; done) | (simp; omega)); have z0_hk6 := fun o => hk6.frozen (b := w.heap.size) (o := o) (by first | omega | (simp; done) | (simp; omega)) (by first | omega | (simp; done) | (simp; omega)); have c1_hk6 := fun o => hk6.cell (b := w2.heap.size) (o := o) (by first | omega | (simp; done) | (simp; omega)) (by first | omega | (simp; done) | (simp; omega)); have z1_hk6 := fun o => hk6.frozen (b := w2.heap.size) (o := o) (by first | omega | (simp; done) | (simp; omega)) (by first | omega | (simp; done) | (simp; omega))
  go_wp2_with fail
  refine bodyPost_ret (v := tkV { kind := 10, number := -dn }) (by simp [results, Tryz.results132, go_sem, tkV, point, look, again, *]) rfl (RPost.mk (t := { kind := 10, number := -dn }) (by rw [HDE.out]) rfl (hr6.keep (S := fun k => b < k) ?_ (fun k hk hn => by omega)) ?_)
  · (repeat' (first | with_reducible exact Keeps.refl _ _ | with_reducible refine Keeps.set ?_ (by simp <;> omega) _ | with_reducible refine Keeps.alloc ?_ _ | with_reducible refine Keeps.drewN ?_ _ | with_reducible refine Keeps.drew ?_))
  · (repeat' (first | with_reducible exact hK6 | with_reducible refine Keeps.set ?_ (by simp <;> omega) _ | with_reducible refine Keeps.alloc ?_ _ | with_reducible refine Keeps.drewN ?_ _ | with_reducible refine Keeps.drew ?_))



theorem named_calls {w : World} {b : Nat} {L s : List Int} (h : Rs w b 1 L s) :
    Calls Tryz.prog 132 #[.pointer (some ⟨b, 0, none⟩)] w fun e w' => RPost b 1 L w (named s) e w' := by
  unfold named
  by_cases H1 : hd s = 60
  · rw [if_neg (by simpa using H1)]
    by_cases H2 : (nameL s.tail).1 = []
    · simp only [H2, if_true]
      have H9 : (nameL s.tail).2 = s.tail := by
        unfold nameL at H2 ⊢
        by_cases hc : isLetter (hd s.tail) || hd s.tail == 95
        · rw [if_pos hc] at H2 ⊢
          cases hs : s.tail with
          | nil => rfl
          | cons x t =>
            rw [hs] at H2 hc
            have hx : isNameCh x = true := by
              simp only [hd] at hc
              simp only [isNameCh, Bool.or_eq_true, decide_eq_true_eq, beq_iff_eq] at hc ⊢
              rcases hc with hc | hc
              · exact .inl (.inl hc)
              · exact .inr hc
            rw [show (20 : Nat) = 19 + 1 from rfl, run_go _ _ _ _ hx] at H2
            simp at H2
        · rw [if_neg hc]
      by_cases H3 : hd s.tail = 45
      · simp only [H3, if_true, beq_self_eq_true]
        by_cases H4 : (run isDigit 3 s.tail.tail).1 = []
        · rw [if_pos H4]; exact named_1n h H1 H2 H9 H3 H4
        rw [if_neg H4]
        by_cases H5 : hd (run isDigit 3 s.tail.tail).2 = 62
        · rw [if_neg (by simpa using H5)]
          by_cases N6 : decimal (run isDigit 3 s.tail.tail).1 = 0
          · rw [if_pos (by omega)]; exact named_1z h H1 H2 H9 H3 H4 H5 N6
          · rw [if_neg (by omega)]; exact named_1k h H1 H2 H9 H3 H4 H5 N6
        · rw [if_pos H5]; exact named_1e h H1 H2 H9 H3 H4 H5
      · have hb : (hd s.tail == 45) = false := by simpa using H3
        simp only [H3, if_false, hb, Bool.false_eq_true]
        by_cases H4 : (run isDigit 3 s.tail).1 = []
        · rw [if_pos H4]; exact named_0n h H1 H2 H9 H3 H4
        rw [if_neg H4]
        by_cases H5 : hd (run isDigit 3 s.tail).2 = 62
        · rw [if_neg (by simpa using H5)]
          by_cases N6 : decimal (run isDigit 3 s.tail).1 = 0
          · rw [if_pos N6]; exact named_0z h H1 H2 H9 H3 H4 H5 N6
          · rw [if_neg N6]; exact named_0k h H1 H2 H9 H3 H4 H5 N6
        · rw [if_pos H5]; exact named_0e h H1 H2 H9 H3 H4 H5
    · simp only [H2, if_false]
      by_cases H3 : hd (nameL s.tail).2 = 62
      · rw [if_neg (by simpa using H3)]; exact named_2 h H1 H2 H3
      · rw [if_pos H3]; exact named_1 h H1 H2 H3
  · rw [if_pos H1]; exact named_0 h H1

end Th
end Go.Proofs
