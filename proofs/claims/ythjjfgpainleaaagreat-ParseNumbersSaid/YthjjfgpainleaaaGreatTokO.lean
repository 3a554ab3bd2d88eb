/- The reader of tokens: the rest of what stands behind a backslash. -/
import Derived.Test.YthjjfgpainleaaaGreatTokN

set_option linter.unusedSimpArgs false
set_option linter.unusedVariables false

namespace Go.Proofs
namespace Th
open Go.RowKit

theorem Rs.again {w : World} {b : Nat} {d p a : Int} {L s : List Int} {n : Nat} (h : Rs w b d L s) (hn : L.drop n = p :: s) (ha : a = (n : Int)) : Rs (w.setCell ⟨b, 2, none⟩ (.int .i64 a)) b d L (p :: s) := by
  obtain ⟨A, c, a', hq, _⟩ := h.open
  have hlt : n ≤ L.length := by
    rcases Nat.lt_or_ge n L.length with h | h
    · omega
    · rw [List.drop_eq_nil_of_le h] at hn; simp at hn
  have h3 := (hq.set (a' := n) hlt).shut
  rw [hn, ← ha] at h3
  exact h3
theorem Rs.nat {w : World} {b : Nat} {d a : Int} {L s : List Int} (h : Rs w b d L s) (ha : w.cell? ⟨b, 2, none⟩ = some (.int .i64 a)) : ∃ n : Nat, a = (n : Int) ∧ L.drop n = s := by
  obtain ⟨A, c, a', hq, hs⟩ := h.open
  have h2 := hq.c2
  rw [ha] at h2
  injection h2 with h2
  injection h2 with _ h2
  exact ⟨a', h2, hs.symm⟩

set_option maxHeartbeats 1000000 in
theorem esc_let_lo {w : World} {b : Nat} {L s : List Int} {p : Int}  (h : Rs w b 1 L (p :: s)) (Np : 0 ≤ p) (Nq : p ≤ 1114111) (HC : classT p = none) (HA : amongL (codes lookB) p 0 = -1) (HB : amongL (codes ctrlB) p 0 = -1) (N120 : (p == 120) = false) (N117 : (p == 117) = false) (N107 : (p == 107) = false) (Nx : ¬ 49 ≤ p) (HL : isLetter p = true) :
    Calls Tryz.prog 89 #[.pointer (some ⟨b, 0, none⟩)] w fun e w' => RPost b 1 L w (.error 1) e w' := by
  have hb := h.lt
  have h0 : w.cell? ⟨b, 0, none⟩ = some (.int .i64 1) := by obtain ⟨_, _, _, h0, _⟩ := h; exact h0
  have HC' := hid HC
  clear HC
  have HA' := hid HA
  clear HA
  have HB' := hid HB
  clear HB
  have HL' := hid HL
  clear HL
  obtain ⟨a0, h2, ha0, ha1, hf2⟩ := h.at2
  go_enter Tryz.func89, Tryz.ntmps89
  go_wp2_with fail
  refine (peek (h.keep (S := fun k => b < k) (by (repeat' (first | with_reducible exact Keeps.refl _ _ | with_reducible refine Keeps.set ?_ (by simp <;> omega) _ | with_reducible refine Keeps.alloc ?_ _ | with_reducible refine Keeps.drewN ?_ _ | with_reducible refine Keeps.drew ?_))) (fun k hk hn => by omega))).mono ?_
  rintro e w1 ⟨rfl, q1, rfl⟩
  simp only [hd]
  go_wp2_with fail
  simp only [setCell_drewN, World.setCell_alloc_past _ _ _ _ hb]
  obtain ⟨wq, hwq⟩ : ∃ wq, w.setCell ⟨b, 2, none⟩ (.int .i64 (a0 + 1)) = wq := ⟨_, rfl⟩
  have hst : Rs wq b 1 L s := by rw [← hwq]; exact Rs.stepAt h h2 (by simp)
  have hkq : Keeps (But b) w wq := by rw [← hwq]; (repeat' (first | with_reducible exact Keeps.refl _ _ | with_reducible refine Keeps.set ?_ (by simp <;> omega) _ | with_reducible refine Keeps.alloc ?_ _ | with_reducible refine Keeps.drewN ?_ _ | with_reducible refine Keeps.drew ?_))
  have hsz : w.heap.size = wq.heap.size := by rw [← hwq]; simp
  have h0' : wq.cell? ⟨b, 0, none⟩ = some (.int .i64 1) := by rw [← hwq, World.cell?_setCell_other _ _ _ _ (by simp)]; exact h0
  have hbq : b < wq.heap.size := by omega
  simp only [hwq, hsz]
  refine (class_calls p _ (by omega) (by omega)).mono ?_
  rintro e w2 ⟨rfl, hk2⟩
  have hr2 := (hst.keep (S := fun k => b < k) (by (repeat' (first | with_reducible exact Keeps.refl _ _ | with_reducible refine Keeps.set ?_ (by simp <;> omega) _ | with_reducible refine Keeps.alloc ?_ _ | with_reducible refine Keeps.drewN ?_ _ | with_reducible refine Keeps.drew ?_))) (fun k hk hn => by omega)).keep hk2 (fun _ _ h => h)
  replace hk2 : Keeps (But b) _ w2 := hk2.mono (fun _ h => h.elim)
  have hK2 : Keeps (But b) w w2 := Keeps.trans (by (repeat' (first | with_reducible exact hkq | with_reducible refine Keeps.set ?_ (by simp <;> omega) _ | with_reducible refine Keeps.alloc ?_ _ | with_reducible refine Keeps.drewN ?_ _ | with_reducible refine Keeps.drew ?_))) hk2
  have hs2 : w.heap.size + 1 ≤ w2.heap.size := by have := hk2.size; (try simp at this); omega
  have hb2 : b < w2.heap.size := by omega
  have c0_hk2 := fun o => hk2.cell (b := wq.heap.size) (o := o) (by first | omega | (simp; done) | (simp; omega)) (by first | omega | (simp; done) | (simp; omega)); have z0_hk2 := fun o => hk2.frozen (b := wq.heap.size) (o := o) (by first | omega | (simp; done) | (simp; omega)) (by first | omega | (simp; done) | (simp; omega))
  have : wq.heap.size < w2.heap.size := by omega
  have : wq.heap.size ≤ w2.heap.size := by omega
  have : wq.heap.size < w2.heap.size + 1 := by omega
  have : ¬ wq.heap.size = w2.heap.size + 1 := by omega
  have : ¬ w2.heap.size + 1 = wq.heap.size := by omega
  have : ¬ w2.heap.size = b := by omega
  have : ¬ b = w2.heap.size := by omega
  have : ¬ w2.heap.size = wq.heap.size := by omega
  have : ¬ wq.heap.size = w2.heap.size := by omega
  rw [HC'.out]; simp only [tkV, Option.getD_none, Option.isSome_none]
  go_wp2_with fail
  refine (among_calls lookB p (by decide) _).mono ?_
  rintro e w3 ⟨rfl, rfl⟩
  rw [HA'.out]
  go_wp2_with fail
  refine (among_calls ctrlB p (by decide) _).mono ?_
  rintro e w4 ⟨rfl, rfl⟩
  rw [HB'.out]
  go_wp2_with fail
  refine (isLetter_calls p _).mono ?_
  rintro e w5 ⟨rfl, rfl⟩
  rw [HL'.out]
  go_wp2_with fail
  refine (tok_fail _ _).mono ?_
  rintro e w6 ⟨rfl, rfl⟩
  exact ⟨rfl, RPost.mkE rfl rfl (by (repeat' (first | with_reducible exact hK2 | with_reducible refine Keeps.set ?_ (by simp <;> omega) _ | with_reducible refine Keeps.alloc ?_ _ | with_reducible refine Keeps.drewN ?_ _ | with_reducible refine Keeps.drew ?_)))⟩

set_option maxHeartbeats 1000000 in
theorem esc_48 {w : World} {b : Nat} {L s : List Int} {p : Int}  (h : Rs w b 1 L (p :: s)) (Np : 0 ≤ p) (Nq : p ≤ 1114111) (HC : classT p = none) (HA : amongL (codes lookB) p 0 = -1) (HB : amongL (codes ctrlB) p 0 = -1) (N120 : (p == 120) = false) (N117 : (p == 117) = false) (N107 : (p == 107) = false) (Nx : ¬ 49 ≤ p) (HL : isLetter p = false) (Nz : (p == 48) = true) :
    Calls Tryz.prog 89 #[.pointer (some ⟨b, 0, none⟩)] w fun e w' => RPost b 1 L w (.error 1) e w' := by
  have hb := h.lt
  have h0 : w.cell? ⟨b, 0, none⟩ = some (.int .i64 1) := by obtain ⟨_, _, _, h0, _⟩ := h; exact h0
  have HC' := hid HC
  clear HC
  have HA' := hid HA
  clear HA
  have HB' := hid HB
  clear HB
  have HL' := hid HL
  clear HL
  obtain ⟨a0, h2, ha0, ha1, hf2⟩ := h.at2
  go_enter Tryz.func89, Tryz.ntmps89
  go_wp2_with fail
  refine (peek (h.keep (S := fun k => b < k) (by (repeat' (first | with_reducible exact Keeps.refl _ _ | with_reducible refine Keeps.set ?_ (by simp <;> omega) _ | with_reducible refine Keeps.alloc ?_ _ | with_reducible refine Keeps.drewN ?_ _ | with_reducible refine Keeps.drew ?_))) (fun k hk hn => by omega))).mono ?_
  rintro e w1 ⟨rfl, q1, rfl⟩
  simp only [hd]
  go_wp2_with fail
  simp only [setCell_drewN, World.setCell_alloc_past _ _ _ _ hb]
  obtain ⟨wq, hwq⟩ : ∃ wq, w.setCell ⟨b, 2, none⟩ (.int .i64 (a0 + 1)) = wq := ⟨_, rfl⟩
  have hst : Rs wq b 1 L s := by rw [← hwq]; exact Rs.stepAt h h2 (by simp)
  have hkq : Keeps (But b) w wq := by rw [← hwq]; (repeat' (first | with_reducible exact Keeps.refl _ _ | with_reducible refine Keeps.set ?_ (by simp <;> omega) _ | with_reducible refine Keeps.alloc ?_ _ | with_reducible refine Keeps.drewN ?_ _ | with_reducible refine Keeps.drew ?_))
  have hsz : w.heap.size = wq.heap.size := by rw [← hwq]; simp
  have h0' : wq.cell? ⟨b, 0, none⟩ = some (.int .i64 1) := by rw [← hwq, World.cell?_setCell_other _ _ _ _ (by simp)]; exact h0
  have hbq : b < wq.heap.size := by omega
  simp only [hwq, hsz]
  refine (class_calls p _ (by omega) (by omega)).mono ?_
  rintro e w2 ⟨rfl, hk2⟩
  have hr2 := (hst.keep (S := fun k => b < k) (by (repeat' (first | with_reducible exact Keeps.refl _ _ | with_reducible refine Keeps.set ?_ (by simp <;> omega) _ | with_reducible refine Keeps.alloc ?_ _ | with_reducible refine Keeps.drewN ?_ _ | with_reducible refine Keeps.drew ?_))) (fun k hk hn => by omega)).keep hk2 (fun _ _ h => h)
  replace hk2 : Keeps (But b) _ w2 := hk2.mono (fun _ h => h.elim)
  have hK2 : Keeps (But b) w w2 := Keeps.trans (by (repeat' (first | with_reducible exact hkq | with_reducible refine Keeps.set ?_ (by simp <;> omega) _ | with_reducible refine Keeps.alloc ?_ _ | with_reducible refine Keeps.drewN ?_ _ | with_reducible refine Keeps.drew ?_))) hk2
  have hs2 : w.heap.size + 1 ≤ w2.heap.size := by have := hk2.size; (try simp at this); omega
  have hb2 : b < w2.heap.size := by omega
  have c0_hk2 := fun o => hk2.cell (b := wq.heap.size) (o := o) (by first | omega | (simp; done) | (simp; omega)) (by first | omega | (simp; done) | (simp; omega)); have z0_hk2 := fun o => hk2.frozen (b := wq.heap.size) (o := o) (by first | omega | (simp; done) | (simp; omega)) (by first | omega | (simp; done) | (simp; omega))
  have : wq.heap.size < w2.heap.size := by omega
  have : wq.heap.size ≤ w2.heap.size := by omega
  have : wq.heap.size < w2.heap.size + 1 := by omega
  have : ¬ wq.heap.size = w2.heap.size + 1 := by omega
  have : ¬ w2.heap.size + 1 = wq.heap.size := by omega
  have : ¬ w2.heap.size = b := by omega
  have : ¬ b = w2.heap.size := by omega
  have : ¬ w2.heap.size = wq.heap.size := by omega
  have : ¬ wq.heap.size = w2.heap.size := by omega
  rw [HC'.out]; simp only [tkV, Option.getD_none, Option.isSome_none]
  go_wp2_with fail
  refine (among_calls lookB p (by decide) _).mono ?_
  rintro e w3 ⟨rfl, rfl⟩
  rw [HA'.out]
  go_wp2_with fail
  refine (among_calls ctrlB p (by decide) _).mono ?_
  rintro e w4 ⟨rfl, rfl⟩
  rw [HB'.out]
  go_wp2_with fail
  refine (isLetter_calls p _).mono ?_
  rintro e w5 ⟨rfl, rfl⟩
  rw [HL'.out]
  go_wp2_with fail
  refine (tok_fail _ _).mono ?_
  rintro e w6 ⟨rfl, rfl⟩
  exact ⟨rfl, RPost.mkE rfl rfl (by (repeat' (first | with_reducible exact hK2 | with_reducible refine Keeps.set ?_ (by simp <;> omega) _ | with_reducible refine Keeps.alloc ?_ _ | with_reducible refine Keeps.drewN ?_ _ | with_reducible refine Keeps.drew ?_)))⟩

set_option maxHeartbeats 1000000 in
theorem esc_pt_lo {w : World} {b : Nat} {L s : List Int} {p : Int}  (h : Rs w b 1 L (p :: s)) (Np : 0 ≤ p) (Nq : p ≤ 1114111) (HC : classT p = none) (HA : amongL (codes lookB) p 0 = -1) (HB : amongL (codes ctrlB) p 0 = -1) (N120 : (p == 120) = false) (N117 : (p == 117) = false) (N107 : (p == 107) = false) (Nx : ¬ 49 ≤ p) (HL : isLetter p = false) (Nz : (p == 48) = false) :
    Calls Tryz.prog 89 #[.pointer (some ⟨b, 0, none⟩)] w fun e w' => RPost b 1 L w (.ok ((point p), s)) e w' := by
  have hb := h.lt
  have h0 : w.cell? ⟨b, 0, none⟩ = some (.int .i64 1) := by obtain ⟨_, _, _, h0, _⟩ := h; exact h0
  have HC' := hid HC
  clear HC
  have HA' := hid HA
  clear HA
  have HB' := hid HB
  clear HB
  have HL' := hid HL
  clear HL
  obtain ⟨a0, h2, ha0, ha1, hf2⟩ := h.at2
  go_enter Tryz.func89, Tryz.ntmps89
  go_wp2_with fail
  refine (peek (h.keep (S := fun k => b < k) (by (repeat' (first | with_reducible exact Keeps.refl _ _ | with_reducible refine Keeps.set ?_ (by simp <;> omega) _ | with_reducible refine Keeps.alloc ?_ _ | with_reducible refine Keeps.drewN ?_ _ | with_reducible refine Keeps.drew ?_))) (fun k hk hn => by omega))).mono ?_
  rintro e w1 ⟨rfl, q1, rfl⟩
  simp only [hd]
  go_wp2_with fail
  simp only [setCell_drewN, World.setCell_alloc_past _ _ _ _ hb]
  obtain ⟨wq, hwq⟩ : ∃ wq, w.setCell ⟨b, 2, none⟩ (.int .i64 (a0 + 1)) = wq := ⟨_, rfl⟩
  have hst : Rs wq b 1 L s := by rw [← hwq]; exact Rs.stepAt h h2 (by simp)
  have hkq : Keeps (But b) w wq := by rw [← hwq]; (repeat' (first | with_reducible exact Keeps.refl _ _ | with_reducible refine Keeps.set ?_ (by simp <;> omega) _ | with_reducible refine Keeps.alloc ?_ _ | with_reducible refine Keeps.drewN ?_ _ | with_reducible refine Keeps.drew ?_))
  have hsz : w.heap.size = wq.heap.size := by rw [← hwq]; simp
  have h0' : wq.cell? ⟨b, 0, none⟩ = some (.int .i64 1) := by rw [← hwq, World.cell?_setCell_other _ _ _ _ (by simp)]; exact h0
  have hbq : b < wq.heap.size := by omega
  simp only [hwq, hsz]
  refine (class_calls p _ (by omega) (by omega)).mono ?_
  rintro e w2 ⟨rfl, hk2⟩
  have hr2 := (hst.keep (S := fun k => b < k) (by (repeat' (first | with_reducible exact Keeps.refl _ _ | with_reducible refine Keeps.set ?_ (by simp <;> omega) _ | with_reducible refine Keeps.alloc ?_ _ | with_reducible refine Keeps.drewN ?_ _ | with_reducible refine Keeps.drew ?_))) (fun k hk hn => by omega)).keep hk2 (fun _ _ h => h)
  replace hk2 : Keeps (But b) _ w2 := hk2.mono (fun _ h => h.elim)
  have hK2 : Keeps (But b) w w2 := Keeps.trans (by (repeat' (first | with_reducible exact hkq | with_reducible refine Keeps.set ?_ (by simp <;> omega) _ | with_reducible refine Keeps.alloc ?_ _ | with_reducible refine Keeps.drewN ?_ _ | with_reducible refine Keeps.drew ?_))) hk2
  have hs2 : w.heap.size + 1 ≤ w2.heap.size := by have := hk2.size; (try simp at this); omega
  have hb2 : b < w2.heap.size := by omega
  have c0_hk2 := fun o => hk2.cell (b := wq.heap.size) (o := o) (by first | omega | (simp; done) | (simp; omega)) (by first | omega | (simp; done) | (simp; omega)); have z0_hk2 := fun o => hk2.frozen (b := wq.heap.size) (o := o) (by first | omega | (simp; done) | (simp; omega)) (by first | omega | (simp; done) | (simp; omega))
  have : wq.heap.size < w2.heap.size := by omega
  have : wq.heap.size ≤ w2.heap.size := by omega
  have : wq.heap.size < w2.heap.size + 1 := by omega
  have : ¬ wq.heap.size = w2.heap.size + 1 := by omega
  have : ¬ w2.heap.size + 1 = wq.heap.size := by omega
  have : ¬ w2.heap.size = b := by omega
  have : ¬ b = w2.heap.size := by omega
  have : ¬ w2.heap.size = wq.heap.size := by omega
  have : ¬ wq.heap.size = w2.heap.size := by omega
  rw [HC'.out]; simp only [tkV, Option.getD_none, Option.isSome_none]
  go_wp2_with fail
  refine (among_calls lookB p (by decide) _).mono ?_
  rintro e w3 ⟨rfl, rfl⟩
  rw [HA'.out]
  go_wp2_with fail
  refine (among_calls ctrlB p (by decide) _).mono ?_
  rintro e w4 ⟨rfl, rfl⟩
  rw [HB'.out]
  go_wp2_with fail
  refine (isLetter_calls p _).mono ?_
  rintro e w5 ⟨rfl, rfl⟩
  rw [HL'.out]
  go_wp2_with fail
  refine (point_calls _ _).mono ?_
  rintro e w6 ⟨rfl, hk6⟩
  have hr6 := (hr2.keep (S := fun k => b < k) (by (repeat' (first | with_reducible exact Keeps.refl _ _ | with_reducible refine Keeps.set ?_ (by simp <;> omega) _ | with_reducible refine Keeps.alloc ?_ _ | with_reducible refine Keeps.drewN ?_ _ | with_reducible refine Keeps.drew ?_))) (fun k hk hn => by omega)).keep hk6 (fun _ _ h => h)
  replace hk6 : Keeps (But b) _ w6 := hk6.mono (fun _ h => h.elim)
  have hK6 : Keeps (But b) w w6 := Keeps.trans (by (repeat' (first | with_reducible exact hK2 | with_reducible refine Keeps.set ?_ (by simp <;> omega) _ | with_reducible refine Keeps.alloc ?_ _ | with_reducible refine Keeps.drewN ?_ _ | with_reducible refine Keeps.drew ?_))) hk6
  have hs6 : w.heap.size + 1 ≤ w6.heap.size := by have := hk6.size; (try simp at this); omega
  have hb6 : b < w6.heap.size := by omega
  have hz6_0 : w2.heap.size < w6.heap.size := by have := hk6.size; (try simp at this); omega
  have c0_hk6 := fun o => hk6.cell (b := wq.heap.size) (o := o) (by first | omega | (simp; done) | (simp; omega)) (by first | omega | (simp; done) | (simp; omega)); have z0_hk6 := fun o => hk6.frozen (b := wq.heap.size) (o := o) (by first | omega | (simp; done) | (simp; omega)) (by first | omega | (simp; done) | (simp; omega)); have c1_hk6 := fun o => hk6.cell (b := w2.heap.size) (o := o) (by first | omega | (simp; done) | (simp; omega)) (by first | omega | (simp; done) | (simp; omega)); have z1_hk6 := fun o => hk6.frozen (b := w2.heap.size) (o := o) (by first | omega | (simp; done) | (simp; omega)) (by first | omega | (simp; done) | (simp; omega))
  simp only [tkV, point]
  go_wp2_with fail
  refine bodyPost_ret (v := tkV (point p)) (by simp [results, Tryz.results89, go_sem, tkV, point, look, again, *]) rfl (RPost.mk (t := (point p)) (rfl) rfl (hr6.keep (S := fun k => b < k) ?_ (fun k hk hn => by omega)) ?_)
  · (repeat' (first | with_reducible exact Keeps.refl _ _ | with_reducible refine Keeps.set ?_ (by simp <;> omega) _ | with_reducible refine Keeps.alloc ?_ _ | with_reducible refine Keeps.drewN ?_ _ | with_reducible refine Keeps.drew ?_))
  · (repeat' (first | with_reducible exact hK6 | with_reducible refine Keeps.set ?_ (by simp <;> omega) _ | with_reducible refine Keeps.alloc ?_ _ | with_reducible refine Keeps.drewN ?_ _ | with_reducible refine Keeps.drew ?_))

set_option maxHeartbeats 1000000 in
theorem esc_let_hi {w : World} {b : Nat} {L s : List Int} {p : Int}  (h : Rs w b 1 L (p :: s)) (Np : 0 ≤ p) (Nq : p ≤ 1114111) (HC : classT p = none) (HA : amongL (codes lookB) p 0 = -1) (HB : amongL (codes ctrlB) p 0 = -1) (N120 : (p == 120) = false) (N117 : (p == 117) = false) (N107 : (p == 107) = false) (Ny : 49 ≤ p) (Nx : ¬ p ≤ 57) (HL : isLetter p = true) :
    Calls Tryz.prog 89 #[.pointer (some ⟨b, 0, none⟩)] w fun e w' => RPost b 1 L w (.error 1) e w' := by
  have hb := h.lt
  have h0 : w.cell? ⟨b, 0, none⟩ = some (.int .i64 1) := by obtain ⟨_, _, _, h0, _⟩ := h; exact h0
  have HC' := hid HC
  clear HC
  have HA' := hid HA
  clear HA
  have HB' := hid HB
  clear HB
  have HL' := hid HL
  clear HL
  obtain ⟨a0, h2, ha0, ha1, hf2⟩ := h.at2
  go_enter Tryz.func89, Tryz.ntmps89
  go_wp2_with fail
  refine (peek (h.keep (S := fun k => b < k) (by (repeat' (first | with_reducible exact Keeps.refl _ _ | with_reducible refine Keeps.set ?_ (by simp <;> omega) _ | with_reducible refine Keeps.alloc ?_ _ | with_reducible refine Keeps.drewN ?_ _ | with_reducible refine Keeps.drew ?_))) (fun k hk hn => by omega))).mono ?_
  rintro e w1 ⟨rfl, q1, rfl⟩
  simp only [hd]
  go_wp2_with fail
  simp only [setCell_drewN, World.setCell_alloc_past _ _ _ _ hb]
  obtain ⟨wq, hwq⟩ : ∃ wq, w.setCell ⟨b, 2, none⟩ (.int .i64 (a0 + 1)) = wq := ⟨_, rfl⟩
  have hst : Rs wq b 1 L s := by rw [← hwq]; exact Rs.stepAt h h2 (by simp)
  have hkq : Keeps (But b) w wq := by rw [← hwq]; (repeat' (first | with_reducible exact Keeps.refl _ _ | with_reducible refine Keeps.set ?_ (by simp <;> omega) _ | with_reducible refine Keeps.alloc ?_ _ | with_reducible refine Keeps.drewN ?_ _ | with_reducible refine Keeps.drew ?_))
  have hsz : w.heap.size = wq.heap.size := by rw [← hwq]; simp
  have h0' : wq.cell? ⟨b, 0, none⟩ = some (.int .i64 1) := by rw [← hwq, World.cell?_setCell_other _ _ _ _ (by simp)]; exact h0
  have hbq : b < wq.heap.size := by omega
  simp only [hwq, hsz]
  refine (class_calls p _ (by omega) (by omega)).mono ?_
  rintro e w2 ⟨rfl, hk2⟩
  have hr2 := (hst.keep (S := fun k => b < k) (by (repeat' (first | with_reducible exact Keeps.refl _ _ | with_reducible refine Keeps.set ?_ (by simp <;> omega) _ | with_reducible refine Keeps.alloc ?_ _ | with_reducible refine Keeps.drewN ?_ _ | with_reducible refine Keeps.drew ?_))) (fun k hk hn => by omega)).keep hk2 (fun _ _ h => h)
  replace hk2 : Keeps (But b) _ w2 := hk2.mono (fun _ h => h.elim)
  have hK2 : Keeps (But b) w w2 := Keeps.trans (by (repeat' (first | with_reducible exact hkq | with_reducible refine Keeps.set ?_ (by simp <;> omega) _ | with_reducible refine Keeps.alloc ?_ _ | with_reducible refine Keeps.drewN ?_ _ | with_reducible refine Keeps.drew ?_))) hk2
  have hs2 : w.heap.size + 1 ≤ w2.heap.size := by have := hk2.size; (try simp at this); omega
  have hb2 : b < w2.heap.size := by omega
  have c0_hk2 := fun o => hk2.cell (b := wq.heap.size) (o := o) (by first | omega | (simp; done) | (simp; omega)) (by first | omega | (simp; done) | (simp; omega)); have z0_hk2 := fun o => hk2.frozen (b := wq.heap.size) (o := o) (by first | omega | (simp; done) | (simp; omega)) (by first | omega | (simp; done) | (simp; omega))
  have : wq.heap.size < w2.heap.size := by omega
  have : wq.heap.size ≤ w2.heap.size := by omega
  have : wq.heap.size < w2.heap.size + 1 := by omega
  have : ¬ wq.heap.size = w2.heap.size + 1 := by omega
  have : ¬ w2.heap.size + 1 = wq.heap.size := by omega
  have : ¬ w2.heap.size = b := by omega
  have : ¬ b = w2.heap.size := by omega
  have : ¬ w2.heap.size = wq.heap.size := by omega
  have : ¬ wq.heap.size = w2.heap.size := by omega
  rw [HC'.out]; simp only [tkV, Option.getD_none, Option.isSome_none]
  go_wp2_with fail
  refine (among_calls lookB p (by decide) _).mono ?_
  rintro e w3 ⟨rfl, rfl⟩
  rw [HA'.out]
  go_wp2_with fail
  refine (among_calls ctrlB p (by decide) _).mono ?_
  rintro e w4 ⟨rfl, rfl⟩
  rw [HB'.out]
  go_wp2_with fail
  refine (isLetter_calls p _).mono ?_
  rintro e w5 ⟨rfl, rfl⟩
  rw [HL'.out]
  go_wp2_with fail
  refine (tok_fail _ _).mono ?_
  rintro e w6 ⟨rfl, rfl⟩
  exact ⟨rfl, RPost.mkE rfl rfl (by (repeat' (first | with_reducible exact hK2 | with_reducible refine Keeps.set ?_ (by simp <;> omega) _ | with_reducible refine Keeps.alloc ?_ _ | with_reducible refine Keeps.drewN ?_ _ | with_reducible refine Keeps.drew ?_)))⟩

set_option maxHeartbeats 1000000 in
theorem esc_pt_hi {w : World} {b : Nat} {L s : List Int} {p : Int}  (h : Rs w b 1 L (p :: s)) (Np : 0 ≤ p) (Nq : p ≤ 1114111) (HC : classT p = none) (HA : amongL (codes lookB) p 0 = -1) (HB : amongL (codes ctrlB) p 0 = -1) (N120 : (p == 120) = false) (N117 : (p == 117) = false) (N107 : (p == 107) = false) (Ny : 49 ≤ p) (Nx : ¬ p ≤ 57) (HL : isLetter p = false) (Nz : (p == 48) = false) :
    Calls Tryz.prog 89 #[.pointer (some ⟨b, 0, none⟩)] w fun e w' => RPost b 1 L w (.ok ((point p), s)) e w' := by
  have hb := h.lt
  have h0 : w.cell? ⟨b, 0, none⟩ = some (.int .i64 1) := by obtain ⟨_, _, _, h0, _⟩ := h; exact h0
  have HC' := hid HC
  clear HC
  have HA' := hid HA
  clear HA
  have HB' := hid HB
  clear HB
  have HL' := hid HL
  clear HL
  obtain ⟨a0, h2, ha0, ha1, hf2⟩ := h.at2
  go_enter Tryz.func89, Tryz.ntmps89
  go_wp2_with fail
  refine (peek (h.keep (S := fun k => b < k) (by (repeat' (first | with_reducible exact Keeps.refl _ _ | with_reducible refine Keeps.set ?_ (by simp <;> omega) _ | with_reducible refine Keeps.alloc ?_ _ | with_reducible refine Keeps.drewN ?_ _ | with_reducible refine Keeps.drew ?_))) (fun k hk hn => by omega))).mono ?_
  rintro e w1 ⟨rfl, q1, rfl⟩
  simp only [hd]
  go_wp2_with fail
  simp only [setCell_drewN, World.setCell_alloc_past _ _ _ _ hb]
  obtain ⟨wq, hwq⟩ : ∃ wq, w.setCell ⟨b, 2, none⟩ (.int .i64 (a0 + 1)) = wq := ⟨_, rfl⟩
  have hst : Rs wq b 1 L s := by rw [← hwq]; exact Rs.stepAt h h2 (by simp)
  have hkq : Keeps (But b) w wq := by rw [← hwq]; (repeat' (first | with_reducible exact Keeps.refl _ _ | with_reducible refine Keeps.set ?_ (by simp <;> omega) _ | with_reducible refine Keeps.alloc ?_ _ | with_reducible refine Keeps.drewN ?_ _ | with_reducible refine Keeps.drew ?_))
  have hsz : w.heap.size = wq.heap.size := by rw [← hwq]; simp
  have h0' : wq.cell? ⟨b, 0, none⟩ = some (.int .i64 1) := by rw [← hwq, World.cell?_setCell_other _ _ _ _ (by simp)]; exact h0
  have hbq : b < wq.heap.size := by omega
  simp only [hwq, hsz]
  refine (class_calls p _ (by omega) (by omega)).mono ?_
  rintro e w2 ⟨rfl, hk2⟩
  have hr2 := (hst.keep (S := fun k => b < k) (by (repeat' (first | with_reducible exact Keeps.refl _ _ | with_reducible refine Keeps.set ?_ (by simp <;> omega) _ | with_reducible refine Keeps.alloc ?_ _ | with_reducible refine Keeps.drewN ?_ _ | with_reducible refine Keeps.drew ?_))) (fun k hk hn => by omega)).keep hk2 (fun _ _ h => h)
  replace hk2 : Keeps (But b) _ w2 := hk2.mono (fun _ h => h.elim)
  have hK2 : Keeps (But b) w w2 := Keeps.trans (by (repeat' (first | with_reducible exact hkq | with_reducible refine Keeps.set ?_ (by simp <;> omega) _ | with_reducible refine Keeps.alloc ?_ _ | with_reducible refine Keeps.drewN ?_ _ | with_reducible refine Keeps.drew ?_))) hk2
  have hs2 : w.heap.size + 1 ≤ w2.heap.size := by have := hk2.size; (try simp at this); omega
  have hb2 : b < w2.heap.size := by omega
  have c0_hk2 := fun o => hk2.cell (b := wq.heap.size) (o := o) (by first | omega | (simp; done) | (simp; omega)) (by first | omega | (simp; done) | (simp; omega)); have z0_hk2 := fun o => hk2.frozen (b := wq.heap.size) (o := o) (by first | omega | (simp; done) | (simp; omega)) (by first | omega | (simp; done) | (simp; omega))
  have : wq.heap.size < w2.heap.size := by omega
  have : wq.heap.size ≤ w2.heap.size := by omega
  have : wq.heap.size < w2.heap.size + 1 := by omega
  have : ¬ wq.heap.size = w2.heap.size + 1 := by omega
  have : ¬ w2.heap.size + 1 = wq.heap.size := by omega
  have : ¬ w2.heap.size = b := by omega
  have : ¬ b = w2.heap.size := by omega
  have : ¬ w2.heap.size = wq.heap.size := by omega
  have : ¬ wq.heap.size = w2.heap.size := by omega
  rw [HC'.out]; simp only [tkV, Option.getD_none, Option.isSome_none]
  go_wp2_with fail
  refine (among_calls lookB p (by decide) _).mono ?_
  rintro e w3 ⟨rfl, rfl⟩
  rw [HA'.out]
  go_wp2_with fail
  refine (among_calls ctrlB p (by decide) _).mono ?_
  rintro e w4 ⟨rfl, rfl⟩
  rw [HB'.out]
  go_wp2_with fail
  refine (isLetter_calls p _).mono ?_
  rintro e w5 ⟨rfl, rfl⟩
  rw [HL'.out]
  go_wp2_with fail
  refine (point_calls _ _).mono ?_
  rintro e w6 ⟨rfl, hk6⟩
  have hr6 := (hr2.keep (S := fun k => b < k) (by (repeat' (first | with_reducible exact Keeps.refl _ _ | with_reducible refine Keeps.set ?_ (by simp <;> omega) _ | with_reducible refine Keeps.alloc ?_ _ | with_reducible refine Keeps.drewN ?_ _ | with_reducible refine Keeps.drew ?_))) (fun k hk hn => by omega)).keep hk6 (fun _ _ h => h)
  replace hk6 : Keeps (But b) _ w6 := hk6.mono (fun _ h => h.elim)
  have hK6 : Keeps (But b) w w6 := Keeps.trans (by (repeat' (first | with_reducible exact hK2 | with_reducible refine Keeps.set ?_ (by simp <;> omega) _ | with_reducible refine Keeps.alloc ?_ _ | with_reducible refine Keeps.drewN ?_ _ | with_reducible refine Keeps.drew ?_))) hk6
  have hs6 : w.heap.size + 1 ≤ w6.heap.size := by have := hk6.size; (try simp at this); omega
  have hb6 : b < w6.heap.size := by omega
  have hz6_0 : w2.heap.size < w6.heap.size := by have := hk6.size; (try simp at this); omega
  have c0_hk6 := fun o => hk6.cell (b := wq.heap.size) (o := o) (by first | omega | (simp; done) | (simp; omega)) (by first | omega | (simp; done) | (simp; omega)); have z0_hk6 := fun o => hk6.frozen (b := wq.heap.size) (o := o) (by first | omega | (simp; done) | (simp; omega)) (by first | omega | (simp; done) | (simp; omega)); have c1_hk6 := fun o => hk6.cell (b := w2.heap.size) (o := o) (by first | omega | (simp; done) | (simp; omega)) (by first | omega | (simp; done) | (simp; omega)); have z1_hk6 := fun o => hk6.frozen (b := w2.heap.size) (o := o) (by first | omega | (simp; done) | (simp; omega)) (by first | omega | (simp; done) | (simp; omega))
  simp only [tkV, point]
  go_wp2_with fail
  refine bodyPost_ret (v := tkV (point p)) (by simp [results, Tryz.results89, go_sem, tkV, point, look, again, *]) rfl (RPost.mk (t := (point p)) (rfl) rfl (hr6.keep (S := fun k => b < k) ?_ (fun k hk hn => by omega)) ?_)
  · (repeat' (first | with_reducible exact Keeps.refl _ _ | with_reducible refine Keeps.set ?_ (by simp <;> omega) _ | with_reducible refine Keeps.alloc ?_ _ | with_reducible refine Keeps.drewN ?_ _ | with_reducible refine Keeps.drew ?_))
  · (repeat' (first | with_reducible exact hK6 | with_reducible refine Keeps.set ?_ (by simp <;> omega) _ | with_reducible refine Keeps.alloc ?_ _ | with_reducible refine Keeps.drewN ?_ _ | with_reducible refine Keeps.drew ?_))

set_option maxHeartbeats 1000000 in
theorem esc_dig {w : World} {b : Nat} {L s : List Int} {p : Int}  (h : Rs w b 1 L (p :: s)) (Np : 0 ≤ p) (Nq : p ≤ 1114111) (HC : classT p = none) (HA : amongL (codes lookB) p 0 = -1) (HB : amongL (codes ctrlB) p 0 = -1) (N120 : (p == 120) = false) (N117 : (p == 117) = false) (N107 : (p == 107) = false) (Ny : 49 ≤ p) (Nx : p ≤ 57) :
    Calls Tryz.prog 89 #[.pointer (some ⟨b, 0, none⟩)] w fun e w' => RPost b 1 L w (.ok ((again (decimal (run isDigit 2 (p :: s)).1)), (run isDigit 2 (p :: s)).2)) e w' := by
  have hb := h.lt
  have h0 : w.cell? ⟨b, 0, none⟩ = some (.int .i64 1) := by obtain ⟨_, _, _, h0, _⟩ := h; exact h0
  have HC' := hid HC
  clear HC
  have HA' := hid HA
  clear HA
  have HB' := hid HB
  clear HB
  obtain ⟨a0, h2, ha0, ha1, hf2⟩ := h.at2
  obtain ⟨n0, hn0, hdr⟩ := h.nat h2
  have HN0 := hid hn0
  clear hn0
  go_enter Tryz.func89, Tryz.ntmps89
  go_wp2_with fail
  refine (peek (h.keep (S := fun k => b < k) (by (repeat' (first | with_reducible exact Keeps.refl _ _ | with_reducible refine Keeps.set ?_ (by simp <;> omega) _ | with_reducible refine Keeps.alloc ?_ _ | with_reducible refine Keeps.drewN ?_ _ | with_reducible refine Keeps.drew ?_))) (fun k hk hn => by omega))).mono ?_
  rintro e w1 ⟨rfl, q1, rfl⟩
  simp only [hd]
  go_wp2_with fail
  simp only [setCell_drewN, World.setCell_alloc_past _ _ _ _ hb]
  obtain ⟨wq, hwq⟩ : ∃ wq, w.setCell ⟨b, 2, none⟩ (.int .i64 (a0 + 1)) = wq := ⟨_, rfl⟩
  have hst : Rs wq b 1 L s := by rw [← hwq]; exact Rs.stepAt h h2 (by simp)
  have hkq : Keeps (But b) w wq := by rw [← hwq]; (repeat' (first | with_reducible exact Keeps.refl _ _ | with_reducible refine Keeps.set ?_ (by simp <;> omega) _ | with_reducible refine Keeps.alloc ?_ _ | with_reducible refine Keeps.drewN ?_ _ | with_reducible refine Keeps.drew ?_))
  have hsz : w.heap.size = wq.heap.size := by rw [← hwq]; simp
  have h0' : wq.cell? ⟨b, 0, none⟩ = some (.int .i64 1) := by rw [← hwq, World.cell?_setCell_other _ _ _ _ (by simp)]; exact h0
  have hbq : b < wq.heap.size := by omega
  have h2' : wq.cell? ⟨b, 2, none⟩ = some (.int .i64 (a0 + 1)) := by rw [← hwq]; exact World.cell?_setCell_same _ _ _ h2
  have hf2' : wq.frozen? ⟨b, 2, none⟩ = false := by rw [← hwq]; simpa using hf2
  simp only [hwq, hsz]
  refine (class_calls p _ (by omega) (by omega)).mono ?_
  rintro e w2 ⟨rfl, hk2⟩
  have hkn2 := hk2
  have c0_hkn2 := fun o => hkn2.cell (b := b) (o := o) (by first | omega | (simp; done) | (simp; omega)) (by first | omega | (simp; done) | (simp; omega)); have z0_hkn2 := fun o => hkn2.frozen (b := b) (o := o) (by first | omega | (simp; done) | (simp; omega)) (by first | omega | (simp; done) | (simp; omega))
  have hr2 := (hst.keep (S := fun k => b < k) (by (repeat' (first | with_reducible exact Keeps.refl _ _ | with_reducible refine Keeps.set ?_ (by simp <;> omega) _ | with_reducible refine Keeps.alloc ?_ _ | with_reducible refine Keeps.drewN ?_ _ | with_reducible refine Keeps.drew ?_))) (fun k hk hn => by omega)).keep hk2 (fun _ _ h => h)
  replace hk2 : Keeps (But b) _ w2 := hk2.mono (fun _ h => h.elim)
  have hK2 : Keeps (But b) w w2 := Keeps.trans (by (repeat' (first | with_reducible exact hkq | with_reducible refine Keeps.set ?_ (by simp <;> omega) _ | with_reducible refine Keeps.alloc ?_ _ | with_reducible refine Keeps.drewN ?_ _ | with_reducible refine Keeps.drew ?_))) hk2
  have hs2 : w.heap.size + 1 ≤ w2.heap.size := by have := hk2.size; (try simp at this); omega
  have hb2 : b < w2.heap.size := by omega
  have c0_hk2 := fun o => hk2.cell (b := wq.heap.size) (o := o) (by first | omega | (simp; done) | (simp; omega)) (by first | omega | (simp; done) | (simp; omega)); have z0_hk2 := fun o => hk2.frozen (b := wq.heap.size) (o := o) (by first | omega | (simp; done) | (simp; omega)) (by first | omega | (simp; done) | (simp; omega))
  have : wq.heap.size < w2.heap.size := by omega
  have : wq.heap.size ≤ w2.heap.size := by omega
  have : wq.heap.size < w2.heap.size + 1 := by omega
  have : ¬ wq.heap.size = w2.heap.size + 1 := by omega
  have : ¬ w2.heap.size + 1 = wq.heap.size := by omega
  have : ¬ w2.heap.size = b := by omega
  have : ¬ b = w2.heap.size := by omega
  have : ¬ w2.heap.size = wq.heap.size := by omega
  have : ¬ wq.heap.size = w2.heap.size := by omega
  rw [HC'.out]; simp only [tkV, Option.getD_none, Option.isSome_none]
  go_wp2_with fail
  refine (among_calls lookB p (by decide) _).mono ?_
  rintro e w3 ⟨rfl, rfl⟩
  rw [HA'.out]
  go_wp2_with fail
  refine (among_calls ctrlB p (by decide) _).mono ?_
  rintro e w4 ⟨rfl, rfl⟩
  rw [HB'.out]
  go_wp2_with fail
  obtain ⟨wx, hwx⟩ : ∃ wx, w2.setCell ⟨b, 2, none⟩ (.int .i64 a0) = wx := ⟨_, rfl⟩
  have hrx : Rs wx b 1 L (p :: s) := by rw [← hwx]; exact Rs.again hr2 hdr HN0.out
  have hKx : Keeps (But b) w wx := by rw [← hwx]; (repeat' (first | with_reducible exact hK2 | with_reducible refine Keeps.set ?_ (by simp <;> omega) _ | with_reducible refine Keeps.alloc ?_ _ | with_reducible refine Keeps.drewN ?_ _ | with_reducible refine Keeps.drew ?_))
  have hsx : w2.heap.size = wx.heap.size := by rw [← hwx]; simp
  have cx : ∀ o, wx.cell? ⟨wq.heap.size, o, none⟩ = w2.cell? ⟨wq.heap.size, o, none⟩ := fun o => by rw [← hwx, World.cell?_setCell_other _ _ _ _ (by simp <;> omega)]
  have zx : ∀ o, wx.frozen? ⟨wq.heap.size, o, none⟩ = w2.frozen? ⟨wq.heap.size, o, none⟩ := fun o => by rw [← hwx]; simp
  have i1 : wq.heap.size < wx.heap.size := by omega
  have i2 : ¬ wq.heap.size = wx.heap.size := by omega
  have i3 : ¬ wx.heap.size = wq.heap.size := by omega
  have i4 : b < wx.heap.size := by omega
  have i5 : ¬ b = wx.heap.size := by omega
  have i6 : ¬ wx.heap.size = b := by omega
  simp only [hwx, hsx]
  refine (run_calls isDigit_enters isDigit_calls 2 (by omega) (hrx.keep (S := fun k => b < k) (by (repeat' (first | with_reducible exact Keeps.refl _ _ | with_reducible refine Keeps.set ?_ (by simp <;> omega) _ | with_reducible refine Keeps.alloc ?_ _ | with_reducible refine Keeps.drewN ?_ _ | with_reducible refine Keeps.drew ?_))) (fun k hk hn => by omega))).mono ?_
  rintro e w6 ⟨⟨A6, c6, rfl, hR6, hc6, hx6⟩, hr6, hk6⟩
  have hK6 : Keeps (But b) w w6 := Keeps.trans (by (repeat' (first | with_reducible exact hKx | with_reducible refine Keeps.set ?_ (by simp <;> omega) _ | with_reducible refine Keeps.alloc ?_ _ | with_reducible refine Keeps.drewN ?_ _ | with_reducible refine Keeps.drew ?_))) hk6
  have hs6 : w.heap.size + 1 ≤ w6.heap.size := by have := hk6.size; (try simp at this); omega
  have hb6 : b < w6.heap.size := by omega
  have hz6_0 : w2.heap.size < w6.heap.size := by have := hk6.size; (try simp at this); omega
  have c0_hk6 := fun o => hk6.cell (b := wq.heap.size) (o := o) (by first | omega | (simp; done) | (simp; omega)) (by first | omega | (simp; done) | (simp; omega)); have z0_hk6 := fun o => hk6.frozen (b := wq.heap.size) (o := o) (by first | omega | (simp; done) | (simp; omega)) (by first | omega | (simp; done) | (simp; omega)); have c1_hk6 := fun o => hk6.cell (b := w2.heap.size) (o := o) (by first | omega | (simp; done) | (simp; omega)) (by first | omega | (simp; done) | (simp; omega)); have z1_hk6 := fun o => hk6.frozen (b := w2.heap.size) (o := o) (by first | omega | (simp; done) | (simp; omega)) (by first | omega | (simp; done) | (simp; omega))
  go_wp2_with fail
  refine (decimal_calls hR6 (run_digits _ _).1 (by have := (run_digits 2 (p :: s)).2; omega)).mono ?_
  rintro e w7 ⟨rfl, rfl⟩
  go_wp2_with fail
  refine (again_calls _ _).mono ?_
  rintro e w8 ⟨rfl, hk8⟩
  have hkn8 := hk8
  have c0_hkn8 := fun o => hkn8.cell (b := b) (o := o) (by first | omega | (simp; done) | (simp; omega)) (by first | omega | (simp; done) | (simp; omega)); have z0_hkn8 := fun o => hkn8.frozen (b := b) (o := o) (by first | omega | (simp; done) | (simp; omega)) (by first | omega | (simp; done) | (simp; omega))
  have hr8 := (hr6.keep (S := fun k => b < k) (by (repeat' (first | with_reducible exact Keeps.refl _ _ | with_reducible refine Keeps.set ?_ (by simp <;> omega) _ | with_reducible refine Keeps.alloc ?_ _ | with_reducible refine Keeps.drewN ?_ _ | with_reducible refine Keeps.drew ?_))) (fun k hk hn => by omega)).keep hk8 (fun _ _ h => h)
  replace hk8 : Keeps (But b) _ w8 := hk8.mono (fun _ h => h.elim)
  have hK8 : Keeps (But b) w w8 := Keeps.trans (by (repeat' (first | with_reducible exact hK6 | with_reducible refine Keeps.set ?_ (by simp <;> omega) _ | with_reducible refine Keeps.alloc ?_ _ | with_reducible refine Keeps.drewN ?_ _ | with_reducible refine Keeps.drew ?_))) hk8
  have hs8 : w.heap.size + 1 ≤ w8.heap.size := by have := hk8.size; (try simp at this); omega
  have hb8 : b < w8.heap.size := by omega
  have hz8_0 : w2.heap.size < w8.heap.size := by have := hk8.size; (try simp at this); omega
  have c0_hk8 := fun o => hk8.cell (b := wq.heap.size) (o := o) (by first | omega | (simp; done) | (simp; omega)) (by first | omega | (simp; done) | (simp; omega)); have z0_hk8 := fun o => hk8.frozen (b := wq.heap.size) (o := o) (by first | omega | (simp; done) | (simp; omega)) (by first | omega | (simp; done) | (simp; omega)); have c1_hk8 := fun o => hk8.cell (b := w2.heap.size) (o := o) (by first | omega | (simp; done) | (simp; omega)) (by first | omega | (simp; done) | (simp; omega)); have z1_hk8 := fun o => hk8.frozen (b := w2.heap.size) (o := o) (by first | omega | (simp; done) | (simp; omega)) (by first | omega | (simp; done) | (simp; omega))
  simp only [tkV, again]
  go_wp2_with fail
  refine bodyPost_ret (v := tkV (again (decimal (run isDigit 2 (p :: s)).1))) (by simp [results, Tryz.results89, go_sem, tkV, point, look, again, *]) rfl (RPost.mk (t := (again (decimal (run isDigit 2 (p :: s)).1))) (rfl) rfl (hr8.keep (S := fun k => b < k) ?_ (fun k hk hn => by omega)) ?_)
  · (repeat' (first | with_reducible exact Keeps.refl _ _ | with_reducible refine Keeps.set ?_ (by simp <;> omega) _ | with_reducible refine Keeps.alloc ?_ _ | with_reducible refine Keeps.drewN ?_ _ | with_reducible refine Keeps.drew ?_))
  · (repeat' (first | with_reducible exact hK8 | with_reducible refine Keeps.set ?_ (by simp <;> omega) _ | with_reducible refine Keeps.alloc ?_ _ | with_reducible refine Keeps.drewN ?_ _ | with_reducible refine Keeps.drew ?_))


end Th
end Go.Proofs
