/- The reader of tokens: a backslash and what stands behind it; a token. -/
import Derived.Test.YthjjfgpainleaaaGreatTokO

set_option linter.unusedSimpArgs false
set_option linter.unusedVariables false

namespace Go.Proofs
namespace Th
open Go.RowKit

/-- What a pattern may be made of. -/
def Points (L : List Int) : Prop := ∀ x ∈ L, 0 ≤ x ∧ x ≤ 1114111

theorem escaped_calls {w : World} {b : Nat} {d : Int} {L s : List Int} (h : Rs w b d L s) (hp : Points s) (hd0 : d = 1 ∨ d = 2 ∨ d = 3) :
    Calls Tryz.prog 89 #[.pointer (some ⟨b, 0, none⟩)] w fun e w' => RPost b d L w (escaped d s) e w' := by
  cases s with
  | nil => exact escaped_nil h
  | cons p s =>
    have hb := hp p (by simp)
    have Np := hb.1
    have Nq := hb.2
    simp only [escaped]
    rcases hd0 with rfl | rfl | rfl
    · rw [if_neg (by decide), if_neg (by decide)]
      cases HC : classT p with
      | some t => exact esc_class h Np Nq HC
      | none =>
        rcases look_among Np with ⟨l1, HA⟩ | ⟨l1, HA⟩ | ⟨l1, HA⟩ | ⟨l1, HA⟩ | ⟨l1, HA⟩ <;> simp only [l1]
        · rcases @ctrl_among p with ⟨l2, HB⟩ | ⟨k, l2, HB⟩ <;> simp only [l2]
          · by_cases N120 : p = 120
            · subst N120
              rw [if_pos (.inl rfl)]
              cases HO : scalar 120 s with
              | error n => exact esc_120_e h (by decide) (by decide) HC HA HB HO
              | ok ts => exact esc_120_o h (by decide) (by decide) HC HA HB HO
            by_cases N117 : p = 117
            · subst N117
              rw [if_pos (.inr rfl)]
              cases HO : scalar 117 s with
              | error n => exact esc_117_e h (by decide) (by decide) HC HA HB HO
              | ok ts => exact esc_117_o h (by decide) (by decide) HC HA HB HO
            rw [if_neg (by omega)]
            by_cases N107 : p = 107
            · subst N107
              rw [if_pos rfl]
              cases HO : named s with
              | error n => exact esc_107_e h (by decide) (by decide) HC HA HB HO
              | ok ts => exact esc_107_o h (by decide) (by decide) HC HA HB HO
            rw [if_neg N107]
            by_cases Ny : 49 ≤ p
            · by_cases Nx : p ≤ 57
              · rw [if_pos ⟨Ny, Nx⟩]; exact esc_dig h Np Nq HC HA HB (ne_eq N120) (ne_eq N117) (ne_eq N107) Ny Nx
              · rw [if_neg (fun e => Nx e.2)]
                by_cases HL : isLetter p = true
                · rw [if_pos (.inl HL)]; exact esc_let_hi h Np Nq HC HA HB (ne_eq N120) (ne_eq N117) (ne_eq N107) Ny Nx HL
                · rw [if_neg (fun e => e.elim HL (fun e => by omega))]
                  exact esc_pt_hi h Np Nq HC HA HB (ne_eq N120) (ne_eq N117) (ne_eq N107) Ny Nx (by simpa using HL) (ne_eq (by omega))
            · rw [if_neg (fun e => Ny e.1)]
              by_cases HL : isLetter p = true
              · rw [if_pos (.inl HL)]; exact esc_let_lo h Np Nq HC HA HB (ne_eq N120) (ne_eq N117) (ne_eq N107) Ny HL
              · by_cases Nz : p = 48
                · rw [if_pos (.inr Nz)]; exact esc_48 h Np Nq HC HA HB (ne_eq N120) (ne_eq N117) (ne_eq N107) Ny (by simpa using HL) (by simpa using Nz)
                · rw [if_neg (fun e => e.elim HL Nz)]
                  exact esc_pt_lo h Np Nq HC HA HB (ne_eq N120) (ne_eq N117) (ne_eq N107) Ny (by simpa using HL) (ne_eq Nz)
          · obtain ⟨k, hk⟩ := k
            match k, hk with
            | 0, _ => exact esc_ctrl0 h Np Nq HC HA HB
            | 1, _ => exact esc_ctrl1 h Np Nq HC HA HB
            | 2, _ => exact esc_ctrl2 h Np Nq HC HA HB
            | 3, _ => exact esc_ctrl3 h Np Nq HC HA HB
            | 4, _ => exact esc_ctrl4 h Np Nq HC HA HB
            | 5, _ => exact esc_ctrl5 h Np Nq HC HA HB
            | 6, _ => exact esc_ctrl6 h Np Nq HC HA HB
        · exact esc_look0 h Np Nq HC HA
        · exact esc_look1 h Np Nq HC HA
        · exact esc_look2 h Np Nq HC HA
        · exact esc_look3 h Np Nq HC HA
    · rw [if_pos rfl]; exact esc_posix h Np Nq
    · rw [if_neg (by decide), if_pos rfl]
      cases HO : emacs p s with
      | error n => exact esc_emacs_e h Np Nq HO
      | ok ts => exact esc_emacs_o h Np Nq HO

set_option maxHeartbeats 1000000 in
theorem token_46 {w : World} {b : Nat} {L s : List Int} {d : Int}  (h : Rs w b d L (46 :: s)) :
    Calls Tryz.prog 64 #[.pointer (some ⟨b, 0, none⟩)] w fun e w' => RPost b d L w (.ok ({ kind := 2 }, s)) e w' := by
  have hb := h.lt
  have h0 : w.cell? ⟨b, 0, none⟩ = some (.int .i64 d) := by obtain ⟨_, _, _, h0, _⟩ := h; exact h0
  obtain ⟨a0, h2, ha0, ha1, hf2⟩ := h.at2
  go_enter Tryz.func64, Tryz.ntmps64
  go_wp2_with fail
  refine (peek (h.keep (S := fun k => b < k) (by (repeat' (first | with_reducible exact Keeps.refl _ _ | with_reducible refine Keeps.set ?_ (by simp <;> omega) _ | with_reducible refine Keeps.alloc ?_ _ | with_reducible refine Keeps.drewN ?_ _ | with_reducible refine Keeps.drew ?_))) (fun k hk hn => by omega))).mono ?_
  rintro e w1 ⟨rfl, q1, rfl⟩
  simp only [hd]
  go_wp2_with fail
  simp only [setCell_drewN, World.setCell_alloc_past _ _ _ _ hb]
  obtain ⟨wq, hwq⟩ : ∃ wq, w.setCell ⟨b, 2, none⟩ (.int .i64 (a0 + 1)) = wq := ⟨_, rfl⟩
  have hst : Rs wq b d L s := by rw [← hwq]; exact Rs.stepAt h h2 (by simp)
  have hkq : Keeps (But b) w wq := by rw [← hwq]; (repeat' (first | with_reducible exact Keeps.refl _ _ | with_reducible refine Keeps.set ?_ (by simp <;> omega) _ | with_reducible refine Keeps.alloc ?_ _ | with_reducible refine Keeps.drewN ?_ _ | with_reducible refine Keeps.drew ?_))
  have hsz : w.heap.size = wq.heap.size := by rw [← hwq]; simp
  have h0' : wq.cell? ⟨b, 0, none⟩ = some (.int .i64 d) := by rw [← hwq, World.cell?_setCell_other _ _ _ _ (by simp)]; exact h0
  have hbq : b < wq.heap.size := by omega
  simp only [hwq, hsz]
  refine bodyPost_ret (v := tkV { kind := 2 }) (by simp [results, Tryz.results64, go_sem, tkV, point, look, again, *]) rfl (RPost.mk (t := { kind := 2 }) (rfl) rfl (hst.keep (S := fun k => b < k) ?_ (fun k hk hn => by omega)) ?_)
  · (repeat' (first | with_reducible exact Keeps.refl _ _ | with_reducible refine Keeps.set ?_ (by simp <;> omega) _ | with_reducible refine Keeps.alloc ?_ _ | with_reducible refine Keeps.drewN ?_ _ | with_reducible refine Keeps.drew ?_))
  · (repeat' (first | with_reducible exact hkq | with_reducible refine Keeps.set ?_ (by simp <;> omega) _ | with_reducible refine Keeps.alloc ?_ _ | with_reducible refine Keeps.drewN ?_ _ | with_reducible refine Keeps.drew ?_))

set_option maxHeartbeats 1000000 in
theorem token_94 {w : World} {b : Nat} {L s : List Int} {d : Int}  (h : Rs w b d L (94 :: s)) :
    Calls Tryz.prog 64 #[.pointer (some ⟨b, 0, none⟩)] w fun e w' => RPost b d L w (.ok ((look 3), s)) e w' := by
  have hb := h.lt
  have h0 : w.cell? ⟨b, 0, none⟩ = some (.int .i64 d) := by obtain ⟨_, _, _, h0, _⟩ := h; exact h0
  obtain ⟨a0, h2, ha0, ha1, hf2⟩ := h.at2
  go_enter Tryz.func64, Tryz.ntmps64
  go_wp2_with fail
  refine (peek (h.keep (S := fun k => b < k) (by (repeat' (first | with_reducible exact Keeps.refl _ _ | with_reducible refine Keeps.set ?_ (by simp <;> omega) _ | with_reducible refine Keeps.alloc ?_ _ | with_reducible refine Keeps.drewN ?_ _ | with_reducible refine Keeps.drew ?_))) (fun k hk hn => by omega))).mono ?_
  rintro e w1 ⟨rfl, q1, rfl⟩
  simp only [hd]
  go_wp2_with fail
  simp only [setCell_drewN, World.setCell_alloc_past _ _ _ _ hb]
  obtain ⟨wq, hwq⟩ : ∃ wq, w.setCell ⟨b, 2, none⟩ (.int .i64 (a0 + 1)) = wq := ⟨_, rfl⟩
  have hst : Rs wq b d L s := by rw [← hwq]; exact Rs.stepAt h h2 (by simp)
  have hkq : Keeps (But b) w wq := by rw [← hwq]; (repeat' (first | with_reducible exact Keeps.refl _ _ | with_reducible refine Keeps.set ?_ (by simp <;> omega) _ | with_reducible refine Keeps.alloc ?_ _ | with_reducible refine Keeps.drewN ?_ _ | with_reducible refine Keeps.drew ?_))
  have hsz : w.heap.size = wq.heap.size := by rw [← hwq]; simp
  have h0' : wq.cell? ⟨b, 0, none⟩ = some (.int .i64 d) := by rw [← hwq, World.cell?_setCell_other _ _ _ _ (by simp)]; exact h0
  have hbq : b < wq.heap.size := by omega
  simp only [hwq, hsz]
  refine (look_calls _ _).mono ?_
  rintro e w2 ⟨rfl, hk2⟩
  have hr2 := (hst.keep (S := fun k => b < k) (by (repeat' (first | with_reducible exact Keeps.refl _ _ | with_reducible refine Keeps.set ?_ (by simp <;> omega) _ | with_reducible refine Keeps.alloc ?_ _ | with_reducible refine Keeps.drewN ?_ _ | with_reducible refine Keeps.drew ?_))) (fun k hk hn => by omega)).keep hk2 (fun _ _ h => h)
  replace hk2 : Keeps (But b) _ w2 := hk2.mono (fun _ h => h.elim)
  have hK2 : Keeps (But b) w w2 := Keeps.trans (by (repeat' (first | with_reducible exact hkq | with_reducible refine Keeps.set ?_ (by simp <;> omega) _ | with_reducible refine Keeps.alloc ?_ _ | with_reducible refine Keeps.drewN ?_ _ | with_reducible refine Keeps.drew ?_))) hk2
  have hs2 : w.heap.size + 1 ≤ w2.heap.size := by have := hk2.size; (try simp at this); omega
  have hb2 : b < w2.heap.size := by omega
  have c0_hk2 := fun o => hk2.cell (b := wq.heap.size) (o := o) (by first | omega | (simp; done) | (simp; omega)) (by first | omega | (simp; done) | (simp; omega)); have z0_hk2 := fun o => hk2.frozen (b := wq.heap.size) (o := o) (by first | omega | (simp; done) | (simp; omega)) (by first | omega | (simp; done) | (simp; omega))
  simp only [tkV, look]
  go_wp2_with fail
  refine bodyPost_ret (v := tkV (look 3)) (by simp [results, Tryz.results64, go_sem, tkV, point, look, again, *]) rfl (RPost.mk (t := (look 3)) (rfl) rfl (hr2.keep (S := fun k => b < k) ?_ (fun k hk hn => by omega)) ?_)
  · (repeat' (first | with_reducible exact Keeps.refl _ _ | with_reducible refine Keeps.set ?_ (by simp <;> omega) _ | with_reducible refine Keeps.alloc ?_ _ | with_reducible refine Keeps.drewN ?_ _ | with_reducible refine Keeps.drew ?_))
  · (repeat' (first | with_reducible exact hK2 | with_reducible refine Keeps.set ?_ (by simp <;> omega) _ | with_reducible refine Keeps.alloc ?_ _ | with_reducible refine Keeps.drewN ?_ _ | with_reducible refine Keeps.drew ?_))

set_option maxHeartbeats 1000000 in
theorem token_36 {w : World} {b : Nat} {L s : List Int} {d : Int}  (h : Rs w b d L (36 :: s)) :
    Calls Tryz.prog 64 #[.pointer (some ⟨b, 0, none⟩)] w fun e w' => RPost b d L w (.ok ((look 4), s)) e w' := by
  have hb := h.lt
  have h0 : w.cell? ⟨b, 0, none⟩ = some (.int .i64 d) := by obtain ⟨_, _, _, h0, _⟩ := h; exact h0
  obtain ⟨a0, h2, ha0, ha1, hf2⟩ := h.at2
  go_enter Tryz.func64, Tryz.ntmps64
  go_wp2_with fail
  refine (peek (h.keep (S := fun k => b < k) (by (repeat' (first | with_reducible exact Keeps.refl _ _ | with_reducible refine Keeps.set ?_ (by simp <;> omega) _ | with_reducible refine Keeps.alloc ?_ _ | with_reducible refine Keeps.drewN ?_ _ | with_reducible refine Keeps.drew ?_))) (fun k hk hn => by omega))).mono ?_
  rintro e w1 ⟨rfl, q1, rfl⟩
  simp only [hd]
  go_wp2_with fail
  simp only [setCell_drewN, World.setCell_alloc_past _ _ _ _ hb]
  obtain ⟨wq, hwq⟩ : ∃ wq, w.setCell ⟨b, 2, none⟩ (.int .i64 (a0 + 1)) = wq := ⟨_, rfl⟩
  have hst : Rs wq b d L s := by rw [← hwq]; exact Rs.stepAt h h2 (by simp)
  have hkq : Keeps (But b) w wq := by rw [← hwq]; (repeat' (first | with_reducible exact Keeps.refl _ _ | with_reducible refine Keeps.set ?_ (by simp <;> omega) _ | with_reducible refine Keeps.alloc ?_ _ | with_reducible refine Keeps.drewN ?_ _ | with_reducible refine Keeps.drew ?_))
  have hsz : w.heap.size = wq.heap.size := by rw [← hwq]; simp
  have h0' : wq.cell? ⟨b, 0, none⟩ = some (.int .i64 d) := by rw [← hwq, World.cell?_setCell_other _ _ _ _ (by simp)]; exact h0
  have hbq : b < wq.heap.size := by omega
  simp only [hwq, hsz]
  refine (look_calls _ _).mono ?_
  rintro e w2 ⟨rfl, hk2⟩
  have hr2 := (hst.keep (S := fun k => b < k) (by (repeat' (first | with_reducible exact Keeps.refl _ _ | with_reducible refine Keeps.set ?_ (by simp <;> omega) _ | with_reducible refine Keeps.alloc ?_ _ | with_reducible refine Keeps.drewN ?_ _ | with_reducible refine Keeps.drew ?_))) (fun k hk hn => by omega)).keep hk2 (fun _ _ h => h)
  replace hk2 : Keeps (But b) _ w2 := hk2.mono (fun _ h => h.elim)
  have hK2 : Keeps (But b) w w2 := Keeps.trans (by (repeat' (first | with_reducible exact hkq | with_reducible refine Keeps.set ?_ (by simp <;> omega) _ | with_reducible refine Keeps.alloc ?_ _ | with_reducible refine Keeps.drewN ?_ _ | with_reducible refine Keeps.drew ?_))) hk2
  have hs2 : w.heap.size + 1 ≤ w2.heap.size := by have := hk2.size; (try simp at this); omega
  have hb2 : b < w2.heap.size := by omega
  have c0_hk2 := fun o => hk2.cell (b := wq.heap.size) (o := o) (by first | omega | (simp; done) | (simp; omega)) (by first | omega | (simp; done) | (simp; omega)); have z0_hk2 := fun o => hk2.frozen (b := wq.heap.size) (o := o) (by first | omega | (simp; done) | (simp; omega)) (by first | omega | (simp; done) | (simp; omega))
  simp only [tkV, look]
  go_wp2_with fail
  refine bodyPost_ret (v := tkV (look 4)) (by simp [results, Tryz.results64, go_sem, tkV, point, look, again, *]) rfl (RPost.mk (t := (look 4)) (rfl) rfl (hr2.keep (S := fun k => b < k) ?_ (fun k hk hn => by omega)) ?_)
  · (repeat' (first | with_reducible exact Keeps.refl _ _ | with_reducible refine Keeps.set ?_ (by simp <;> omega) _ | with_reducible refine Keeps.alloc ?_ _ | with_reducible refine Keeps.drewN ?_ _ | with_reducible refine Keeps.drew ?_))
  · (repeat' (first | with_reducible exact hK2 | with_reducible refine Keeps.set ?_ (by simp <;> omega) _ | with_reducible refine Keeps.alloc ?_ _ | with_reducible refine Keeps.drewN ?_ _ | with_reducible refine Keeps.drew ?_))

set_option maxHeartbeats 1000000 in
theorem token_91 {w : World} {b : Nat} {L s : List Int} {d : Int}  (h : Rs w b d L (91 :: s)) :
    Calls Tryz.prog 64 #[.pointer (some ⟨b, 0, none⟩)] w fun e w' => RPost b d L w (.ok ({ kind := 5 }, s)) e w' := by
  have hb := h.lt
  have h0 : w.cell? ⟨b, 0, none⟩ = some (.int .i64 d) := by obtain ⟨_, _, _, h0, _⟩ := h; exact h0
  obtain ⟨a0, h2, ha0, ha1, hf2⟩ := h.at2
  go_enter Tryz.func64, Tryz.ntmps64
  go_wp2_with fail
  refine (peek (h.keep (S := fun k => b < k) (by (repeat' (first | with_reducible exact Keeps.refl _ _ | with_reducible refine Keeps.set ?_ (by simp <;> omega) _ | with_reducible refine Keeps.alloc ?_ _ | with_reducible refine Keeps.drewN ?_ _ | with_reducible refine Keeps.drew ?_))) (fun k hk hn => by omega))).mono ?_
  rintro e w1 ⟨rfl, q1, rfl⟩
  simp only [hd]
  go_wp2_with fail
  simp only [setCell_drewN, World.setCell_alloc_past _ _ _ _ hb]
  obtain ⟨wq, hwq⟩ : ∃ wq, w.setCell ⟨b, 2, none⟩ (.int .i64 (a0 + 1)) = wq := ⟨_, rfl⟩
  have hst : Rs wq b d L s := by rw [← hwq]; exact Rs.stepAt h h2 (by simp)
  have hkq : Keeps (But b) w wq := by rw [← hwq]; (repeat' (first | with_reducible exact Keeps.refl _ _ | with_reducible refine Keeps.set ?_ (by simp <;> omega) _ | with_reducible refine Keeps.alloc ?_ _ | with_reducible refine Keeps.drewN ?_ _ | with_reducible refine Keeps.drew ?_))
  have hsz : w.heap.size = wq.heap.size := by rw [← hwq]; simp
  have h0' : wq.cell? ⟨b, 0, none⟩ = some (.int .i64 d) := by rw [← hwq, World.cell?_setCell_other _ _ _ _ (by simp)]; exact h0
  have hbq : b < wq.heap.size := by omega
  simp only [hwq, hsz]
  refine bodyPost_ret (v := tkV { kind := 5 }) (by simp [results, Tryz.results64, go_sem, tkV, point, look, again, *]) rfl (RPost.mk (t := { kind := 5 }) (rfl) rfl (hst.keep (S := fun k => b < k) ?_ (fun k hk hn => by omega)) ?_)
  · (repeat' (first | with_reducible exact Keeps.refl _ _ | with_reducible refine Keeps.set ?_ (by simp <;> omega) _ | with_reducible refine Keeps.alloc ?_ _ | with_reducible refine Keeps.drewN ?_ _ | with_reducible refine Keeps.drew ?_))
  · (repeat' (first | with_reducible exact hkq | with_reducible refine Keeps.set ?_ (by simp <;> omega) _ | with_reducible refine Keeps.alloc ?_ _ | with_reducible refine Keeps.drewN ?_ _ | with_reducible refine Keeps.drew ?_))

set_option maxHeartbeats 1000000 in
theorem token_42 {w : World} {b : Nat} {L s : List Int} {d : Int} {t : Tk} {s2 : List Int} (h : Rs w b d L (42 :: s)) (HO : repeat_ d 0 (-1) s = (t, s2)) :
    Calls Tryz.prog 64 #[.pointer (some ⟨b, 0, none⟩)] w fun e w' => RPost b d L w (.ok (t, s2)) e w' := by
  have hb := h.lt
  have h0 : w.cell? ⟨b, 0, none⟩ = some (.int .i64 d) := by obtain ⟨_, _, _, h0, _⟩ := h; exact h0
  have HO' := hid HO
  clear HO
  obtain ⟨a0, h2, ha0, ha1, hf2⟩ := h.at2
  go_enter Tryz.func64, Tryz.ntmps64
  go_wp2_with fail
  refine (peek (h.keep (S := fun k => b < k) (by (repeat' (first | with_reducible exact Keeps.refl _ _ | with_reducible refine Keeps.set ?_ (by simp <;> omega) _ | with_reducible refine Keeps.alloc ?_ _ | with_reducible refine Keeps.drewN ?_ _ | with_reducible refine Keeps.drew ?_))) (fun k hk hn => by omega))).mono ?_
  rintro e w1 ⟨rfl, q1, rfl⟩
  simp only [hd]
  go_wp2_with fail
  simp only [setCell_drewN, World.setCell_alloc_past _ _ _ _ hb]
  obtain ⟨wq, hwq⟩ : ∃ wq, w.setCell ⟨b, 2, none⟩ (.int .i64 (a0 + 1)) = wq := ⟨_, rfl⟩
  have hst : Rs wq b d L s := by rw [← hwq]; exact Rs.stepAt h h2 (by simp)
  have hkq : Keeps (But b) w wq := by rw [← hwq]; (repeat' (first | with_reducible exact Keeps.refl _ _ | with_reducible refine Keeps.set ?_ (by simp <;> omega) _ | with_reducible refine Keeps.alloc ?_ _ | with_reducible refine Keeps.drewN ?_ _ | with_reducible refine Keeps.drew ?_))
  have hsz : w.heap.size = wq.heap.size := by rw [← hwq]; simp
  have h0' : wq.cell? ⟨b, 0, none⟩ = some (.int .i64 d) := by rw [← hwq, World.cell?_setCell_other _ _ _ _ (by simp)]; exact h0
  have hbq : b < wq.heap.size := by omega
  simp only [hwq, hsz]
  refine (repeat_calls 0 (-1) (hst.keep (S := fun k => b < k) (by (repeat' (first | with_reducible exact Keeps.refl _ _ | with_reducible refine Keeps.set ?_ (by simp <;> omega) _ | with_reducible refine Keeps.alloc ?_ _ | with_reducible refine Keeps.drewN ?_ _ | with_reducible refine Keeps.drew ?_))) (fun k hk hn => by omega))).mono ?_
  rintro e w2 ⟨rfl, hr2, hk2⟩
  have hK2 : Keeps (But b) w w2 := Keeps.trans (by (repeat' (first | with_reducible exact hkq | with_reducible refine Keeps.set ?_ (by simp <;> omega) _ | with_reducible refine Keeps.alloc ?_ _ | with_reducible refine Keeps.drewN ?_ _ | with_reducible refine Keeps.drew ?_))) hk2
  have hs2 : w.heap.size + 1 ≤ w2.heap.size := by have := hk2.size; (try simp at this); omega
  have hb2 : b < w2.heap.size := by omega
  have c0_hk2 := fun o => hk2.cell (b := wq.heap.size) (o := o) (by first | omega | (simp; done) | (simp; omega)) (by first | omega | (simp; done) | (simp; omega)); have z0_hk2 := fun o => hk2.frozen (b := wq.heap.size) (o := o) (by first | omega | (simp; done) | (simp; omega)) (by first | omega | (simp; done) | (simp; omega))
  rw [HO'.out] at hr2 ⊢; simp only [tkV]
  go_wp2_with fail
  refine bodyPost_ret (v := tkV t) (by simp [results, Tryz.results64, go_sem, tkV, point, look, again, *]) rfl (RPost.mk (t := t) (rfl) rfl (hr2.keep (S := fun k => b < k) ?_ (fun k hk hn => by omega)) ?_)
  · (repeat' (first | with_reducible exact Keeps.refl _ _ | with_reducible refine Keeps.set ?_ (by simp <;> omega) _ | with_reducible refine Keeps.alloc ?_ _ | with_reducible refine Keeps.drewN ?_ _ | with_reducible refine Keeps.drew ?_))
  · (repeat' (first | with_reducible exact hK2 | with_reducible refine Keeps.set ?_ (by simp <;> omega) _ | with_reducible refine Keeps.alloc ?_ _ | with_reducible refine Keeps.drewN ?_ _ | with_reducible refine Keeps.drew ?_))

set_option maxHeartbeats 1000000 in
theorem token_43 {w : World} {b : Nat} {L s : List Int} {d : Int} {t : Tk} {s2 : List Int} (h : Rs w b d L (43 :: s)) (HO : repeat_ d 1 (-1) s = (t, s2)) :
    Calls Tryz.prog 64 #[.pointer (some ⟨b, 0, none⟩)] w fun e w' => RPost b d L w (.ok (t, s2)) e w' := by
  have hb := h.lt
  have h0 : w.cell? ⟨b, 0, none⟩ = some (.int .i64 d) := by obtain ⟨_, _, _, h0, _⟩ := h; exact h0
  have HO' := hid HO
  clear HO
  obtain ⟨a0, h2, ha0, ha1, hf2⟩ := h.at2
  go_enter Tryz.func64, Tryz.ntmps64
  go_wp2_with fail
  refine (peek (h.keep (S := fun k => b < k) (by (repeat' (first | with_reducible exact Keeps.refl _ _ | with_reducible refine Keeps.set ?_ (by simp <;> omega) _ | with_reducible refine Keeps.alloc ?_ _ | with_reducible refine Keeps.drewN ?_ _ | with_reducible refine Keeps.drew ?_))) (fun k hk hn => by omega))).mono ?_
  rintro e w1 ⟨rfl, q1, rfl⟩
  simp only [hd]
  go_wp2_with fail
  simp only [setCell_drewN, World.setCell_alloc_past _ _ _ _ hb]
  obtain ⟨wq, hwq⟩ : ∃ wq, w.setCell ⟨b, 2, none⟩ (.int .i64 (a0 + 1)) = wq := ⟨_, rfl⟩
  have hst : Rs wq b d L s := by rw [← hwq]; exact Rs.stepAt h h2 (by simp)
  have hkq : Keeps (But b) w wq := by rw [← hwq]; (repeat' (first | with_reducible exact Keeps.refl _ _ | with_reducible refine Keeps.set ?_ (by simp <;> omega) _ | with_reducible refine Keeps.alloc ?_ _ | with_reducible refine Keeps.drewN ?_ _ | with_reducible refine Keeps.drew ?_))
  have hsz : w.heap.size = wq.heap.size := by rw [← hwq]; simp
  have h0' : wq.cell? ⟨b, 0, none⟩ = some (.int .i64 d) := by rw [← hwq, World.cell?_setCell_other _ _ _ _ (by simp)]; exact h0
  have hbq : b < wq.heap.size := by omega
  simp only [hwq, hsz]
  refine (repeat_calls 1 (-1) (hst.keep (S := fun k => b < k) (by (repeat' (first | with_reducible exact Keeps.refl _ _ | with_reducible refine Keeps.set ?_ (by simp <;> omega) _ | with_reducible refine Keeps.alloc ?_ _ | with_reducible refine Keeps.drewN ?_ _ | with_reducible refine Keeps.drew ?_))) (fun k hk hn => by omega))).mono ?_
  rintro e w2 ⟨rfl, hr2, hk2⟩
  have hK2 : Keeps (But b) w w2 := Keeps.trans (by (repeat' (first | with_reducible exact hkq | with_reducible refine Keeps.set ?_ (by simp <;> omega) _ | with_reducible refine Keeps.alloc ?_ _ | with_reducible refine Keeps.drewN ?_ _ | with_reducible refine Keeps.drew ?_))) hk2
  have hs2 : w.heap.size + 1 ≤ w2.heap.size := by have := hk2.size; (try simp at this); omega
  have hb2 : b < w2.heap.size := by omega
  have c0_hk2 := fun o => hk2.cell (b := wq.heap.size) (o := o) (by first | omega | (simp; done) | (simp; omega)) (by first | omega | (simp; done) | (simp; omega)); have z0_hk2 := fun o => hk2.frozen (b := wq.heap.size) (o := o) (by first | omega | (simp; done) | (simp; omega)) (by first | omega | (simp; done) | (simp; omega))
  rw [HO'.out] at hr2 ⊢; simp only [tkV]
  go_wp2_with fail
  refine bodyPost_ret (v := tkV t) (by simp [results, Tryz.results64, go_sem, tkV, point, look, again, *]) rfl (RPost.mk (t := t) (rfl) rfl (hr2.keep (S := fun k => b < k) ?_ (fun k hk hn => by omega)) ?_)
  · (repeat' (first | with_reducible exact Keeps.refl _ _ | with_reducible refine Keeps.set ?_ (by simp <;> omega) _ | with_reducible refine Keeps.alloc ?_ _ | with_reducible refine Keeps.drewN ?_ _ | with_reducible refine Keeps.drew ?_))
  · (repeat' (first | with_reducible exact hK2 | with_reducible refine Keeps.set ?_ (by simp <;> omega) _ | with_reducible refine Keeps.alloc ?_ _ | with_reducible refine Keeps.drewN ?_ _ | with_reducible refine Keeps.drew ?_))

set_option maxHeartbeats 1000000 in
theorem token_63 {w : World} {b : Nat} {L s : List Int} {d : Int} {t : Tk} {s2 : List Int} (h : Rs w b d L (63 :: s)) (HO : repeat_ d 0 1 s = (t, s2)) :
    Calls Tryz.prog 64 #[.pointer (some ⟨b, 0, none⟩)] w fun e w' => RPost b d L w (.ok (t, s2)) e w' := by
  have hb := h.lt
  have h0 : w.cell? ⟨b, 0, none⟩ = some (.int .i64 d) := by obtain ⟨_, _, _, h0, _⟩ := h; exact h0
  have HO' := hid HO
  clear HO
  obtain ⟨a0, h2, ha0, ha1, hf2⟩ := h.at2
  go_enter Tryz.func64, Tryz.ntmps64
  go_wp2_with fail
  refine (peek (h.keep (S := fun k => b < k) (by (repeat' (first | with_reducible exact Keeps.refl _ _ | with_reducible refine Keeps.set ?_ (by simp <;> omega) _ | with_reducible refine Keeps.alloc ?_ _ | with_reducible refine Keeps.drewN ?_ _ | with_reducible refine Keeps.drew ?_))) (fun k hk hn => by omega))).mono ?_
  rintro e w1 ⟨rfl, q1, rfl⟩
  simp only [hd]
  go_wp2_with fail
  simp only [setCell_drewN, World.setCell_alloc_past _ _ _ _ hb]
  obtain ⟨wq, hwq⟩ : ∃ wq, w.setCell ⟨b, 2, none⟩ (.int .i64 (a0 + 1)) = wq := ⟨_, rfl⟩
  have hst : Rs wq b d L s := by rw [← hwq]; exact Rs.stepAt h h2 (by simp)
  have hkq : Keeps (But b) w wq := by rw [← hwq]; (repeat' (first | with_reducible exact Keeps.refl _ _ | with_reducible refine Keeps.set ?_ (by simp <;> omega) _ | with_reducible refine Keeps.alloc ?_ _ | with_reducible refine Keeps.drewN ?_ _ | with_reducible refine Keeps.drew ?_))
  have hsz : w.heap.size = wq.heap.size := by rw [← hwq]; simp
  have h0' : wq.cell? ⟨b, 0, none⟩ = some (.int .i64 d) := by rw [← hwq, World.cell?_setCell_other _ _ _ _ (by simp)]; exact h0
  have hbq : b < wq.heap.size := by omega
  simp only [hwq, hsz]
  refine (repeat_calls 0 1 (hst.keep (S := fun k => b < k) (by (repeat' (first | with_reducible exact Keeps.refl _ _ | with_reducible refine Keeps.set ?_ (by simp <;> omega) _ | with_reducible refine Keeps.alloc ?_ _ | with_reducible refine Keeps.drewN ?_ _ | with_reducible refine Keeps.drew ?_))) (fun k hk hn => by omega))).mono ?_
  rintro e w2 ⟨rfl, hr2, hk2⟩
  have hK2 : Keeps (But b) w w2 := Keeps.trans (by (repeat' (first | with_reducible exact hkq | with_reducible refine Keeps.set ?_ (by simp <;> omega) _ | with_reducible refine Keeps.alloc ?_ _ | with_reducible refine Keeps.drewN ?_ _ | with_reducible refine Keeps.drew ?_))) hk2
  have hs2 : w.heap.size + 1 ≤ w2.heap.size := by have := hk2.size; (try simp at this); omega
  have hb2 : b < w2.heap.size := by omega
  have c0_hk2 := fun o => hk2.cell (b := wq.heap.size) (o := o) (by first | omega | (simp; done) | (simp; omega)) (by first | omega | (simp; done) | (simp; omega)); have z0_hk2 := fun o => hk2.frozen (b := wq.heap.size) (o := o) (by first | omega | (simp; done) | (simp; omega)) (by first | omega | (simp; done) | (simp; omega))
  rw [HO'.out] at hr2 ⊢; simp only [tkV]
  go_wp2_with fail
  refine bodyPost_ret (v := tkV t) (by simp [results, Tryz.results64, go_sem, tkV, point, look, again, *]) rfl (RPost.mk (t := t) (rfl) rfl (hr2.keep (S := fun k => b < k) ?_ (fun k hk hn => by omega)) ?_)
  · (repeat' (first | with_reducible exact Keeps.refl _ _ | with_reducible refine Keeps.set ?_ (by simp <;> omega) _ | with_reducible refine Keeps.alloc ?_ _ | with_reducible refine Keeps.drewN ?_ _ | with_reducible refine Keeps.drew ?_))
  · (repeat' (first | with_reducible exact hK2 | with_reducible refine Keeps.set ?_ (by simp <;> omega) _ | with_reducible refine Keeps.alloc ?_ _ | with_reducible refine Keeps.drewN ?_ _ | with_reducible refine Keeps.drew ?_))

set_option maxHeartbeats 1000000 in
theorem token_92_e {w : World} {b : Nat} {L s : List Int} {d : Int}  {n : Int} (h : Rs w b d L (92 :: s)) (hp : Points s) (hdd : d = 1 ∨ d = 2 ∨ d = 3) (HO : escaped d s = .error n) :
    Calls Tryz.prog 64 #[.pointer (some ⟨b, 0, none⟩)] w fun e w' => RPost b d L w (.error n) e w' := by
  have hb := h.lt
  have h0 : w.cell? ⟨b, 0, none⟩ = some (.int .i64 d) := by obtain ⟨_, _, _, h0, _⟩ := h; exact h0
  have HO' := hid HO
  clear HO
  obtain ⟨a0, h2, ha0, ha1, hf2⟩ := h.at2
  go_enter Tryz.func64, Tryz.ntmps64
  go_wp2_with fail
  refine (peek (h.keep (S := fun k => b < k) (by (repeat' (first | with_reducible exact Keeps.refl _ _ | with_reducible refine Keeps.set ?_ (by simp <;> omega) _ | with_reducible refine Keeps.alloc ?_ _ | with_reducible refine Keeps.drewN ?_ _ | with_reducible refine Keeps.drew ?_))) (fun k hk hn => by omega))).mono ?_
  rintro e w1 ⟨rfl, q1, rfl⟩
  simp only [hd]
  go_wp2_with fail
  simp only [setCell_drewN, World.setCell_alloc_past _ _ _ _ hb]
  obtain ⟨wq, hwq⟩ : ∃ wq, w.setCell ⟨b, 2, none⟩ (.int .i64 (a0 + 1)) = wq := ⟨_, rfl⟩
  have hst : Rs wq b d L s := by rw [← hwq]; exact Rs.stepAt h h2 (by simp)
  have hkq : Keeps (But b) w wq := by rw [← hwq]; (repeat' (first | with_reducible exact Keeps.refl _ _ | with_reducible refine Keeps.set ?_ (by simp <;> omega) _ | with_reducible refine Keeps.alloc ?_ _ | with_reducible refine Keeps.drewN ?_ _ | with_reducible refine Keeps.drew ?_))
  have hsz : w.heap.size = wq.heap.size := by rw [← hwq]; simp
  have h0' : wq.cell? ⟨b, 0, none⟩ = some (.int .i64 d) := by rw [← hwq, World.cell?_setCell_other _ _ _ _ (by simp)]; exact h0
  have hbq : b < wq.heap.size := by omega
  simp only [hwq, hsz]
  refine ((escaped_calls (hst.keep (S := fun k => b < k) (by (repeat' (first | with_reducible exact Keeps.refl _ _ | with_reducible refine Keeps.set ?_ (by simp <;> omega) _ | with_reducible refine Keeps.alloc ?_ _ | with_reducible refine Keeps.drewN ?_ _ | with_reducible refine Keeps.drew ?_))) (fun k hk hn => by omega)) hp hdd).mono (fun e w' hp => RPost.error hp HO'.out)).mono ?_
  rintro e w2 ⟨rfl, hk2⟩
  exact ⟨rfl, RPost.mkE rfl rfl (Keeps.trans (by (repeat' (first | with_reducible exact hkq | with_reducible refine Keeps.set ?_ (by simp <;> omega) _ | with_reducible refine Keeps.alloc ?_ _ | with_reducible refine Keeps.drewN ?_ _ | with_reducible refine Keeps.drew ?_))) hk2)⟩

set_option maxHeartbeats 1000000 in
theorem token_92_o {w : World} {b : Nat} {L s : List Int} {d : Int}  {t : Tk} {s2 : List Int} (h : Rs w b d L (92 :: s)) (hp : Points s) (hdd : d = 1 ∨ d = 2 ∨ d = 3) (HO : escaped d s = .ok (t, s2)) :
    Calls Tryz.prog 64 #[.pointer (some ⟨b, 0, none⟩)] w fun e w' => RPost b d L w (.ok (t, s2)) e w' := by
  have hb := h.lt
  have h0 : w.cell? ⟨b, 0, none⟩ = some (.int .i64 d) := by obtain ⟨_, _, _, h0, _⟩ := h; exact h0
  have HO' := hid HO
  clear HO
  obtain ⟨a0, h2, ha0, ha1, hf2⟩ := h.at2
  go_enter Tryz.func64, Tryz.ntmps64
  go_wp2_with fail
  refine (peek (h.keep (S := fun k => b < k) (by (repeat' (first | with_reducible exact Keeps.refl _ _ | with_reducible refine Keeps.set ?_ (by simp <;> omega) _ | with_reducible refine Keeps.alloc ?_ _ | with_reducible refine Keeps.drewN ?_ _ | with_reducible refine Keeps.drew ?_))) (fun k hk hn => by omega))).mono ?_
  rintro e w1 ⟨rfl, q1, rfl⟩
  simp only [hd]
  go_wp2_with fail
  simp only [setCell_drewN, World.setCell_alloc_past _ _ _ _ hb]
  obtain ⟨wq, hwq⟩ : ∃ wq, w.setCell ⟨b, 2, none⟩ (.int .i64 (a0 + 1)) = wq := ⟨_, rfl⟩
  have hst : Rs wq b d L s := by rw [← hwq]; exact Rs.stepAt h h2 (by simp)
  have hkq : Keeps (But b) w wq := by rw [← hwq]; (repeat' (first | with_reducible exact Keeps.refl _ _ | with_reducible refine Keeps.set ?_ (by simp <;> omega) _ | with_reducible refine Keeps.alloc ?_ _ | with_reducible refine Keeps.drewN ?_ _ | with_reducible refine Keeps.drew ?_))
  have hsz : w.heap.size = wq.heap.size := by rw [← hwq]; simp
  have h0' : wq.cell? ⟨b, 0, none⟩ = some (.int .i64 d) := by rw [← hwq, World.cell?_setCell_other _ _ _ _ (by simp)]; exact h0
  have hbq : b < wq.heap.size := by omega
  simp only [hwq, hsz]
  refine ((escaped_calls (hst.keep (S := fun k => b < k) (by (repeat' (first | with_reducible exact Keeps.refl _ _ | with_reducible refine Keeps.set ?_ (by simp <;> omega) _ | with_reducible refine Keeps.alloc ?_ _ | with_reducible refine Keeps.drewN ?_ _ | with_reducible refine Keeps.drew ?_))) (fun k hk hn => by omega)) hp hdd).mono (fun e w' hp => RPost.ok hp HO'.out)).mono ?_
  rintro e w2 ⟨rfl, hr2, hk2⟩
  have hK2 : Keeps (But b) w w2 := Keeps.trans (by (repeat' (first | with_reducible exact hkq | with_reducible refine Keeps.set ?_ (by simp <;> omega) _ | with_reducible refine Keeps.alloc ?_ _ | with_reducible refine Keeps.drewN ?_ _ | with_reducible refine Keeps.drew ?_))) hk2
  have hs2 : w.heap.size + 1 ≤ w2.heap.size := by have := hk2.size; (try simp at this); omega
  have hb2 : b < w2.heap.size := by omega
  have c0_hk2 := fun o => hk2.cell (b := wq.heap.size) (o := o) (by first | omega | (simp; done) | (simp; omega)) (by first | omega | (simp; done) | (simp; omega)); have z0_hk2 := fun o => hk2.frozen (b := wq.heap.size) (o := o) (by first | omega | (simp; done) | (simp; omega)) (by first | omega | (simp; done) | (simp; omega))
  simp only [tkV]
  go_wp2_with fail
  refine bodyPost_ret (v := tkV t) (by simp [results, Tryz.results64, go_sem, tkV, point, look, again, *]) rfl (RPost.mk (t := t) (rfl) rfl (hr2.keep (S := fun k => b < k) ?_ (fun k hk hn => by omega)) ?_)
  · (repeat' (first | with_reducible exact Keeps.refl _ _ | with_reducible refine Keeps.set ?_ (by simp <;> omega) _ | with_reducible refine Keeps.alloc ?_ _ | with_reducible refine Keeps.drewN ?_ _ | with_reducible refine Keeps.drew ?_))
  · (repeat' (first | with_reducible exact hK2 | with_reducible refine Keeps.set ?_ (by simp <;> omega) _ | with_reducible refine Keeps.alloc ?_ _ | with_reducible refine Keeps.drewN ?_ _ | with_reducible refine Keeps.drew ?_))

set_option maxHeartbeats 1000000 in
theorem token_pe {w : World} {b : Nat} {L s : List Int} {p : Int}  (h : Rs w b 3 L (p :: s)) (N46 : (p == 46) = false) (N94 : (p == 94) = false) (N36 : (p == 36) = false) (N91 : (p == 91) = false) (N42 : (p == 42) = false) (N43 : (p == 43) = false) (N63 : (p == 63) = false) (N92 : (p == 92) = false) :
    Calls Tryz.prog 64 #[.pointer (some ⟨b, 0, none⟩)] w fun e w' => RPost b 3 L w (.ok ((point p), s)) e w' := by
  have hb := h.lt
  have h0 : w.cell? ⟨b, 0, none⟩ = some (.int .i64 3) := by obtain ⟨_, _, _, h0, _⟩ := h; exact h0
  obtain ⟨a0, h2, ha0, ha1, hf2⟩ := h.at2
  go_enter Tryz.func64, Tryz.ntmps64
  go_wp2_with fail
  refine (peek (h.keep (S := fun k => b < k) (by (repeat' (first | with_reducible exact Keeps.refl _ _ | with_reducible refine Keeps.set ?_ (by simp <;> omega) _ | with_reducible refine Keeps.alloc ?_ _ | with_reducible refine Keeps.drewN ?_ _ | with_reducible refine Keeps.drew ?_))) (fun k hk hn => by omega))).mono ?_
  rintro e w1 ⟨rfl, q1, rfl⟩
  simp only [hd]
  go_wp2_with fail
  simp only [setCell_drewN, World.setCell_alloc_past _ _ _ _ hb]
  obtain ⟨wq, hwq⟩ : ∃ wq, w.setCell ⟨b, 2, none⟩ (.int .i64 (a0 + 1)) = wq := ⟨_, rfl⟩
  have hst : Rs wq b 3 L s := by rw [← hwq]; exact Rs.stepAt h h2 (by simp)
  have hkq : Keeps (But b) w wq := by rw [← hwq]; (repeat' (first | with_reducible exact Keeps.refl _ _ | with_reducible refine Keeps.set ?_ (by simp <;> omega) _ | with_reducible refine Keeps.alloc ?_ _ | with_reducible refine Keeps.drewN ?_ _ | with_reducible refine Keeps.drew ?_))
  have hsz : w.heap.size = wq.heap.size := by rw [← hwq]; simp
  have h0' : wq.cell? ⟨b, 0, none⟩ = some (.int .i64 3) := by rw [← hwq, World.cell?_setCell_other _ _ _ _ (by simp)]; exact h0
  have hbq : b < wq.heap.size := by omega
  simp only [hwq, hsz]
  refine (point_calls _ _).mono ?_
  rintro e w2 ⟨rfl, hk2⟩
  have hr2 := (hst.keep (S := fun k => b < k) (by (repeat' (first | with_reducible exact Keeps.refl _ _ | with_reducible refine Keeps.set ?_ (by simp <;> omega) _ | with_reducible refine Keeps.alloc ?_ _ | with_reducible refine Keeps.drewN ?_ _ | with_reducible refine Keeps.drew ?_))) (fun k hk hn => by omega)).keep hk2 (fun _ _ h => h)
  replace hk2 : Keeps (But b) _ w2 := hk2.mono (fun _ h => h.elim)
  have hK2 : Keeps (But b) w w2 := Keeps.trans (by (repeat' (first | with_reducible exact hkq | with_reducible refine Keeps.set ?_ (by simp <;> omega) _ | with_reducible refine Keeps.alloc ?_ _ | with_reducible refine Keeps.drewN ?_ _ | with_reducible refine Keeps.drew ?_))) hk2
  have hs2 : w.heap.size + 1 ≤ w2.heap.size := by have := hk2.size; (try simp at this); omega
  have hb2 : b < w2.heap.size := by omega
  have c0_hk2 := fun o => hk2.cell (b := wq.heap.size) (o := o) (by first | omega | (simp; done) | (simp; omega)) (by first | omega | (simp; done) | (simp; omega)); have z0_hk2 := fun o => hk2.frozen (b := wq.heap.size) (o := o) (by first | omega | (simp; done) | (simp; omega)) (by first | omega | (simp; done) | (simp; omega))
  simp only [tkV, point]
  go_wp2_with fail
  refine bodyPost_ret (v := tkV (point p)) (by simp [results, Tryz.results64, go_sem, tkV, point, look, again, *]) rfl (RPost.mk (t := (point p)) (rfl) rfl (hr2.keep (S := fun k => b < k) ?_ (fun k hk hn => by omega)) ?_)
  · (repeat' (first | with_reducible exact Keeps.refl _ _ | with_reducible refine Keeps.set ?_ (by simp <;> omega) _ | with_reducible refine Keeps.alloc ?_ _ | with_reducible refine Keeps.drewN ?_ _ | with_reducible refine Keeps.drew ?_))
  · (repeat' (first | with_reducible exact hK2 | with_reducible refine Keeps.set ?_ (by simp <;> omega) _ | with_reducible refine Keeps.alloc ?_ _ | with_reducible refine Keeps.drewN ?_ _ | with_reducible refine Keeps.drew ?_))

set_option maxHeartbeats 1000000 in
theorem token_40_e {w : World} {b : Nat} {L s : List Int} {d : Int}  {n : Int} (h : Rs w b d L (40 :: s)) (N3 : (d == 3) = false) (HO : openT d s = .error n) :
    Calls Tryz.prog 64 #[.pointer (some ⟨b, 0, none⟩)] w fun e w' => RPost b d L w (.error n) e w' := by
  have hb := h.lt
  have h0 : w.cell? ⟨b, 0, none⟩ = some (.int .i64 d) := by obtain ⟨_, _, _, h0, _⟩ := h; exact h0
  have HO' := hid HO
  clear HO
  obtain ⟨a0, h2, ha0, ha1, hf2⟩ := h.at2
  go_enter Tryz.func64, Tryz.ntmps64
  go_wp2_with fail
  refine (peek (h.keep (S := fun k => b < k) (by (repeat' (first | with_reducible exact Keeps.refl _ _ | with_reducible refine Keeps.set ?_ (by simp <;> omega) _ | with_reducible refine Keeps.alloc ?_ _ | with_reducible refine Keeps.drewN ?_ _ | with_reducible refine Keeps.drew ?_))) (fun k hk hn => by omega))).mono ?_
  rintro e w1 ⟨rfl, q1, rfl⟩
  simp only [hd]
  go_wp2_with fail
  simp only [setCell_drewN, World.setCell_alloc_past _ _ _ _ hb]
  obtain ⟨wq, hwq⟩ : ∃ wq, w.setCell ⟨b, 2, none⟩ (.int .i64 (a0 + 1)) = wq := ⟨_, rfl⟩
  have hst : Rs wq b d L s := by rw [← hwq]; exact Rs.stepAt h h2 (by simp)
  have hkq : Keeps (But b) w wq := by rw [← hwq]; (repeat' (first | with_reducible exact Keeps.refl _ _ | with_reducible refine Keeps.set ?_ (by simp <;> omega) _ | with_reducible refine Keeps.alloc ?_ _ | with_reducible refine Keeps.drewN ?_ _ | with_reducible refine Keeps.drew ?_))
  have hsz : w.heap.size = wq.heap.size := by rw [← hwq]; simp
  have h0' : wq.cell? ⟨b, 0, none⟩ = some (.int .i64 d) := by rw [← hwq, World.cell?_setCell_other _ _ _ _ (by simp)]; exact h0
  have hbq : b < wq.heap.size := by omega
  simp only [hwq, hsz]
  refine ((open_calls (hst.keep (S := fun k => b < k) (by (repeat' (first | with_reducible exact Keeps.refl _ _ | with_reducible refine Keeps.set ?_ (by simp <;> omega) _ | with_reducible refine Keeps.alloc ?_ _ | with_reducible refine Keeps.drewN ?_ _ | with_reducible refine Keeps.drew ?_))) (fun k hk hn => by omega))).mono (fun e w' hp => RPost.error hp HO'.out)).mono ?_
  rintro e w2 ⟨rfl, hk2⟩
  exact ⟨rfl, RPost.mkE rfl rfl (Keeps.trans (by (repeat' (first | with_reducible exact hkq | with_reducible refine Keeps.set ?_ (by simp <;> omega) _ | with_reducible refine Keeps.alloc ?_ _ | with_reducible refine Keeps.drewN ?_ _ | with_reducible refine Keeps.drew ?_))) hk2)⟩

set_option maxHeartbeats 1000000 in
theorem token_40_o {w : World} {b : Nat} {L s : List Int} {d : Int}  {t : Tk} {s2 : List Int} (h : Rs w b d L (40 :: s)) (N3 : (d == 3) = false) (HO : openT d s = .ok (t, s2)) :
    Calls Tryz.prog 64 #[.pointer (some ⟨b, 0, none⟩)] w fun e w' => RPost b d L w (.ok (t, s2)) e w' := by
  have hb := h.lt
  have h0 : w.cell? ⟨b, 0, none⟩ = some (.int .i64 d) := by obtain ⟨_, _, _, h0, _⟩ := h; exact h0
  have HO' := hid HO
  clear HO
  obtain ⟨a0, h2, ha0, ha1, hf2⟩ := h.at2
  go_enter Tryz.func64, Tryz.ntmps64
  go_wp2_with fail
  refine (peek (h.keep (S := fun k => b < k) (by (repeat' (first | with_reducible exact Keeps.refl _ _ | with_reducible refine Keeps.set ?_ (by simp <;> omega) _ | with_reducible refine Keeps.alloc ?_ _ | with_reducible refine Keeps.drewN ?_ _ | with_reducible refine Keeps.drew ?_))) (fun k hk hn => by omega))).mono ?_
  rintro e w1 ⟨rfl, q1, rfl⟩
  simp only [hd]
  go_wp2_with fail
  simp only [setCell_drewN, World.setCell_alloc_past _ _ _ _ hb]
  obtain ⟨wq, hwq⟩ : ∃ wq, w.setCell ⟨b, 2, none⟩ (.int .i64 (a0 + 1)) = wq := ⟨_, rfl⟩
  have hst : Rs wq b d L s := by rw [← hwq]; exact Rs.stepAt h h2 (by simp)
  have hkq : Keeps (But b) w wq := by rw [← hwq]; (repeat' (first | with_reducible exact Keeps.refl _ _ | with_reducible refine Keeps.set ?_ (by simp <;> omega) _ | with_reducible refine Keeps.alloc ?_ _ | with_reducible refine Keeps.drewN ?_ _ | with_reducible refine Keeps.drew ?_))
  have hsz : w.heap.size = wq.heap.size := by rw [← hwq]; simp
  have h0' : wq.cell? ⟨b, 0, none⟩ = some (.int .i64 d) := by rw [← hwq, World.cell?_setCell_other _ _ _ _ (by simp)]; exact h0
  have hbq : b < wq.heap.size := by omega
  simp only [hwq, hsz]
  refine ((open_calls (hst.keep (S := fun k => b < k) (by (repeat' (first | with_reducible exact Keeps.refl _ _ | with_reducible refine Keeps.set ?_ (by simp <;> omega) _ | with_reducible refine Keeps.alloc ?_ _ | with_reducible refine Keeps.drewN ?_ _ | with_reducible refine Keeps.drew ?_))) (fun k hk hn => by omega))).mono (fun e w' hp => RPost.ok hp HO'.out)).mono ?_
  rintro e w2 ⟨rfl, hr2, hk2⟩
  have hK2 : Keeps (But b) w w2 := Keeps.trans (by (repeat' (first | with_reducible exact hkq | with_reducible refine Keeps.set ?_ (by simp <;> omega) _ | with_reducible refine Keeps.alloc ?_ _ | with_reducible refine Keeps.drewN ?_ _ | with_reducible refine Keeps.drew ?_))) hk2
  have hs2 : w.heap.size + 1 ≤ w2.heap.size := by have := hk2.size; (try simp at this); omega
  have hb2 : b < w2.heap.size := by omega
  have c0_hk2 := fun o => hk2.cell (b := wq.heap.size) (o := o) (by first | omega | (simp; done) | (simp; omega)) (by first | omega | (simp; done) | (simp; omega)); have z0_hk2 := fun o => hk2.frozen (b := wq.heap.size) (o := o) (by first | omega | (simp; done) | (simp; omega)) (by first | omega | (simp; done) | (simp; omega))
  simp only [tkV]
  go_wp2_with fail
  refine bodyPost_ret (v := tkV t) (by simp [results, Tryz.results64, go_sem, tkV, point, look, again, *]) rfl (RPost.mk (t := t) (rfl) rfl (hr2.keep (S := fun k => b < k) ?_ (fun k hk hn => by omega)) ?_)
  · (repeat' (first | with_reducible exact Keeps.refl _ _ | with_reducible refine Keeps.set ?_ (by simp <;> omega) _ | with_reducible refine Keeps.alloc ?_ _ | with_reducible refine Keeps.drewN ?_ _ | with_reducible refine Keeps.drew ?_))
  · (repeat' (first | with_reducible exact hK2 | with_reducible refine Keeps.set ?_ (by simp <;> omega) _ | with_reducible refine Keeps.alloc ?_ _ | with_reducible refine Keeps.drewN ?_ _ | with_reducible refine Keeps.drew ?_))

set_option maxHeartbeats 1000000 in
theorem token_41 {w : World} {b : Nat} {L s : List Int} {d : Int}  (h : Rs w b d L (41 :: s)) (N3 : (d == 3) = false) :
    Calls Tryz.prog 64 #[.pointer (some ⟨b, 0, none⟩)] w fun e w' => RPost b d L w (.ok ({ kind := 8 }, s)) e w' := by
  have hb := h.lt
  have h0 : w.cell? ⟨b, 0, none⟩ = some (.int .i64 d) := by obtain ⟨_, _, _, h0, _⟩ := h; exact h0
  obtain ⟨a0, h2, ha0, ha1, hf2⟩ := h.at2
  go_enter Tryz.func64, Tryz.ntmps64
  go_wp2_with fail
  refine (peek (h.keep (S := fun k => b < k) (by (repeat' (first | with_reducible exact Keeps.refl _ _ | with_reducible refine Keeps.set ?_ (by simp <;> omega) _ | with_reducible refine Keeps.alloc ?_ _ | with_reducible refine Keeps.drewN ?_ _ | with_reducible refine Keeps.drew ?_))) (fun k hk hn => by omega))).mono ?_
  rintro e w1 ⟨rfl, q1, rfl⟩
  simp only [hd]
  go_wp2_with fail
  simp only [setCell_drewN, World.setCell_alloc_past _ _ _ _ hb]
  obtain ⟨wq, hwq⟩ : ∃ wq, w.setCell ⟨b, 2, none⟩ (.int .i64 (a0 + 1)) = wq := ⟨_, rfl⟩
  have hst : Rs wq b d L s := by rw [← hwq]; exact Rs.stepAt h h2 (by simp)
  have hkq : Keeps (But b) w wq := by rw [← hwq]; (repeat' (first | with_reducible exact Keeps.refl _ _ | with_reducible refine Keeps.set ?_ (by simp <;> omega) _ | with_reducible refine Keeps.alloc ?_ _ | with_reducible refine Keeps.drewN ?_ _ | with_reducible refine Keeps.drew ?_))
  have hsz : w.heap.size = wq.heap.size := by rw [← hwq]; simp
  have h0' : wq.cell? ⟨b, 0, none⟩ = some (.int .i64 d) := by rw [← hwq, World.cell?_setCell_other _ _ _ _ (by simp)]; exact h0
  have hbq : b < wq.heap.size := by omega
  simp only [hwq, hsz]
  refine bodyPost_ret (v := tkV { kind := 8 }) (by simp [results, Tryz.results64, go_sem, tkV, point, look, again, *]) rfl (RPost.mk (t := { kind := 8 }) (rfl) rfl (hst.keep (S := fun k => b < k) ?_ (fun k hk hn => by omega)) ?_)
  · (repeat' (first | with_reducible exact Keeps.refl _ _ | with_reducible refine Keeps.set ?_ (by simp <;> omega) _ | with_reducible refine Keeps.alloc ?_ _ | with_reducible refine Keeps.drewN ?_ _ | with_reducible refine Keeps.drew ?_))
  · (repeat' (first | with_reducible exact hkq | with_reducible refine Keeps.set ?_ (by simp <;> omega) _ | with_reducible refine Keeps.alloc ?_ _ | with_reducible refine Keeps.drewN ?_ _ | with_reducible refine Keeps.drew ?_))

set_option maxHeartbeats 1000000 in
theorem token_124 {w : World} {b : Nat} {L s : List Int} {d : Int}  (h : Rs w b d L (124 :: s)) (N3 : (d == 3) = false) :
    Calls Tryz.prog 64 #[.pointer (some ⟨b, 0, none⟩)] w fun e w' => RPost b d L w (.ok ({ kind := 9 }, s)) e w' := by
  have hb := h.lt
  have h0 : w.cell? ⟨b, 0, none⟩ = some (.int .i64 d) := by obtain ⟨_, _, _, h0, _⟩ := h; exact h0
  obtain ⟨a0, h2, ha0, ha1, hf2⟩ := h.at2
  go_enter Tryz.func64, Tryz.ntmps64
  go_wp2_with fail
  refine (peek (h.keep (S := fun k => b < k) (by (repeat' (first | with_reducible exact Keeps.refl _ _ | with_reducible refine Keeps.set ?_ (by simp <;> omega) _ | with_reducible refine Keeps.alloc ?_ _ | with_reducible refine Keeps.drewN ?_ _ | with_reducible refine Keeps.drew ?_))) (fun k hk hn => by omega))).mono ?_
  rintro e w1 ⟨rfl, q1, rfl⟩
  simp only [hd]
  go_wp2_with fail
  simp only [setCell_drewN, World.setCell_alloc_past _ _ _ _ hb]
  obtain ⟨wq, hwq⟩ : ∃ wq, w.setCell ⟨b, 2, none⟩ (.int .i64 (a0 + 1)) = wq := ⟨_, rfl⟩
  have hst : Rs wq b d L s := by rw [← hwq]; exact Rs.stepAt h h2 (by simp)
  have hkq : Keeps (But b) w wq := by rw [← hwq]; (repeat' (first | with_reducible exact Keeps.refl _ _ | with_reducible refine Keeps.set ?_ (by simp <;> omega) _ | with_reducible refine Keeps.alloc ?_ _ | with_reducible refine Keeps.drewN ?_ _ | with_reducible refine Keeps.drew ?_))
  have hsz : w.heap.size = wq.heap.size := by rw [← hwq]; simp
  have h0' : wq.cell? ⟨b, 0, none⟩ = some (.int .i64 d) := by rw [← hwq, World.cell?_setCell_other _ _ _ _ (by simp)]; exact h0
  have hbq : b < wq.heap.size := by omega
  simp only [hwq, hsz]
  refine bodyPost_ret (v := tkV { kind := 9 }) (by simp [results, Tryz.results64, go_sem, tkV, point, look, again, *]) rfl (RPost.mk (t := { kind := 9 }) (rfl) rfl (hst.keep (S := fun k => b < k) ?_ (fun k hk hn => by omega)) ?_)
  · (repeat' (first | with_reducible exact Keeps.refl _ _ | with_reducible refine Keeps.set ?_ (by simp <;> omega) _ | with_reducible refine Keeps.alloc ?_ _ | with_reducible refine Keeps.drewN ?_ _ | with_reducible refine Keeps.drew ?_))
  · (repeat' (first | with_reducible exact hkq | with_reducible refine Keeps.set ?_ (by simp <;> omega) _ | with_reducible refine Keeps.alloc ?_ _ | with_reducible refine Keeps.drewN ?_ _ | with_reducible refine Keeps.drew ?_))

set_option maxHeartbeats 1000000 in
theorem token_123_e {w : World} {b : Nat} {L s : List Int} {d : Int}  {n : Int} (h : Rs w b d L (123 :: s)) (N3 : (d == 3) = false) (HO : brace d 123 s = .error n) :
    Calls Tryz.prog 64 #[.pointer (some ⟨b, 0, none⟩)] w fun e w' => RPost b d L w (.error n) e w' := by
  have hb := h.lt
  have h0 : w.cell? ⟨b, 0, none⟩ = some (.int .i64 d) := by obtain ⟨_, _, _, h0, _⟩ := h; exact h0
  have HO' := hid HO
  clear HO
  obtain ⟨a0, h2, ha0, ha1, hf2⟩ := h.at2
  go_enter Tryz.func64, Tryz.ntmps64
  go_wp2_with fail
  refine (peek (h.keep (S := fun k => b < k) (by (repeat' (first | with_reducible exact Keeps.refl _ _ | with_reducible refine Keeps.set ?_ (by simp <;> omega) _ | with_reducible refine Keeps.alloc ?_ _ | with_reducible refine Keeps.drewN ?_ _ | with_reducible refine Keeps.drew ?_))) (fun k hk hn => by omega))).mono ?_
  rintro e w1 ⟨rfl, q1, rfl⟩
  simp only [hd]
  go_wp2_with fail
  simp only [setCell_drewN, World.setCell_alloc_past _ _ _ _ hb]
  obtain ⟨wq, hwq⟩ : ∃ wq, w.setCell ⟨b, 2, none⟩ (.int .i64 (a0 + 1)) = wq := ⟨_, rfl⟩
  have hst : Rs wq b d L s := by rw [← hwq]; exact Rs.stepAt h h2 (by simp)
  have hkq : Keeps (But b) w wq := by rw [← hwq]; (repeat' (first | with_reducible exact Keeps.refl _ _ | with_reducible refine Keeps.set ?_ (by simp <;> omega) _ | with_reducible refine Keeps.alloc ?_ _ | with_reducible refine Keeps.drewN ?_ _ | with_reducible refine Keeps.drew ?_))
  have hsz : w.heap.size = wq.heap.size := by rw [← hwq]; simp
  have h0' : wq.cell? ⟨b, 0, none⟩ = some (.int .i64 d) := by rw [← hwq, World.cell?_setCell_other _ _ _ _ (by simp)]; exact h0
  have hbq : b < wq.heap.size := by omega
  simp only [hwq, hsz]
  refine ((brace_calls (hst.keep (S := fun k => b < k) (by (repeat' (first | with_reducible exact Keeps.refl _ _ | with_reducible refine Keeps.set ?_ (by simp <;> omega) _ | with_reducible refine Keeps.alloc ?_ _ | with_reducible refine Keeps.drewN ?_ _ | with_reducible refine Keeps.drew ?_))) (fun k hk hn => by omega))).mono (fun e w' hp => RPost.error hp HO'.out)).mono ?_
  rintro e w2 ⟨rfl, hk2⟩
  exact ⟨rfl, RPost.mkE rfl rfl (Keeps.trans (by (repeat' (first | with_reducible exact hkq | with_reducible refine Keeps.set ?_ (by simp <;> omega) _ | with_reducible refine Keeps.alloc ?_ _ | with_reducible refine Keeps.drewN ?_ _ | with_reducible refine Keeps.drew ?_))) hk2)⟩

set_option maxHeartbeats 1000000 in
theorem token_123_o {w : World} {b : Nat} {L s : List Int} {d : Int}  {t : Tk} {s2 : List Int} (h : Rs w b d L (123 :: s)) (N3 : (d == 3) = false) (HO : brace d 123 s = .ok (t, s2)) :
    Calls Tryz.prog 64 #[.pointer (some ⟨b, 0, none⟩)] w fun e w' => RPost b d L w (.ok (t, s2)) e w' := by
  have hb := h.lt
  have h0 : w.cell? ⟨b, 0, none⟩ = some (.int .i64 d) := by obtain ⟨_, _, _, h0, _⟩ := h; exact h0
  have HO' := hid HO
  clear HO
  obtain ⟨a0, h2, ha0, ha1, hf2⟩ := h.at2
  go_enter Tryz.func64, Tryz.ntmps64
  go_wp2_with fail
  refine (peek (h.keep (S := fun k => b < k) (by (repeat' (first | with_reducible exact Keeps.refl _ _ | with_reducible refine Keeps.set ?_ (by simp <;> omega) _ | with_reducible refine Keeps.alloc ?_ _ | with_reducible refine Keeps.drewN ?_ _ | with_reducible refine Keeps.drew ?_))) (fun k hk hn => by omega))).mono ?_
  rintro e w1 ⟨rfl, q1, rfl⟩
  simp only [hd]
  go_wp2_with fail
  simp only [setCell_drewN, World.setCell_alloc_past _ _ _ _ hb]
  obtain ⟨wq, hwq⟩ : ∃ wq, w.setCell ⟨b, 2, none⟩ (.int .i64 (a0 + 1)) = wq := ⟨_, rfl⟩
  have hst : Rs wq b d L s := by rw [← hwq]; exact Rs.stepAt h h2 (by simp)
  have hkq : Keeps (But b) w wq := by rw [← hwq]; (repeat' (first | with_reducible exact Keeps.refl _ _ | with_reducible refine Keeps.set ?_ (by simp <;> omega) _ | with_reducible refine Keeps.alloc ?_ _ | with_reducible refine Keeps.drewN ?_ _ | with_reducible refine Keeps.drew ?_))
  have hsz : w.heap.size = wq.heap.size := by rw [← hwq]; simp
  have h0' : wq.cell? ⟨b, 0, none⟩ = some (.int .i64 d) := by rw [← hwq, World.cell?_setCell_other _ _ _ _ (by simp)]; exact h0
  have hbq : b < wq.heap.size := by omega
  simp only [hwq, hsz]
  refine ((brace_calls (hst.keep (S := fun k => b < k) (by (repeat' (first | with_reducible exact Keeps.refl _ _ | with_reducible refine Keeps.set ?_ (by simp <;> omega) _ | with_reducible refine Keeps.alloc ?_ _ | with_reducible refine Keeps.drewN ?_ _ | with_reducible refine Keeps.drew ?_))) (fun k hk hn => by omega))).mono (fun e w' hp => RPost.ok hp HO'.out)).mono ?_
  rintro e w2 ⟨rfl, hr2, hk2⟩
  have hK2 : Keeps (But b) w w2 := Keeps.trans (by (repeat' (first | with_reducible exact hkq | with_reducible refine Keeps.set ?_ (by simp <;> omega) _ | with_reducible refine Keeps.alloc ?_ _ | with_reducible refine Keeps.drewN ?_ _ | with_reducible refine Keeps.drew ?_))) hk2
  have hs2 : w.heap.size + 1 ≤ w2.heap.size := by have := hk2.size; (try simp at this); omega
  have hb2 : b < w2.heap.size := by omega
  have c0_hk2 := fun o => hk2.cell (b := wq.heap.size) (o := o) (by first | omega | (simp; done) | (simp; omega)) (by first | omega | (simp; done) | (simp; omega)); have z0_hk2 := fun o => hk2.frozen (b := wq.heap.size) (o := o) (by first | omega | (simp; done) | (simp; omega)) (by first | omega | (simp; done) | (simp; omega))
  simp only [tkV]
  go_wp2_with fail
  refine bodyPost_ret (v := tkV t) (by simp [results, Tryz.results64, go_sem, tkV, point, look, again, *]) rfl (RPost.mk (t := t) (rfl) rfl (hr2.keep (S := fun k => b < k) ?_ (fun k hk hn => by omega)) ?_)
  · (repeat' (first | with_reducible exact Keeps.refl _ _ | with_reducible refine Keeps.set ?_ (by simp <;> omega) _ | with_reducible refine Keeps.alloc ?_ _ | with_reducible refine Keeps.drewN ?_ _ | with_reducible refine Keeps.drew ?_))
  · (repeat' (first | with_reducible exact hK2 | with_reducible refine Keeps.set ?_ (by simp <;> omega) _ | with_reducible refine Keeps.alloc ?_ _ | with_reducible refine Keeps.drewN ?_ _ | with_reducible refine Keeps.drew ?_))

set_option maxHeartbeats 1000000 in
theorem token_pt {w : World} {b : Nat} {L s : List Int} {d : Int} {p : Int}  (h : Rs w b d L (p :: s)) (N3 : (d == 3) = false) (N46 : (p == 46) = false) (N94 : (p == 94) = false) (N36 : (p == 36) = false) (N91 : (p == 91) = false) (N42 : (p == 42) = false) (N43 : (p == 43) = false) (N63 : (p == 63) = false) (N92 : (p == 92) = false) (N40 : (p == 40) = false) (N41 : (p == 41) = false) (N124 : (p == 124) = false) (N123 : (p == 123) = false) :
    Calls Tryz.prog 64 #[.pointer (some ⟨b, 0, none⟩)] w fun e w' => RPost b d L w (.ok ((point p), s)) e w' := by
  have hb := h.lt
  have h0 : w.cell? ⟨b, 0, none⟩ = some (.int .i64 d) := by obtain ⟨_, _, _, h0, _⟩ := h; exact h0
  obtain ⟨a0, h2, ha0, ha1, hf2⟩ := h.at2
  go_enter Tryz.func64, Tryz.ntmps64
  go_wp2_with fail
  refine (peek (h.keep (S := fun k => b < k) (by (repeat' (first | with_reducible exact Keeps.refl _ _ | with_reducible refine Keeps.set ?_ (by simp <;> omega) _ | with_reducible refine Keeps.alloc ?_ _ | with_reducible refine Keeps.drewN ?_ _ | with_reducible refine Keeps.drew ?_))) (fun k hk hn => by omega))).mono ?_
  rintro e w1 ⟨rfl, q1, rfl⟩
  simp only [hd]
  go_wp2_with fail
  simp only [setCell_drewN, World.setCell_alloc_past _ _ _ _ hb]
  obtain ⟨wq, hwq⟩ : ∃ wq, w.setCell ⟨b, 2, none⟩ (.int .i64 (a0 + 1)) = wq := ⟨_, rfl⟩
  have hst : Rs wq b d L s := by rw [← hwq]; exact Rs.stepAt h h2 (by simp)
  have hkq : Keeps (But b) w wq := by rw [← hwq]; (repeat' (first | with_reducible exact Keeps.refl _ _ | with_reducible refine Keeps.set ?_ (by simp <;> omega) _ | with_reducible refine Keeps.alloc ?_ _ | with_reducible refine Keeps.drewN ?_ _ | with_reducible refine Keeps.drew ?_))
  have hsz : w.heap.size = wq.heap.size := by rw [← hwq]; simp
  have h0' : wq.cell? ⟨b, 0, none⟩ = some (.int .i64 d) := by rw [← hwq, World.cell?_setCell_other _ _ _ _ (by simp)]; exact h0
  have hbq : b < wq.heap.size := by omega
  simp only [hwq, hsz]
  refine (point_calls _ _).mono ?_
  rintro e w2 ⟨rfl, hk2⟩
  have hr2 := (hst.keep (S := fun k => b < k) (by (repeat' (first | with_reducible exact Keeps.refl _ _ | with_reducible refine Keeps.set ?_ (by simp <;> omega) _ | with_reducible refine Keeps.alloc ?_ _ | with_reducible refine Keeps.drewN ?_ _ | with_reducible refine Keeps.drew ?_))) (fun k hk hn => by omega)).keep hk2 (fun _ _ h => h)
  replace hk2 : Keeps (But b) _ w2 := hk2.mono (fun _ h => h.elim)
  have hK2 : Keeps (But b) w w2 := Keeps.trans (by (repeat' (first | with_reducible exact hkq | with_reducible refine Keeps.set ?_ (by simp <;> omega) _ | with_reducible refine Keeps.alloc ?_ _ | with_reducible refine Keeps.drewN ?_ _ | with_reducible refine Keeps.drew ?_))) hk2
  have hs2 : w.heap.size + 1 ≤ w2.heap.size := by have := hk2.size; (try simp at this); omega
  have hb2 : b < w2.heap.size := by omega
  have c0_hk2 := fun o => hk2.cell (b := wq.heap.size) (o := o) (by first | omega | (simp; done) | (simp; omega)) (by first | omega | (simp; done) | (simp; omega)); have z0_hk2 := fun o => hk2.frozen (b := wq.heap.size) (o := o) (by first | omega | (simp; done) | (simp; omega)) (by first | omega | (simp; done) | (simp; omega))
  simp only [tkV, point]
  go_wp2_with fail
  refine bodyPost_ret (v := tkV (point p)) (by simp [results, Tryz.results64, go_sem, tkV, point, look, again, *]) rfl (RPost.mk (t := (point p)) (rfl) rfl (hr2.keep (S := fun k => b < k) ?_ (fun k hk hn => by omega)) ?_)
  · (repeat' (first | with_reducible exact Keeps.refl _ _ | with_reducible refine Keeps.set ?_ (by simp <;> omega) _ | with_reducible refine Keeps.alloc ?_ _ | with_reducible refine Keeps.drewN ?_ _ | with_reducible refine Keeps.drew ?_))
  · (repeat' (first | with_reducible exact hK2 | with_reducible refine Keeps.set ?_ (by simp <;> omega) _ | with_reducible refine Keeps.alloc ?_ _ | with_reducible refine Keeps.drewN ?_ _ | with_reducible refine Keeps.drew ?_))



theorem token_calls {w : World} {b : Nat} {d : Int} {L s : List Int} (h : Rs w b d L s) (hs : s ≠ []) (hp : Points s) (hd0 : d = 1 ∨ d = 2 ∨ d = 3) :
    Calls Tryz.prog 64 #[.pointer (some ⟨b, 0, none⟩)] w fun e w' => RPost b d L w (token d s) e w' := by
  cases s with
  | nil => exact absurd rfl hs
  | cons p s =>
    have hps : Points s := fun x hx => hp x (by simp [hx])
    simp only [token]
    by_cases N46 : p = 46
    · subst N46; rw [if_pos rfl]; exact token_46 h
    rw [if_neg N46]
    by_cases N94 : p = 94
    · subst N94; rw [if_pos rfl]; exact token_94 h
    rw [if_neg N94]
    by_cases N36 : p = 36
    · subst N36; rw [if_pos rfl]; exact token_36 h
    rw [if_neg N36]
    by_cases N91 : p = 91
    · subst N91; rw [if_pos rfl]; exact token_91 h
    rw [if_neg N91]
    by_cases N42 : p = 42
    · subst N42; rw [if_pos rfl]; exact token_42 h rfl
    rw [if_neg N42]
    by_cases N43 : p = 43
    · subst N43; rw [if_pos rfl]; exact token_43 h rfl
    rw [if_neg N43]
    by_cases N63 : p = 63
    · subst N63; rw [if_pos rfl]; exact token_63 h rfl
    rw [if_neg N63]
    by_cases N92 : p = 92
    · subst N92; rw [if_pos rfl]
      cases HO : escaped d s with
      | error n => exact token_92_e h hps hd0 HO
      | ok ts => exact token_92_o h hps hd0 HO
    rw [if_neg N92]
    by_cases N3 : d = 3
    · subst N3; rw [if_pos rfl]; exact token_pe h (ne_eq N46) (ne_eq N94) (ne_eq N36) (ne_eq N91) (ne_eq N42) (ne_eq N43) (ne_eq N63) (ne_eq N92)
    rw [if_neg N3]
    by_cases N40 : p = 40
    · subst N40; rw [if_pos rfl]
      cases HO : openT d s with
      | error n => exact token_40_e h (ne_eq N3) HO
      | ok ts => exact token_40_o h (ne_eq N3) HO
    rw [if_neg N40]
    by_cases N41 : p = 41
    · subst N41; rw [if_pos rfl]; exact token_41 h (ne_eq N3)
    rw [if_neg N41]
    by_cases N124 : p = 124
    · subst N124; rw [if_pos rfl]; exact token_124 h (ne_eq N3)
    rw [if_neg N124]
    by_cases N123 : p = 123
    · subst N123; rw [if_pos rfl]
      cases HO : brace d 123 s with
      | error n => exact token_123_e h (ne_eq N3) HO
      | ok ts => exact token_123_o h (ne_eq N3) HO
    rw [if_neg N123]
    exact token_pt h (ne_eq N3) (ne_eq N46) (ne_eq N94) (ne_eq N36) (ne_eq N91) (ne_eq N42) (ne_eq N43) (ne_eq N63) (ne_eq N92) (ne_eq N40) (ne_eq N41) (ne_eq N124) (ne_eq N123)

end Th
end Go.Proofs
