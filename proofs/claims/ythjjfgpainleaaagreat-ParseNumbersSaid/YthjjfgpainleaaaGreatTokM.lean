/- The reader of tokens: what stands behind a backslash. -/
import Derived.Test.YthjjfgpainleaaaGreatTokL

set_option linter.unusedSimpArgs false
set_option linter.unusedVariables false

namespace Go.Proofs
namespace Th
open Go.RowKit

theorem Rs.stepAt {w : World} {b : Nat} {d : Int} {L s : List Int} {a : Int} (h : Rs w b d L s) (ha : w.cell? ⟨b, 2, none⟩ = some (.int .i64 a)) (hs : s ≠ []) : Rs (w.setCell ⟨b, 2, none⟩ (.int .i64 (a + 1))) b d L s.tail := by
  obtain ⟨a', ha', hr⟩ := h.step hs
  rw [ha] at ha'
  injection ha' with ha'
  injection ha' with _ ha'
  rw [ha']
  exact hr

theorem Rs.at2 {w : World} {b : Nat} {d : Int} {L s : List Int} (h : Rs w b d L s) : ∃ a : Int, w.cell? ⟨b, 2, none⟩ = some (.int .i64 a) ∧ 0 ≤ a ∧ a ≤ 300 ∧ w.frozen? ⟨b, 2, none⟩ = false := by
  obtain ⟨A, c, a, h0, h1, h2, h3, h4, h5, h6, h7, h8, h9⟩ := h
  exact ⟨a, h2, by omega, by omega, h3⟩


theorem setCell_drewN (w : World) (q : Nat) (a : Addr) (v : Value) : (w.drewN q).setCell a v = (w.setCell a v).drewN q := rfl


set_option maxHeartbeats 1000000 in
theorem emacs_40_e {w : World} {b : Nat} {L s : List Int}  {n : Int} (h : Rs w b 3 L s) (HO : openT 3 s = .error n) :
    Calls Tryz.prog 128 #[.pointer (some ⟨b, 0, none⟩), .int .i64 40] w fun e w' => RPost b 3 L w (.error n) e w' := by
  have hb := h.lt
  have h0 : w.cell? ⟨b, 0, none⟩ = some (.int .i64 3) := by obtain ⟨_, _, _, h0, _⟩ := h; exact h0
  have HO' := hid HO
  clear HO
  go_enter Tryz.func128, Tryz.ntmps128
  go_wp2_with fail
  refine ((open_calls (h.keep (S := fun k => b < k) (by (repeat' (first | with_reducible exact Keeps.refl _ _ | with_reducible refine Keeps.set ?_ (by simp <;> omega) _ | with_reducible refine Keeps.alloc ?_ _ | with_reducible refine Keeps.drewN ?_ _ | with_reducible refine Keeps.drew ?_))) (fun k hk hn => by omega))).mono (fun e w' hp => RPost.error hp HO'.out)).mono ?_
  rintro e w1 ⟨rfl, hk1⟩
  exact ⟨rfl, RPost.mkE rfl rfl (Keeps.trans (by (repeat' (first | with_reducible exact Keeps.refl _ _ | with_reducible refine Keeps.set ?_ (by simp <;> omega) _ | with_reducible refine Keeps.alloc ?_ _ | with_reducible refine Keeps.drewN ?_ _ | with_reducible refine Keeps.drew ?_))) hk1)⟩

set_option maxHeartbeats 1000000 in
theorem emacs_40_o {w : World} {b : Nat} {L s : List Int}  {t : Tk} {s2 : List Int} (h : Rs w b 3 L s) (HO : openT 3 s = .ok (t, s2)) :
    Calls Tryz.prog 128 #[.pointer (some ⟨b, 0, none⟩), .int .i64 40] w fun e w' => RPost b 3 L w (.ok (t, s2)) e w' := by
  have hb := h.lt
  have h0 : w.cell? ⟨b, 0, none⟩ = some (.int .i64 3) := by obtain ⟨_, _, _, h0, _⟩ := h; exact h0
  have HO' := hid HO
  clear HO
  go_enter Tryz.func128, Tryz.ntmps128
  go_wp2_with fail
  refine ((open_calls (h.keep (S := fun k => b < k) (by (repeat' (first | with_reducible exact Keeps.refl _ _ | with_reducible refine Keeps.set ?_ (by simp <;> omega) _ | with_reducible refine Keeps.alloc ?_ _ | with_reducible refine Keeps.drewN ?_ _ | with_reducible refine Keeps.drew ?_))) (fun k hk hn => by omega))).mono (fun e w' hp => RPost.ok hp HO'.out)).mono ?_
  rintro e w1 ⟨rfl, hr1, hk1⟩
  have hK1 : Keeps (But b) w w1 := Keeps.trans (by (repeat' (first | with_reducible exact Keeps.refl _ _ | with_reducible refine Keeps.set ?_ (by simp <;> omega) _ | with_reducible refine Keeps.alloc ?_ _ | with_reducible refine Keeps.drewN ?_ _ | with_reducible refine Keeps.drew ?_))) hk1
  have hs1 : w.heap.size + 1 ≤ w1.heap.size := by have := hk1.size; (try simp at this); omega
  have hb1 : b < w1.heap.size := by omega
  have c0_hk1 := fun o => hk1.cell (b := w.heap.size) (o := o) (by first | omega | (simp; done) | (simp; omega)) (by first | omega | (simp; done) | (simp; omega)); have z0_hk1 := fun o => hk1.frozen (b := w.heap.size) (o := o) (by first | omega | (simp; done) | (simp; omega)) (by first | omega | (simp; done) | (simp; omega))
  simp only [tkV]
  go_wp2_with fail
  refine bodyPost_ret (v := tkV t) (by simp [results, Tryz.results128, go_sem, tkV, point, look, again, *]) rfl (RPost.mk (t := t) (rfl) rfl (hr1.keep (S := fun k => b < k) ?_ (fun k hk hn => by omega)) ?_)
  · (repeat' (first | with_reducible exact Keeps.refl _ _ | with_reducible refine Keeps.set ?_ (by simp <;> omega) _ | with_reducible refine Keeps.alloc ?_ _ | with_reducible refine Keeps.drewN ?_ _ | with_reducible refine Keeps.drew ?_))
  · (repeat' (first | with_reducible exact hK1 | with_reducible refine Keeps.set ?_ (by simp <;> omega) _ | with_reducible refine Keeps.alloc ?_ _ | with_reducible refine Keeps.drewN ?_ _ | with_reducible refine Keeps.drew ?_))

set_option maxHeartbeats 1000000 in
theorem emacs_41 {w : World} {b : Nat} {L s : List Int}  (h : Rs w b 3 L s) :
    Calls Tryz.prog 128 #[.pointer (some ⟨b, 0, none⟩), .int .i64 41] w fun e w' => RPost b 3 L w (.ok ({ kind := 8 }, s)) e w' := by
  have hb := h.lt
  have h0 : w.cell? ⟨b, 0, none⟩ = some (.int .i64 3) := by obtain ⟨_, _, _, h0, _⟩ := h; exact h0
  go_enter Tryz.func128, Tryz.ntmps128
  go_wp2_with fail
  refine bodyPost_ret (v := tkV { kind := 8 }) (by simp [results, Tryz.results128, go_sem, tkV, point, look, again, *]) rfl (RPost.mk (t := { kind := 8 }) (rfl) rfl (h.keep (S := fun k => b < k) ?_ (fun k hk hn => by omega)) ?_)
  · (repeat' (first | with_reducible exact Keeps.refl _ _ | with_reducible refine Keeps.set ?_ (by simp <;> omega) _ | with_reducible refine Keeps.alloc ?_ _ | with_reducible refine Keeps.drewN ?_ _ | with_reducible refine Keeps.drew ?_))
  · (repeat' (first | with_reducible exact Keeps.refl _ _ | with_reducible refine Keeps.set ?_ (by simp <;> omega) _ | with_reducible refine Keeps.alloc ?_ _ | with_reducible refine Keeps.drewN ?_ _ | with_reducible refine Keeps.drew ?_))

set_option maxHeartbeats 1000000 in
theorem emacs_124 {w : World} {b : Nat} {L s : List Int}  (h : Rs w b 3 L s) :
    Calls Tryz.prog 128 #[.pointer (some ⟨b, 0, none⟩), .int .i64 124] w fun e w' => RPost b 3 L w (.ok ({ kind := 9 }, s)) e w' := by
  have hb := h.lt
  have h0 : w.cell? ⟨b, 0, none⟩ = some (.int .i64 3) := by obtain ⟨_, _, _, h0, _⟩ := h; exact h0
  go_enter Tryz.func128, Tryz.ntmps128
  go_wp2_with fail
  refine bodyPost_ret (v := tkV { kind := 9 }) (by simp [results, Tryz.results128, go_sem, tkV, point, look, again, *]) rfl (RPost.mk (t := { kind := 9 }) (rfl) rfl (h.keep (S := fun k => b < k) ?_ (fun k hk hn => by omega)) ?_)
  · (repeat' (first | with_reducible exact Keeps.refl _ _ | with_reducible refine Keeps.set ?_ (by simp <;> omega) _ | with_reducible refine Keeps.alloc ?_ _ | with_reducible refine Keeps.drewN ?_ _ | with_reducible refine Keeps.drew ?_))
  · (repeat' (first | with_reducible exact Keeps.refl _ _ | with_reducible refine Keeps.set ?_ (by simp <;> omega) _ | with_reducible refine Keeps.alloc ?_ _ | with_reducible refine Keeps.drewN ?_ _ | with_reducible refine Keeps.drew ?_))

set_option maxHeartbeats 1000000 in
theorem emacs_123_e {w : World} {b : Nat} {L s : List Int}  {n : Int} (h : Rs w b 3 L s) (HO : brace 3 123 s = .error n) :
    Calls Tryz.prog 128 #[.pointer (some ⟨b, 0, none⟩), .int .i64 123] w fun e w' => RPost b 3 L w (.error n) e w' := by
  have hb := h.lt
  have h0 : w.cell? ⟨b, 0, none⟩ = some (.int .i64 3) := by obtain ⟨_, _, _, h0, _⟩ := h; exact h0
  have HO' := hid HO
  clear HO
  go_enter Tryz.func128, Tryz.ntmps128
  go_wp2_with fail
  refine ((brace_calls (h.keep (S := fun k => b < k) (by (repeat' (first | with_reducible exact Keeps.refl _ _ | with_reducible refine Keeps.set ?_ (by simp <;> omega) _ | with_reducible refine Keeps.alloc ?_ _ | with_reducible refine Keeps.drewN ?_ _ | with_reducible refine Keeps.drew ?_))) (fun k hk hn => by omega))).mono (fun e w' hp => RPost.error hp HO'.out)).mono ?_
  rintro e w1 ⟨rfl, hk1⟩
  exact ⟨rfl, RPost.mkE rfl rfl (Keeps.trans (by (repeat' (first | with_reducible exact Keeps.refl _ _ | with_reducible refine Keeps.set ?_ (by simp <;> omega) _ | with_reducible refine Keeps.alloc ?_ _ | with_reducible refine Keeps.drewN ?_ _ | with_reducible refine Keeps.drew ?_))) hk1)⟩

set_option maxHeartbeats 1000000 in
theorem emacs_123_o {w : World} {b : Nat} {L s : List Int}  {t : Tk} {s2 : List Int} (h : Rs w b 3 L s) (HO : brace 3 123 s = .ok (t, s2)) :
    Calls Tryz.prog 128 #[.pointer (some ⟨b, 0, none⟩), .int .i64 123] w fun e w' => RPost b 3 L w (.ok (t, s2)) e w' := by
  have hb := h.lt
  have h0 : w.cell? ⟨b, 0, none⟩ = some (.int .i64 3) := by obtain ⟨_, _, _, h0, _⟩ := h; exact h0
  have HO' := hid HO
  clear HO
  go_enter Tryz.func128, Tryz.ntmps128
  go_wp2_with fail
  refine ((brace_calls (h.keep (S := fun k => b < k) (by (repeat' (first | with_reducible exact Keeps.refl _ _ | with_reducible refine Keeps.set ?_ (by simp <;> omega) _ | with_reducible refine Keeps.alloc ?_ _ | with_reducible refine Keeps.drewN ?_ _ | with_reducible refine Keeps.drew ?_))) (fun k hk hn => by omega))).mono (fun e w' hp => RPost.ok hp HO'.out)).mono ?_
  rintro e w1 ⟨rfl, hr1, hk1⟩
  have hK1 : Keeps (But b) w w1 := Keeps.trans (by (repeat' (first | with_reducible exact Keeps.refl _ _ | with_reducible refine Keeps.set ?_ (by simp <;> omega) _ | with_reducible refine Keeps.alloc ?_ _ | with_reducible refine Keeps.drewN ?_ _ | with_reducible refine Keeps.drew ?_))) hk1
  have hs1 : w.heap.size + 1 ≤ w1.heap.size := by have := hk1.size; (try simp at this); omega
  have hb1 : b < w1.heap.size := by omega
  have c0_hk1 := fun o => hk1.cell (b := w.heap.size) (o := o) (by first | omega | (simp; done) | (simp; omega)) (by first | omega | (simp; done) | (simp; omega)); have z0_hk1 := fun o => hk1.frozen (b := w.heap.size) (o := o) (by first | omega | (simp; done) | (simp; omega)) (by first | omega | (simp; done) | (simp; omega))
  simp only [tkV]
  go_wp2_with fail
  refine bodyPost_ret (v := tkV t) (by simp [results, Tryz.results128, go_sem, tkV, point, look, again, *]) rfl (RPost.mk (t := t) (rfl) rfl (hr1.keep (S := fun k => b < k) ?_ (fun k hk hn => by omega)) ?_)
  · (repeat' (first | with_reducible exact Keeps.refl _ _ | with_reducible refine Keeps.set ?_ (by simp <;> omega) _ | with_reducible refine Keeps.alloc ?_ _ | with_reducible refine Keeps.drewN ?_ _ | with_reducible refine Keeps.drew ?_))
  · (repeat' (first | with_reducible exact hK1 | with_reducible refine Keeps.set ?_ (by simp <;> omega) _ | with_reducible refine Keeps.alloc ?_ _ | with_reducible refine Keeps.drewN ?_ _ | with_reducible refine Keeps.drew ?_))

set_option maxHeartbeats 1000000 in
theorem emacs_119 {w : World} {b : Nat} {L s : List Int}  (h : Rs w b 3 L s) :
    Calls Tryz.prog 128 #[.pointer (some ⟨b, 0, none⟩), .int .i64 119] w fun e w' => RPost b 3 L w (.ok ({ kind := 4, text := wordB }, s)) e w' := by
  have hb := h.lt
  have h0 : w.cell? ⟨b, 0, none⟩ = some (.int .i64 3) := by obtain ⟨_, _, _, h0, _⟩ := h; exact h0
  go_enter Tryz.func128, Tryz.ntmps128
  go_wp2_with fail
  refine (class_calls 119 _ (by omega) (by omega)).mono ?_
  rintro e w1 ⟨rfl, hk1⟩
  have hr1 := (h.keep (S := fun k => b < k) (by (repeat' (first | with_reducible exact Keeps.refl _ _ | with_reducible refine Keeps.set ?_ (by simp <;> omega) _ | with_reducible refine Keeps.alloc ?_ _ | with_reducible refine Keeps.drewN ?_ _ | with_reducible refine Keeps.drew ?_))) (fun k hk hn => by omega)).keep hk1 (fun _ _ h => h)
  replace hk1 : Keeps (But b) _ w1 := hk1.mono (fun _ h => h.elim)
  have hK1 : Keeps (But b) w w1 := Keeps.trans (by (repeat' (first | with_reducible exact Keeps.refl _ _ | with_reducible refine Keeps.set ?_ (by simp <;> omega) _ | with_reducible refine Keeps.alloc ?_ _ | with_reducible refine Keeps.drewN ?_ _ | with_reducible refine Keeps.drew ?_))) hk1
  have hs1 : w.heap.size + 1 ≤ w1.heap.size := by have := hk1.size; (try simp at this); omega
  have hb1 : b < w1.heap.size := by omega
  have c0_hk1 := fun o => hk1.cell (b := w.heap.size) (o := o) (by first | omega | (simp; done) | (simp; omega)) (by first | omega | (simp; done) | (simp; omega)); have z0_hk1 := fun o => hk1.frozen (b := w.heap.size) (o := o) (by first | omega | (simp; done) | (simp; omega)) (by first | omega | (simp; done) | (simp; omega))
  have : w.heap.size < w1.heap.size := by omega
  have : w.heap.size ≤ w1.heap.size := by omega
  have : w.heap.size < w1.heap.size + 1 := by omega
  have : ¬ w.heap.size = w1.heap.size + 1 := by omega
  have : ¬ w1.heap.size + 1 = w.heap.size := by omega
  have : ¬ w1.heap.size = b := by omega
  have : ¬ b = w1.heap.size := by omega
  have : ¬ w1.heap.size = w.heap.size := by omega
  have : ¬ w.heap.size = w1.heap.size := by omega
  have hcl : classT 119 = some { kind := 4, text := wordB } := rfl; rw [hcl]; simp only [tkV, Option.getD_some, Option.isSome_some]
  go_wp2_with fail
  refine bodyPost_ret (v := tkV { kind := 4, text := wordB }) (by simp [results, Tryz.results128, go_sem, tkV, point, look, again, *]) rfl (RPost.mk (t := { kind := 4, text := wordB }) (rfl) rfl (hr1.keep (S := fun k => b < k) ?_ (fun k hk hn => by omega)) ?_)
  · (repeat' (first | with_reducible exact Keeps.refl _ _ | with_reducible refine Keeps.set ?_ (by simp <;> omega) _ | with_reducible refine Keeps.alloc ?_ _ | with_reducible refine Keeps.drewN ?_ _ | with_reducible refine Keeps.drew ?_))
  · (repeat' (first | with_reducible exact hK1 | with_reducible refine Keeps.set ?_ (by simp <;> omega) _ | with_reducible refine Keeps.alloc ?_ _ | with_reducible refine Keeps.drewN ?_ _ | with_reducible refine Keeps.drew ?_))

set_option maxHeartbeats 1000000 in
theorem emacs_87 {w : World} {b : Nat} {L s : List Int}  (h : Rs w b 3 L s) :
    Calls Tryz.prog 128 #[.pointer (some ⟨b, 0, none⟩), .int .i64 87] w fun e w' => RPost b 3 L w (.ok ({ kind := 4, text := wordB, not := true }, s)) e w' := by
  have hb := h.lt
  have h0 : w.cell? ⟨b, 0, none⟩ = some (.int .i64 3) := by obtain ⟨_, _, _, h0, _⟩ := h; exact h0
  go_enter Tryz.func128, Tryz.ntmps128
  go_wp2_with fail
  refine (class_calls 87 _ (by omega) (by omega)).mono ?_
  rintro e w1 ⟨rfl, hk1⟩
  have hr1 := (h.keep (S := fun k => b < k) (by (repeat' (first | with_reducible exact Keeps.refl _ _ | with_reducible refine Keeps.set ?_ (by simp <;> omega) _ | with_reducible refine Keeps.alloc ?_ _ | with_reducible refine Keeps.drewN ?_ _ | with_reducible refine Keeps.drew ?_))) (fun k hk hn => by omega)).keep hk1 (fun _ _ h => h)
  replace hk1 : Keeps (But b) _ w1 := hk1.mono (fun _ h => h.elim)
  have hK1 : Keeps (But b) w w1 := Keeps.trans (by (repeat' (first | with_reducible exact Keeps.refl _ _ | with_reducible refine Keeps.set ?_ (by simp <;> omega) _ | with_reducible refine Keeps.alloc ?_ _ | with_reducible refine Keeps.drewN ?_ _ | with_reducible refine Keeps.drew ?_))) hk1
  have hs1 : w.heap.size + 1 ≤ w1.heap.size := by have := hk1.size; (try simp at this); omega
  have hb1 : b < w1.heap.size := by omega
  have c0_hk1 := fun o => hk1.cell (b := w.heap.size) (o := o) (by first | omega | (simp; done) | (simp; omega)) (by first | omega | (simp; done) | (simp; omega)); have z0_hk1 := fun o => hk1.frozen (b := w.heap.size) (o := o) (by first | omega | (simp; done) | (simp; omega)) (by first | omega | (simp; done) | (simp; omega))
  have : w.heap.size < w1.heap.size := by omega
  have : w.heap.size ≤ w1.heap.size := by omega
  have : w.heap.size < w1.heap.size + 1 := by omega
  have : ¬ w.heap.size = w1.heap.size + 1 := by omega
  have : ¬ w1.heap.size + 1 = w.heap.size := by omega
  have : ¬ w1.heap.size = b := by omega
  have : ¬ b = w1.heap.size := by omega
  have : ¬ w1.heap.size = w.heap.size := by omega
  have : ¬ w.heap.size = w1.heap.size := by omega
  have hcl : classT 87 = some { kind := 4, text := wordB, not := true } := rfl; rw [hcl]; simp only [tkV, Option.getD_some, Option.isSome_some]
  go_wp2_with fail
  refine bodyPost_ret (v := tkV { kind := 4, text := wordB, not := true }) (by simp [results, Tryz.results128, go_sem, tkV, point, look, again, *]) rfl (RPost.mk (t := { kind := 4, text := wordB, not := true }) (rfl) rfl (hr1.keep (S := fun k => b < k) ?_ (fun k hk hn => by omega)) ?_)
  · (repeat' (first | with_reducible exact Keeps.refl _ _ | with_reducible refine Keeps.set ?_ (by simp <;> omega) _ | with_reducible refine Keeps.alloc ?_ _ | with_reducible refine Keeps.drewN ?_ _ | with_reducible refine Keeps.drew ?_))
  · (repeat' (first | with_reducible exact hK1 | with_reducible refine Keeps.set ?_ (by simp <;> omega) _ | with_reducible refine Keeps.alloc ?_ _ | with_reducible refine Keeps.drewN ?_ _ | with_reducible refine Keeps.drew ?_))

set_option maxHeartbeats 1000000 in
theorem emacs_98 {w : World} {b : Nat} {L s : List Int}  (h : Rs w b 3 L s) :
    Calls Tryz.prog 128 #[.pointer (some ⟨b, 0, none⟩), .int .i64 98] w fun e w' => RPost b 3 L w (.ok ((look 7), s)) e w' := by
  have hb := h.lt
  have h0 : w.cell? ⟨b, 0, none⟩ = some (.int .i64 3) := by obtain ⟨_, _, _, h0, _⟩ := h; exact h0
  go_enter Tryz.func128, Tryz.ntmps128
  go_wp2_with fail
  refine (look_calls _ _).mono ?_
  rintro e w1 ⟨rfl, hk1⟩
  have hr1 := (h.keep (S := fun k => b < k) (by (repeat' (first | with_reducible exact Keeps.refl _ _ | with_reducible refine Keeps.set ?_ (by simp <;> omega) _ | with_reducible refine Keeps.alloc ?_ _ | with_reducible refine Keeps.drewN ?_ _ | with_reducible refine Keeps.drew ?_))) (fun k hk hn => by omega)).keep hk1 (fun _ _ h => h)
  replace hk1 : Keeps (But b) _ w1 := hk1.mono (fun _ h => h.elim)
  have hK1 : Keeps (But b) w w1 := Keeps.trans (by (repeat' (first | with_reducible exact Keeps.refl _ _ | with_reducible refine Keeps.set ?_ (by simp <;> omega) _ | with_reducible refine Keeps.alloc ?_ _ | with_reducible refine Keeps.drewN ?_ _ | with_reducible refine Keeps.drew ?_))) hk1
  have hs1 : w.heap.size + 1 ≤ w1.heap.size := by have := hk1.size; (try simp at this); omega
  have hb1 : b < w1.heap.size := by omega
  have c0_hk1 := fun o => hk1.cell (b := w.heap.size) (o := o) (by first | omega | (simp; done) | (simp; omega)) (by first | omega | (simp; done) | (simp; omega)); have z0_hk1 := fun o => hk1.frozen (b := w.heap.size) (o := o) (by first | omega | (simp; done) | (simp; omega)) (by first | omega | (simp; done) | (simp; omega))
  simp only [tkV, look]
  go_wp2_with fail
  refine bodyPost_ret (v := tkV (look 7)) (by simp [results, Tryz.results128, go_sem, tkV, point, look, again, *]) rfl (RPost.mk (t := (look 7)) (rfl) rfl (hr1.keep (S := fun k => b < k) ?_ (fun k hk hn => by omega)) ?_)
  · (repeat' (first | with_reducible exact Keeps.refl _ _ | with_reducible refine Keeps.set ?_ (by simp <;> omega) _ | with_reducible refine Keeps.alloc ?_ _ | with_reducible refine Keeps.drewN ?_ _ | with_reducible refine Keeps.drew ?_))
  · (repeat' (first | with_reducible exact hK1 | with_reducible refine Keeps.set ?_ (by simp <;> omega) _ | with_reducible refine Keeps.alloc ?_ _ | with_reducible refine Keeps.drewN ?_ _ | with_reducible refine Keeps.drew ?_))

set_option maxHeartbeats 1000000 in
theorem emacs_66 {w : World} {b : Nat} {L s : List Int}  (h : Rs w b 3 L s) :
    Calls Tryz.prog 128 #[.pointer (some ⟨b, 0, none⟩), .int .i64 66] w fun e w' => RPost b 3 L w (.ok ((look 8), s)) e w' := by
  have hb := h.lt
  have h0 : w.cell? ⟨b, 0, none⟩ = some (.int .i64 3) := by obtain ⟨_, _, _, h0, _⟩ := h; exact h0
  go_enter Tryz.func128, Tryz.ntmps128
  go_wp2_with fail
  refine (look_calls _ _).mono ?_
  rintro e w1 ⟨rfl, hk1⟩
  have hr1 := (h.keep (S := fun k => b < k) (by (repeat' (first | with_reducible exact Keeps.refl _ _ | with_reducible refine Keeps.set ?_ (by simp <;> omega) _ | with_reducible refine Keeps.alloc ?_ _ | with_reducible refine Keeps.drewN ?_ _ | with_reducible refine Keeps.drew ?_))) (fun k hk hn => by omega)).keep hk1 (fun _ _ h => h)
  replace hk1 : Keeps (But b) _ w1 := hk1.mono (fun _ h => h.elim)
  have hK1 : Keeps (But b) w w1 := Keeps.trans (by (repeat' (first | with_reducible exact Keeps.refl _ _ | with_reducible refine Keeps.set ?_ (by simp <;> omega) _ | with_reducible refine Keeps.alloc ?_ _ | with_reducible refine Keeps.drewN ?_ _ | with_reducible refine Keeps.drew ?_))) hk1
  have hs1 : w.heap.size + 1 ≤ w1.heap.size := by have := hk1.size; (try simp at this); omega
  have hb1 : b < w1.heap.size := by omega
  have c0_hk1 := fun o => hk1.cell (b := w.heap.size) (o := o) (by first | omega | (simp; done) | (simp; omega)) (by first | omega | (simp; done) | (simp; omega)); have z0_hk1 := fun o => hk1.frozen (b := w.heap.size) (o := o) (by first | omega | (simp; done) | (simp; omega)) (by first | omega | (simp; done) | (simp; omega))
  simp only [tkV, look]
  go_wp2_with fail
  refine bodyPost_ret (v := tkV (look 8)) (by simp [results, Tryz.results128, go_sem, tkV, point, look, again, *]) rfl (RPost.mk (t := (look 8)) (rfl) rfl (hr1.keep (S := fun k => b < k) ?_ (fun k hk hn => by omega)) ?_)
  · (repeat' (first | with_reducible exact Keeps.refl _ _ | with_reducible refine Keeps.set ?_ (by simp <;> omega) _ | with_reducible refine Keeps.alloc ?_ _ | with_reducible refine Keeps.drewN ?_ _ | with_reducible refine Keeps.drew ?_))
  · (repeat' (first | with_reducible exact hK1 | with_reducible refine Keeps.set ?_ (by simp <;> omega) _ | with_reducible refine Keeps.alloc ?_ _ | with_reducible refine Keeps.drewN ?_ _ | with_reducible refine Keeps.drew ?_))

set_option maxHeartbeats 1000000 in
theorem emacs_96 {w : World} {b : Nat} {L s : List Int}  (h : Rs w b 3 L s) :
    Calls Tryz.prog 128 #[.pointer (some ⟨b, 0, none⟩), .int .i64 96] w fun e w' => RPost b 3 L w (.ok ((look 5), s)) e w' := by
  have hb := h.lt
  have h0 : w.cell? ⟨b, 0, none⟩ = some (.int .i64 3) := by obtain ⟨_, _, _, h0, _⟩ := h; exact h0
  go_enter Tryz.func128, Tryz.ntmps128
  go_wp2_with fail
  refine (look_calls _ _).mono ?_
  rintro e w1 ⟨rfl, hk1⟩
  have hr1 := (h.keep (S := fun k => b < k) (by (repeat' (first | with_reducible exact Keeps.refl _ _ | with_reducible refine Keeps.set ?_ (by simp <;> omega) _ | with_reducible refine Keeps.alloc ?_ _ | with_reducible refine Keeps.drewN ?_ _ | with_reducible refine Keeps.drew ?_))) (fun k hk hn => by omega)).keep hk1 (fun _ _ h => h)
  replace hk1 : Keeps (But b) _ w1 := hk1.mono (fun _ h => h.elim)
  have hK1 : Keeps (But b) w w1 := Keeps.trans (by (repeat' (first | with_reducible exact Keeps.refl _ _ | with_reducible refine Keeps.set ?_ (by simp <;> omega) _ | with_reducible refine Keeps.alloc ?_ _ | with_reducible refine Keeps.drewN ?_ _ | with_reducible refine Keeps.drew ?_))) hk1
  have hs1 : w.heap.size + 1 ≤ w1.heap.size := by have := hk1.size; (try simp at this); omega
  have hb1 : b < w1.heap.size := by omega
  have c0_hk1 := fun o => hk1.cell (b := w.heap.size) (o := o) (by first | omega | (simp; done) | (simp; omega)) (by first | omega | (simp; done) | (simp; omega)); have z0_hk1 := fun o => hk1.frozen (b := w.heap.size) (o := o) (by first | omega | (simp; done) | (simp; omega)) (by first | omega | (simp; done) | (simp; omega))
  simp only [tkV, look]
  go_wp2_with fail
  refine bodyPost_ret (v := tkV (look 5)) (by simp [results, Tryz.results128, go_sem, tkV, point, look, again, *]) rfl (RPost.mk (t := (look 5)) (rfl) rfl (hr1.keep (S := fun k => b < k) ?_ (fun k hk hn => by omega)) ?_)
  · (repeat' (first | with_reducible exact Keeps.refl _ _ | with_reducible refine Keeps.set ?_ (by simp <;> omega) _ | with_reducible refine Keeps.alloc ?_ _ | with_reducible refine Keeps.drewN ?_ _ | with_reducible refine Keeps.drew ?_))
  · (repeat' (first | with_reducible exact hK1 | with_reducible refine Keeps.set ?_ (by simp <;> omega) _ | with_reducible refine Keeps.alloc ?_ _ | with_reducible refine Keeps.drewN ?_ _ | with_reducible refine Keeps.drew ?_))

set_option maxHeartbeats 1000000 in
theorem emacs_39 {w : World} {b : Nat} {L s : List Int}  (h : Rs w b 3 L s) :
    Calls Tryz.prog 128 #[.pointer (some ⟨b, 0, none⟩), .int .i64 39] w fun e w' => RPost b 3 L w (.ok ((look 6), s)) e w' := by
  have hb := h.lt
  have h0 : w.cell? ⟨b, 0, none⟩ = some (.int .i64 3) := by obtain ⟨_, _, _, h0, _⟩ := h; exact h0
  go_enter Tryz.func128, Tryz.ntmps128
  go_wp2_with fail
  refine (look_calls _ _).mono ?_
  rintro e w1 ⟨rfl, hk1⟩
  have hr1 := (h.keep (S := fun k => b < k) (by (repeat' (first | with_reducible exact Keeps.refl _ _ | with_reducible refine Keeps.set ?_ (by simp <;> omega) _ | with_reducible refine Keeps.alloc ?_ _ | with_reducible refine Keeps.drewN ?_ _ | with_reducible refine Keeps.drew ?_))) (fun k hk hn => by omega)).keep hk1 (fun _ _ h => h)
  replace hk1 : Keeps (But b) _ w1 := hk1.mono (fun _ h => h.elim)
  have hK1 : Keeps (But b) w w1 := Keeps.trans (by (repeat' (first | with_reducible exact Keeps.refl _ _ | with_reducible refine Keeps.set ?_ (by simp <;> omega) _ | with_reducible refine Keeps.alloc ?_ _ | with_reducible refine Keeps.drewN ?_ _ | with_reducible refine Keeps.drew ?_))) hk1
  have hs1 : w.heap.size + 1 ≤ w1.heap.size := by have := hk1.size; (try simp at this); omega
  have hb1 : b < w1.heap.size := by omega
  have c0_hk1 := fun o => hk1.cell (b := w.heap.size) (o := o) (by first | omega | (simp; done) | (simp; omega)) (by first | omega | (simp; done) | (simp; omega)); have z0_hk1 := fun o => hk1.frozen (b := w.heap.size) (o := o) (by first | omega | (simp; done) | (simp; omega)) (by first | omega | (simp; done) | (simp; omega))
  simp only [tkV, look]
  go_wp2_with fail
  refine bodyPost_ret (v := tkV (look 6)) (by simp [results, Tryz.results128, go_sem, tkV, point, look, again, *]) rfl (RPost.mk (t := (look 6)) (rfl) rfl (hr1.keep (S := fun k => b < k) ?_ (fun k hk hn => by omega)) ?_)
  · (repeat' (first | with_reducible exact Keeps.refl _ _ | with_reducible refine Keeps.set ?_ (by simp <;> omega) _ | with_reducible refine Keeps.alloc ?_ _ | with_reducible refine Keeps.drewN ?_ _ | with_reducible refine Keeps.drew ?_))
  · (repeat' (first | with_reducible exact hK1 | with_reducible refine Keeps.set ?_ (by simp <;> omega) _ | with_reducible refine Keeps.alloc ?_ _ | with_reducible refine Keeps.drewN ?_ _ | with_reducible refine Keeps.drew ?_))

set_option maxHeartbeats 1000000 in
theorem emacs_dig {w : World} {b : Nat} {L s : List Int} (p : Int) (h : Rs w b 3 L s) (N40 : (p == 40) = false) (N41 : (p == 41) = false) (N124 : (p == 124) = false) (N123 : (p == 123) = false) (N119 : (p == 119) = false) (N87 : (p == 87) = false) (N98 : (p == 98) = false) (N66 : (p == 66) = false) (N96 : (p == 96) = false) (N39 : (p == 39) = false) (Na : 49 ≤ p) (Nb : p ≤ 57) :
    Calls Tryz.prog 128 #[.pointer (some ⟨b, 0, none⟩), .int .i64 p] w fun e w' => RPost b 3 L w (.ok ((again (p - 48)), s)) e w' := by
  have hb := h.lt
  have h0 : w.cell? ⟨b, 0, none⟩ = some (.int .i64 3) := by obtain ⟨_, _, _, h0, _⟩ := h; exact h0
  go_enter Tryz.func128, Tryz.ntmps128
  go_wp2_with fail
  refine (again_calls _ _).mono ?_
  rintro e w1 ⟨rfl, hk1⟩
  have hr1 := (h.keep (S := fun k => b < k) (by (repeat' (first | with_reducible exact Keeps.refl _ _ | with_reducible refine Keeps.set ?_ (by simp <;> omega) _ | with_reducible refine Keeps.alloc ?_ _ | with_reducible refine Keeps.drewN ?_ _ | with_reducible refine Keeps.drew ?_))) (fun k hk hn => by omega)).keep hk1 (fun _ _ h => h)
  replace hk1 : Keeps (But b) _ w1 := hk1.mono (fun _ h => h.elim)
  have hK1 : Keeps (But b) w w1 := Keeps.trans (by (repeat' (first | with_reducible exact Keeps.refl _ _ | with_reducible refine Keeps.set ?_ (by simp <;> omega) _ | with_reducible refine Keeps.alloc ?_ _ | with_reducible refine Keeps.drewN ?_ _ | with_reducible refine Keeps.drew ?_))) hk1
  have hs1 : w.heap.size + 1 ≤ w1.heap.size := by have := hk1.size; (try simp at this); omega
  have hb1 : b < w1.heap.size := by omega
  have c0_hk1 := fun o => hk1.cell (b := w.heap.size) (o := o) (by first | omega | (simp; done) | (simp; omega)) (by first | omega | (simp; done) | (simp; omega)); have z0_hk1 := fun o => hk1.frozen (b := w.heap.size) (o := o) (by first | omega | (simp; done) | (simp; omega)) (by first | omega | (simp; done) | (simp; omega))
  simp only [tkV, again]
  go_wp2_with fail
  refine bodyPost_ret (v := tkV (again (p - 48))) (by simp [results, Tryz.results128, go_sem, tkV, point, look, again, *]) rfl (RPost.mk (t := (again (p - 48))) (rfl) rfl (hr1.keep (S := fun k => b < k) ?_ (fun k hk hn => by omega)) ?_)
  · (repeat' (first | with_reducible exact Keeps.refl _ _ | with_reducible refine Keeps.set ?_ (by simp <;> omega) _ | with_reducible refine Keeps.alloc ?_ _ | with_reducible refine Keeps.drewN ?_ _ | with_reducible refine Keeps.drew ?_))
  · (repeat' (first | with_reducible exact hK1 | with_reducible refine Keeps.set ?_ (by simp <;> omega) _ | with_reducible refine Keeps.alloc ?_ _ | with_reducible refine Keeps.drewN ?_ _ | with_reducible refine Keeps.drew ?_))

set_option maxHeartbeats 1000000 in
theorem emacs_lo {w : World} {b : Nat} {L s : List Int} (p : Int) (h : Rs w b 3 L s) (N40 : (p == 40) = false) (N41 : (p == 41) = false) (N124 : (p == 124) = false) (N123 : (p == 123) = false) (N119 : (p == 119) = false) (N87 : (p == 87) = false) (N98 : (p == 98) = false) (N66 : (p == 66) = false) (N96 : (p == 96) = false) (N39 : (p == 39) = false) (Na : ¬ 49 ≤ p) :
    Calls Tryz.prog 128 #[.pointer (some ⟨b, 0, none⟩), .int .i64 p] w fun e w' => RPost b 3 L w (.ok ((point p), s)) e w' := by
  have hb := h.lt
  have h0 : w.cell? ⟨b, 0, none⟩ = some (.int .i64 3) := by obtain ⟨_, _, _, h0, _⟩ := h; exact h0
  go_enter Tryz.func128, Tryz.ntmps128
  go_wp2_with fail
  refine (point_calls _ _).mono ?_
  rintro e w1 ⟨rfl, hk1⟩
  have hr1 := (h.keep (S := fun k => b < k) (by (repeat' (first | with_reducible exact Keeps.refl _ _ | with_reducible refine Keeps.set ?_ (by simp <;> omega) _ | with_reducible refine Keeps.alloc ?_ _ | with_reducible refine Keeps.drewN ?_ _ | with_reducible refine Keeps.drew ?_))) (fun k hk hn => by omega)).keep hk1 (fun _ _ h => h)
  replace hk1 : Keeps (But b) _ w1 := hk1.mono (fun _ h => h.elim)
  have hK1 : Keeps (But b) w w1 := Keeps.trans (by (repeat' (first | with_reducible exact Keeps.refl _ _ | with_reducible refine Keeps.set ?_ (by simp <;> omega) _ | with_reducible refine Keeps.alloc ?_ _ | with_reducible refine Keeps.drewN ?_ _ | with_reducible refine Keeps.drew ?_))) hk1
  have hs1 : w.heap.size + 1 ≤ w1.heap.size := by have := hk1.size; (try simp at this); omega
  have hb1 : b < w1.heap.size := by omega
  have c0_hk1 := fun o => hk1.cell (b := w.heap.size) (o := o) (by first | omega | (simp; done) | (simp; omega)) (by first | omega | (simp; done) | (simp; omega)); have z0_hk1 := fun o => hk1.frozen (b := w.heap.size) (o := o) (by first | omega | (simp; done) | (simp; omega)) (by first | omega | (simp; done) | (simp; omega))
  simp only [tkV, point]
  go_wp2_with fail
  refine bodyPost_ret (v := tkV (point p)) (by simp [results, Tryz.results128, go_sem, tkV, point, look, again, *]) rfl (RPost.mk (t := (point p)) (rfl) rfl (hr1.keep (S := fun k => b < k) ?_ (fun k hk hn => by omega)) ?_)
  · (repeat' (first | with_reducible exact Keeps.refl _ _ | with_reducible refine Keeps.set ?_ (by simp <;> omega) _ | with_reducible refine Keeps.alloc ?_ _ | with_reducible refine Keeps.drewN ?_ _ | with_reducible refine Keeps.drew ?_))
  · (repeat' (first | with_reducible exact hK1 | with_reducible refine Keeps.set ?_ (by simp <;> omega) _ | with_reducible refine Keeps.alloc ?_ _ | with_reducible refine Keeps.drewN ?_ _ | with_reducible refine Keeps.drew ?_))

set_option maxHeartbeats 1000000 in
theorem emacs_hi {w : World} {b : Nat} {L s : List Int} (p : Int) (h : Rs w b 3 L s) (N40 : (p == 40) = false) (N41 : (p == 41) = false) (N124 : (p == 124) = false) (N123 : (p == 123) = false) (N119 : (p == 119) = false) (N87 : (p == 87) = false) (N98 : (p == 98) = false) (N66 : (p == 66) = false) (N96 : (p == 96) = false) (N39 : (p == 39) = false) (Na : 49 ≤ p) (Nb : ¬ p ≤ 57) :
    Calls Tryz.prog 128 #[.pointer (some ⟨b, 0, none⟩), .int .i64 p] w fun e w' => RPost b 3 L w (.ok ((point p), s)) e w' := by
  have hb := h.lt
  have h0 : w.cell? ⟨b, 0, none⟩ = some (.int .i64 3) := by obtain ⟨_, _, _, h0, _⟩ := h; exact h0
  go_enter Tryz.func128, Tryz.ntmps128
  go_wp2_with fail
  refine (point_calls _ _).mono ?_
  rintro e w1 ⟨rfl, hk1⟩
  have hr1 := (h.keep (S := fun k => b < k) (by (repeat' (first | with_reducible exact Keeps.refl _ _ | with_reducible refine Keeps.set ?_ (by simp <;> omega) _ | with_reducible refine Keeps.alloc ?_ _ | with_reducible refine Keeps.drewN ?_ _ | with_reducible refine Keeps.drew ?_))) (fun k hk hn => by omega)).keep hk1 (fun _ _ h => h)
  replace hk1 : Keeps (But b) _ w1 := hk1.mono (fun _ h => h.elim)
  have hK1 : Keeps (But b) w w1 := Keeps.trans (by (repeat' (first | with_reducible exact Keeps.refl _ _ | with_reducible refine Keeps.set ?_ (by simp <;> omega) _ | with_reducible refine Keeps.alloc ?_ _ | with_reducible refine Keeps.drewN ?_ _ | with_reducible refine Keeps.drew ?_))) hk1
  have hs1 : w.heap.size + 1 ≤ w1.heap.size := by have := hk1.size; (try simp at this); omega
  have hb1 : b < w1.heap.size := by omega
  have c0_hk1 := fun o => hk1.cell (b := w.heap.size) (o := o) (by first | omega | (simp; done) | (simp; omega)) (by first | omega | (simp; done) | (simp; omega)); have z0_hk1 := fun o => hk1.frozen (b := w.heap.size) (o := o) (by first | omega | (simp; done) | (simp; omega)) (by first | omega | (simp; done) | (simp; omega))
  simp only [tkV, point]
  go_wp2_with fail
  refine bodyPost_ret (v := tkV (point p)) (by simp [results, Tryz.results128, go_sem, tkV, point, look, again, *]) rfl (RPost.mk (t := (point p)) (rfl) rfl (hr1.keep (S := fun k => b < k) ?_ (fun k hk hn => by omega)) ?_)
  · (repeat' (first | with_reducible exact Keeps.refl _ _ | with_reducible refine Keeps.set ?_ (by simp <;> omega) _ | with_reducible refine Keeps.alloc ?_ _ | with_reducible refine Keeps.drewN ?_ _ | with_reducible refine Keeps.drew ?_))
  · (repeat' (first | with_reducible exact hK1 | with_reducible refine Keeps.set ?_ (by simp <;> omega) _ | with_reducible refine Keeps.alloc ?_ _ | with_reducible refine Keeps.drewN ?_ _ | with_reducible refine Keeps.drew ?_))


end Th
end Go.Proofs
