/- The parser: what comes next. -/
import Derived.Test.YthjjfgpainleaaaGreatGG

set_option linter.unusedSimpArgs false
set_option linter.unusedVariables false

namespace Go.Proofs
namespace Th
open Go.RowKit

attribute [local go_sem ↓] Go.wp_at_zero Go.wp_at_succ

def nextPost (d : Int) (L s : List Int) (w : World) (e : Ending) (w' : World) : Prop :=
  (match nextL d L.length s with
  | .error f => e = fltPanic f
  | .ok none => e = .returned (.tuple #[tkV {}, .int .i64 (posOf L.length s), .bool false])
  | .ok (some (t, s')) => e = .returned (.tuple #[tkV t, .int .i64 (posOf L.length s'), .bool true])) ∧ Keeps No w w'

theorem Pq.pos {w : World} {P : Nat} {d : Int} {A : Option Addr} {c : Nat} {L : List Int} {a : Nat} {σ : Pst} {v6 v7 : Value} (h : Pq w P d A c L a σ v6 v7) : (a : Int) = posOf L.length σ.s := by
  have := h.le
  rw [h.rest, posOf, List.length_drop]
  omega

set_option maxHeartbeats 1000000 in
theorem next_nil {w : World} {P : Nat} {d : Int} {A : Option Addr} {c : Nat} {L : List Int} {a : Nat} {σ : Pst} {v6 v7 : Value} (h : Pq w P d A c L a σ v6 v7) (hs : σ.s = []) :
    Calls Tryz.prog 38 #[.pointer (some ⟨P, 0, none⟩)] w fun e w' => e = .returned (.tuple #[tkV {}, .int .i64 a, .bool false]) ∧ Keeps No w w' := by
  have hP := h.lt
  have h1 := h.c1; have h2 := h.c2
  have ha : a = L.length := by have := h.rest; rw [hs] at this; have := h.le; have h3 := congrArg List.length ‹[] = List.drop a L›; simp at h3; omega
  have hsm := h.small
  generalize L.length = n at *
  subst ha
  clear h
  go_enter Tryz.func38, Tryz.ntmps38
  go_wp2_with fail
  go_quiet (fail)
  go_wp2_with fail
  go_region_held3 (fun w' => w'.cell? ⟨P, 2, none⟩ = some (.int .i64 a)) (simp [go_sem, *]) (fail)
  all_goals go_wp2_with fail
  refine bodyPost_ret (v := .tuple #[tkV {}, .int .i64 a, .bool false]) (by simp [results, Tryz.results38, go_sem, tkV, *]) rfl ⟨rfl, ?_⟩
  (repeat' (first | with_reducible exact Keeps.refl _ _ | with_reducible refine Keeps.set ?_ (by simp <;> omega) _ | with_reducible refine Keeps.alloc ?_ _ | with_reducible refine Keeps.drewN ?_ _ | with_reducible refine Keeps.drew ?_))

set_option maxHeartbeats 2000000 in
theorem next_ok {w : World} {P : Nat} {d : Int} {A : Option Addr} {c : Nat} {L : List Int} {a : Nat} {σ : Pst} {v6 v7 : Value} (h : Pq w P d A c L a σ v6 v7) (ha : a < L.length) (t : Tk) (k : Int)
    (hr : rawV d L.length (L.drop a) = .tuple #[tkV t, .int .i64 k, .int .i64 0]) :
    Calls Tryz.prog 38 #[.pointer (some ⟨P, 0, none⟩)] w fun e' w' => e' = .returned (.tuple #[tkV t, .int .i64 k, .bool true]) ∧ Keeps No w w' := by
  have hP := h.lt
  have h0 := h.c0; have h1 := h.c1; have h2 := h.c2
  have hR : ∀ W : World, Keeps No w W → Calls Tryz.prog 52 #[.int .i64 d, .slice A L.length c, .int .i64 (a : Int)] W fun e' w' => e' = .returned (.tuple #[tkV t, .int .i64 k, .int .i64 0]) ∧ Keeps No W w' :=
    fun W hk => by rw [← hr]; exact raw_calls (h.row.keep hk (fun _ _ h => h)) (by have := hk.size; omega) ha h.cap h.big h.small h.pts h.dia
  have hlt : (a : Int) < (L.length : Int) := by omega
  have hsm := h.small
  generalize L.length = n at *
  clear h hr
  go_enter Tryz.func38, Tryz.ntmps38
  go_wp2_with fail
  go_quiet (fail)
  go_wp2_with fail
  go_region_held3 (fun w' => w'.cell? ⟨P, 0, none⟩ = some (.int .i64 d) ∧ w'.cell? ⟨P, 1, none⟩ = some (.slice A n c) ∧ w'.cell? ⟨P, 2, none⟩ = some (.int .i64 a)) (simp [go_sem, *])
    ((go_at_call 52; refine (hR _ (by (repeat' (first | with_reducible exact Keeps.refl _ _ | with_reducible refine Keeps.set ?_ (by simp <;> omega) _ | with_reducible refine Keeps.alloc ?_ _ | with_reducible refine Keeps.drewN ?_ _ | with_reducible refine Keeps.drew ?_)))).mono ?_; rintro e' w1 ⟨rfl, hk⟩; have g := fun o => hk.cell (b := P) (o := o) (by first | omega | (simp; done) | (simp; omega)) id; have g1 := fun o => hk.cell (b := w.heap.size) (o := o) (by first | omega | (simp; done) | (simp; omega)) id; have z1 := fun o => hk.frozen (b := w.heap.size) (o := o) (by first | omega | (simp; done) | (simp; omega)) id; (try have g2 := fun o => hk.cell (b := w.heap.size + 1) (o := o) (by first | omega | (simp; done) | (simp; omega)) id); (try have z2 := fun o => hk.frozen (b := w.heap.size + 1) (o := o) (by first | omega | (simp; done) | (simp; omega)) id); have hkw : Keeps No w w1 := Keeps.trans (by (repeat' (first | with_reducible exact Keeps.refl _ _ | with_reducible refine Keeps.set ?_ (by simp <;> omega) _ | with_reducible refine Keeps.alloc ?_ _ | with_reducible refine Keeps.drewN ?_ _ | with_reducible refine Keeps.drew ?_))) hk; have hP1 : P < w1.heap.size := by { have := hk.size; (try simp at this); omega }; have hs1 : w.heap.size < w1.heap.size := by { have := hk.size; (try simp at this); omega }; simp only [tkV]))
  all_goals go_wp2_with fail
  all_goals
    refine bodyPost_ret (v := .tuple #[tkV t, .int .i64 k, .bool true]) (by simp [results, Tryz.results38, go_sem, tkV, *]) rfl ⟨rfl, ?_⟩
    (repeat' (first | with_reducible exact hkw | with_reducible refine Keeps.set ?_ (by simp <;> omega) _ | with_reducible refine Keeps.alloc ?_ _ | with_reducible refine Keeps.drewN ?_ _ | with_reducible refine Keeps.drew ?_))

set_option maxHeartbeats 2000000 in
theorem next_err {w : World} {P : Nat} {d : Int} {A : Option Addr} {c : Nat} {L : List Int} {a : Nat} {σ : Pst} {v6 v7 : Value} (h : Pq w P d A c L a σ v6 v7) (ha : a < L.length) (t : Tk) (k e : Int) (he : ¬ e = 0)
    (hr : rawV d L.length (L.drop a) = .tuple #[tkV t, .int .i64 k, .int .i64 e]) :
    Calls Tryz.prog 38 #[.pointer (some ⟨P, 0, none⟩)] w fun e' w' => e' = fltPanic (e, a) ∧ Keeps No w w' := by
  have hP := h.lt
  have h0 := h.c0; have h1 := h.c1; have h2 := h.c2
  have hR : ∀ W : World, Keeps No w W → Calls Tryz.prog 52 #[.int .i64 d, .slice A L.length c, .int .i64 (a : Int)] W fun e' w' => e' = .returned (.tuple #[tkV t, .int .i64 k, .int .i64 e]) ∧ Keeps No W w' :=
    fun W hk => by rw [← hr]; exact raw_calls (h.row.keep hk (fun _ _ h => h)) (by have := hk.size; omega) ha h.cap h.big h.small h.pts h.dia
  have hlt : (a : Int) < (L.length : Int) := by omega
  have hsm := h.small
  generalize L.length = n at *
  clear h hr
  go_enter Tryz.func38, Tryz.ntmps38
  go_wp2_with fail
  go_quiet (fail)
  go_wp2_with fail
  go_region_held3 (fun w' => w'.cell? ⟨P, 0, none⟩ = some (.int .i64 d) ∧ w'.cell? ⟨P, 1, none⟩ = some (.slice A n c) ∧ w'.cell? ⟨P, 2, none⟩ = some (.int .i64 a)) (simp [go_sem, *])
    ((go_at_call 52; refine (hR _ (by (repeat' (first | with_reducible exact Keeps.refl _ _ | with_reducible refine Keeps.set ?_ (by simp <;> omega) _ | with_reducible refine Keeps.alloc ?_ _ | with_reducible refine Keeps.drewN ?_ _ | with_reducible refine Keeps.drew ?_)))).mono ?_; rintro e' w1 ⟨rfl, hk⟩; have g := fun o => hk.cell (b := P) (o := o) (by first | omega | (simp; done) | (simp; omega)) id; have g1 := fun o => hk.cell (b := w.heap.size) (o := o) (by first | omega | (simp; done) | (simp; omega)) id; have z1 := fun o => hk.frozen (b := w.heap.size) (o := o) (by first | omega | (simp; done) | (simp; omega)) id; (try have g2 := fun o => hk.cell (b := w.heap.size + 1) (o := o) (by first | omega | (simp; done) | (simp; omega)) id); (try have z2 := fun o => hk.frozen (b := w.heap.size + 1) (o := o) (by first | omega | (simp; done) | (simp; omega)) id); have hkw : Keeps No w w1 := Keeps.trans (by (repeat' (first | with_reducible exact Keeps.refl _ _ | with_reducible refine Keeps.set ?_ (by simp <;> omega) _ | with_reducible refine Keeps.alloc ?_ _ | with_reducible refine Keeps.drewN ?_ _ | with_reducible refine Keeps.drew ?_))) hk; have hP1 : P < w1.heap.size := by { have := hk.size; (try simp at this); omega }; have hs1 : w.heap.size < w1.heap.size := by { have := hk.size; (try simp at this); omega }; simp only [tkV]))
  all_goals go_wp2_with fail
  all_goals
    refine (pfail_calls _ _ _).mono ?_
    rintro e1 w2 ⟨rfl, rfl⟩
    exact ⟨rfl, rfl, by (repeat' (first | with_reducible exact hkw | with_reducible refine Keeps.set ?_ (by simp <;> omega) _ | with_reducible refine Keeps.alloc ?_ _ | with_reducible refine Keeps.drewN ?_ _ | with_reducible refine Keeps.drew ?_))⟩


theorem next_calls {w : World} {P : Nat} {d : Int} {L : List Int} {σ : Pst} {F : List Nat} (h : PsAt w P d L σ F) :
    Calls Tryz.prog 38 #[.pointer (some ⟨P, 0, none⟩)] w fun e w' => nextPost d L σ.s w e w' := by
  obtain ⟨A, c, a, v6, v7, hq, _⟩ := h
  have hpos := hq.pos
  unfold nextPost nextL
  by_cases hs : σ.s = []
  · rw [if_pos hs]
    refine (next_nil hq hs).mono ?_
    rintro e w' ⟨he, hk⟩
    exact ⟨by rw [he, hpos], hk⟩
  · rw [if_neg hs]
    have ha : a < L.length := by
      rcases Nat.lt_or_ge a L.length with h | h
      · exact h
      · exact absurd (by rw [hq.rest, List.drop_eq_nil_of_le h]) hs
    cases ht : token d σ.s with
    | error n =>
      refine (next_err hq ha {} 0 n (token_error ht) (by rw [rawV, ← hq.rest, ht])).mono ?_
      rintro e w' ⟨he, hk⟩
      exact ⟨by rw [he, hpos], hk⟩
    | ok ts =>
      obtain ⟨t, s'⟩ := ts
      refine (next_ok hq ha t (posOf L.length s') (by rw [rawV, ← hq.rest, ht]; rfl)).mono ?_
      rintro e w' ⟨he, hk⟩
      exact ⟨he, hk⟩

end Th
end Go.Proofs
