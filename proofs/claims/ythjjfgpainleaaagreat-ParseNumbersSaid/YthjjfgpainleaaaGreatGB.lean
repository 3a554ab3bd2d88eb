/- The reader of tokens: numbers, small tokens. The reader of tokens: what is repeated; intervals. The reader of tokens: braces, what stands behind an opening bracket, classes. -/
import Derived.Test.YthjjfgpainleaaaGreatTokB

set_option linter.unusedSimpArgs false
set_option linter.unusedVariables false

namespace Go.Proofs
namespace Th
open Go.RowKit

/-- What gives up in the reader of tokens. -/
def tokPanic (n : Int) : Ending := .panicked [{ v := .iface 106 (.agg #[.int .i64 n]), recovered := false }]

def tkV (t : Tk) : Value := .agg #[.int .i64 t.kind, .int .i64 t.number, .string t.text, .bool t.not, .int .i64 t.least, .int .i64 t.most, .int .i64 t.way, .int .i64 t.fold]

set_option maxHeartbeats 400000 in
theorem must_yes {w : World} {b : Nat} {d : Int} {L s : List Int} {c : Int} (h : Rs w b d L s) (h0 : 0 ≤ c) (h1 : c ≤ 200) (hc : hd s = c) :
    Calls Tryz.prog 139 #[.pointer (some ⟨b, 0, none⟩), .int .i32 c] w fun e w' => e = .returned (.tuple #[]) ∧ Rs w' b d L s.tail ∧ Keeps (But b) w w' := by
  have HC := hid hc
  clear hc
  go_enter Tryz.func139, Tryz.ntmps139
  go_wp2_with (go_at_call 126; refine (may_yes h h0 h1 HC.out).mono ?_; rintro e w' ⟨rfl, hr, hk⟩)
  go_end0
  exact ⟨rfl, hr, hk⟩

theorem must_no {w : World} {b : Nat} {d : Int} {L s : List Int} {c : Int} (h : Rs w b d L s) (h0 : 0 ≤ c) (h1 : c ≤ 200) (hc : ¬ hd s = c) :
    Calls Tryz.prog 139 #[.pointer (some ⟨b, 0, none⟩), .int .i32 c] w fun e w' => e = tokPanic 1 ∧ ∃ q, w' = w.drewN q := by
  have HC := hid hc
  clear hc
  go_enter Tryz.func139, Tryz.ntmps139
  go_wp2_with (first
    | (go_at_call 126; refine (may_no h h0 h1 HC.out).mono ?_; rintro e w' ⟨rfl, q, rfl⟩)
    | (go_at_call 127; refine (tok_fail _ _).mono ?_; rintro e w' ⟨rfl, rfl⟩))
  exact ⟨rfl, rfl, _, rfl⟩

theorem point_calls (p : Int) (w : World) : Calls Tryz.prog 90 #[.int .i64 p] w fun e w' => e = .returned (tkV (point p)) ∧ Keeps No w w' := by
  go_enter Tryz.func90, Tryz.ntmps90
  go_wp2
  exact bodyPost_ret (v := tkV (point p)) (by simp [results, Tryz.results90, go_sem, tkV, point]) rfl ⟨rfl, (Keeps.refl _ _).alloc _⟩
theorem look_calls (p : Int) (w : World) : Calls Tryz.prog 87 #[.int .i64 p] w fun e w' => e = .returned (tkV (look p)) ∧ Keeps No w w' := by
  go_enter Tryz.func87, Tryz.ntmps87
  go_wp2
  exact bodyPost_ret (v := tkV (look p)) (by simp [results, Tryz.results87, go_sem, tkV, look]) rfl ⟨rfl, (Keeps.refl _ _).alloc _⟩
theorem again_calls (p : Int) (w : World) : Calls Tryz.prog 133 #[.int .i64 p] w fun e w' => e = .returned (tkV (again p)) ∧ Keeps No w w' := by
  go_enter Tryz.func133, Tryz.ntmps133
  go_wp2
  exact bodyPost_ret (v := tkV (again p)) (by simp [results, Tryz.results133, go_sem, tkV, again]) rfl ⟨rfl, (Keeps.refl _ _).alloc _⟩

/-- Digits alone. -/
def Digits (l : List Int) : Prop := ∀ x ∈ l, 48 ≤ x ∧ x ≤ 57
theorem decimal_snoc (l : List Int) (x : Int) : decimal (l ++ [x]) = 10 * decimal l + x - 48 := by simp [decimal, List.foldl_append]
theorem decimal_bd {l : List Int} (h : Digits l) : 0 ≤ decimal l ∧ decimal l < 10 ^ l.length := by
  revert h
  refine snoc_ind (P := fun l => Digits l → 0 ≤ decimal l ∧ decimal l < 10 ^ l.length) (fun _ => by simp [decimal]) (fun l x ih h => ?_) l
  have h1 := ih (fun y hy => h y (by simp [hy]))
  have h2 := h x (by simp)
  rw [decimal_snoc, List.length_append, List.length_singleton, Int.pow_succ]
  omega

theorem run_digits (n : Nat) (s : List Int) : Digits (run isDigit n s).1 ∧ (run isDigit n s).1.length ≤ n := by
  induction n generalizing s with
  | zero => simp [run_nil, Digits]
  | succ n ih =>
    cases s with
    | nil => simp [run, Digits]
    | cons x t =>
      by_cases h : isDigit x = true
      · rw [run_go _ _ _ _ h]
        refine ⟨?_, by simp; exact (ih t).2⟩
        intro y hy
        rcases List.mem_cons.1 hy with rfl | hy
        · simpa [isDigit] using h
        · exact (ih t).1 y hy
      · rw [run_stop _ _ _ _ (by simpa using h)]
        simp [Digits]

set_option maxHeartbeats 400000 in
theorem decimal_calls {B : Nat} {w : World} {A : Option Addr} {c : Nat} {l : List Int} (h : Row B w A (ints l)) (hd_ : Digits l) (hl : l.length ≤ 3) :
    Calls Tryz.prog 134 #[.slice A l.length c] w fun e w' => e = .returned (.int .i64 (decimal l)) ∧ w' = w := by
  generalize hn : l.length = n at hl
  have HN := hid hn
  clear hn
  go_enter Tryz.func134, Tryz.ntmps134
  go_wp2
  go_loop [3, 8] (fun v i => ∃ k : Nat, k ≤ n ∧ i = .int .i64 k ∧ v = .int .i64 (decimal (l.take k))) (fun _ i => n - (intOf i).toNat)
  case atStart => exact ⟨0, by omega, rfl, rfl⟩
  case round =>
    obtain ⟨k, hk, rfl, rfl⟩ := hrel
    by_cases hlt : k < n
    · obtain ⟨ab, ao, rfl, hab, hv⟩ := h.int_at (j := k) (by rw [HN.out]; exact hlt)
      have hx := hd_ (l[k]'(by rw [HN.out]; exact hlt)) (List.getElem_mem _)
      have hs : decimal (l.take (k + 1)) = 10 * decimal (l.take k) + l[k]'(by rw [HN.out]; exact hlt) - 48 := by
        rw [List.take_succ_eq_append_getElem (by rw [HN.out]; exact hlt), decimal_snoc]
      have hb := decimal_bd (l := l.take k) (fun x hx => hd_ x (List.mem_of_mem_take hx))
      have hb2 : (10 : Int) ^ (l.take k).length ≤ 1000 := by
        have : (l.take k).length ≤ 3 := by simp; omega
        calc (10 : Int) ^ (l.take k).length ≤ 10 ^ 3 := by exact_mod_cast Nat.pow_le_pow_right (by omega) this
          _ = 1000 := rfl
      generalize l[k]'(by rw [HN.out]; exact hlt) = x at *
      generalize decimal (l.take k) = v at *
      have HS := hid hs
      clear hs
      have hb0 := hb.1
      have hb1 : v ≤ 1000 := by omega
      clear hb hb2
      go_wp2
      go_round
      case rel => exact ⟨k + 1, by omega, by go_num, by rw [HS.out]⟩
      case measure => simp [intOf]; omega
    · obtain rfl : k = n := by omega
      go_wp2
      go_ret
      exact ⟨ret_eq (by rw [List.take_of_length_le (by rw [HN.out]; omega)]; rfl), rfl⟩

end Th
end Go.Proofs

namespace Go.Proofs
namespace Th
open Go.RowKit

set_option maxHeartbeats 1000000 in
theorem repeat_calls {w : World} {b : Nat} {d : Int} {L s : List Int} (least most : Int) (h : Rs w b d L s) :
    Calls Tryz.prog 88 #[.pointer (some ⟨b, 0, none⟩), .int .i64 least, .int .i64 most] w fun e w' =>
      e = .returned (tkV (repeat_ d least most s).1) ∧ Rs w' b d L (repeat_ d least most s).2 ∧ Keeps (But b) w w' := by
  have hb := h.lt
  have h0 : w.cell? ⟨b, 0, none⟩ = some (.int .i64 d) := by obtain ⟨_, _, _, h0, _⟩ := h; exact h0
  by_cases hd1 : d = 1
  · subst hd1
    by_cases h1 : hd s = 63
    · have e : repeat_ 1 least most s = ({ kind := 6, least := least, most := most, way := 2 }, s.tail) := by simp [repeat_, h1]
      rw [e]
      have H1 := hid h1
      clear h1 e
      go_enter Tryz.func88, Tryz.ntmps88
      go_wp2_with (go_at_call 126; refine (may_yes (h.keep (S := No) (by (repeat' (first | with_reducible exact Keeps.refl _ _ | with_reducible refine Keeps.set ?_ (by simp <;> omega) _ | with_reducible refine Keeps.alloc ?_ _ | with_reducible refine Keeps.drewN ?_ _ | with_reducible refine Keeps.drew ?_))) (fun _ _ h => h)) (by omega) (by omega) H1.out).mono ?_; rintro e w1 ⟨rfl, hr, hk⟩; have c0_hk := fun o => hk.cell (b := w.heap.size) (o := o) (by first | omega | (simp; done) | (simp; omega)) (by first | omega | (simp; done) | (simp; omega)); have z0_hk := fun o => hk.frozen (b := w.heap.size) (o := o) (by first | omega | (simp; done) | (simp; omega)) (by first | omega | (simp; done) | (simp; omega)); have c1_hk := fun o => hk.cell (b := w.heap.size + 1) (o := o) (by first | omega | (simp; done) | (simp; omega)) (by first | omega | (simp; done) | (simp; omega)); have z1_hk := fun o => hk.frozen (b := w.heap.size + 1) (o := o) (by first | omega | (simp; done) | (simp; omega)) (by first | omega | (simp; done) | (simp; omega)))
      have hk1 : Keeps (But b) w w1 := Keeps.trans (by (repeat' (first | with_reducible exact Keeps.refl _ _ | with_reducible refine Keeps.set ?_ (by simp <;> omega) _ | with_reducible refine Keeps.alloc ?_ _ | with_reducible refine Keeps.drewN ?_ _ | with_reducible refine Keeps.drew ?_))) hk
      refine bodyPost_ret (v := tkV { kind := 6, least := least, most := most, way := 2 }) (by simp [results, Tryz.results88, go_sem, tkV, *]) rfl ⟨rfl, hr.keep (S := fun k => b < k) ?_ (fun k hk hn => by omega), ?_⟩
      · (repeat' (first | with_reducible exact Keeps.refl _ _ | with_reducible refine Keeps.set ?_ (by simp <;> omega) _ | with_reducible refine Keeps.alloc ?_ _ | with_reducible refine Keeps.drewN ?_ _ | with_reducible refine Keeps.drew ?_))
      · (repeat' (first | with_reducible exact hk1 | with_reducible refine Keeps.set ?_ (by simp <;> omega) _ | with_reducible refine Keeps.alloc ?_ _ | with_reducible refine Keeps.drewN ?_ _ | with_reducible refine Keeps.drew ?_))
    · by_cases h2 : hd s = 43
      · have e : repeat_ 1 least most s = ({ kind := 6, least := least, most := most, way := 3 }, s.tail) := by simp [repeat_, h2]
        rw [e]
        have H1 := hid h1
        have H2 := hid h2
        clear h1 h2 e
        go_enter Tryz.func88, Tryz.ntmps88
        go_wp2_with (first
          | (go_at_call_of 126 (Value.int .i32 63); refine (may_no (h.keep (S := No) (by (repeat' (first | with_reducible exact Keeps.refl _ _ | with_reducible refine Keeps.set ?_ (by simp <;> omega) _ | with_reducible refine Keeps.alloc ?_ _ | with_reducible refine Keeps.drewN ?_ _ | with_reducible refine Keeps.drew ?_))) (fun _ _ h => h)) (by omega) (by omega) H1.out).mono ?_; rintro e w1 ⟨rfl, q, rfl⟩)
          | (go_at_call_of 126 (Value.int .i32 43); refine (may_yes (h.keep (S := No) (by (repeat' (first | with_reducible exact Keeps.refl _ _ | with_reducible refine Keeps.set ?_ (by simp <;> omega) _ | with_reducible refine Keeps.alloc ?_ _ | with_reducible refine Keeps.drewN ?_ _ | with_reducible refine Keeps.drew ?_))) (fun _ _ h => h)) (by omega) (by omega) H2.out).mono ?_; rintro e w1 ⟨rfl, hr, hk⟩; have c0_hk := fun o => hk.cell (b := w.heap.size) (o := o) (by first | omega | (simp; done) | (simp; omega)) (by first | omega | (simp; done) | (simp; omega)); have z0_hk := fun o => hk.frozen (b := w.heap.size) (o := o) (by first | omega | (simp; done) | (simp; omega)) (by first | omega | (simp; done) | (simp; omega)); have c1_hk := fun o => hk.cell (b := w.heap.size + 1) (o := o) (by first | omega | (simp; done) | (simp; omega)) (by first | omega | (simp; done) | (simp; omega)); have z1_hk := fun o => hk.frozen (b := w.heap.size + 1) (o := o) (by first | omega | (simp; done) | (simp; omega)) (by first | omega | (simp; done) | (simp; omega))))
        have hk1 : Keeps (But b) w w1 := Keeps.trans (by (repeat' (first | with_reducible exact Keeps.refl _ _ | with_reducible refine Keeps.set ?_ (by simp <;> omega) _ | with_reducible refine Keeps.alloc ?_ _ | with_reducible refine Keeps.drewN ?_ _ | with_reducible refine Keeps.drew ?_))) hk
        refine bodyPost_ret (v := tkV { kind := 6, least := least, most := most, way := 3 }) (by simp [results, Tryz.results88, go_sem, tkV, *]) rfl ⟨rfl, hr.keep (S := fun k => b < k) ?_ (fun k hk hn => by omega), ?_⟩
        · (repeat' (first | with_reducible exact Keeps.refl _ _ | with_reducible refine Keeps.set ?_ (by simp <;> omega) _ | with_reducible refine Keeps.alloc ?_ _ | with_reducible refine Keeps.drewN ?_ _ | with_reducible refine Keeps.drew ?_))
        · (repeat' (first | with_reducible exact hk1 | with_reducible refine Keeps.set ?_ (by simp <;> omega) _ | with_reducible refine Keeps.alloc ?_ _ | with_reducible refine Keeps.drewN ?_ _ | with_reducible refine Keeps.drew ?_))
      · have e : repeat_ 1 least most s = ({ kind := 6, least := least, most := most, way := 1 }, s) := by simp [repeat_, h1, h2]
        rw [e]
        have H1 := hid h1
        have H2 := hid h2
        clear h1 h2 e
        go_enter Tryz.func88, Tryz.ntmps88
        go_wp2_with (first
          | (go_at_call_of 126 (Value.int .i32 63); refine (may_no (h.keep (S := No) (by (repeat' (first | with_reducible exact Keeps.refl _ _ | with_reducible refine Keeps.set ?_ (by simp <;> omega) _ | with_reducible refine Keeps.alloc ?_ _ | with_reducible refine Keeps.drewN ?_ _ | with_reducible refine Keeps.drew ?_))) (fun _ _ h => h)) (by omega) (by omega) H1.out).mono ?_; rintro e w1 ⟨rfl, q, rfl⟩)
          | (go_at_call_of 126 (Value.int .i32 43); refine (may_no (h.keep (S := No) (by (repeat' (first | with_reducible exact Keeps.refl _ _ | with_reducible refine Keeps.set ?_ (by simp <;> omega) _ | with_reducible refine Keeps.alloc ?_ _ | with_reducible refine Keeps.drewN ?_ _ | with_reducible refine Keeps.drew ?_))) (fun _ _ h => h)) (by omega) (by omega) H2.out).mono ?_; rintro e w1 ⟨rfl, q2, rfl⟩))
        refine bodyPost_ret (v := tkV { kind := 6, least := least, most := most, way := 1 }) (by simp [results, Tryz.results88, go_sem, tkV, *]) rfl ⟨rfl, h.keep (S := fun k => b < k) ?_ (fun k hk hn => by omega), ?_⟩
        · (repeat' (first | with_reducible exact Keeps.refl _ _ | with_reducible refine Keeps.set ?_ (by simp <;> omega) _ | with_reducible refine Keeps.alloc ?_ _ | with_reducible refine Keeps.drewN ?_ _ | with_reducible refine Keeps.drew ?_))
        · (repeat' (first | with_reducible exact Keeps.refl _ _ | with_reducible refine Keeps.set ?_ (by simp <;> omega) _ | with_reducible refine Keeps.alloc ?_ _ | with_reducible refine Keeps.drewN ?_ _ | with_reducible refine Keeps.drew ?_))
  · have e : repeat_ d least most s = ({ kind := 6, least := least, most := most, way := 1 }, s) := by simp [repeat_, hd1]
    rw [e]
    clear e
    go_enter Tryz.func88, Tryz.ntmps88
    go_wp2
    refine bodyPost_ret (v := tkV { kind := 6, least := least, most := most, way := 1 }) (by simp [results, Tryz.results88, go_sem, tkV, *]) rfl ⟨rfl, h.keep (S := fun k => b < k) ?_ (fun k hk hn => by omega), ?_⟩
    · (repeat' (first | with_reducible exact Keeps.refl _ _ | with_reducible refine Keeps.set ?_ (by simp <;> omega) _ | with_reducible refine Keeps.alloc ?_ _ | with_reducible refine Keeps.drewN ?_ _ | with_reducible refine Keeps.drew ?_))
    · (repeat' (first | with_reducible exact Keeps.refl _ _ | with_reducible refine Keeps.set ?_ (by simp <;> omega) _ | with_reducible refine Keeps.alloc ?_ _ | with_reducible refine Keeps.drewN ?_ _ | with_reducible refine Keeps.drew ?_))

/-- A token's box as it is made. -/
abbrev tkBox : Obj := .cells #[.int .i64 0, .int .i64 0, .string ⟨#[]⟩, .bool false, .int .i64 0, .int .i64 0, .int .i64 0, .int .i64 0] 76

theorem digit_enters : Enters 136 := fun _ _ => by kernel_rfl
theorem ivB_digits (s : List Int) : Digits (ivB s).1 ∧ (ivB s).1.length ≤ 3 := by
  unfold ivB
  split
  · exact run_digits _ _
  · exact run_digits _ _

/-- The reader is put back to where it was. -/
theorem Rs.back {w w1 : World} {b : Nat} {d : Int} {A : Option Addr} {c : Nat} {L s1 : List Int} {a : Nat} (h : Rq w b d A c L a) (h1 : Rs w1 b d L s1) : Rs (w1.setCell ⟨b, 2, none⟩ (.int .i64 (a : Int))) b d L (L.drop a) := by
  obtain ⟨A1, c1, a1, hq, _⟩ := h1.open
  exact (hq.set h.le).shut

def IvPost (b : Nat) (d : Int) (L s : List Int) (w : World) (e : Ending) (w' : World) : Prop :=
  match interval d s with
  | .ok (o, s') => e = .returned (.tuple #[tkV (o.getD {}), .bool o.isSome]) ∧ Rs w' b d L s' ∧ Keeps (But b) w w'
  | .error n => e = tokPanic n ∧ Keeps (But b) w w'

set_option maxHeartbeats 2000000 in
theorem interval_calls {w : World} {b : Nat} {d : Int} {L s : List Int} (h : Rs w b d L s) :
    Calls Tryz.prog 140 #[.pointer (some ⟨b, 0, none⟩)] w fun e w' => IvPost b d L s w e w' := by
  have hb := h.lt
  obtain ⟨A, c, a, hq, rfl⟩ := h.open
  have h2 := hq.c2
  generalize hs : L.drop a = s at h
  have HS := hid hs
  clear hs
  have hdig := run_digits 3 s
  go_enter Tryz.func140, Tryz.ntmps140
  go_wp2_with fail
  refine (run_calls digit_enters isDigit_calls 3 (by omega) (h.keep (S := No) (by (repeat' (first | with_reducible exact Keeps.refl _ _ | with_reducible refine Keeps.set ?_ (by simp <;> omega) _ | with_reducible refine Keeps.alloc ?_ _ | with_reducible refine Keeps.drewN ?_ _ | with_reducible refine Keeps.drew ?_))) (fun _ _ h => h))).mono ?_
  rintro e w1 ⟨⟨A1, c1, rfl, hR1, hc1, hx1⟩, hr1, hk1⟩
  go_wp2_with fail
  refine (may_any hr1 (by omega) (by omega)).mono ?_
  rintro e w2 ⟨rfl, hr2, hk2⟩
  go_upto_if 20 with fail
  go_cut [5, 6, 7] (fun s5 s6 _ wx => ∃ A1 c1 A2 c2, s5 = .slice A1 (ivA s).length c1 ∧ s6 = .slice A2 (ivB s).1.length c2 ∧ Row b wx A1 (ints (ivA s)) ∧ Row b wx A2 (ints (ivB s).1) ∧ Rs wx b d L (ivB s).2 ∧ Keeps (But b) (w.alloc tkBox) wx)
  case first =>
    by_cases h44 : hd (run isDigit 3 s).2 = 44
    · have e : ivB s = run isDigit 3 (run isDigit 3 s).2.tail := by unfold ivB; rw [if_pos h44]
      rw [if_pos h44] at hr2
      have E := hid e
      clear e
      go_wp2_with fail
      refine (run_calls digit_enters isDigit_calls 3 (by omega) hr2).mono ?_
      rintro e w3 ⟨⟨A3, c3, rfl, hR3, hc3, hx3⟩, hr3, hk3⟩
      go_wp2_with fail
      go_meet
      case rel => exact ⟨A1, c1, A3, c3, rfl, by rw [E.out], hR1.keep (hk2.trans hk3) (fun k hk e => by omega), by rw [E.out]; exact hR3, by rw [E.out]; exact hr3, (hk1.trans hk2).trans hk3⟩
    · have e : ivB s = run isDigit 3 s := by unfold ivB; rw [if_neg h44]
      rw [if_neg h44] at hr2
      have E := hid e
      clear e
      go_wp2_with fail
      go_meet
      case rel => exact ⟨A1, c1, A1, c1, rfl, by first | rfl | rw [E.out] | (rw [E.out]; rfl), hR1.keep hk2 (fun k hk e => by omega), by rw [E.out]; exact hR1.keep hk2 (fun k hk e => by omega), by rw [E.out]; exact hr2, hk1.trans hk2⟩
  case rest =>
    clear hR1 hr1 hr2 hk1 hk2 w1 w2
    obtain ⟨A1, c1, A2, c2, rfl, rfl, hR1, hR2, hr, hk⟩ := hcut
    obtain ⟨wo, rfl⟩ : ∃ wo : World, wo = wc := ⟨_, rfl⟩
    have h0 : wo.cell? ⟨b, 0, none⟩ = some (.int .i64 d) := by obtain ⟨_, _, _, h0, _⟩ := hr; exact h0
    have hdA := run_digits 3 s
    have hdB := ivB_digits s
    have la : (ivA s).length ≤ 3 := hdA.2
    have lb : (ivB s).1.length ≤ 3 := hdB.2
    go_upto_if 33 with fail
    go_cut [8] (fun s8 wx => s8 = .bool (ivC d s).1 ∧ Rs wx b d L (ivC d s).2 ∧ Keeps (But b) wo wx)
    case first =>
      by_cases hd3 : d = 3
      · subst hd3
        by_cases h92 : hd (ivB s).2 = 92
        · have e : ivC 3 s = (decide ((0 : Int) < ((ivA s).length : Int) + ((ivB s).1.length : Int)), (ivB s).2.tail) := by unfold ivC; rw [if_pos rfl, if_pos h92]
          have E := hid e
          have H9 := hid h92
          clear e h92
          go_wp2_with fail
          refine (may_yes hr (by omega) (by omega) H9.out).mono ?_
          rintro e w3 ⟨rfl, hr3, hk3⟩
          go_wp2_with fail
          go_meet
          case rel => exact ⟨by rw [E.out], by rw [E.out]; exact hr3, hk3⟩
        · have e : ivC 3 s = (false, (ivB s).2) := by unfold ivC; rw [if_pos rfl, if_neg h92]
          have E := hid e
          have H9 := hid h92
          clear e h92
          go_wp2_with fail
          refine (may_no hr (by omega) (by omega) H9.out).mono ?_
          rintro e w3 ⟨rfl, q, rfl⟩
          go_wp2_with fail
          go_meet
          case rel => exact ⟨by rw [E.out], by rw [E.out]; exact hr, (Keeps.refl _ _).drewN q⟩
      · have e : ivC d s = (decide ((0 : Int) < ((ivA s).length : Int) + ((ivB s).1.length : Int)), (ivB s).2) := by unfold ivC; rw [if_neg hd3]
        have E := hid e
        clear e
        go_wp2_with fail
        go_meet
        case rel => exact ⟨by rw [E.out], by rw [E.out]; exact hr, Keeps.refl _ _⟩
    case rest =>
      obtain ⟨wd, rfl⟩ : ∃ wo : World, wo = wc := ⟨_, rfl⟩
      obtain ⟨rfl, hr3, hk3⟩ := hcut
      have hkk : Keeps (But b) (w.alloc tkBox) wd := hk.trans hk3
      have hR1' := hR1.keep hk3 (fun k hk e => by omega)
      have hR2' := hR2.keep hk3 (fun k hk e => by omega)
      clear hR1 hR2 hk hk3 hr h0 wo h2 h
      by_cases hn : hd (ivC d s).2 = 125 ∧ (ivC d s).1 = true
      · have HB := hid hn.2
        have H5 := hid hn.1
        have HN := hid hn
        clear hn
        go_wp2_with fail
        refine (may_yes hr3 (by omega) (by omega) H5.out).mono ?_
        rintro e w4 ⟨rfl, hr4, hk4⟩
        rw [HB.out]
        have hk5 := hkk.trans hk4
        have hb1 : w.heap.size < w4.heap.size := by have := hk5.size; simp at this; omega
        have hR1 := hR1'.keep hk4 (fun k hk e => by omega)
        have hR2 := hR2'.keep hk4 (fun k hk e => by omega)
        have hk6 : Keeps (But b) w w4 := Keeps.trans (by (repeat' (first | with_reducible exact Keeps.refl _ _ | with_reducible refine Keeps.set ?_ (by simp <;> omega) _ | with_reducible refine Keeps.alloc ?_ _ | with_reducible refine Keeps.drewN ?_ _ | with_reducible refine Keeps.drew ?_))) hk5
        clear hR1' hR2' hr3 hkk hk4
        have bdA := decimal_bd hdA.1
        have bA : decimal (ivA s) < 1000 := by
          have h1 : (10 : Int) ^ (run isDigit 3 s).1.length ≤ 10 ^ 3 := by exact_mod_cast Nat.pow_le_pow_right (by omega) hdA.2
          have h2 := bdA.2
          unfold ivA
          omega
        have bA0 : 0 ≤ decimal (ivA s) := bdA.1
        have bdB := decimal_bd hdB.1
        have bB : decimal (ivB s).1 < 1000 := by
          have h1 : (10 : Int) ^ (ivB s).1.length ≤ 10 ^ 3 := by exact_mod_cast Nat.pow_le_pow_right (by omega) hdB.2
          have h2 := bdB.2
          omega
        have bB0 : 0 ≤ decimal (ivB s).1 := bdB.1
        have eI : interval d s = (if 0 ≤ (if (ivB s).1 = [] then -1 else decimal (ivB s).1) ∧ (if (ivB s).1 = [] then -1 else decimal (ivB s).1) < decimal (ivA s) then .error 3 else if 100 < max (decimal (ivA s)) (if (ivB s).1 = [] then -1 else decimal (ivB s).1) then .error 2
            else .ok (some (repeat_ d (decimal (ivA s)) (if (ivB s).1 = [] then -1 else decimal (ivB s).1) (ivC d s).2.tail).1, (repeat_ d (decimal (ivA s)) (if (ivB s).1 = [] then -1 else decimal (ivB s).1) (ivC d s).2.tail).2)) := by
          simp only [interval, intervalL]
          rw [if_pos HN.out]
        have EI := hid eI
        clear eI bdA bdB
        have c0_hk5 := fun o => hk5.cell (b := w.heap.size) (o := o) (by first | omega | (simp; done) | (simp; omega)) (by first | omega | (simp; done) | (simp; omega)); have z0_hk5 := fun o => hk5.frozen (b := w.heap.size) (o := o) (by first | omega | (simp; done) | (simp; omega)) (by first | omega | (simp; done) | (simp; omega))
        go_wp2_with fail
        refine (decimal_calls hR1 hdA.1 la).mono ?_
        rintro e w5 ⟨rfl, rfl⟩
        by_cases hb0 : (ivB s).1 = []
        · have hl0 : (ivB s).1.length = 0 := by rw [hb0]; rfl
          have E1 : interval d s = if 100 < max (decimal (ivA s)) (-1) then .error 2 else .ok (some (repeat_ d (decimal (ivA s)) (-1) (ivC d s).2.tail).1, (repeat_ d (decimal (ivA s)) (-1) (ivC d s).2.tail).2) := by
            rw [EI.out, if_pos hb0, if_neg (by omega)]
          have E := hid E1
          clear E1 hb0 EI
          generalize decimal (ivA s) = D at *
          rw [hl0]
          clear hl0
          by_cases hD : 100 < D
          · go_wp2_with fail
            refine (tok_fail _ _).mono ?_
            rintro e w6 ⟨rfl, rfl⟩
            refine ⟨rfl, ?_⟩
            unfold IvPost
            rw [E.out, if_pos (by omega)]
            exact ⟨rfl, by (repeat' (first | with_reducible exact hk6 | with_reducible refine Keeps.set ?_ (by simp <;> omega) _ | with_reducible refine Keeps.alloc ?_ _ | with_reducible refine Keeps.drewN ?_ _ | with_reducible refine Keeps.drew ?_))⟩
          · have E2 : interval d s = .ok (some (repeat_ d D (-1) (ivC d s).2.tail).1, (repeat_ d D (-1) (ivC d s).2.tail).2) := by rw [E.out, if_neg (by omega)]
            have E := hid E2
            clear E2
            go_wp2_with fail
            refine (repeat_calls _ _ hr4).mono ?_
            rintro e w6 ⟨rfl, hr6, hk7⟩
            have hk8 := hk6.trans hk7
            have c0_hk7 := fun o => hk7.cell (b := w.heap.size) (o := o) (by first | omega | (simp; done) | (simp; omega)) (by first | omega | (simp; done) | (simp; omega)); have z0_hk7 := fun o => hk7.frozen (b := w.heap.size) (o := o) (by first | omega | (simp; done) | (simp; omega)) (by first | omega | (simp; done) | (simp; omega))
            simp only [tkV]
            go_wp2_with fail
            refine bodyPost_ret (v := .tuple #[tkV (repeat_ d D (-1) (ivC d s).2.tail).1, .bool true]) (by simp [results, Tryz.results140, go_sem, tkV, *]) rfl ?_
            unfold IvPost
            rw [E.out]
            refine ⟨rfl, hr6.keep (S := fun k => b < k) ?_ (fun k hk hn => by omega), ?_⟩
            · (repeat' (first | with_reducible exact Keeps.refl _ _ | with_reducible refine Keeps.set ?_ (by simp <;> omega) _ | with_reducible refine Keeps.alloc ?_ _ | with_reducible refine Keeps.drewN ?_ _ | with_reducible refine Keeps.drew ?_))
            · (repeat' (first | with_reducible exact hk8 | with_reducible refine Keeps.set ?_ (by simp <;> omega) _ | with_reducible refine Keeps.alloc ?_ _ | with_reducible refine Keeps.drewN ?_ _ | with_reducible refine Keeps.drew ?_))
        · have hl0 : 0 < (ivB s).1.length := by cases h : (ivB s).1 with | nil => exact absurd h hb0 | cons => simp
          have E1 : interval d s = if decimal (ivB s).1 < decimal (ivA s) then .error 3 else if 100 < max (decimal (ivA s)) (decimal (ivB s).1) then .error 2 else .ok (some (repeat_ d (decimal (ivA s)) (decimal (ivB s).1) (ivC d s).2.tail).1, (repeat_ d (decimal (ivA s)) (decimal (ivB s).1) (ivC d s).2.tail).2) := by
            rw [EI.out, if_neg hb0]
            by_cases x : decimal (ivB s).1 < decimal (ivA s)
            · rw [if_pos ⟨bB0, x⟩, if_pos x]
            · rw [if_neg (by omega), if_neg x]
          have E := hid E1
          clear E1 hb0 EI
          go_wp2_with fail
          refine (decimal_calls hR2 hdB.1 lb).mono ?_
          rintro e w6 ⟨rfl, rfl⟩
          generalize decimal (ivA s) = D at *
          generalize decimal (ivB s).1 = M at *
          by_cases hMD : M < D
          · go_wp2_with fail
            refine (tok_fail _ _).mono ?_
            rintro e w6 ⟨rfl, rfl⟩
            refine ⟨rfl, ?_⟩
            unfold IvPost
            rw [E.out, if_pos hMD]
            exact ⟨rfl, by (repeat' (first | with_reducible exact hk6 | with_reducible refine Keeps.set ?_ (by simp <;> omega) _ | with_reducible refine Keeps.alloc ?_ _ | with_reducible refine Keeps.drewN ?_ _ | with_reducible refine Keeps.drew ?_))⟩
          · by_cases hD : 100 < M
            · have HD : Hid (100 < max D M) := hid (by omega)
              have hDM : D ≤ M := by omega
              go_wp2_with fail
              all_goals
                refine (tok_fail _ _).mono ?_
                rintro e w6 ⟨rfl, rfl⟩
                refine ⟨rfl, ?_⟩
                unfold IvPost
                rw [E.out, if_neg (by omega), if_pos HD.out]
                exact ⟨rfl, by (repeat' (first | with_reducible exact hk6 | with_reducible refine Keeps.set ?_ (by simp <;> omega) _ | with_reducible refine Keeps.alloc ?_ _ | with_reducible refine Keeps.drewN ?_ _ | with_reducible refine Keeps.drew ?_))⟩
            · have hDM : D ≤ M := by omega
              have hM1 : M ≤ 100 := by omega
              have E2 : interval d s = .ok (some (repeat_ d D M (ivC d s).2.tail).1, (repeat_ d D M (ivC d s).2.tail).2) := by rw [E.out, if_neg (by omega), if_neg (by omega)]
              have E := hid E2
              clear E2 hD
              go_wp2_with fail
              all_goals
                refine (repeat_calls _ _ hr4).mono ?_
                rintro e w6 ⟨rfl, hr6, hk7⟩
                have hk8 := hk6.trans hk7
                have c0_hk7 := fun o => hk7.cell (b := w.heap.size) (o := o) (by first | omega | (simp; done) | (simp; omega)) (by first | omega | (simp; done) | (simp; omega)); have z0_hk7 := fun o => hk7.frozen (b := w.heap.size) (o := o) (by first | omega | (simp; done) | (simp; omega)) (by first | omega | (simp; done) | (simp; omega))
                simp only [tkV]
                go_wp2_with fail
                refine bodyPost_ret (v := .tuple #[tkV (repeat_ d D M (ivC d s).2.tail).1, .bool true]) (by simp [results, Tryz.results140, go_sem, tkV, *]) rfl ?_
                unfold IvPost
                rw [E.out]
                refine ⟨rfl, hr6.keep (S := fun k => b < k) ?_ (fun k hk hn => by omega), ?_⟩
                · (repeat' (first | with_reducible exact Keeps.refl _ _ | with_reducible refine Keeps.set ?_ (by simp <;> omega) _ | with_reducible refine Keeps.alloc ?_ _ | with_reducible refine Keeps.drewN ?_ _ | with_reducible refine Keeps.drew ?_))
                · (repeat' (first | with_reducible exact hk8 | with_reducible refine Keeps.set ?_ (by simp <;> omega) _ | with_reducible refine Keeps.alloc ?_ _ | with_reducible refine Keeps.drewN ?_ _ | with_reducible refine Keeps.drew ?_))
      · have e : interval d s = .ok (none, s) := by simp [interval, intervalL, hn]
        have E := hid e
        have HN := hid hn
        clear e hn
        go_wp2_with fail
        refine (may_any hr3 (by omega) (by omega)).mono ?_
        rintro e w4 ⟨rfl, hr4, hk4⟩
        have hk5 := hkk.trans hk4
        have hk6 : Keeps (But b) w w4 := Keeps.trans (by (repeat' (first | with_reducible exact Keeps.refl _ _ | with_reducible refine Keeps.set ?_ (by simp <;> omega) _ | with_reducible refine Keeps.alloc ?_ _ | with_reducible refine Keeps.drewN ?_ _ | with_reducible refine Keeps.drew ?_))) hk5
        have hb1 : w.heap.size < w4.heap.size := by have := hk5.size; simp at this; omega
        obtain ⟨A4, c4, a4, hq4, _⟩ := hr4.open
        have g2 := hq4.c2
        have gz := hq4.fz
        have c0_hk5 := fun o => hk5.cell (b := w.heap.size) (o := o) (by first | omega | (simp; done) | (simp; omega)) (by first | omega | (simp; done) | (simp; omega)); have z0_hk5 := fun o => hk5.frozen (b := w.heap.size) (o := o) (by first | omega | (simp; done) | (simp; omega)) (by first | omega | (simp; done) | (simp; omega))
        generalize hP : decide (hd (ivC d s).2 = 125) = P
        have hPB : (!P || !(ivC d s).1) = true := by
          have := HN.out
          rw [← hP]
          by_cases x : hd (ivC d s).2 = 125 <;> simp_all
        have hRb := Rs.back hq hr4
        rw [HS.out] at hRb
        have hKb : Keeps (But b) w (w4.setCell ⟨b, 2, none⟩ (.int .i64 (a : Int))) := hk6.set (fun _ => rfl) _
        clear hr4
        generalize (ivC d s).1 = B at hPB
        clear hP
        cases P <;> cases B <;> simp only [Bool.not_true, Bool.not_false, Bool.or_true, Bool.or_false, Bool.false_eq_true] at hPB
        all_goals
          go_wp2_with fail
          refine bodyPost_ret (v := .tuple #[tkV {}, .bool false]) (by simp [results, Tryz.results140, go_sem, tkV, *]) rfl ?_
          unfold IvPost
          rw [E.out]
          refine ⟨rfl, hRb.keep (S := fun k => b < k) ?_ (fun k hk hn => by omega), ?_⟩
          · (repeat' (first | with_reducible exact Keeps.refl _ _ | with_reducible refine Keeps.set ?_ (by simp <;> omega) _ | with_reducible refine Keeps.alloc ?_ _ | with_reducible refine Keeps.drewN ?_ _ | with_reducible refine Keeps.drew ?_))
          · (repeat' (first | with_reducible exact hKb | with_reducible refine Keeps.set ?_ (by simp <;> omega) _ | with_reducible refine Keeps.alloc ?_ _ | with_reducible refine Keeps.drewN ?_ _ | with_reducible refine Keeps.drew ?_))

end Th
end Go.Proofs

namespace Go.Proofs
namespace Th
open Go.RowKit

/-- What a method that reads a token comes to. -/
def RPost (b : Nat) (d : Int) (L : List Int) (w : World) (r : Rd Tk) (e : Ending) (w' : World) : Prop :=
  match r with
  | .ok (t, s') => e = .returned (tkV t) ∧ Rs w' b d L s' ∧ Keeps (But b) w w'
  | .error n => e = tokPanic n ∧ Keeps (But b) w w'

theorem RPost.ok {b : Nat} {d : Int} {L : List Int} {w w' : World} {r : Rd Tk} {e : Ending} {t : Tk} {s' : List Int} (h : RPost b d L w r e w') (hr : r = .ok (t, s')) : e = .returned (tkV t) ∧ Rs w' b d L s' ∧ Keeps (But b) w w' := by
  subst hr; exact h
theorem RPost.error {b : Nat} {d : Int} {L : List Int} {w w' : World} {r : Rd Tk} {e : Ending} {n : Int} (h : RPost b d L w r e w') (hr : r = .error n) : e = tokPanic n ∧ Keeps (But b) w w' := by
  subst hr; exact h
theorem RPost.mk {b : Nat} {d : Int} {L : List Int} {w w' : World} {r : Rd Tk} {e : Ending} {t : Tk} {s' : List Int} (hr : r = .ok (t, s')) (he : e = .returned (tkV t)) (h1 : Rs w' b d L s') (h2 : Keeps (But b) w w') : RPost b d L w r e w' := by
  subst hr; exact ⟨he, h1, h2⟩
theorem RPost.mkE {b : Nat} {d : Int} {L : List Int} {w w' : World} {r : Rd Tk} {e : Ending} {n : Int} (hr : r = .error n) (he : e = tokPanic n) (hk : Keeps (But b) w w') : RPost b d L w r e w' := by
  subst hr; exact ⟨he, hk⟩
theorem IvPost.ok {b : Nat} {d : Int} {L s : List Int} {w w' : World} {e : Ending} {o : Option Tk} {s' : List Int} (h : IvPost b d L s w e w') (hr : interval d s = .ok (o, s')) : e = .returned (.tuple #[tkV (o.getD {}), .bool o.isSome]) ∧ Rs w' b d L s' ∧ Keeps (But b) w w' := by
  unfold IvPost at h; rw [hr] at h; exact h
theorem IvPost.error {b : Nat} {d : Int} {L s : List Int} {w w' : World} {e : Ending} {n : Int} (h : IvPost b d L s w e w') (hr : interval d s = .error n) : e = tokPanic n ∧ Keeps (But b) w w' := by
  unfold IvPost at h; rw [hr] at h; exact h

set_option maxHeartbeats 1000000 in
theorem brace_calls {w : World} {b : Nat} {d p : Int} {L s : List Int} (h : Rs w b d L s) :
    Calls Tryz.prog 92 #[.pointer (some ⟨b, 0, none⟩), .int .i64 p] w fun e w' => RPost b d L w (brace d p s) e w' := by
  have hb := h.lt
  have hr0 : Rs (w.alloc tkBox) b d L s := h.keep (S := No) (by (repeat' (first | with_reducible exact Keeps.refl _ _ | with_reducible refine Keeps.set ?_ (by simp <;> omega) _ | with_reducible refine Keeps.alloc ?_ _ | with_reducible refine Keeps.drewN ?_ _ | with_reducible refine Keeps.drew ?_))) (fun _ _ h => h)
  have hI := interval_calls hr0
  have hk0 : Keeps (But b) w (w.alloc tkBox) := by (repeat' (first | with_reducible exact Keeps.refl _ _ | with_reducible refine Keeps.set ?_ (by simp <;> omega) _ | with_reducible refine Keeps.alloc ?_ _ | with_reducible refine Keeps.drewN ?_ _ | with_reducible refine Keeps.drew ?_))
  cases hi : interval d s with
  | error n =>
    have hI2 := hI.mono (fun e w' hp => IvPost.error hp hi)
    have HE := hid (show brace d p s = .error n by simp [brace, hi])
    clear hI hi
    go_enter Tryz.func92, Tryz.ntmps92
    go_wp2_with fail
    refine hI2.mono ?_
    rintro e w1 ⟨rfl, hk⟩
    exact ⟨rfl, RPost.mkE HE.out rfl (Keeps.trans (by (repeat' (first | with_reducible exact Keeps.refl _ _ | with_reducible refine Keeps.set ?_ (by simp <;> omega) _ | with_reducible refine Keeps.alloc ?_ _ | with_reducible refine Keeps.drewN ?_ _ | with_reducible refine Keeps.drew ?_))) hk)⟩
  | ok os =>
    obtain ⟨o, s1⟩ := os
    have hI2 := hI.mono (fun e w' hp => IvPost.ok hp hi)
    clear hI
    cases o with
    | some t =>
      have HE := hid (show brace d p s = .ok (t, s1) by simp [brace, hi])
      clear hi
      go_enter Tryz.func92, Tryz.ntmps92
      go_wp2_with fail
      refine hI2.mono ?_
      rintro e w1 ⟨rfl, hr, hk⟩
      simp only [Option.getD_some, Option.isSome_some, tkV]
      have hb1 : w.heap.size < w1.heap.size := by have := hk.size; simp at this; omega
      have ne1 : ¬ w.heap.size = w1.heap.size := by omega
      have ne2 : ¬ w1.heap.size = w.heap.size := by omega
      have ne3 : ¬ b = w1.heap.size := by omega
      have hbw : b < w1.heap.size := by omega
      have c0_hk := fun o => hk.cell (b := w.heap.size) (o := o) (by first | omega | (simp; done) | (simp; omega)) (by first | omega | (simp; done) | (simp; omega)); have z0_hk := fun o => hk.frozen (b := w.heap.size) (o := o) (by first | omega | (simp; done) | (simp; omega)) (by first | omega | (simp; done) | (simp; omega))
      have hk1 := hk0.trans hk
      go_wp2_with fail
      refine bodyPost_ret (v := tkV t) (by simp [results, Tryz.results92, go_sem, tkV, *]) rfl (RPost.mk HE.out rfl (hr.keep (S := fun k => b < k) ?_ (fun k hk hn => by omega)) ?_)
      · (repeat' (first | with_reducible exact Keeps.refl _ _ | with_reducible refine Keeps.set ?_ (by simp <;> omega) _ | with_reducible refine Keeps.alloc ?_ _ | with_reducible refine Keeps.drewN ?_ _ | with_reducible refine Keeps.drew ?_))
      · (repeat' (first | with_reducible exact hk1 | with_reducible refine Keeps.set ?_ (by simp <;> omega) _ | with_reducible refine Keeps.alloc ?_ _ | with_reducible refine Keeps.drewN ?_ _ | with_reducible refine Keeps.drew ?_))
    | none =>
      by_cases hd1 : d = 1
      · have HE := hid (show brace d p s = .ok (point p, s1) by unfold brace; rw [hi]; simp [hd1])
        clear hi
        subst hd1
        go_enter Tryz.func92, Tryz.ntmps92
        go_wp2_with fail
        refine hI2.mono ?_
        rintro e w1 ⟨rfl, hr, hk⟩
        simp only [Option.getD_none, Option.isSome_none, tkV]
        have hb1 : w.heap.size < w1.heap.size := by have := hk.size; simp at this; omega
        have ne1 : ¬ w.heap.size = w1.heap.size := by omega
        have ne2 : ¬ w1.heap.size = w.heap.size := by omega
        have ne3 : ¬ b = w1.heap.size := by omega
        have hbw : b < w1.heap.size := by omega
        have c0 : w1.cell? ⟨b, 0, none⟩ = some (.int .i64 1) := by obtain ⟨_, _, _, h0, _⟩ := hr; exact h0
        have c0_hk := fun o => hk.cell (b := w.heap.size) (o := o) (by first | omega | (simp; done) | (simp; omega)) (by first | omega | (simp; done) | (simp; omega)); have z0_hk := fun o => hk.frozen (b := w.heap.size) (o := o) (by first | omega | (simp; done) | (simp; omega)) (by first | omega | (simp; done) | (simp; omega))
        have hk1 := hk0.trans hk
        go_wp2_with fail
        refine (point_calls _ _).mono ?_
        rintro e w2 ⟨rfl, hk2⟩
        have hk3 := hk1.trans' (S' := No) (w2 := w2) (Keeps.trans (by (repeat' (first | with_reducible exact Keeps.refl _ _ | with_reducible refine Keeps.set ?_ (by simp <;> omega) _ | with_reducible refine Keeps.alloc ?_ _ | with_reducible refine Keeps.drewN ?_ _ | with_reducible refine Keeps.drew ?_))) hk2) (fun _ _ h => h.elim)
        have hb2 : w1.heap.size < w2.heap.size := by have := hk2.size; simp at this; omega
        have c0_hk2 := fun o => hk2.cell (b := w.heap.size) (o := o) (by first | omega | (simp; done) | (simp; omega)) (by first | omega | (simp; done) | (simp; omega)); have z0_hk2 := fun o => hk2.frozen (b := w.heap.size) (o := o) (by first | omega | (simp; done) | (simp; omega)) (by first | omega | (simp; done) | (simp; omega)); have c1_hk2 := fun o => hk2.cell (b := b) (o := o) (by first | omega | (simp; done) | (simp; omega)) (by first | omega | (simp; done) | (simp; omega)); have z1_hk2 := fun o => hk2.frozen (b := b) (o := o) (by first | omega | (simp; done) | (simp; omega)) (by first | omega | (simp; done) | (simp; omega))
        simp only [tkV, point]
        go_wp2_with fail
        refine bodyPost_ret (v := tkV (point p)) (by simp [results, Tryz.results92, go_sem, tkV, point, *]) rfl (RPost.mk HE.out rfl ((hr.keep (S := No) (w' := w2) (Keeps.trans (by (repeat' (first | with_reducible exact Keeps.refl _ _ | with_reducible refine Keeps.set ?_ (by simp <;> omega) _ | with_reducible refine Keeps.alloc ?_ _ | with_reducible refine Keeps.drewN ?_ _ | with_reducible refine Keeps.drew ?_))) hk2) (fun _ _ h => h)).keep (S := fun k => b < k) ?_ (fun k hk hn => by omega)) ?_)
        · (repeat' (first | with_reducible exact Keeps.refl _ _ | with_reducible refine Keeps.set ?_ (by simp <;> omega) _ | with_reducible refine Keeps.alloc ?_ _ | with_reducible refine Keeps.drewN ?_ _ | with_reducible refine Keeps.drew ?_))
        · (repeat' (first | with_reducible exact hk3 | with_reducible refine Keeps.set ?_ (by simp <;> omega) _ | with_reducible refine Keeps.alloc ?_ _ | with_reducible refine Keeps.drewN ?_ _ | with_reducible refine Keeps.drew ?_))
      · have HE := hid (show brace d p s = .error 1 by simp [brace, hi, hd1])
        clear hi
        have hdb : (d != 1) = true := by rw [bne_iff_ne]; exact hd1
        go_enter Tryz.func92, Tryz.ntmps92
        go_wp2_with fail
        refine hI2.mono ?_
        rintro e w1 ⟨rfl, hr, hk⟩
        simp only [Option.getD_none, Option.isSome_none, tkV]
        have hb1 : w.heap.size < w1.heap.size := by have := hk.size; simp at this; omega
        have ne1 : ¬ w.heap.size = w1.heap.size := by omega
        have ne2 : ¬ w1.heap.size = w.heap.size := by omega
        have ne3 : ¬ b = w1.heap.size := by omega
        have hbw : b < w1.heap.size := by omega
        have c0 : w1.cell? ⟨b, 0, none⟩ = some (.int .i64 d) := by obtain ⟨_, _, _, h0, _⟩ := hr; exact h0
        have c0_hk := fun o => hk.cell (b := w.heap.size) (o := o) (by first | omega | (simp; done) | (simp; omega)) (by first | omega | (simp; done) | (simp; omega)); have z0_hk := fun o => hk.frozen (b := w.heap.size) (o := o) (by first | omega | (simp; done) | (simp; omega)) (by first | omega | (simp; done) | (simp; omega))
        go_wp2_with fail
        refine (tok_fail _ _).mono ?_
        rintro e w2 ⟨rfl, rfl⟩
        have hk' : Keeps (But b) w w1 := Keeps.trans (by (repeat' (first | with_reducible exact Keeps.refl _ _ | with_reducible refine Keeps.set ?_ (by simp <;> omega) _ | with_reducible refine Keeps.alloc ?_ _ | with_reducible refine Keeps.drewN ?_ _ | with_reducible refine Keeps.drew ?_))) hk
        exact ⟨rfl, RPost.mkE HE.out rfl (by (repeat' (first | with_reducible exact hk' | with_reducible refine Keeps.set ?_ (by simp <;> omega) _ | with_reducible refine Keeps.alloc ?_ _ | with_reducible refine Keeps.drewN ?_ _ | with_reducible refine Keeps.drew ?_)))⟩

end Th
end Go.Proofs
