/- The reader of tokens: whether a pattern is right as such. The reader of tokens: a token of a pattern, what is wrong caught. What a token leaves is an end of the pattern. -/
import Derived.Test.YthjjfgpainleaaaGreatTokP
import Derived.Deep.RegionHeld3
import Derived.Deep.DrawnRows
import Derived.Test.YthjjfgpainleaaaGreatGA

set_option linter.unusedSimpArgs false
set_option linter.unusedVariables false

namespace Go.Proofs
namespace Th
open Go.RowKit

/-- What is wrong with a pattern as such; 0: nothing. -/
def rightL (d : Int) (L : List Int) : Int :=
  if d < 1 ∨ 3 < d then 7 else if 300 < L.length then 2 else if L.any (fun p => decide (p < 0) || decide (1114111 < p)) then 3 else 0

theorem isBad_calls : Tells 35 (fun p => decide (p < 0) || decide (1114111 < p)) := by
  intro x W
  go_enter Tryz.func35, Tryz.ntmps35
  go_wp2
  all_goals (go_ret; exact ⟨ret_eq (congrArg Value.bool (by (first | rfl | (rw [Bool.eq_iff_iff]; first | (simp_all; done) | (simp_all; omega))))), rfl⟩)
theorem isBad_enters : Enters 35 := fun _ _ => by kernel_rfl

theorem any_at {p : Int → Bool} {L : List Int} {k : Nat} (hk : k < L.length) (h : p L[k] = true) : L.any p = true := List.any_eq_true.2 ⟨L[k], List.getElem_mem hk, h⟩
theorem any_not {p : Int → Bool} {L : List Int} (h : ∀ j (hj : j < L.length), p L[j] = false) : L.any p = false := by
  rw [Bool.eq_false_iff]
  intro e
  obtain ⟨x, hx, hp⟩ := List.any_eq_true.1 e
  obtain ⟨j, hj, rfl⟩ := List.getElem_of_mem hx
  rw [h j hj] at hp
  simp at hp

set_option maxHeartbeats 400000 in
theorem indexInt_calls {g : Nat} {p : Int → Bool} (eg : Enters g) (hp : Tells g p) {B : Nat} {w : World} {A : Option Addr} {c : Nat} {L : List Int} (h : Row B w A (ints L)) (hl : L.length ≤ 1000) :
    Calls Tryz.prog 49 #[.slice A L.length c, .func (.func g) #[] #[]] w fun e w' => (∃ r : Int, e = .returned (.int .i64 r) ∧ decide (0 ≤ r) = L.any p) ∧ w' = w := by
  generalize hn : L.length = n at hl
  have HN := hid hn
  clear hn
  go_enter Tryz.func49, Tryz.ntmps49
  go_wp2
  go_loop [8] (fun i => ∃ k : Nat, k ≤ n ∧ i = .int .i64 k ∧ ∀ j (hj : j < L.length), j < k → p L[j] = false) (fun i => n - (intOf i).toNat)
  case atStart => exact ⟨0, by omega, rfl, fun _ _ h => absurd h (by omega)⟩
  case round =>
    obtain ⟨k, hk, rfl, hall⟩ := hrel
    by_cases hlt : k < n
    · obtain ⟨ab, ao, rfl, hab, hv⟩ := h.int_at (j := k) (by rw [HN.out]; exact hlt)
      have hyes := fun e => any_at (p := p) (L := L) (k := k) (by rw [HN.out]; exact hlt) e
      have hno : p (L[k]'(by rw [HN.out]; exact hlt)) = false → ∀ j (hj : j < L.length), j < k + 1 → p L[j] = false := by
        intro e j hj hjk
        rcases Nat.lt_or_ge j k with x | x
        · exact hall j hj x
        · obtain rfl : j = k := by omega
          exact e
      generalize L[k]'(by rw [HN.out]; exact hlt) = x at *
      have eg' : ∀ (args : Array Value) (w : World), (callFunc g args).run Tryz.prog w = .ok (.enter g args) w := eg
      have hp' := hid (hp x)
      generalize hpv : p x = pv at hp' hyes hno
      have HY := hid hyes
      have HNo := hid hno
      clear hpv hp hyes hno hall eg
      go_wp2_with fail
      refine (hp'.out _).mono ?_
      rintro e w1 ⟨rfl, rfl⟩
      cases pv
      · go_wp2_with fail
        go_round
        case rel => exact ⟨k + 1, by omega, by go_num, HNo.out (by simp)⟩
        case measure => simp [intOf]; omega
      · go_wp2_with fail
        go_ret
        exact ⟨⟨k, rfl, by have e := HY.out (by simp); rw [e]; simp⟩, rfl⟩
    · obtain rfl : k = n := by omega
      have hno := hid (any_not (p := p) (L := L) (fun j hj => hall j hj (by rw [← HN.out]; exact hj)))
      go_wp2
      go_ret
      exact ⟨⟨-1, rfl, by rw [hno.out]; rfl⟩, rfl⟩


theorem containsInt_calls {g : Nat} {p : Int → Bool} (eg : Enters g) (hp : Tells g p) {B : Nat} {w : World} {A : Option Addr} {c : Nat} {L : List Int} (h : Row B w A (ints L)) (hl : L.length ≤ 1000) :
    Calls Tryz.prog 34 #[.slice A L.length c, .func (.func g) #[] #[]] w fun e w' => e = .returned (.bool (L.any p)) ∧ w' = w := by
  go_enter Tryz.func34, Tryz.ntmps34
  go_wp2_with fail
  refine (indexInt_calls eg hp h hl).mono ?_
  rintro e w1 ⟨⟨r, rfl, hr⟩, rfl⟩
  have HR := hid hr
  clear hr
  go_wp2_with fail
  go_ret
  exact ⟨ret_eq (congrArg Value.bool HR.out), rfl⟩

set_option maxHeartbeats 400000 in
theorem right_calls {B : Nat} {w : World} {A : Option Addr} {c : Nat} {L : List Int} (d : Int) (h : Row B w A (ints L)) (hc : c ≤ 9223372036854775807) (hl : L.length ≤ c) :
    Calls Tryz.prog 19 #[.int .i64 d, .slice A L.length c] w fun e w' => e = .returned (.int .i64 (rightL d L)) ∧ w' = w := by
  unfold rightL
  by_cases h1 : d < 1
  · rw [if_pos (.inl h1)]
    go_enter Tryz.func19, Tryz.ntmps19
    go_wp2_with fail
    go_ret
    exact ⟨rfl, rfl⟩
  by_cases h2 : 3 < d
  · rw [if_pos (.inr h2)]
    go_enter Tryz.func19, Tryz.ntmps19
    go_wp2_with fail
    go_ret
    exact ⟨rfl, rfl⟩
  rw [if_neg (by omega)]
  by_cases h3 : 300 < L.length
  · rw [if_pos h3]
    generalize L.length = n at *
    go_enter Tryz.func19, Tryz.ntmps19
    go_wp2_with fail
    go_ret
    exact ⟨rfl, rfl⟩
  rw [if_neg h3]
  have hcon := containsInt_calls isBad_enters isBad_calls h (c := c) (by omega)
  generalize L.length = n at *
  generalize L.any _ = v at *
  go_enter Tryz.func19, Tryz.ntmps19
  go_wp2_with fail
  refine hcon.mono ?_
  rintro e w1 ⟨rfl, rfl⟩
  cases v
  · go_wp2_with fail
    go_ret
    exact ⟨rfl, rfl⟩
  · go_wp2_with fail
    go_ret
    exact ⟨rfl, rfl⟩

end Th
end Go.Proofs

namespace Go.Proofs
namespace Th
open Go.RowKit

attribute [local go_sem ↓] Go.wp_at_zero Go.wp_at_succ

/-- The cells of a token that is none. -/
def tkCells (w : World) (b : Nat) (t : Tk) : Prop :=
  w.cell? ⟨b, 0, none⟩ = some (.int .i64 t.kind) ∧ w.cell? ⟨b, 1, none⟩ = some (.int .i64 t.number) ∧ w.cell? ⟨b, 2, none⟩ = some (.string t.text) ∧ w.cell? ⟨b, 3, none⟩ = some (.bool t.not) ∧
  w.cell? ⟨b, 4, none⟩ = some (.int .i64 t.least) ∧ w.cell? ⟨b, 5, none⟩ = some (.int .i64 t.most) ∧ w.cell? ⟨b, 6, none⟩ = some (.int .i64 t.way) ∧ w.cell? ⟨b, 7, none⟩ = some (.int .i64 t.fold)

set_option maxHeartbeats 1000000 in
theorem rawCatch_panicking {b0 b1 b2 : Nat} (h01 : b0 < b1) (h12 : b1 < b2) (n : Int) (w : World) (h2 : b2 < w.heap.size)
    (hc : ∀ i : Nat, i < 8 → ∃ v, w.cell? ⟨b0, i, none⟩ = some v) (hz : ∀ i, w.frozen? ⟨b0, i, none⟩ = false)
    (hc1 : ∃ v, w.cell? ⟨b1, 0, none⟩ = some v) (hz1 : w.frozen? ⟨b1, 0, none⟩ = false) (hc2 : ∃ v, w.cell? ⟨b2, 0, none⟩ = some v) (hz2 : w.frozen? ⟨b2, 0, none⟩ = false) :
    CallsD Tryz.prog 63 #[.pointer (some ⟨b0, 0, none⟩), .pointer (some ⟨b1, 0, none⟩), .pointer (some ⟨b2, 0, none⟩)] (.panicking ([{ v := .iface 106 (.agg #[.int .i64 n]), recovered := false }])) w fun e u' w' =>
      e = .returned (.tuple #[]) ∧ u' = .panicking ([{ v := .iface 106 (.agg #[.int .i64 n]), recovered := true }]) ∧
        Keeps (fun k => k = b0 ∨ k = b1 ∨ k = b2) w w' ∧ tkCells w' b0 {} ∧ w'.cell? ⟨b1, 0, none⟩ = some (.int .i64 0) ∧ w'.cell? ⟨b2, 0, none⟩ = some (.int .i64 n) := by
  have hta : ∀ w : World, (Instr.typeAssert (.iface 106 (.agg #[.int .i64 n])) 20 106 true).run Tryz.prog w = .ok (.tuple #[.agg #[.int .i64 n], .bool true]) w := fun _ => by kernel_rfl
  refine callsD_of_wpS Tryz.func63 rfl fun c₀ cs hu => ?_
  apply wpS_seq
  apply wpS_region
  simp [wpOpsS, go_sem, recoverD, hu, Tryz.ntmps63, Exit.thenS, hta, Array.replicate, List.replicate]
  obtain ⟨v0, k0⟩ := hc 0 (by omega)
  obtain ⟨v1, k1⟩ := hc 1 (by omega)
  obtain ⟨v2, k2⟩ := hc 2 (by omega)
  obtain ⟨v3, k3⟩ := hc 3 (by omega)
  obtain ⟨v4, k4⟩ := hc 4 (by omega)
  obtain ⟨v5, k5⟩ := hc 5 (by omega)
  obtain ⟨v6, k6⟩ := hc 6 (by omega)
  obtain ⟨v7, k7⟩ := hc 7 (by omega)
  obtain ⟨u1, hc1⟩ := hc1
  obtain ⟨u2, hc2⟩ := hc2
  have i1 : b0 < w.heap.size := by omega
  have i2 : b1 < w.heap.size := by omega
  have i3 : ¬ b0 = b1 := by omega
  have i4 : ¬ b1 = b0 := by omega
  have i5 : ¬ b0 = b2 := by omega
  have i6 : ¬ b2 = b0 := by omega
  have i7 : ¬ b1 = b2 := by omega
  have i8 : ¬ b2 = b1 := by omega
  clear hc
  refine wpS_of_wp ?_
  go_wp2_with fail
  go_region_held3 (fun w' => w'.cell? ⟨w.heap.size, 0, none⟩ = some (.int .i64 n)) (simp [go_sem]) (fail)
  all_goals go_wp2
  clear hta
  refine ⟨rfl, _, rfl, _, results_none rfl _ _ _, rfl, rfl, ?_, ?_, ?_, ?_⟩
  · (repeat' (first | with_reducible exact Keeps.refl _ _ | with_reducible refine Keeps.set ?_ (by simp <;> omega) _ | with_reducible refine Keeps.alloc ?_ _ | with_reducible refine Keeps.drewN ?_ _ | with_reducible refine Keeps.drew ?_))
  · refine ⟨?_, ?_, ?_, ?_, ?_, ?_, ?_, ?_⟩ <;> simp [go_sem, *]
  · simp [go_sem, *]
  · simp [go_sem, *]


theorem rawCatch_idle {b0 b1 b2 : Nat} (w : World) :
    CallsD Tryz.prog 63 #[.pointer (some ⟨b0, 0, none⟩), .pointer (some ⟨b1, 0, none⟩), .pointer (some ⟨b2, 0, none⟩)] .returning w fun e u' w' =>
      e = .returned (.tuple #[]) ∧ u' = .returning ∧ Keeps No w w' := by
  have hta : ∀ w : World, (Instr.typeAssert .nilIface 20 106 true).run Tryz.prog w = .ok (.tuple #[.agg #[.int .i64 0], .bool false]) w := fun _ => by kernel_rfl
  refine callsD_of_wpS Tryz.func63 rfl fun c₀ cs hu => ?_
  apply wpS_seq
  apply wpS_region
  simp [wpOpsS, go_sem, recoverD, hu, Tryz.ntmps63, Exit.thenS, hta, Array.replicate, List.replicate]
  refine wpS_of_wp ?_
  go_wp2
  refine ⟨rfl, _, by cases c₀; simp_all, _, results_none rfl _ _ _, rfl, rfl, ?_⟩
  (repeat' (first | with_reducible exact Keeps.refl _ _ | with_reducible refine Keeps.set ?_ (by simp <;> omega) _ | with_reducible refine Keeps.alloc ?_ _ | with_reducible refine Keeps.drewN ?_ _ | with_reducible refine Keeps.drew ?_))

theorem frozen_new {w : World} {b i : Nat} (h : w.heap.size ≤ b) : w.frozen? ⟨b, i, none⟩ = false := by
  simp [World.frozen?, Array.getElem?_eq_none h]

/-- At a region's head: the world by what is known of it. -/
theorem wp_world {P : Program} {c : Code} {Q : Exit → Act → World → Prop} {a : Act} {W : World} (F : World → Prop) (hF : F W) (h : ∀ W', F W' → Code.wp P c Q a W') : Code.wp P c Q a W := h W hF

/-- What token.Raw comes to. -/
def rawV (d n : Int) (s : List Int) : Value :=
  match token d s with
  | .ok (t, s') => .tuple #[tkV t, .int .i64 (n - s'.length), .int .i64 0]
  | .error k => .tuple #[tkV {}, .int .i64 0, .int .i64 k]

theorem Rs.cell2 {w : World} {b : Nat} {d : Int} {L s : List Int} (h : Rs w b d L s) : w.cell? ⟨b, 2, none⟩ = some (.int .i64 ((L.length : Int) - s.length)) := by
  obtain ⟨A, c, a, hq, rfl⟩ := h.open
  have := hq.c2
  rw [this, List.length_drop]
  have := hq.le
  congr 2
  omega

set_option maxHeartbeats 2000000 in
theorem raw_calls {B : Nat} {w : World} {A : Option Addr} {c a : Nat} {d : Int} {L : List Int} (hA : Row B w A (ints L)) (hB : B ≤ w.heap.size) (ha : a < L.length) (hc : L.length ≤ c) (hbig : c ≤ 9223372036854775807) (hs : L.length ≤ 300)
    (hp : Points L) (hd0 : d = 1 ∨ d = 2 ∨ d = 3) :
    Calls Tryz.prog 52 #[.int .i64 d, .slice A L.length c, .int .i64 (a : Int)] w fun e w' => e = .returned (rawV d L.length (L.drop a)) ∧ Keeps No w w' := by
  have hmf : ∀ (fn : Fn) (first cap : Array Value) (w : World), (Instr.makeFunc fn first cap).run Tryz.prog w = .ok (.func fn first cap) w := fun _ _ _ _ => rfl
  have hne : L.drop a ≠ [] := by simpa using ha
  have hps : Points (L.drop a) := fun x hx => hp x (List.mem_of_mem_drop hx)
  have hRs : ∀ w' : World, Keeps No w w' → w'.cell? ⟨w.heap.size + 1 + 1 + 1, 0, none⟩ = some (.int .i64 d) → w'.cell? ⟨w.heap.size + 1 + 1 + 1, 1, none⟩ = some (.slice A L.length c) →
      w'.cell? ⟨w.heap.size + 1 + 1 + 1, 2, none⟩ = some (.int .i64 (a : Int)) → w'.frozen? ⟨w.heap.size + 1 + 1 + 1, 2, none⟩ = false → Rs w' (w.heap.size + 1 + 1 + 1) d L (L.drop a) :=
    fun w' hk h0 h1 h2 h3 => ⟨A, c, a, h0, h1, h2, h3, (hA.mono (by omega)).keep hk (fun _ _ h => h), by omega, rfl, hc, hbig, hs⟩
  have hR0 : Rs ((((w.alloc tkBox).alloc (.cells #[.int .i64 0] 3)).alloc (.cells #[.int .i64 0] 31)).alloc (.cells #[.int .i64 d, .slice A L.length c, .int .i64 (a : Int)] 110)) (w.heap.size + 1 + 1 + 1) d L (L.drop a) := by
    refine hRs _ (by (repeat' (first | with_reducible exact Keeps.refl _ _ | with_reducible refine Keeps.set ?_ (by simp <;> omega) _ | with_reducible refine Keeps.alloc ?_ _ | with_reducible refine Keeps.drewN ?_ _ | with_reducible refine Keeps.drew ?_))) ?_ ?_ ?_ ?_
    · simp [go_sem]
    · simp [go_sem]
    · simp [go_sem]
    · rw [RowKit.frozen?_alloc_cells, RowKit.frozen?_alloc_cells, RowKit.frozen?_alloc_cells, RowKit.frozen?_alloc_cells]
      exact frozen_new (by omega)
  have hcs : ∀ i : Nat, ((((w.alloc tkBox).alloc (.cells #[.int .i64 0] 3)).alloc (.cells #[.int .i64 0] 31)).alloc (.cells #[.int .i64 d, .slice A L.length c, .int .i64 (a : Int)] 110)).cell? ⟨w.heap.size, i, none⟩ = (#[.int .i64 0, .int .i64 0, .string ⟨#[]⟩, .bool false, .int .i64 0, .int .i64 0, .int .i64 0, .int .i64 0] : Array Value)[i]? := fun i => by
    rw [World.cell?_alloc_past _ _ _ (by simp <;> omega), World.cell?_alloc_past _ _ _ (by simp <;> omega), World.cell?_alloc_past _ _ _ (by simp <;> omega), World.cell?_alloc_at _ _ _ _ rfl]
  have hcs1 : ((((w.alloc tkBox).alloc (.cells #[.int .i64 0] 3)).alloc (.cells #[.int .i64 0] 31)).alloc (.cells #[.int .i64 d, .slice A L.length c, .int .i64 (a : Int)] 110)).cell? ⟨w.heap.size + 1, 0, none⟩ = some (.int .i64 0) := by simp [go_sem]
  have hcs2 : ((((w.alloc tkBox).alloc (.cells #[.int .i64 0] 3)).alloc (.cells #[.int .i64 0] 31)).alloc (.cells #[.int .i64 d, .slice A L.length c, .int .i64 (a : Int)] 110)).cell? ⟨w.heap.size + 1 + 1, 0, none⟩ = some (.int .i64 0) := by simp [go_sem]
  have hzs : ∀ b i : Nat, b < w.heap.size + 1 + 1 + 1 + 1 → w.heap.size ≤ b → ((((w.alloc tkBox).alloc (.cells #[.int .i64 0] 3)).alloc (.cells #[.int .i64 0] 31)).alloc (.cells #[.int .i64 d, .slice A L.length c, .int .i64 (a : Int)] 110)).frozen? ⟨b, i, none⟩ = false := fun b i h1 h2 => by
    rw [RowKit.frozen?_alloc_cells, RowKit.frozen?_alloc_cells, RowKit.frozen?_alloc_cells, RowKit.frozen?_alloc_cells]
    exact frozen_new h2
  unfold rawV
  cases ht : token d (L.drop a) with
  | error k =>
    have HT := hid ht
    clear ht
    simp only
    have hC := (token_calls hR0 hne hps hd0).mono (fun e w' h => RPost.error h HT.out)
    go_enter_defers Tryz.func52, Tryz.ntmps52
    go_wp2_with fail
    refine hC.mono ?_
    rintro e w1 ⟨rfl, hk⟩
    have hsz : w.heap.size + 1 + 1 + 1 < w1.heap.size := by have := hk.size; simp at this; omega
    have c0_hk := fun o => hk.cell (b := w.heap.size) (o := o) (by simp <;> omega) (show ¬ w.heap.size = w.heap.size + 1 + 1 + 1 by omega)
    have z0_hk := fun o => hk.frozen (b := w.heap.size) (o := o) (by simp <;> omega) (show ¬ w.heap.size = w.heap.size + 1 + 1 + 1 by omega)
    have c1_hk := fun o => hk.cell (b := w.heap.size + 1) (o := o) (by simp <;> omega) (show ¬ w.heap.size + 1 = w.heap.size + 1 + 1 + 1 by omega)
    have z1_hk := fun o => hk.frozen (b := w.heap.size + 1) (o := o) (by simp <;> omega) (show ¬ w.heap.size + 1 = w.heap.size + 1 + 1 + 1 by omega)
    have c2_hk := fun o => hk.cell (b := w.heap.size + 1 + 1) (o := o) (by simp <;> omega) (show ¬ w.heap.size + 1 + 1 = w.heap.size + 1 + 1 + 1 by omega)
    have z2_hk := fun o => hk.frozen (b := w.heap.size + 1 + 1) (o := o) (by simp <;> omega) (show ¬ w.heap.size + 1 + 1 = w.heap.size + 1 + 1 + 1 by omega)
    have hkw : Keeps No w w1 := Keeps.trans' (S := No) (by (repeat' (first | with_reducible exact Keeps.refl _ _ | with_reducible refine Keeps.set ?_ (by simp <;> omega) _ | with_reducible refine Keeps.alloc ?_ _ | with_reducible refine Keeps.drewN ?_ _ | with_reducible refine Keeps.drew ?_))) hk (fun k h1 h2 => by have h2 : k = _ := h2; omega)
    simp only [tokPanic]
    refine leaves_cons (f := 63) (args := #[.pointer (some ⟨w.heap.size, 0, none⟩), .pointer (some ⟨w.heap.size + 1, 0, none⟩), .pointer (some ⟨w.heap.size + 1 + 1, 0, none⟩)]) (by simp) (by simp [go_sem]) ?_
    refine (rawCatch_panicking (by omega) (by omega) k _ (by omega) ?_ ?_ ?_ ?_ ?_ ?_).mono ?_
    · intro i hi
      rw [c0_hk, hcs]
      exact ⟨_, Array.getElem?_eq_getElem (by simpa using hi)⟩
    · intro i; rw [z0_hk]; exact hzs _ _ (by omega) (by omega)
    · exact ⟨_, by rw [c1_hk, hcs1]⟩
    · rw [z1_hk]; exact hzs _ _ (by omega) (by omega)
    · exact ⟨_, by rw [c2_hk, hcs2]⟩
    · rw [z2_hk]; exact hzs _ _ (by omega) (by omega)
    rintro e u' w2 ⟨rfl, rfl, hk2, ht0, hb1, hb2⟩
    obtain ⟨t0, t1, t2, t3, t4, t5, t6, t7⟩ := ht0
    have hke : Keeps No w w2 := hkw.trans' hk2 (fun k h1 h2 => by rcases h2 with h2 | h2 | h2 <;> omega)
    simp [Leaves, settle, results, Tryz.results52, go_sem, *]
    rfl
  | ok ts =>
    obtain ⟨t, s'⟩ := ts
    have HT := hid ht
    clear ht
    simp only
    have hC := (token_calls hR0 hne hps hd0).mono (fun e w' h => RPost.ok h HT.out)
    go_enter_defers Tryz.func52, Tryz.ntmps52
    go_wp2_with fail
    refine hC.mono ?_
    rintro e w1 ⟨rfl, hr, hk⟩
    have hsz : w.heap.size + 1 + 1 + 1 < w1.heap.size := by have := hk.size; simp at this; omega
    have c0_hk := fun o => hk.cell (b := w.heap.size) (o := o) (by simp <;> omega) (show ¬ w.heap.size = w.heap.size + 1 + 1 + 1 by omega)
    have z0_hk := fun o => hk.frozen (b := w.heap.size) (o := o) (by simp <;> omega) (show ¬ w.heap.size = w.heap.size + 1 + 1 + 1 by omega)
    have c1_hk := fun o => hk.cell (b := w.heap.size + 1) (o := o) (by simp <;> omega) (show ¬ w.heap.size + 1 = w.heap.size + 1 + 1 + 1 by omega)
    have z1_hk := fun o => hk.frozen (b := w.heap.size + 1) (o := o) (by simp <;> omega) (show ¬ w.heap.size + 1 = w.heap.size + 1 + 1 + 1 by omega)
    have c2_hk := fun o => hk.cell (b := w.heap.size + 1 + 1) (o := o) (by simp <;> omega) (show ¬ w.heap.size + 1 + 1 = w.heap.size + 1 + 1 + 1 by omega)
    have z2_hk := fun o => hk.frozen (b := w.heap.size + 1 + 1) (o := o) (by simp <;> omega) (show ¬ w.heap.size + 1 + 1 = w.heap.size + 1 + 1 + 1 by omega)
    have hkw : Keeps No w w1 := Keeps.trans' (S := No) (by (repeat' (first | with_reducible exact Keeps.refl _ _ | with_reducible refine Keeps.set ?_ (by simp <;> omega) _ | with_reducible refine Keeps.alloc ?_ _ | with_reducible refine Keeps.drewN ?_ _ | with_reducible refine Keeps.drew ?_))) hk (fun k h1 h2 => by have h2 : k = _ := h2; omega)
    have hr2 := hr.cell2
    simp only [tkV]
    clear hC hRs hR0
    have i1 : ¬ w.heap.size = w.heap.size + 1 := by omega
    have i2 : ¬ w.heap.size = w.heap.size + 1 + 1 := by omega
    have i3 : ¬ w.heap.size = w.heap.size + 1 + 1 + 1 := by omega
    have i4 : ¬ w.heap.size + 1 = w.heap.size + 1 + 1 := by omega
    have i5 : ¬ w.heap.size + 1 = w.heap.size + 1 + 1 + 1 := by omega
    have i6 : ¬ w.heap.size + 1 + 1 = w.heap.size + 1 + 1 + 1 := by omega
    go_wp2_with fail
    refine wp_world (fun W => tkCells W w.heap.size t ∧ W.cell? ⟨w.heap.size + 1 + 1 + 1, 2, none⟩ = some (.int .i64 ((L.length : Int) - s'.length)) ∧ W.cell? ⟨w.heap.size + 1, 0, none⟩ = some (.int .i64 0) ∧ W.cell? ⟨w.heap.size + 1 + 1, 0, none⟩ = some (.int .i64 0) ∧
      (∀ o, W.frozen? ⟨w.heap.size, o, none⟩ = false) ∧ (∀ o, W.frozen? ⟨w.heap.size + 1, o, none⟩ = false) ∧ (∀ o, W.frozen? ⟨w.heap.size + 1 + 1, o, none⟩ = false) ∧ Keeps No w W) ?_ ?_
    · refine ⟨⟨?_, ?_, ?_, ?_, ?_, ?_, ?_, ?_⟩, ?_, ?_, ?_, ?_, ?_, ?_, ?_⟩
      all_goals first | (simp [go_sem, *]; done) | skip
      (repeat' (first | with_reducible exact hkw | with_reducible refine Keeps.set ?_ (by simp <;> omega) _ | with_reducible refine Keeps.alloc ?_ _ | with_reducible refine Keeps.drewN ?_ _ | with_reducible refine Keeps.drew ?_))
    rintro W ⟨⟨d0, d1, d2, d3, d4, d5, d6, d7⟩, d8, e1, e2, f0, f1, f2, hkW⟩
    go_region_held3 (fun w' => w'.cell? ⟨w.heap.size, 0, none⟩ = some (.int .i64 t.kind) ∧ w'.cell? ⟨w.heap.size, 1, none⟩ = some (.int .i64 t.number) ∧ w'.cell? ⟨w.heap.size, 2, none⟩ = some (.string t.text) ∧ w'.cell? ⟨w.heap.size, 3, none⟩ = some (.bool t.not) ∧
      w'.cell? ⟨w.heap.size, 4, none⟩ = some (.int .i64 t.least) ∧ w'.cell? ⟨w.heap.size, 5, none⟩ = some (.int .i64 t.most) ∧ w'.cell? ⟨w.heap.size, 6, none⟩ = some (.int .i64 t.way) ∧ w'.cell? ⟨w.heap.size, 7, none⟩ = some (.int .i64 t.fold) ∧
      w'.cell? ⟨w.heap.size + 1 + 1 + 1, 2, none⟩ = some (.int .i64 ((L.length : Int) - s'.length))) (simp [go_sem, *]) (fail)
    all_goals go_wp2
    clear hk hsz hcs hcs1 hcs2 hzs c0_hk c1_hk c2_hk z0_hk z1_hk z2_hk
    refine (fun (F : World → Prop) (hF : F _) (h : ∀ W', F W' → bodyPostD _ _ _ _ _ W') => h _ hF)
      (fun W' => tkCells W' w.heap.size t ∧ W'.cell? ⟨w.heap.size + 1, 0, none⟩ = some (.int .i64 ((L.length : Int) - s'.length)) ∧ W'.cell? ⟨w.heap.size + 1 + 1, 0, none⟩ = some (.int .i64 0) ∧ Keeps No w W') ?_ ?_
    · refine ⟨⟨?_, ?_, ?_, ?_, ?_, ?_, ?_, ?_⟩, ?_, ?_, ?_⟩
      all_goals first | (simp [go_sem, *]; done) | skip
      (repeat' (first | with_reducible exact hkW | with_reducible refine Keeps.set ?_ (by simp <;> omega) _ | with_reducible refine Keeps.alloc ?_ _ | with_reducible refine Keeps.drewN ?_ _ | with_reducible refine Keeps.drew ?_))
    rintro W2 ⟨⟨x0, x1, x2, x3, x4, x5, x6, x7⟩, y1, y2, hk2⟩
    refine leaves_cons (f := 63) (args := #[.pointer (some ⟨w.heap.size, 0, none⟩), .pointer (some ⟨w.heap.size + 1, 0, none⟩), .pointer (some ⟨w.heap.size + 1 + 1, 0, none⟩)]) (by simp) (by simp [go_sem]) ?_
    refine (rawCatch_idle _).mono ?_
    rintro e u' w3 ⟨rfl, rfl, hk3⟩
    have hl2 := lt_of_cell y2
    simp only at hl2
    have hke : Keeps No w w3 := hk2.trans hk3
    have g0 := fun o => hk3.cell (b := w.heap.size) (o := o) (by omega) id
    have g1 := fun o => hk3.cell (b := w.heap.size + 1) (o := o) (by omega) id
    have g2 := fun o => hk3.cell (b := w.heap.size + 1 + 1) (o := o) (by omega) id
    simp [Leaves, settle, results, Tryz.results52, go_sem, *]
    rfl

end Th
end Go.Proofs

namespace Go.Proofs.Th

theorem run_suffix (p : Int → Bool) (n : Nat) (s : List Int) : (run p n s).2 <:+ s := by
  induction n generalizing s with
  | zero => cases s <;> simp [run]
  | succ n ih =>
    cases s with
    | nil => simp [run]
    | cons x t =>
      unfold run
      split
      · exact (ih t).trans (List.suffix_cons x t)
      · exact List.suffix_rfl
theorem tl (s : List Int) : s.tail <:+ s := List.tail_suffix s
theorem nameL_suffix (s : List Int) : (nameL s).2 <:+ s := by
  unfold nameL
  split
  · exact run_suffix _ _ _
  · exact List.suffix_rfl
theorem repeat_suffix (d l m : Int) (s : List Int) : (repeat_ d l m s).2 <:+ s := by
  unfold repeat_
  repeat' split
  all_goals first | exact tl s | exact List.suffix_rfl
theorem ivB_suffix (s : List Int) : (ivB s).2 <:+ s := by
  unfold ivB
  split
  · exact (run_suffix _ _ _).trans ((tl _).trans (run_suffix _ _ _))
  · exact run_suffix _ _ _
theorem ivC_suffix (d : Int) (s : List Int) : (ivC d s).2 <:+ s := by
  unfold ivC
  split
  · split
    · exact (tl _).trans (ivB_suffix s)
    · exact ivB_suffix s
  · exact ivB_suffix s
theorem interval_suffix {d : Int} {s s' : List Int} {o : Option Tk} (h : interval d s = .ok (o, s')) : s' <:+ s := by
  unfold interval at h
  cases hi : intervalL d s with
  | none => rw [hi] at h; cases h; exact List.suffix_rfl
  | some abs =>
    obtain ⟨a, b, s3⟩ := abs
    rw [hi] at h
    simp only at h
    by_cases h1 : 0 ≤ (if b = [] then -1 else decimal b) ∧ (if b = [] then -1 else decimal b) < decimal a
    · rw [if_pos h1] at h; cases h
    · rw [if_neg h1] at h
      by_cases h2 : 100 < max (decimal a) (if b = [] then -1 else decimal b)
      · rw [if_pos h2] at h; cases h
      · rw [if_neg h2] at h
        cases h
        unfold intervalL at hi
        split at hi
        · simp only [Option.some.injEq, Prod.mk.injEq] at hi
          obtain ⟨_, _, rfl⟩ := hi
          exact (repeat_suffix _ _ _ _).trans ((tl _).trans (ivC_suffix d s))
        · cases hi
theorem brace_suffix {d p : Int} {s s' : List Int} {t : Tk} (h : brace d p s = .ok (t, s')) : s' <:+ s := by
  unfold brace at h
  split at h
  · cases h
  · rename_i he; cases h; exact interval_suffix he
  · rename_i he
    split at h
    · cases h; exact interval_suffix he
    · cases h
theorem tl2 (s : List Int) : s.tail.tail <:+ s := (tl _).trans (tl s)
theorem tl3 (s : List Int) : s.tail.tail.tail <:+ s := (tl _).trans (tl2 s)
theorem tl4 (s : List Int) : s.tail.tail.tail.tail <:+ s := (tl _).trans (tl3 s)
theorem open_suffix {d : Int} {s s' : List Int} {t : Tk} (h : openT d s = .ok (t, s')) : s' <:+ s := by
  unfold openT at h
  simp only at h
  by_cases h0 : d = 1
  case neg => rw [if_pos h0] at h; cases h; exact List.suffix_rfl
  rw [if_neg (by simpa using h0)] at h
  by_cases h1 : hd s = 63
  case neg => rw [if_pos h1] at h; cases h; exact List.suffix_rfl
  rw [if_neg (by simpa using h1)] at h
  by_cases h2 : hd s.tail = 58
  · rw [if_pos h2] at h; cases h; exact tl2 _
  rw [if_neg h2] at h
  by_cases h3 : hd s.tail = 62
  · rw [if_pos h3] at h; cases h; exact tl2 _
  rw [if_neg h3] at h
  by_cases h4 : hd s.tail = 61
  · rw [if_pos h4] at h; cases h; exact tl2 _
  rw [if_neg h4] at h
  by_cases h5 : hd s.tail = 33
  · rw [if_pos h5] at h; cases h; exact tl2 _
  rw [if_neg h5] at h
  by_cases h6 : hd s.tail = 60
  · rw [if_pos h6] at h
    by_cases h7 : hd s.tail.tail = 61
    · rw [if_pos h7] at h; cases h; exact tl3 _
    rw [if_neg h7] at h
    by_cases h8 : hd s.tail.tail = 33
    · rw [if_pos h8] at h; cases h; exact tl3 _
    rw [if_neg h8] at h
    by_cases h9 : (nameL s.tail.tail).1 = []
    · rw [if_pos h9] at h; cases h
    rw [if_neg h9] at h
    by_cases h10 : hd (nameL s.tail.tail).2 = 62
    · rw [if_pos h10] at h; cases h; exact (tl _).trans ((nameL_suffix _).trans (tl2 _))
    · rw [if_neg h10] at h; cases h
  · rw [if_neg h6] at h
    have hs : (if hd s.tail = 45 then s.tail.tail else s.tail) <:+ s := by
      split
      · exact tl2 s
      · exact tl s
    generalize (if hd s.tail = 45 then s.tail.tail else s.tail) = r at *
    by_cases h7 : hd r = 105
    case neg => rw [if_pos h7] at h; cases h
    rw [if_neg (by simpa using h7)] at h
    by_cases h8 : hd r.tail = 41
    · rw [if_pos h8] at h; cases h; exact (tl2 _).trans hs
    rw [if_neg h8] at h
    by_cases h9 : hd r.tail = 58
    · rw [if_pos h9] at h; cases h; exact (tl2 _).trans hs
    · rw [if_neg h9] at h; cases h
theorem scalar_suffix {p : Int} {s s' : List Int} {t : Tk} (h : scalar p s = .ok (t, s')) : s' <:+ s := by
  unfold scalar scalarEnd at h
  repeat' split at h
  all_goals first
    | (cases h; done)
    | (cases h; first | exact run_suffix _ _ _ | exact (tl _).trans ((run_suffix _ _ _).trans (tl _)))
theorem named_suffix {s s' : List Int} {t : Tk} (h : named s = .ok (t, s')) : s' <:+ s := by
  unfold named at h
  simp only at h
  repeat' split at h
  all_goals first
    | (cases h; done)
    | (cases h; first | exact (tl _).trans ((run_suffix _ _ _).trans (tl2 _)) | exact (tl _).trans ((run_suffix _ _ _).trans (tl _)) | exact (tl _).trans ((nameL_suffix _).trans (tl _)))
theorem emacs_suffix {p : Int} {s s' : List Int} {t : Tk} (h : emacs p s = .ok (t, s')) : s' <:+ s := by
  unfold emacs at h
  repeat' split at h
  all_goals first
    | exact open_suffix h
    | exact brace_suffix h
    | (cases h; exact List.suffix_rfl)
theorem escaped_suffix {d : Int} {s s' : List Int} {t : Tk} (h : escaped d s = .ok (t, s')) : s' <:+ s := by
  cases s with
  | nil => simp [escaped] at h
  | cons p s =>
    simp only [escaped] at h
    have hc := List.suffix_cons p s
    repeat' split at h
    all_goals first
      | (cases h; exact hc)
      | exact (emacs_suffix h).trans hc
      | exact (scalar_suffix h).trans hc
      | exact (named_suffix h).trans hc
      | (cases h; exact run_suffix _ _ _)
      | (cases h; done)
theorem token_suffix {d p : Int} {s s' : List Int} {t : Tk} (h : token d (p :: s) = .ok (t, s')) : s' <:+ s := by
  simp only [token] at h
  by_cases N46 : p = 46
  · rw [if_pos N46] at h; cases h; exact List.suffix_rfl
  rw [if_neg N46] at h
  by_cases N94 : p = 94
  · rw [if_pos N94] at h; cases h; exact List.suffix_rfl
  rw [if_neg N94] at h
  by_cases N36 : p = 36
  · rw [if_pos N36] at h; cases h; exact List.suffix_rfl
  rw [if_neg N36] at h
  by_cases N91 : p = 91
  · rw [if_pos N91] at h; cases h; exact List.suffix_rfl
  rw [if_neg N91] at h
  by_cases N42 : p = 42
  · rw [if_pos N42] at h; have h2 := Except.ok.inj h; rw [show s' = (t, s').2 from rfl, ← h2]; exact repeat_suffix _ _ _ _
  rw [if_neg N42] at h
  by_cases N43 : p = 43
  · rw [if_pos N43] at h; have h2 := Except.ok.inj h; rw [show s' = (t, s').2 from rfl, ← h2]; exact repeat_suffix _ _ _ _
  rw [if_neg N43] at h
  by_cases N63 : p = 63
  · rw [if_pos N63] at h; have h2 := Except.ok.inj h; rw [show s' = (t, s').2 from rfl, ← h2]; exact repeat_suffix _ _ _ _
  rw [if_neg N63] at h
  by_cases N92 : p = 92
  · rw [if_pos N92] at h; exact escaped_suffix h
  rw [if_neg N92] at h
  by_cases N3 : d = 3
  · rw [if_pos N3] at h; cases h; exact List.suffix_rfl
  rw [if_neg N3] at h
  by_cases N40 : p = 40
  · rw [if_pos N40] at h; exact open_suffix h
  rw [if_neg N40] at h
  by_cases N41 : p = 41
  · rw [if_pos N41] at h; cases h; exact List.suffix_rfl
  rw [if_neg N41] at h
  by_cases N124 : p = 124
  · rw [if_pos N124] at h; cases h; exact List.suffix_rfl
  rw [if_neg N124] at h
  by_cases N123 : p = 123
  · rw [if_pos N123] at h; exact brace_suffix h
  rw [if_neg N123] at h
  cases h
  exact List.suffix_rfl

theorem ne1 {α : Type} {n : Int} (h : (Except.error 1 : Except Int α) = .error n) : n ≠ 0 := by cases h; decide
theorem ne2 {α : Type} {n : Int} (h : (Except.error 2 : Except Int α) = .error n) : n ≠ 0 := by cases h; decide
theorem ne3 {α : Type} {n : Int} (h : (Except.error 3 : Except Int α) = .error n) : n ≠ 0 := by cases h; decide
theorem nok {α : Type} {n : Int} {x : α} (h : (Except.ok x : Except Int α) = .error n) : n ≠ 0 := by cases h

theorem interval_error {d n : Int} {s : List Int} (h : interval d s = .error n) : n ≠ 0 := by
  unfold interval at h
  cases hi : intervalL d s with
  | none => rw [hi] at h; exact nok h
  | some abs =>
    obtain ⟨a, b, s3⟩ := abs
    rw [hi] at h
    simp only at h
    by_cases h1 : 0 ≤ (if b = [] then -1 else decimal b) ∧ (if b = [] then -1 else decimal b) < decimal a
    · rw [if_pos h1] at h; exact ne3 h
    · rw [if_neg h1] at h
      by_cases h2 : 100 < max (decimal a) (if b = [] then -1 else decimal b)
      · rw [if_pos h2] at h; exact ne2 h
      · rw [if_neg h2] at h; exact nok h
theorem brace_error {d p n : Int} {s : List Int} (h : brace d p s = .error n) : n ≠ 0 := by
  unfold brace at h
  split at h
  · rename_i he; cases h; exact interval_error he
  · exact nok h
  · split at h
    · exact nok h
    · exact ne1 h
theorem open_error {d n : Int} {s : List Int} (h : openT d s = .error n) : n ≠ 0 := by
  unfold openT at h
  simp only at h
  by_cases h0 : d = 1
  case neg => rw [if_pos h0] at h; exact nok h
  rw [if_neg (by simpa using h0)] at h
  by_cases h1 : hd s = 63
  case neg => rw [if_pos h1] at h; exact nok h
  rw [if_neg (by simpa using h1)] at h
  by_cases h2 : hd s.tail = 58
  · rw [if_pos h2] at h; exact nok h
  rw [if_neg h2] at h
  by_cases h3 : hd s.tail = 62
  · rw [if_pos h3] at h; exact nok h
  rw [if_neg h3] at h
  by_cases h4 : hd s.tail = 61
  · rw [if_pos h4] at h; exact nok h
  rw [if_neg h4] at h
  by_cases h5 : hd s.tail = 33
  · rw [if_pos h5] at h; exact nok h
  rw [if_neg h5] at h
  by_cases h6 : hd s.tail = 60
  · rw [if_pos h6] at h
    by_cases h7 : hd s.tail.tail = 61
    · rw [if_pos h7] at h; exact nok h
    rw [if_neg h7] at h
    by_cases h8 : hd s.tail.tail = 33
    · rw [if_pos h8] at h; exact nok h
    rw [if_neg h8] at h
    by_cases h9 : (nameL s.tail.tail).1 = []
    · rw [if_pos h9] at h; exact ne1 h
    rw [if_neg h9] at h
    by_cases h10 : hd (nameL s.tail.tail).2 = 62
    · rw [if_pos h10] at h; exact nok h
    · rw [if_neg h10] at h; exact ne1 h
  · rw [if_neg h6] at h
    generalize (if hd s.tail = 45 then s.tail.tail else s.tail) = r at *
    by_cases h7 : hd r = 105
    case neg => rw [if_pos h7] at h; exact ne1 h
    rw [if_neg (by simpa using h7)] at h
    by_cases h8 : hd r.tail = 41
    · rw [if_pos h8] at h; exact nok h
    rw [if_neg h8] at h
    by_cases h9 : hd r.tail = 58
    · rw [if_pos h9] at h; exact nok h
    · rw [if_neg h9] at h; exact ne1 h
theorem scalar_error {p n : Int} {s : List Int} (h : scalar p s = .error n) : n ≠ 0 := by
  unfold scalar scalarEnd at h
  repeat' split at h
  all_goals first | exact ne1 h | exact ne3 h | exact nok h
theorem named_error {n : Int} {s : List Int} (h : named s = .error n) : n ≠ 0 := by
  unfold named at h
  simp only at h
  repeat' split at h
  all_goals first | exact ne1 h | exact ne3 h | exact nok h
theorem emacs_error {p n : Int} {s : List Int} (h : emacs p s = .error n) : n ≠ 0 := by
  unfold emacs at h
  repeat' split at h
  all_goals first | exact open_error h | exact brace_error h | exact nok h
theorem escaped_error {d n : Int} {s : List Int} (h : escaped d s = .error n) : n ≠ 0 := by
  cases s with
  | nil => exact ne1 h
  | cons p s =>
    simp only [escaped] at h
    repeat' split at h
    all_goals first | exact nok h | exact ne1 h | exact emacs_error h | exact scalar_error h | exact named_error h
theorem token_error {d n : Int} {s : List Int} (h : token d s = .error n) : n ≠ 0 := by
  cases s with
  | nil => exact nok h
  | cons p s =>
    simp only [token] at h
    by_cases N46 : p = 46
    · rw [if_pos N46] at h; exact nok h
    rw [if_neg N46] at h
    by_cases N94 : p = 94
    · rw [if_pos N94] at h; exact nok h
    rw [if_neg N94] at h
    by_cases N36 : p = 36
    · rw [if_pos N36] at h; exact nok h
    rw [if_neg N36] at h
    by_cases N91 : p = 91
    · rw [if_pos N91] at h; exact nok h
    rw [if_neg N91] at h
    by_cases N42 : p = 42
    · rw [if_pos N42] at h; exact nok h
    rw [if_neg N42] at h
    by_cases N43 : p = 43
    · rw [if_pos N43] at h; exact nok h
    rw [if_neg N43] at h
    by_cases N63 : p = 63
    · rw [if_pos N63] at h; exact nok h
    rw [if_neg N63] at h
    by_cases N92 : p = 92
    · rw [if_pos N92] at h; exact escaped_error h
    rw [if_neg N92] at h
    by_cases N3 : d = 3
    · rw [if_pos N3] at h; exact nok h
    rw [if_neg N3] at h
    by_cases N40 : p = 40
    · rw [if_pos N40] at h; exact open_error h
    rw [if_neg N40] at h
    by_cases N41 : p = 41
    · rw [if_pos N41] at h; exact nok h
    rw [if_neg N41] at h
    by_cases N124 : p = 124
    · rw [if_pos N124] at h; exact nok h
    rw [if_neg N124] at h
    by_cases N123 : p = 123
    · rw [if_pos N123] at h; exact brace_error h
    rw [if_neg N123] at h
    exact nok h

end Go.Proofs.Th
