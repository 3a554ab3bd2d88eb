/- The parser: names that are looked for. The parser: a group that opens, up to its pattern. -/
import Derived.Test.YthjjfgpainleaaaGreatGI
import Derived.Test.YthjjfgpainleaaaGreatGE
import Derived.Deep.RegionLaw

set_option linter.unusedSimpArgs false
set_option linter.unusedVariables false
set_option linter.all false

namespace Go.Proofs
namespace Th
open Go.RowKit

theorem bytes_beq (n t : ByteArray) : (n.toList == t.toList) = (n == t) := by
  rw [ByteArray.toList_eq, ByteArray.toList_eq]
  show (n.data.toList == t.data.toList) = (n.data == t.data)
  rw [Bool.eq_iff_iff, beq_iff_eq, beq_iff_eq, Array.toList_inj]
theorem bytes_beq_iff {n t : ByteArray} : (n == t) = true ↔ n = t := by
  have h : (n == t) = (n.data == t.data) := rfl
  rw [h, beq_iff_eq]
  constructor
  · intro h; cases n; cases t; simp at h; rw [h]
  · intro h; rw [h]

theorem nameCells_at {l : List (ByteArray × Int)} {j : Nat} (hj : j < l.length) : (nameCells l)[j * 2]? = some (.string l[j].1) ∧ (nameCells l)[j * 2 + 1]? = some (.int .i64 l[j].2) := by
  induction l generalizing j with
  | nil => simp at hj
  | cons x l ih =>
    have hc : nameCells (x :: l) = .string x.1 :: .int .i64 x.2 :: nameCells l := rfl
    rw [hc]
    cases j with
    | zero => simp
    | succ j =>
      have := ih (j := j) (by simpa using hj)
      rw [show (j + 1) * 2 = j * 2 + 1 + 1 from by omega]
      simpa using this

/-- The place of the first name that is this one. -/
def nameAt (l : List (ByteArray × Int)) (t : ByteArray) : Option Nat := l.findIdx? fun x => x.1 == t

def IdxPost (l : List (ByteArray × Int)) (t : ByteArray) (r : Int) : Prop := match nameAt l t with | some i => r = i | none => r = -1

/-- A closure that asks whether a name is this one. -/
def NameTells (g : Nat) (p : Addr) (t : ByteArray) (W : World) : Prop := ∀ W', Keeps No W W' → ∀ (n : ByteArray) (m : Int), Calls Tryz.prog g #[.agg #[.string n, .int .i64 m], .pointer (some p)] W' fun e w' => e = .returned (.bool (n == t)) ∧ Keeps No W' w'

theorem open1_tells {W : World} {b : Nat} {t : ByteArray} (h : W.cell? ⟨b, 2, none⟩ = some (.string t)) : NameTells 85 ⟨b, 0, none⟩ t W := by
  intro W' hk n m
  have hb : b < W.heap.size := lt_of_cell h
  have h' : W'.cell? ⟨b, 2, none⟩ = some (.string t) := (hk.cell hb id).trans h
  have hb' : b < W'.heap.size := lt_of_cell h'
  clear h hb hk
  go_enter Tryz.func85, Tryz.ntmps85
  go_wp2
  go_ret
  exact ⟨ret_eq (congrArg Value.bool (bytes_beq n t)), by (repeat' (first | with_reducible exact Keeps.refl _ _ | with_reducible refine Keeps.set ?_ (by simp <;> omega) _ | with_reducible refine Keeps.alloc ?_ _ | with_reducible refine Keeps.drewN ?_ _ | with_reducible refine Keeps.drew ?_))⟩
theorem settle1_tells {W : World} {b : Nat} {t : ByteArray} (h : W.cell? ⟨b, 2, none⟩ = some (.string t)) : NameTells 41 ⟨b, 0, none⟩ t W := by
  intro W' hk n m
  have hb : b < W.heap.size := lt_of_cell h
  have h' : W'.cell? ⟨b, 2, none⟩ = some (.string t) := (hk.cell hb id).trans h
  have hb' : b < W'.heap.size := lt_of_cell h'
  clear h hb hk
  go_enter Tryz.func41, Tryz.ntmps41
  go_wp2
  go_ret
  exact ⟨ret_eq (congrArg Value.bool (bytes_beq n t)), by (repeat' (first | with_reducible exact Keeps.refl _ _ | with_reducible refine Keeps.set ?_ (by simp <;> omega) _ | with_reducible refine Keeps.alloc ?_ _ | with_reducible refine Keeps.drewN ?_ _ | with_reducible refine Keeps.drew ?_))⟩
theorem open1_enters : Enters 85 := fun _ _ => by kernel_rfl
theorem settle1_enters : Enters 41 := fun _ _ => by kernel_rfl

set_option maxHeartbeats 1000000 in
theorem indexName_calls {g : Nat} {p : Addr} {t : ByteArray} (eg : Enters g) {w : World} (hp : NameTells g p t w) {v : Value} {l : List (ByteArray × Int)} {Fl : List Nat} (hv : SliceV w 44 2 v l.length (nameCells l) Fl) (hl : l.length ≤ 1000) :
    Calls Tryz.prog 40 #[v, .func (.func g) #[] #[.pointer (some p)]] w fun e w' => (∃ r : Int, e = .returned (.int .i64 r) ∧ IdxPost l t r) ∧ Keeps No w w' := by
  obtain ⟨A, c, rfl⟩ := hv.slice
  generalize hn : l.length = n at *
  have HN := hid hn
  have hp' := hid hp
  clear hn hp
  go_enter Tryz.func40, Tryz.ntmps40
  go_wp2
  go_loopw [8] (fun i wr => ∃ k : Nat, k ≤ n ∧ i = .int .i64 k ∧ (∀ j (hj : j < l.length), j < k → (l[j].1 == t) = false) ∧ Keeps No w wr) (fun i _ => n - (intOf i).toNat)
  case atStart => exact ⟨0, by omega, rfl, fun _ _ h => absurd h (by omega), by (repeat' (first | with_reducible exact Keeps.refl _ _ | with_reducible refine Keeps.set ?_ (by simp <;> omega) _ | with_reducible refine Keeps.alloc ?_ _ | with_reducible refine Keeps.drewN ?_ _ | with_reducible refine Keeps.drew ?_))⟩
  case round =>
    obtain ⟨k, hk, rfl, hall, hkw⟩ := hrel
    by_cases hlt : k < n
    · have hkl : k < l.length := by rw [HN.out]; exact hlt
      obtain ⟨ga, cap, hA, _, hcap, hmax, hg, hce⟩ := hv.cells hlt
      injection hA with hA _ hcc
      subst hA hcc
      have c0 := (hkw.cell hg id).trans (hce 0 (by omega))
      have c1 := (hkw.cell hg id).trans (hce 1 (by omega))
      rw [Nat.add_zero, (nameCells_at hkl).1] at c0
      rw [(nameCells_at hkl).2] at c1
      have hyes : (l[k].1 == t) = true → nameAt l t = some k := fun e => by
        unfold nameAt
        rw [List.findIdx?_eq_some_iff_getElem]
        exact ⟨hkl, e, fun j hj => by have := hall j (by omega) hj; simp [this]⟩
      have hno : (l[k].1 == t) = false → ∀ j (hj : j < l.length), j < k + 1 → (l[j].1 == t) = false := by
        intro e j hj hjk
        rcases Nat.lt_or_ge j k with x | x
        · exact hall j hj x
        · obtain rfl : j = k := by omega
          exact e
      generalize l[k] = x at *
      obtain ⟨xn, xm⟩ := x
      have eg' : ∀ (args : Array Value) (w : World), (callFunc g args).run Tryz.prog w = .ok (.enter g args) w := eg
      simp only at c0 c1 hyes hno
      have hq := hid (hp'.out wr hkw xn xm)
      generalize hpv : (xn == t) = pv at hq hyes hno
      have HY := hid hyes
      have HNo := hid hno
      clear hpv hyes hno hall eg hv hce
      go_wp2_with fail
      refine hq.out.mono ?_
      rintro e w1 ⟨rfl, hk1⟩
      have hkw1 := hkw.trans hk1
      cases pv
      · go_wp2_with fail
        go_roundw
        case rel => exact ⟨k + 1, by omega, by go_num, HNo.out (by simp), hkw1⟩
        case measure => simp [intOf]; omega
      · go_wp2_with fail
        go_ret
        exact ⟨⟨k, rfl, by have e := HY.out (by simp); unfold IdxPost; rw [e]⟩, hkw1⟩
    · obtain rfl : k = n := by omega
      have hno : nameAt l t = none := by
        unfold nameAt
        rw [List.findIdx?_eq_none_iff]
        intro x hx
        obtain ⟨j, hj, rfl⟩ := List.getElem_of_mem hx
        exact hall j hj (by rw [← HN.out]; exact hj)
      have hno' := hid hno
      clear hno hall
      go_wp2
      go_ret
      exact ⟨⟨-1, rfl, by unfold IdxPost; rw [hno'.out]⟩, hkw⟩

theorem nameAt_any {l : List (ByteArray × Int)} {t : ByteArray} : (nameAt l t).isSome = l.any fun x => x.1 == t := by
  unfold nameAt
  rw [List.findIdx?_isSome]

set_option maxHeartbeats 400000 in
theorem containsName_calls {g : Nat} {p : Addr} {t : ByteArray} (eg : Enters g) {w : World} (hp : NameTells g p t w) {v : Value} {l : List (ByteArray × Int)} {Fl : List Nat} (hv : SliceV w 44 2 v l.length (nameCells l) Fl) (hl : l.length ≤ 1000) :
    Calls Tryz.prog 84 #[v, .func (.func g) #[] #[.pointer (some p)]] w fun e w' => e = .returned (.bool (l.any fun x => x.1 == t)) ∧ Keeps No w w' := by
  have hc := indexName_calls eg hp hv hl
  obtain ⟨A, c, rfl⟩ := hv.slice
  rw [← nameAt_any]
  unfold IdxPost at hc
  generalize nameAt l t = o at hc ⊢
  generalize l.length = n at *
  have hc' := hid hc
  clear hc hv hp
  cases o with
  | none =>
    go_enter Tryz.func84, Tryz.ntmps84
    go_wp2_with fail
    refine hc'.out.mono ?_
    rintro e w1 ⟨⟨r, rfl, hr⟩, hk⟩
    have hr : r = _ := hr
    subst hr
    go_wp2_with fail
    go_ret
    exact ⟨rfl, hk⟩
  | some i =>
    go_enter Tryz.func84, Tryz.ntmps84
    go_wp2_with fail
    refine hc'.out.mono ?_
    rintro e w1 ⟨⟨r, rfl, hr⟩, hk⟩
    have hr : r = _ := hr
    subst hr
    have : decide ((0 : Int) ≤ (i : Int)) = true := by simp
    go_wp2_with fail
    go_ret
    exact ⟨rfl, hk⟩

end Th
end Go.Proofs

namespace Go.Proofs
namespace Th
open Go.RowKit

attribute [local go_sem ↓] Go.wp_at_zero Go.wp_at_succ

/-- A node's box with a kind and a number. -/
def OutAt (w : World) (b : Nat) (k n : Int) : Prop :=
  w.cell? ⟨b, 0, none⟩ = some (.int .i64 k) ∧ w.cell? ⟨b, 1, none⟩ = some (.slice none 0 0) ∧ w.cell? ⟨b, 2, none⟩ = some (.slice none 0 0) ∧ w.cell? ⟨b, 3, none⟩ = some (.int .i64 n) ∧ w.cell? ⟨b, 4, none⟩ = some (.int .i64 0) ∧
    w.cell? ⟨b, 5, none⟩ = some (.int .i64 0) ∧ w.cell? ⟨b, 6, none⟩ = some (.int .i64 0) ∧ w.cell? ⟨b, 7, none⟩ = some (.bool false) ∧ ∀ o, w.frozen? ⟨b, o, none⟩ = false
theorem OutAt.keep {S : Nat → Prop} {w w' : World} {b : Nat} {k n : Int} (h : OutAt w b k n) (hk : Keeps S w w') (hs : ¬ S b) : OutAt w' b k n := by
  have hb : b < w.heap.size := lt_of_cell h.1
  obtain ⟨x0, x1, x2, x3, x4, x5, x6, x7, x8⟩ := h
  exact ⟨(hk.cell hb hs).trans x0, (hk.cell hb hs).trans x1, (hk.cell hb hs).trans x2, (hk.cell hb hs).trans x3, (hk.cell hb hs).trans x4, (hk.cell hb hs).trans x5, (hk.cell hb hs).trans x6, (hk.cell hb hs).trans x7, fun o => (hk.frozen hb hs).trans (x8 o)⟩

theorem str_ne {t : ByteArray} (h : t ≠ ⟨#[]⟩) : (!t.toList.isEmpty) = true := by
  rw [ByteArray.toList_eq]
  cases t with | mk d => cases d with | mk l => cases l with | nil => exact absurd rfl h | cons _ _ => rfl
theorem empty_str : (⟨#[]⟩ : ByteArray).toList = [] := by rw [ByteArray.toList_eq]

set_option maxRecDepth 100000 in
set_option maxHeartbeats 1000000 in
theorem open_deep {w : World} {P : Nat} {d : Int} {L : List Int} {σ : Pst} {F : List Nat} (h : PsAt w P d L σ F) (t : Tk) (f : Int) (hd : σ.deep = 20) :
    Calls Tryz.prog 62 #[.pointer (some ⟨P, 0, none⟩), tkV t, .int .i64 f] w (PPost P d L F (.error (2, f)) w) := by
  obtain ⟨A0, c0, v6, v7', h0, h1, h2, h3, h4, h5, h6, h7, h8⟩ := h.cells
  have hP := h.lt
  have hal := h.alive
  have hP1 : P < w.heap.size + 1 := by omega
  have hP2 : P < w.heap.size + 1 + 1 := by omega
  have hP3 : P < w.heap.size + 1 + 1 + 1 := by omega
  have hi1 : ¬ P = w.heap.size := by omega
  have hi2 : ¬ w.heap.size = P := by omega
  have hi3 : ¬ P = w.heap.size + 1 := by omega
  have hi4 : ¬ w.heap.size + 1 = P := by omega
  have hi5 : ¬ P = w.heap.size + 1 + 1 := by omega
  have hi6 : ¬ w.heap.size + 1 + 1 = P := by omega
  rw [hd] at h4
  clear h hd
  simp only [tkV]
  go_enter Tryz.func62, Tryz.ntmps62
  go_wp2_with fail
  refine (pfail_calls _ _ _).mono ?_
  rintro e w2 ⟨rfl, rfl⟩
  exact ⟨rfl, rfl, by (repeat' (first | with_reducible exact Keeps.refl _ _ | with_reducible refine Keeps.set ?_ (by simp <;> omega) _ | with_reducible refine Keeps.alloc ?_ _ | with_reducible refine Keeps.drewN ?_ _ | with_reducible refine Keeps.drew ?_)), by (repeat' (first | with_reducible exact hal | with_reducible refine Alive.set ?_ | with_reducible refine Alive.alloc ?_ | with_reducible refine Alive.drewN ?_ | with_reducible refine Alive.drew ?_))⟩

set_option maxRecDepth 100000 in
set_option maxHeartbeats 1000000 in
theorem open_groups {w : World} {P : Nat} {d : Int} {L : List Int} {σ : Pst} {F : List Nat} (h : PsAt w P d L σ F) (t : Tk) (f : Int) (hd : ¬ σ.deep = 20) (hn : t.number = 11) (hg : σ.groups = 20) :
    Calls Tryz.prog 62 #[.pointer (some ⟨P, 0, none⟩), tkV t, .int .i64 f] w (PPost P d L F (.error (2, f)) w) := by
  obtain ⟨A0, c0, v6, v7', h0, h1, h2, h3, h4, h5, h6, h7, h8⟩ := h.cells
  have hP := h.lt
  have hal := h.alive
  have hP1 : P < w.heap.size + 1 := by omega
  have hP2 : P < w.heap.size + 1 + 1 := by omega
  have hP3 : P < w.heap.size + 1 + 1 + 1 := by omega
  have hi1 : ¬ P = w.heap.size := by omega
  have hi2 : ¬ w.heap.size = P := by omega
  have hi3 : ¬ P = w.heap.size + 1 := by omega
  have hi4 : ¬ w.heap.size + 1 = P := by omega
  have hi5 : ¬ P = w.heap.size + 1 + 1 := by omega
  have hi6 : ¬ w.heap.size + 1 + 1 = P := by omega
  rw [hg] at h5
  have hd' : ((σ.deep : Int) == 20) = false := beq_eq_false_iff_ne.2 (by omega)
  obtain ⟨kind, number, text, nt, least, most, way, fold⟩ := t
  simp only at hn
  subst hn
  clear h hd hg
  simp only [tkV]
  go_enter Tryz.func62, Tryz.ntmps62
  go_wp2_with fail
  refine (pfail_calls _ _ _).mono ?_
  rintro e w2 ⟨rfl, rfl⟩
  exact ⟨rfl, rfl, by (repeat' (first | with_reducible exact Keeps.refl _ _ | with_reducible refine Keeps.set ?_ (by simp <;> omega) _ | with_reducible refine Keeps.alloc ?_ _ | with_reducible refine Keeps.drewN ?_ _ | with_reducible refine Keeps.drew ?_)), by (repeat' (first | with_reducible exact hal | with_reducible refine Alive.set ?_ | with_reducible refine Alive.alloc ?_ | with_reducible refine Alive.drewN ?_ | with_reducible refine Alive.drew ?_))⟩

theorem PsAt.names {w : World} {P : Nat} {d : Int} {L : List Int} {σ : Pst} {F : List Nat} (h : PsAt w P d L σ F) : ∃ v6 Fl, w.cell? ⟨P, 6, none⟩ = some v6 ∧ SliceV w 44 2 v6 σ.names.length (nameCells σ.names) Fl ∧ ∀ g ∈ Fl, P < g := by
  obtain ⟨v6, v7, h6, h7, o6, o7, _⟩ := h.own
  exact ⟨v6, _, h6, SliceV.of_own o6, fun g hg => (o6.lt g (by simpa using hg)).1⟩

set_option maxRecDepth 100000 in
set_option maxHeartbeats 1000000 in
theorem open_twice {w : World} {P : Nat} {d : Int} {L : List Int} {σ : Pst} {F : List Nat} (h : PsAt w P d L σ F) (t : Tk) (f : Int) (hd : ¬ σ.deep = 20) (hn : t.number = 11) (hg : ¬ σ.groups = 20) (ht : t.text ≠ ⟨#[]⟩) (ha : σ.names.any (fun x => x.1 == t.text) = true) :
    Calls Tryz.prog 62 #[.pointer (some ⟨P, 0, none⟩), tkV t, .int .i64 f] w (PPost P d L F (.error (6, f)) w) := by
  obtain ⟨A0, c0, v6', v7', h0, h1, h2, h3, h4, h5, h6, h7, h8⟩ := h.cells
  obtain ⟨v6, Fl, h6', hv, hvl⟩ := h.names
  obtain ⟨-, -, -, -, -, -, hl20, -⟩ := h.own
  rw [h6] at h6'
  injection h6' with h6'
  subst h6'
  have hP := h.lt
  have hal := h.alive
  have hP1 : P < w.heap.size + 1 := by omega
  have hP2 : P < w.heap.size + 1 + 1 := by omega
  have hP3 : P < w.heap.size + 1 + 1 + 1 := by omega
  have hi1 : ¬ P = w.heap.size := by omega
  have hi2 : ¬ w.heap.size = P := by omega
  have hi3 : ¬ P = w.heap.size + 1 := by omega
  have hi4 : ¬ w.heap.size + 1 = P := by omega
  have hi5 : ¬ P = w.heap.size + 1 + 1 := by omega
  have hi6 : ¬ w.heap.size + 1 + 1 = P := by omega
  have hg20 : σ.groups ≤ 20 := by obtain ⟨A, c, v6, v7, h0, h1, h2, h3, h4, h5, h6, h7, h8, h9, h10, h11, h12, h13, h14, h15, h16, h17, h18, h19, h20, h21, _⟩ := h.facts; exact h21
  have hd' : ((σ.deep : Int) == 20) = false := beq_eq_false_iff_ne.2 (by omega)
  have hg' : ((σ.groups : Int) == 20) = false := beq_eq_false_iff_ne.2 (by omega)
  have hg0 : (0 : Int) ≤ (σ.groups : Int) := by omega
  have hgi : (σ.groups : Int) ≤ 20 := by omega
  obtain ⟨kind, number, text, nt, least, most, way, fold⟩ := t
  simp only at hn ht ha
  subst hn
  have HA := hid ha
  have ht1 := str_ne ht
  have hmf : ∀ (fn : Fn) (first cap : Array Value) (w : World), (Instr.makeFunc fn first cap).run Tryz.prog w = .ok (.func fn first cap) w := fun _ _ _ _ => rfl
  have hlist := h.lists
  clear h hd hg ha
  simp only [tkV]
  go_enter Tryz.func62, Tryz.ntmps62
  go_wp2_with fail
  refine (containsName_calls (t := text) open1_enters (open1_tells (by simp [go_sem, *])) (hv.keeps (S := But P) (by (repeat' (first | with_reducible exact Keeps.refl _ _ | with_reducible refine Keeps.set ?_ (by simp <;> omega) _ | with_reducible refine Keeps.alloc ?_ _ | with_reducible refine Keeps.drewN ?_ _ | with_reducible refine Keeps.drew ?_))) (fun g hg e => by have e : g = _ := e; have := hvl g hg; omega)) (by omega)).mono ?_
  rintro e w1 ⟨rfl, hk1⟩
  rw [HA.out]
  have hk1w : Keeps (fun k => k = P ∨ k ∈ F) w w1 := Keeps.trans (by (repeat' (first | with_reducible exact Keeps.refl _ _ | with_reducible refine Keeps.set ?_ (by simp <;> omega) _ | with_reducible refine Keeps.alloc ?_ _ | with_reducible refine Keeps.drewN ?_ _ | with_reducible refine Keeps.drew ?_))) (hk1.mono (fun _ h => h.elim))
  have hal1 : Alive w1 P := Alive.keep (by (repeat' (first | with_reducible exact hal | with_reducible refine Alive.set ?_ | with_reducible refine Alive.alloc ?_ | with_reducible refine Alive.drewN ?_ | with_reducible refine Alive.drew ?_))) hk1 id
  go_wp2_with fail
  refine (pfail_calls _ _ _).mono ?_
  rintro e w2 ⟨rfl, rfl⟩
  exact ⟨rfl, rfl, by (repeat' (first | with_reducible exact hk1w | with_reducible refine Keeps.set ?_ (by simp <;> omega) _ | with_reducible refine Keeps.alloc ?_ _ | with_reducible refine Keeps.drewN ?_ _ | with_reducible refine Keeps.drew ?_)), by (repeat' (first | with_reducible exact hal1 | with_reducible refine Alive.set ?_ | with_reducible refine Alive.alloc ?_ | with_reducible refine Alive.drewN ?_ | with_reducible refine Alive.drew ?_))⟩

end Th
end Go.Proofs
