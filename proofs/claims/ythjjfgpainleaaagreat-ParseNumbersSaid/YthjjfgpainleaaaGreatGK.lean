/- The parser: a group that opens. The parser: how deep it stands; open, by its spec. -/
import Derived.Test.YthjjfgpainleaaaGreatGP
import Derived.Deep.RegionLaw

set_option linter.unusedSimpArgs false
set_option linter.unusedVariables false
set_option linter.all false

namespace Go.Proofs
namespace Th
open Go.RowKit

attribute [local go_sem ↓] Go.wp_at_zero Go.wp_at_succ

/-- Behind what opens: groups, names. -/
def opened (number : Int) (text : ByteArray) (σ : Pst) : Pst := if number = 11 then { σ with groups := σ.groups + 1, names := if text ≠ ⟨#[]⟩ then σ.names ++ [(text, (σ.groups : Int) + 1)] else σ.names } else σ
def openNum (number : Int) (σ : Pst) : Int := if number = 11 then (σ.groups : Int) + 1 else 0
/-- What stands in brackets. -/
def inside (number : Int) (text : ByteArray) (fold : Int) (σ : Pst) : Pst := { opened number text σ with folded := if fold ≠ 0 then decide (0 < fold) else σ.folded, deep := σ.deep + 1 }

/-- A node over a row of nodes, with a number. -/
theorem node_over {w : World} {v : Value} {ts : List Nd} {xo : List Value} {Fk G : List Nat} (hsl : SliceV w 27 8 v ts.length xo Fk) (hG : NodesRep w xo ts G) (kind number : Int) :
    NodeRep w [.int .i64 kind, nilS, v, .int .i64 number, .int .i64 0, .int .i64 0, .int .i64 0, .bool false] (.mk kind [] ts number 0 0 0 false) (Fk ++ G) := by
  have := NodeRep.mk (kind := kind) (number := number) (least := 0) (most := 0) (way := 0) (fold := false) (SliceV.nil w 85 2) hsl hG (set := [])
  simpa [nilS] using this

/-- Behind what stands in brackets. -/
def openRest (d n : Int) (number num : Int) (σ : Pst) : Except Flt (Nd × Pst) → Except Flt (Nd × Pst)
  | .error f => .error f
  | .ok (x, σ3) =>
    match nextL d n σ3.s with
    | .error f => .error f
    | .ok none => .error (1, posOf n σ3.s)
    | .ok (some (t2, s2)) =>
      if t2.kind ≠ 8 then .error (1, posOf n σ3.s)
      else if number = 1 then .ok (x, { σ3 with s := s2, deep := σ.deep, folded := σ.folded })
      else .ok (.mk number [] [x] num 0 0 0 false, { σ3 with s := s2, deep := σ.deep, folded := σ.folded })
theorem opened_folded (number : Int) (text : ByteArray) (σ : Pst) : (opened number text σ).folded = σ.folded := by unfold opened; split <;> rfl
theorem opened_deep (number : Int) (text : ByteArray) (σ : Pst) : (opened number text σ).deep = σ.deep := by unfold opened; split <;> rfl

/-- Where the walk of 'open' stands ahead of the pattern. -/
def OpenAt (w : World) (P : Nat) (d : Int) (L : List Int) (F : List Nat) (σ1 : Pst) (number num fold : Int) (W : World) : Prop :=
  ∃ F1, PsAt W P d L σ1 F1 ∧ Grew (w.heap.size + 3) F F1 ∧ W.cell? ⟨w.heap.size, 1, none⟩ = some (.int .i64 number) ∧ W.cell? ⟨w.heap.size, 7, none⟩ = some (.int .i64 fold) ∧ NdAt W (w.heap.size + 1) ∧ OutAt W (w.heap.size + 1 + 1) number num ∧
    Keeps (fun k => k = P ∨ k ∈ F) w W ∧ w.heap.size + 1 + 1 < W.heap.size

theorem NdAt.of_block {w : World} {B : Nat} (h : w.heap[B]? = some ndBox) : NdAt w B := by
  have hc : ∀ o, w.cell? ⟨B, o, none⟩ = (#[.int .i64 0, .slice none 0 0, .slice none 0 0, .int .i64 0, .int .i64 0, .int .i64 0, .int .i64 0, .bool false] : Array Value)[o]? := fun o => cell_of_row w B o _ _ (0, 0) h
  refine ⟨hc 0, hc 1, hc 2, hc 3, hc 4, hc 5, hc 6, hc 7, fun o => ?_⟩
  simp [World.frozen?, h]
theorem OutAt.of_block {w : World} {B : Nat} {k n : Int} (h : w.heap[B]? = some (.cells #[.int .i64 k, .slice none 0 0, .slice none 0 0, .int .i64 n, .int .i64 0, .int .i64 0, .int .i64 0, .bool false] 27)) : OutAt w B k n := by
  have hc : ∀ o, w.cell? ⟨B, o, none⟩ = (#[.int .i64 k, .slice none 0 0, .slice none 0 0, .int .i64 n, .int .i64 0, .int .i64 0, .int .i64 0, .bool false] : Array Value)[o]? := fun o => cell_of_row w B o _ _ (0, 0) h
  refine ⟨hc 0, hc 1, hc 2, hc 3, hc 4, hc 5, hc 6, hc 7, fun o => ?_⟩
  simp [World.frozen?, h]

set_option maxRecDepth 100000 in
set_option maxHeartbeats 8000000 in
theorem open_main {w : World} {P : Nat} {d : Int} {L : List Int} {σ : Pst} {F : List Nat} (h : PsAt w P d L σ F) (kind number : Int) (text : ByteArray) (nt : Bool) (least most way fold : Int) (f : Int)
    (hd : ¬ σ.deep = 20) (hg : ¬ (number = 11 ∧ σ.groups = 20)) (ha : ¬ (number = 11 ∧ text ≠ ⟨#[]⟩ ∧ σ.names.any (fun x => x.1 == text) = true)) {r1 : Except Flt (Nd × Pst)} (hp : ∀ W F1, PsAt W P d L (inside number text fold σ) F1 → Calls Tryz.prog 21 #[.pointer (some ⟨P, 0, none⟩)] W (PPost P d L F1 r1 W))
    (hdeep : ∀ x σ3, r1 = .ok (x, σ3) → σ3.deep = σ.deep + 1) :
    Calls Tryz.prog 62 #[.pointer (some ⟨P, 0, none⟩), tkV ⟨kind, number, text, nt, least, most, way, fold⟩, .int .i64 f] w (PPost P d L F (openRest d L.length number (openNum number σ) σ r1) w) := by
  obtain ⟨i0, hi, hz0, hz1, hz2⟩ := info_parts nameInfo
  obtain ⟨A0, c0, v6', v7', h0, h1, h2, h3, h4, h5, h6, h7, h8⟩ := h.cells
  obtain ⟨v6, Fl, h6', hv, hvl⟩ := h.names
  obtain ⟨-, -, -, -, -, -, hl20, -⟩ := h.own
  rw [h6] at h6'
  injection h6' with h6'
  subst h6'
  have hP := h.lt
  have hP1 : P < w.heap.size + 1 := by omega
  have hP2 : P < w.heap.size + 1 + 1 := by omega
  have hP3 : P < w.heap.size + 1 + 1 + 1 := by omega
  have hi1 : ¬ P = w.heap.size := by omega
  have hi2 : ¬ w.heap.size = P := by omega
  have hi3 : ¬ P = w.heap.size + 1 := by omega
  have hi4 : ¬ w.heap.size + 1 = P := by omega
  have hi5 : ¬ P = w.heap.size + 1 + 1 := by omega
  have hi6 : ¬ w.heap.size + 1 + 1 = P := by omega
  have hg20 : σ.groups ≤ 20 ∧ σ.names.length ≤ σ.groups := by obtain ⟨A, c, v6, v7, h0, h1, h2, h3, h4, h5, h6, h7, h8, h9, h10, h11, h12, h13, h14, h15, h16, h17, h18, h19, h20, h21, h22, _⟩ := h.facts; exact ⟨h21, h22⟩
  have hd' : ((σ.deep : Int) == 20) = false := beq_eq_false_iff_ne.2 (by omega)
  have hg0 : (0 : Int) ≤ (σ.groups : Int) := by omega
  have hgi : (σ.groups : Int) ≤ 20 := by omega
  have hlist := h.lists
  have hmf : ∀ (fn : Fn) (first cap : Array Value) (w : World), (Instr.makeFunc fn first cap).run Tryz.prog w = .ok (.func fn first cap) w := fun _ _ _ _ => rfl
  have hd19 : σ.deep ≤ 19 := by obtain ⟨A, c, v6, v7, h0, h1, h2, h3, h4, h5, h6, h7, h8, h9, h10, h11, h12, h13, h14, h15, h16, h17, h18, h19, h20, h21, h22, _⟩ := h.facts; omega
  have hH := hid h
  clear h hd
  simp only [tkV]
  go_enter Tryz.func62, Tryz.ntmps62
  go_upto_if 25 with fail
  go_cut [] (fun W => OpenAt w P d L F (opened number text σ) number (openNum number σ) fold W)
  case first =>
    by_cases h11 : number = 11
    · subst h11
      have hgx : ¬ σ.groups = 20 := fun e => hg ⟨rfl, e⟩
      have hg' : ((σ.groups : Int) == 20) = false := beq_eq_false_iff_ne.2 (by omega)
      have hcast : ((σ.groups + 1 : Nat) : Int) = (σ.groups : Int) + 1 := by omega
      have hG := (hH.out.setGroups (m := σ.groups + 1) (by omega) (by omega))
      rw [hcast] at hG
      clear hcast
      by_cases ht : text = ⟨#[]⟩
      · have hop := hid (show opened 11 text σ = { σ with groups := σ.groups + 1 } by unfold opened; rw [if_pos rfl, if_neg (fun e => e ht)])
        have hon := hid (show openNum 11 σ = (σ.groups : Int) + 1 by unfold openNum; rw [if_pos rfl])
        have ht1 : (!text.toList.isEmpty) = false := by rw [ht, empty_str]; rfl
        clear ht hg ha hgx
        go_wp2_with fail
        go_meet
        case rel =>
          unfold OpenAt
          rw [hop.out, hon.out]
          refine ⟨F, hG.keepN (by (repeat' (first | with_reducible exact Keeps.refl _ _ | with_reducible refine Keeps.set ?_ (by simp <;> omega) _ | with_reducible refine Keeps.alloc ?_ _ | with_reducible refine Keeps.drewN ?_ _ | with_reducible refine Keeps.drew ?_))), Grew.refl _ _, by simp [go_sem, *], by simp [go_sem, *], ?_, ?_, by (repeat' (first | with_reducible exact Keeps.refl _ _ | with_reducible refine Keeps.set ?_ (by simp <;> omega) _ | with_reducible refine Keeps.alloc ?_ _ | with_reducible refine Keeps.drewN ?_ _ | with_reducible refine Keeps.drew ?_)), by simp⟩
          · simp [go_sem, NdAt, *]
          · simp [go_sem, OutAt, *]
      · have han : σ.names.any (fun x => x.1 == text) = false := by
          cases hc : σ.names.any (fun x => x.1 == text) with
          | false => rfl
          | true => exact absurd ⟨rfl, ht, hc⟩ ha
        have HA := hid han
        have hop := hid (show opened 11 text σ = { σ with groups := σ.groups + 1, names := σ.names ++ [(text, (σ.groups : Int) + 1)] } by unfold opened; rw [if_pos rfl, if_pos ht])
        have hon := hid (show openNum 11 σ = (σ.groups : Int) + 1 by unfold openNum; rw [if_pos rfl])
        have ht1 := str_ne ht
        clear ht hg ha hgx han
        go_wp2_with fail
        refine (containsName_calls (t := text) open1_enters (open1_tells (by simp [go_sem, *])) (hv.keeps (S := But P) (by (repeat' (first | with_reducible exact Keeps.refl _ _ | with_reducible refine Keeps.set ?_ (by simp <;> omega) _ | with_reducible refine Keeps.alloc ?_ _ | with_reducible refine Keeps.drewN ?_ _ | with_reducible refine Keeps.drew ?_))) (fun g hg e => by have e : g = _ := e; have := hvl g hg; omega)) (by omega)).mono ?_
        rintro e w1 ⟨rfl, hk1⟩
        rw [HA.out]
        have hW1 := hG.keepN (Keeps.trans (by (repeat' (first | with_reducible exact Keeps.refl _ _ | with_reducible refine Keeps.set ?_ (by simp <;> omega) _ | with_reducible refine Keeps.alloc ?_ _ | with_reducible refine Keeps.drewN ?_ _ | with_reducible refine Keeps.drew ?_))) hk1)
        have hk1w : Keeps (fun k => k = P ∨ k ∈ F) w w1 := Keeps.trans (by (repeat' (first | with_reducible exact Keeps.refl _ _ | with_reducible refine Keeps.set ?_ (by simp <;> omega) _ | with_reducible refine Keeps.alloc ?_ _ | with_reducible refine Keeps.drewN ?_ _ | with_reducible refine Keeps.drew ?_))) (hk1.mono (fun _ h => h.elim))
        have hs1 : w.heap.size + 1 + 1 < w1.heap.size := hk1.lt_of (by simp)
        have c0_hk1 := fun o => hk1.cell (b := P) (o := o) (by first | omega | (simp; done) | (simp; omega)) (by first | omega | (simp; done) | (simp; omega)); have z0_hk1 := fun o => hk1.frozen (b := P) (o := o) (by first | omega | (simp; done) | (simp; omega)) (by first | omega | (simp; done) | (simp; omega)); have c1_hk1 := fun o => hk1.cell (b := w.heap.size) (o := o) (by first | omega | (simp; done) | (simp; omega)) (by first | omega | (simp; done) | (simp; omega)); have z1_hk1 := fun o => hk1.frozen (b := w.heap.size) (o := o) (by first | omega | (simp; done) | (simp; omega)) (by first | omega | (simp; done) | (simp; omega)); have c2_hk1 := fun o => hk1.cell (b := w.heap.size + 1) (o := o) (by first | omega | (simp; done) | (simp; omega)) (by first | omega | (simp; done) | (simp; omega)); have z2_hk1 := fun o => hk1.frozen (b := w.heap.size + 1) (o := o) (by first | omega | (simp; done) | (simp; omega)) (by first | omega | (simp; done) | (simp; omega)); have c3_hk1 := fun o => hk1.cell (b := w.heap.size + 1 + 1) (o := o) (by first | omega | (simp; done) | (simp; omega)) (by first | omega | (simp; done) | (simp; omega)); have z3_hk1 := fun o => hk1.frozen (b := w.heap.size + 1 + 1) (o := o) (by first | omega | (simp; done) | (simp; omega)) (by first | omega | (simp; done) | (simp; omega))
        go_wp2_with fail
        refine wp_world (fun W => PsAt W P d L { σ with groups := σ.groups + 1 } F ∧ W.cell? ⟨P, 5, none⟩ = some (.int .i64 ((σ.groups : Int) + 1)) ∧ W.cell? ⟨w.heap.size, 1, none⟩ = some (.int .i64 11) ∧ W.cell? ⟨w.heap.size, 2, none⟩ = some (.string text) ∧ W.cell? ⟨w.heap.size, 7, none⟩ = some (.int .i64 fold) ∧ NdAt W (w.heap.size + 1) ∧
            OutAt W (w.heap.size + 1 + 1) 11 ((σ.groups : Int) + 1) ∧ Keeps (fun k => k = P ∨ k ∈ F) w W ∧ w.heap.size + 1 + 1 < W.heap.size) ?_ ?_
        · refine ⟨hW1, ?_, ?_, ?_, ?_, ?_, ?_, hk1w, hs1⟩
          all_goals (simp [go_sem, NdAt, OutAt, *])
        clear hW1 hk1w hs1 hG h0 h1 h2 h3 h4 h5 h6 h7 h8 c0_hk1 z0_hk1 c1_hk1 z1_hk1 c2_hk1 z2_hk1 c3_hk1 z3_hk1 hv hvl hk1 hg' ht1 hd' hH HA hmf
        rintro W ⟨hW, h5, k1, k2, k7, hnd, hou, hkW, hsW⟩
        obtain ⟨v6, v7, h6, h7, o6, o7, hn6, hn7, hm6, hm7⟩ := hW.own
        have hPW : P < W.heap.size := by omega
        have hsW' : w.heap.size < W.heap.size := by omega
        obtain ⟨-, -, -, -, -, -, -, -, -, -, -, -, h8⟩ := hW.cells
        have hW' := hid hW
        have hnd' := hid hnd
        have hou' := hid hou
        have hm6' := hid hm6
        have o6' := hid o6
        simp only at hn6
        clear o7 hm7 hW hnd hou hm6 o6
        go_region_law
          (((refine step_app rfl _ _ _ (by rfl) (P + 1) 44 i0 _ 2 24 Tryz.underlying28 hi hz0 hz1 hz2 rfl (by decide) (v := v6) (n := σ.names.length) (xs := nameCells σ.names) (by rfl) (own_keepN o6'.out (by (repeat' (first | with_reducible exact Keeps.refl _ _ | with_reducible refine Keeps.set ?_ (by simp <;> omega) _ | with_reducible refine Keeps.alloc ?_ _ | with_reducible refine Keeps.drewN ?_ _ | with_reducible refine Keeps.drew ?_)))) (by rfl) (NewsAt.of_block (cs := [.string text, .int .i64 ((σ.groups : Int) + 1)]) (m := 1) (heap_new (by simp)) rfl (by simp [Value.oneCell'])) (by unfold maxLen; omega) (by omega) (by simp; omega) ?_); intro A1 c1 w2 hp;
            have hd6 : ∀ g, v6.ownBlock = some g → g < w.heap.size ∧ g ≠ P := (fun g hg => by (have := hlist g (hm6'.out g hg); omega));
            have g0 := fun o => hp.2.1.cell (b := P) (o := o) (by first | omega | (simp; done) | (simp; omega)) (fun e => (hd6 P e).2 rfl); have y0 := fun o => hp.2.1.frozen (b := P) (o := o) (by first | omega | (simp; done) | (simp; omega)) (fun e => (hd6 P e).2 rfl); have hp' := hid hp; clear hp))
        all_goals
          obtain ⟨F2, hP2, hgr, hkk⟩ := PsAt.addName ((hW'.out).keepN (w' := (W.alloc (.cells #[.string text, .int .i64 ((σ.groups : Int) + 1)] 44)).drew) (by (repeat' (first | with_reducible exact Keeps.refl _ _ | with_reducible refine Keeps.set ?_ (by simp <;> omega) _ | with_reducible refine Keeps.alloc ?_ _ | with_reducible refine Keeps.drewN ?_ _ | with_reducible refine Keeps.drew ?_)))) (by simp only; omega) text ((σ.groups : Int) + 1) (by simp [go_sem, h6, hPW]) hp'.out
          simp only at hP2 hgr hkk
          have hkk2 : Keeps (fun k => k = P ∨ k ∈ F) w (w2.setCell ⟨P, 6, none⟩ (.slice A1 (σ.names.length + 1) c1)) := Keeps.trans (by (repeat' (first | with_reducible exact hkW | with_reducible refine Keeps.set ?_ (by simp <;> omega) _ | with_reducible refine Keeps.alloc ?_ _ | with_reducible refine Keeps.drewN ?_ _ | with_reducible refine Keeps.drew ?_))) hkk
          have hfar : ∀ b, w.heap.size ≤ b → ¬ (b = P ∨ b ∈ F) := fun b hb e => by
            rcases e with e | e
            · omega
            · have := (hlist _ e).2; omega
          have hkn : Keeps (fun k => k = P ∨ k ∈ F) W (W.alloc (.cells #[.string text, .int .i64 ((σ.groups : Int) + 1)] 44)).drew := ((Keeps.refl (fun k => k = P ∨ k ∈ F) W).alloc _).drew
          have hkA := hkn.trans hkk
          have hH1 : NdAt (w2.setCell ⟨P, 6, none⟩ (.slice A1 (σ.names.length + 1) c1)) (w.heap.size + 1) := hnd'.out.keep hkA (hfar _ (by omega))
          have hH2 : OutAt (w2.setCell ⟨P, 6, none⟩ (.slice A1 (σ.names.length + 1) c1)) (w.heap.size + 1 + 1) 11 ((σ.groups : Int) + 1) := hou'.out.keep hkA (hfar _ (by omega))
          have hH3 := (hkA.cell (b := w.heap.size) (o := 1) hsW' (hfar _ (by omega))).trans k1
          have hH4 := (hkA.cell (b := w.heap.size) (o := 7) hsW' (hfar _ (by omega))).trans k7
          have hgr' : Grew (w.heap.size + 3) F F2 := hgr.mono (by simp; omega)
          have hsz := hkA.lt_of hsW
          dsimp only [Exit.then]
          go_wp2_with fail
          go_meet
          case rel =>
            unfold OpenAt
            rw [hop.out, hon.out]
            exact ⟨F2, hP2, hgr', hH3, hH4, hH1, hH2, hkk2, hsz⟩
    · have hop := hid (show opened number text σ = σ by unfold opened; rw [if_neg h11])
      have hon := hid (show openNum number σ = 0 by unfold openNum; rw [if_neg h11])
      have h11' : (number == 11) = false := beq_eq_false_iff_ne.2 h11
      clear h11 hg ha
      go_wp2_with fail
      go_meet
      case rel =>
        unfold OpenAt
        rw [hop.out, hon.out]
        refine ⟨F, hH.out.keepN (by (repeat' (first | with_reducible exact Keeps.refl _ _ | with_reducible refine Keeps.set ?_ (by simp <;> omega) _ | with_reducible refine Keeps.alloc ?_ _ | with_reducible refine Keeps.drewN ?_ _ | with_reducible refine Keeps.drew ?_))), Grew.refl _ _, by simp [go_sem, *], by simp [go_sem, *], ?_, ?_, by (repeat' (first | with_reducible exact Keeps.refl _ _ | with_reducible refine Keeps.set ?_ (by simp <;> omega) _ | with_reducible refine Keeps.alloc ?_ _ | with_reducible refine Keeps.drewN ?_ _ | with_reducible refine Keeps.drew ?_)), by simp⟩
        · simp [go_sem, NdAt, *]
        · simp [go_sem, OutAt, *]
  case rest =>
    clear h0 h1 h2 h3 h4 h5 h6 h7 h8 hv hvl hH hg ha hmf hg20 hl20 hg0 hgi hd'
    obtain ⟨F1, hW, hgr, k1, k7, hnd, hou, hkW, hsW⟩ := hcut
    obtain ⟨W, rfl⟩ : ∃ W : World, W = wc := ⟨_, rfl⟩
    have hof := opened_folded number text σ
    have hod := opened_deep number text σ
    have hin : inside number text fold σ = { opened number text σ with folded := if fold ≠ 0 then decide (0 < fold) else σ.folded, deep := σ.deep + 1 } := rfl
    generalize opened number text σ = σ1 at hW hof hod hin
    have HIN := hid hin
    clear hin
    obtain ⟨A0, c0, -, -, -, -, -, h3, -, -, -, -, h8⟩ := hW.cells
    rw [hof] at h3
    have hPW : P < W.heap.size := hW.lt
    have hsW' : w.heap.size < W.heap.size := by omega
    have hfar : ∀ b, w.heap.size ≤ b → ¬ (b = P ∨ b ∈ F) := fun b hb e => by
      rcases e with e | e
      · omega
      · have := (hlist _ e).2; omega
    have hfar1 : ∀ b, w.heap.size ≤ b → b < w.heap.size + 3 → ¬ (b = P ∨ b ∈ F1) := fun b hb hb2 e => by
      rcases e with e | e
      · omega
      · rcases hgr _ e with e | e
        · exact hfar b hb (.inr e)
        · omega
    have hlist1 := hW.lists
    have HOD := hid hod
    have HOF := hid hof
    have HW := hid hW
    have HND := hid hnd
    have HOU := hid hou
    have HGR := hid hgr
    clear hod hW hnd hou hgr hof
    go_upto_if 78 with fail
    go_cut [] (fun V => OpenAt w P d L F { σ1 with folded := if fold ≠ 0 then decide (0 < fold) else σ.folded } number (openNum number σ) fold V)
    case first =>
      by_cases hf : fold = 0
      · have hf' : (fold != 0) = false := by simp [hf]
        have hff := hid (show (if fold ≠ 0 then decide (0 < fold) else σ.folded) = σ.folded by rw [if_neg (fun e => e hf)])
        clear hf
        go_wp2_with fail
        go_meet
        case rel =>
          unfold OpenAt
          rw [hff.out, ← HOF.out]
          exact ⟨F1, HW.out, HGR.out, k1, k7, HND.out, HOU.out, hkW, hsW⟩
      · have hf' : (fold != 0) = true := bne_iff_ne.2 hf
        have hff := hid (show (if fold ≠ 0 then decide (0 < fold) else σ.folded) = decide (0 < fold) by rw [if_pos hf])
        clear hf
        go_wp2_with fail
        go_meet
        case rel =>
          unfold OpenAt
          rw [hff.out]
          exact ⟨F1, HW.out.setFolded _, HGR.out, by simp [go_sem, *], by simp [go_sem, *], HND.out.keep (S := But P) (by (repeat' (first | with_reducible exact Keeps.refl _ _ | with_reducible refine Keeps.set ?_ (by simp <;> omega) _ | with_reducible refine Keeps.alloc ?_ _ | with_reducible refine Keeps.drewN ?_ _ | with_reducible refine Keeps.drew ?_))) (fun e => hfar _ (by omega) (.inl e)), HOU.out.keep (S := But P) (by (repeat' (first | with_reducible exact Keeps.refl _ _ | with_reducible refine Keeps.set ?_ (by simp <;> omega) _ | with_reducible refine Keeps.alloc ?_ _ | with_reducible refine Keeps.drewN ?_ _ | with_reducible refine Keeps.drew ?_))) (fun e => hfar _ (by omega) (.inl e)), by (repeat' (first | with_reducible exact hkW | with_reducible refine Keeps.set ?_ (by simp <;> omega) _ | with_reducible refine Keeps.alloc ?_ _ | with_reducible refine Keeps.drewN ?_ _ | with_reducible refine Keeps.drew ?_)), by simpa using hsW⟩
    case rest =>
      clear h3 h8 hfar1 hlist1 HW HND HOU HGR k1 k7 hkW hsW hsW' hPW
      obtain ⟨F1, hW, hgr, k1, k7, hnd, hou, hkW, hsW⟩ := hcut
      obtain ⟨V, rfl⟩ : ∃ V : World, V = wc := ⟨_, rfl⟩
      obtain ⟨A0, c0, -, -, -, -, -, h3, h4, -, -, -, h8⟩ := hW.cells
      simp only at h3 h4
      rw [HOD.out] at h4
      have hPW : P < V.heap.size := hW.lt
      have hsW' : w.heap.size < V.heap.size := by omega
      have hsW1 : w.heap.size + 1 < V.heap.size := by omega
      have hfar1 : ∀ b, w.heap.size ≤ b → b < w.heap.size + 3 → ¬ (b = P ∨ b ∈ F1) := fun b hb hb2 e => by
        rcases e with e | e
        · omega
        · rcases hgr _ e with e | e
          · exact hfar b hb (.inr e)
          · omega
      have hlist1 := hW.lists
      have hcast : ((σ.deep + 1 : Nat) : Int) = (σ.deep : Int) + 1 := by omega
      have hP1 := hW.setDeep (m := σ.deep + 1) (by omega)
      rw [hcast] at hP1
      have hP2 : PsAt (V.setCell ⟨P, 4, none⟩ (.int .i64 ((σ.deep : Int) + 1))) P d L (inside number text fold σ) F1 := by rw [HIN.out]; exact hP1
      clear hcast hP1
      have hd0 : (0 : Int) ≤ (σ.deep : Int) := by omega
      have hd20 : (σ.deep : Int) ≤ 20 := by omega
      have HND := hid hnd
      have HOU := hid hou
      have HGR := hid hgr
      have hW' := hid hW
      have hp' := hid hp
      have hdeep' := hid hdeep
      clear hnd hou hgr HIN hW hp hdeep HOF HOD
      go_wp2_with fail
      refine (hp'.out _ F1 hP2).mono ?_
      cases r1 with
      | error f =>
        rintro e w1 ⟨rfl, hk1, hal1⟩
        have hk1w : Keeps (fun k => k = P ∨ k ∈ F) w w1 := Keeps.trans' (by (repeat' (first | with_reducible exact hkW | with_reducible refine Keeps.set ?_ (by simp <;> omega) _ | with_reducible refine Keeps.alloc ?_ _ | with_reducible refine Keeps.drewN ?_ _ | with_reducible refine Keeps.drew ?_))) hk1 (fun k hk e => e.imp id (fun e => (HGR.out k e).elim id (fun e => by omega)))
        simp only [fltPanic]
        exact ⟨rfl, rfl, hk1w, hal1⟩
      | ok xσ =>
        obtain ⟨x, σ3⟩ := xσ
        rintro e w1 ⟨v', Fn, F3, rfl, hN, hnu, hfr, hP3, hgr3, hk1⟩
        obtain ⟨sA, sn, sc, kA, kn, kc, rfl, hN2⟩ := hN.parts
        have hk1w : Keeps (fun k => k = P ∨ k ∈ F) w w1 := Keeps.trans' (by (repeat' (first | with_reducible exact hkW | with_reducible refine Keeps.set ?_ (by simp <;> omega) _ | with_reducible refine Keeps.alloc ?_ _ | with_reducible refine Keeps.drewN ?_ _ | with_reducible refine Keeps.drew ?_))) hk1 (fun k hk e => e.imp id (fun e => (HGR.out k e).elim id (fun e => by omega)))
        have hs1 : w.heap.size + 1 + 1 < w1.heap.size := hk1.lt_of (by simpa using hsW)
        have hs1' : w.heap.size < w1.heap.size := by omega
        have hs1'' : w.heap.size + 1 < w1.heap.size := by omega
        have hPw1 := hP3.lt
        have hf3 : ∀ b, w.heap.size ≤ b → b < w.heap.size + 3 → ¬ (b = P ∨ b ∈ F3) := fun b hb hb2 e => by
          rcases e with e | e
          · omega
          · rcases hgr3 _ e with e | e
            · exact hfar1 b hb hb2 (.inr e)
            · simp at e; omega
        have hnd1 : NdAt w1 (w.heap.size + 1) := (HND.out.keep (S := But P) (by (repeat' (first | with_reducible exact Keeps.refl _ _ | with_reducible refine Keeps.set ?_ (by simp <;> omega) _ | with_reducible refine Keeps.alloc ?_ _ | with_reducible refine Keeps.drewN ?_ _ | with_reducible refine Keeps.drew ?_))) (fun e => hfar _ (by omega) (.inl e))).keep hk1 (hfar1 _ (by omega) (by omega))
        have hou1 : OutAt w1 (w.heap.size + 1 + 1) number (openNum number σ) := (HOU.out.keep (S := But P) (by (repeat' (first | with_reducible exact Keeps.refl _ _ | with_reducible refine Keeps.set ?_ (by simp <;> omega) _ | with_reducible refine Keeps.alloc ?_ _ | with_reducible refine Keeps.drewN ?_ _ | with_reducible refine Keeps.drew ?_))) (fun e => hfar _ (by omega) (.inl e))).keep hk1 (hfar1 _ (by omega) (by omega))
        have hk11 : w1.cell? ⟨w.heap.size, 1, none⟩ = some (.int .i64 number) := (hk1.cell (by simpa using hsW') (hfar1 _ (by omega) (by omega))).trans (by simp [go_sem, k1, hi2])
        obtain ⟨-, -, -, -, -, -, j2, j3, j4, -, -, -, j8⟩ := hP3.cells
        rw [hdeep'.out x σ3 rfl, show ((σ.deep + 1 : Nat) : Int) = (σ.deep : Int) + 1 from by omega] at j4
        clear h3 h4 h8 k1 k7
        have hgr3' : Grew (w.heap.size + 3) F F3 := fun g hg => by
          rcases hgr3 g hg with e | e
          · exact HGR.out g e
          · simp at e; exact .inr (by omega)
        have hfr' : ∀ g ∈ Fn, w.heap.size + 3 ≤ g ∧ g < w1.heap.size ∧ g ∉ F3 := fun g hg => by
          have h1 := (hfr g hg).1
          have h2 := hN2.kind.1.lt hg
          simp at h1
          exact ⟨by omega, h2, (hfr g hg).2⟩
        have HP3 := hid hP3
        have HND1 := hid hnd1
        have HOU1 := hid hou1
        clear hP3 hnd1 hou1 hgr3 hfr hP2 hN
        go_wp2_with fail
        have hPs := ((HP3.out.setDeep (m := σ.deep) (by omega)).setFolded σ.folded).keepN (w' := ((w1.setCell ⟨P, 4, none⟩ (.int .i64 (σ.deep : Int))).setCell ⟨P, 3, none⟩ (.bool σ.folded)).alloc (.cells #[.int .i64 x.kind, .slice sA sn sc, .slice kA kn kc, .int .i64 x.number, .int .i64 x.least, .int .i64 x.most, .int .i64 x.way, .bool x.fold] 27)) (by (repeat' (first | with_reducible exact Keeps.refl _ _ | with_reducible refine Keeps.set ?_ (by simp <;> omega) _ | with_reducible refine Keeps.alloc ?_ _ | with_reducible refine Keeps.drewN ?_ _ | with_reducible refine Keeps.drew ?_)))
        have hNx := hid (next_calls hPs)
        simp only at hNx
        have hfarP : ∀ g, w.heap.size ≤ g → ¬ g = P := fun g hg e => by omega
        cases hnl : nextL d L.length σ3.s with
        | error f =>
          have HNL := hid hnl
          have hor : openRest d L.length number (openNum number σ) σ (.ok (x, σ3)) = .error f := by unfold openRest; simp only [hnl]
          have HOR := hid hor
          clear hnl hor
          refine hNx.out.mono ?_
          rintro e w2 hq
          unfold nextPost at hq
          rw [HNL.out] at hq
          obtain ⟨rfl, hk2⟩ := hq
          have hk2w : Keeps (fun k => k = P ∨ k ∈ F) w w2 := Keeps.trans (by (repeat' (first | with_reducible exact hk1w | with_reducible refine Keeps.set ?_ (by simp <;> omega) _ | with_reducible refine Keeps.alloc ?_ _ | with_reducible refine Keeps.drewN ?_ _ | with_reducible refine Keeps.drew ?_))) (hk2.mono (fun _ h => h.elim))
          simp only [fltPanic]
          refine ⟨rfl, ?_⟩
          rw [HOR.out]
          exact ⟨rfl, hk2w, (hPs.keepN hk2).alive⟩
        | ok o =>
          cases o with
          | none =>
            have HNL := hid hnl
            have hor : openRest d L.length number (openNum number σ) σ (.ok (x, σ3)) = .error (1, posOf L.length σ3.s) := by unfold openRest; simp only [hnl]
            have HOR := hid hor
            clear hnl hor
            refine hNx.out.mono ?_
            rintro e w2 hq
            unfold nextPost at hq
            rw [HNL.out] at hq
            obtain ⟨rfl, hk2⟩ := hq
            have hk2w : Keeps (fun k => k = P ∨ k ∈ F) w w2 := Keeps.trans (by (repeat' (first | with_reducible exact hk1w | with_reducible refine Keeps.set ?_ (by simp <;> omega) _ | with_reducible refine Keeps.alloc ?_ _ | with_reducible refine Keeps.drewN ?_ _ | with_reducible refine Keeps.drew ?_))) (hk2.mono (fun _ h => h.elim))
            have hs2P : P < w2.heap.size := hk2.lt_of (by simp; omega)
            have c0_hk2 := fun o => hk2.cell (b := P) (o := o) (by first | omega | (simp; done) | (simp; omega)) (by first | omega | (simp; done) | (simp; omega)); have z0_hk2 := fun o => hk2.frozen (b := P) (o := o) (by first | omega | (simp; done) | (simp; omega)) (by first | omega | (simp; done) | (simp; omega))
            simp only [tkV]
            go_wp2_with fail
            refine (pfail_calls _ _ _).mono ?_
            rintro e w3 ⟨rfl, rfl⟩
            simp only [fltPanic]
            refine ⟨rfl, ?_⟩
            rw [HOR.out]
            exact ⟨rfl, by (repeat' (first | with_reducible exact hk2w | with_reducible refine Keeps.set ?_ (by simp <;> omega) _ | with_reducible refine Keeps.alloc ?_ _ | with_reducible refine Keeps.drewN ?_ _ | with_reducible refine Keeps.drew ?_)), by (repeat' (first | with_reducible exact (hPs.keepN hk2).alive | with_reducible refine Alive.set ?_ | with_reducible refine Alive.alloc ?_ | with_reducible refine Alive.drewN ?_ | with_reducible refine Alive.drew ?_))⟩
          | some ts =>
            obtain ⟨t2, s2⟩ := ts
            have hs2 : s2 <:+ σ3.s := (next_len hnl).2
            have HNL := hid hnl
            obtain ⟨q0, q1, q2, q3, q4, q5, q6, q7⟩ := t2
            by_cases h8 : q0 = 8
            · subst h8
              by_cases hn1 : number = 1
              · have hor : openRest d L.length number (openNum number σ) σ (.ok (x, σ3)) = .ok (x, { σ3 with s := s2, deep := σ.deep, folded := σ.folded }) := by unfold openRest; simp only [hnl]; rw [if_neg (by simp), if_pos hn1]
                have HOR := hid hor
                have hn1' : (number == 1) = true := beq_iff_eq.2 hn1
                clear hnl hor hn1
                refine hNx.out.mono ?_
                rintro e w2 hq
                unfold nextPost at hq
                rw [HNL.out] at hq
                obtain ⟨rfl, hk2⟩ := hq
                have hk2w : Keeps (fun k => k = P ∨ k ∈ F) w w2 := Keeps.trans (by (repeat' (first | with_reducible exact hk1w | with_reducible refine Keeps.set ?_ (by simp <;> omega) _ | with_reducible refine Keeps.alloc ?_ _ | with_reducible refine Keeps.drewN ?_ _ | with_reducible refine Keeps.drew ?_))) (hk2.mono (fun _ h => h.elim))
                have hs2P : P < w2.heap.size := hk2.lt_of (by simp; omega)
                have hs2a : w.heap.size < w2.heap.size := hk2.lt_of (by simp; omega)
                have hs2b : w.heap.size + 1 < w2.heap.size := hk2.lt_of (by simp; omega)
                have hs2c : w.heap.size + 1 + 1 < w2.heap.size := hk2.lt_of (by simp; omega)
                have hs2d : w1.heap.size < w2.heap.size := hk2.lt_of (by simp)
                have hkc : Keeps (But P) w1 w2 := Keeps.trans (by (repeat' (first | with_reducible exact Keeps.refl _ _ | with_reducible refine Keeps.set ?_ (by simp <;> omega) _ | with_reducible refine Keeps.alloc ?_ _ | with_reducible refine Keeps.drewN ?_ _ | with_reducible refine Keeps.drew ?_))) (hk2.mono (fun _ h => h.elim))
                have hP2 := hPs.keepN hk2
                obtain ⟨-, -, -, -, -, -, y2, y3, y4, -, -, -, y8⟩ := hP2.cells
                obtain ⟨x0, x1, x2, x3, x4, x5, x6, x7, x8⟩ := HND1.out.keep hkc (fun e => hfarP _ (by omega) e)
                obtain ⟨o0, o1, o2, o3, o4, o5, o6, o7, o8⟩ := HOU1.out.keep hkc (fun e => hfarP _ (by omega) e)
                have k1 := (hkc.cell (b := w.heap.size) (o := 1) hs1' (fun e => hfarP _ (by omega) e)).trans hk11
                have hbx : ∀ o, w2.cell? ⟨w1.heap.size, o, none⟩ = (#[.int .i64 x.kind, .slice sA sn sc, .slice kA kn kc, .int .i64 x.number, .int .i64 x.least, .int .i64 x.most, .int .i64 x.way, .bool x.fold] : Array Value)[o]? := fun o => (hk2.cell (b := w1.heap.size) (o := o) (by simp) id).trans (World.cell?_alloc_at _ _ _ _ (by simp))
                have b0 := hbx 0; have b1 := hbx 1; have b2 := hbx 2; have b3 := hbx 3; have b4 := hbx 4; have b5 := hbx 5; have b6 := hbx 6; have b7 := hbx 7
                simp at b0 b1 b2 b3 b4 b5 b6 b7
                have hN3 := hN2.keeps hkc (fun g hg e => hfarP g (by have := (hfr' g hg).1; omega) e)
                have hd1 : ¬ w.heap.size + 1 = w1.heap.size := by omega
                have hd2 : ¬ w1.heap.size = w.heap.size + 1 := by omega
                have hd3 : ¬ w.heap.size + 1 + 1 = w1.heap.size := by omega
                have hd4 : ¬ w1.heap.size = w.heap.size + 1 + 1 := by omega
                have hd5 : ¬ w1.heap.size = P := by omega
                have hd6 : ¬ P = w1.heap.size := by omega
                have HP2 := hid (hP2.setAt hs2)
                clear hbx hP2 hPs hNx hk11 j2 j3 j4 j8 hs2 hkc
                simp only [tkV]
                go_wp2_with fail
                have hlF : ∀ g ∈ F3, g ≠ w.heap.size + 1 := fun g hg e => hf3 _ (by omega) (by omega) (.inr (e ▸ hg))
                refine bodyPost_ret (v := .agg #[.int .i64 x.kind, .slice sA sn sc, .slice kA kn kc, .int .i64 x.number, .int .i64 x.least, .int .i64 x.most, .int .i64 x.way, .bool x.fold]) (by simp [results, Tryz.results62, go_sem, ndV, *]) rfl ?_
                rw [HOR.out]
                refine ⟨_, Fn, F3, rfl, ⟨_, rfl, hN3.keeps (S := fun k => k = w.heap.size + 1 ∨ k = P) (by (repeat' (first | with_reducible exact Keeps.refl _ _ | with_reducible refine Keeps.set ?_ (by simp <;> omega) _ | with_reducible refine Keeps.alloc ?_ _ | with_reducible refine Keeps.drewN ?_ _ | with_reducible refine Keeps.drew ?_))) (fun g hg e => by have := (hfr' g hg).1; omega)⟩, hnu, fun g hg => ⟨by have := (hfr' g hg).1; omega, (hfr' g hg).2.2⟩, ?_, hgr3'.mono (by omega), ?_⟩
                · exact (HP2.out.keepN (by (repeat' (first | with_reducible exact Keeps.refl _ _ | with_reducible refine Keeps.set ?_ (by simp <;> omega) _ | with_reducible refine Keeps.alloc ?_ _ | with_reducible refine Keeps.drewN ?_ _ | with_reducible refine Keeps.drew ?_)))).keep (S := But (w.heap.size + 1)) (by (repeat' (first | with_reducible exact Keeps.refl _ _ | with_reducible refine Keeps.set ?_ (by simp <;> omega) _ | with_reducible refine Keeps.alloc ?_ _ | with_reducible refine Keeps.drewN ?_ _ | with_reducible refine Keeps.drew ?_))) (fun k hk e => by have e : k = _ := e; omega) (fun g hg e => hlF g hg e)
                · (repeat' (first | with_reducible exact hk2w | with_reducible refine Keeps.set ?_ (by simp <;> omega) _ | with_reducible refine Keeps.alloc ?_ _ | with_reducible refine Keeps.drewN ?_ _ | with_reducible refine Keeps.drew ?_))
              · have hor : openRest d L.length number (openNum number σ) σ (.ok (x, σ3)) = .ok (.mk number [] [x] (openNum number σ) 0 0 0 false, { σ3 with s := s2, deep := σ.deep, folded := σ.folded }) := by unfold openRest; simp only [hnl]; rw [if_neg (by simp), if_neg hn1]
                have HOR := hid hor
                have hn1' : (number == 1) = false := beq_eq_false_iff_ne.2 hn1
                clear hnl hor hn1
                refine hNx.out.mono ?_
                rintro e w2 hq
                unfold nextPost at hq
                rw [HNL.out] at hq
                obtain ⟨rfl, hk2⟩ := hq
                have hk2w : Keeps (fun k => k = P ∨ k ∈ F) w w2 := Keeps.trans (by (repeat' (first | with_reducible exact hk1w | with_reducible refine Keeps.set ?_ (by simp <;> omega) _ | with_reducible refine Keeps.alloc ?_ _ | with_reducible refine Keeps.drewN ?_ _ | with_reducible refine Keeps.drew ?_))) (hk2.mono (fun _ h => h.elim))
                have hs2P : P < w2.heap.size := hk2.lt_of (by simp; omega)
                have hs2a : w.heap.size < w2.heap.size := hk2.lt_of (by simp; omega)
                have hs2b : w.heap.size + 1 < w2.heap.size := hk2.lt_of (by simp; omega)
                have hs2c : w.heap.size + 1 + 1 < w2.heap.size := hk2.lt_of (by simp; omega)
                have hs2d : w1.heap.size < w2.heap.size := hk2.lt_of (by simp)
                have hkc : Keeps (But P) w1 w2 := Keeps.trans (by (repeat' (first | with_reducible exact Keeps.refl _ _ | with_reducible refine Keeps.set ?_ (by simp <;> omega) _ | with_reducible refine Keeps.alloc ?_ _ | with_reducible refine Keeps.drewN ?_ _ | with_reducible refine Keeps.drew ?_))) (hk2.mono (fun _ h => h.elim))
                have hP2 := hPs.keepN hk2
                obtain ⟨-, -, -, -, -, -, y2, y3, y4, -, -, -, y8⟩ := hP2.cells
                obtain ⟨x0, x1, x2, x3, x4, x5, x6, x7, x8⟩ := HND1.out.keep hkc (fun e => hfarP _ (by omega) e)
                obtain ⟨o0, o1, o2, o3, o4, o5, o6, o7, o8⟩ := HOU1.out.keep hkc (fun e => hfarP _ (by omega) e)
                have k1 := (hkc.cell (b := w.heap.size) (o := 1) hs1' (fun e => hfarP _ (by omega) e)).trans hk11
                have hbx : ∀ o, w2.cell? ⟨w1.heap.size, o, none⟩ = (#[.int .i64 x.kind, .slice sA sn sc, .slice kA kn kc, .int .i64 x.number, .int .i64 x.least, .int .i64 x.most, .int .i64 x.way, .bool x.fold] : Array Value)[o]? := fun o => (hk2.cell (b := w1.heap.size) (o := o) (by simp) id).trans (World.cell?_alloc_at _ _ _ _ (by simp))
                have b0 := hbx 0; have b1 := hbx 1; have b2 := hbx 2; have b3 := hbx 3; have b4 := hbx 4; have b5 := hbx 5; have b6 := hbx 6; have b7 := hbx 7
                simp at b0 b1 b2 b3 b4 b5 b6 b7
                have hN3 := hN2.keeps hkc (fun g hg e => hfarP g (by have := (hfr' g hg).1; omega) e)
                have hd1 : ¬ w.heap.size + 1 = w1.heap.size := by omega
                have hd2 : ¬ w1.heap.size = w.heap.size + 1 := by omega
                have hd3 : ¬ w.heap.size + 1 + 1 = w1.heap.size := by omega
                have hd4 : ¬ w1.heap.size = w.heap.size + 1 + 1 := by omega
                have hd5 : ¬ w1.heap.size = P := by omega
                have hd6 : ¬ P = w1.heap.size := by omega
                have HP2 := hid (hP2.setAt hs2)
                clear hbx hP2 hPs hNx hk11 j2 j3 j4 j8 hs2 hkc
                simp only [tkV]
                go_wp2_with fail
                have hlF : ∀ g ∈ F3, g ≠ w.heap.size + 1 ∧ g ≠ w.heap.size + 1 + 1 := fun g hg => ⟨fun e => hf3 _ (by omega) (by omega) (.inr (e ▸ hg)), fun e => hf3 _ (by omega) (by omega) (.inr (e ▸ hg))⟩
                have hlB : ∀ g ∈ F3, g < w2.heap.size := fun g hg => by have := (HP2.out.lists g hg).2; simpa using this
                refine bodyPost_ret (v := ndV number nilS (.slice (some ⟨w2.heap.size + 1, 0, none⟩) 1 1) (openNum number σ) 0 0 0 false) (by simp [results, Tryz.results62, go_sem, ndV, nilS, *]) rfl ?_
                rw [HOR.out]
                refine ⟨_, [w2.heap.size + 1] ++ Fn, F3, rfl, ⟨_, rfl, ?_⟩, ?_, ?_, ?_, hgr3'.mono (by omega), ?_⟩
                · refine node_over (ts := [x]) (SliceV.new (heap_new (by simp)) rfl (by simp) (by simp)) (NodeRep.alone ?_) number _
                  exact hN3.keeps (S := fun k => k = w.heap.size + 1 ∨ k = P ∨ k = w.heap.size + 1 + 1) (by (repeat' (first | with_reducible exact Keeps.refl _ _ | with_reducible refine Keeps.set ?_ (by simp <;> omega) _ | with_reducible refine Keeps.alloc ?_ _ | with_reducible refine Keeps.drewN ?_ _ | with_reducible refine Keeps.drew ?_))) (fun g hg e => by have := (hfr' g hg).1; omega)
                · refine List.nodup_cons.2 ⟨fun hg => ?_, hnu⟩
                  have := (hfr' _ hg).2.1
                  omega
                · intro g hg
                  rcases List.mem_append.1 hg with hg | hg
                  · simp at hg
                    exact ⟨by omega, fun h => by have := hlB g h; omega⟩
                  · exact ⟨by have := (hfr' g hg).1; omega, (hfr' g hg).2.2⟩
                · exact (HP2.out.keep (S := fun k => k = w.heap.size + 1 ∨ k = w.heap.size + 1 + 1) (by (repeat' (first | with_reducible exact Keeps.refl _ _ | with_reducible refine Keeps.set ?_ (by simp <;> omega) _ | with_reducible refine Keeps.alloc ?_ _ | with_reducible refine Keeps.drewN ?_ _ | with_reducible refine Keeps.drew ?_))) (fun k hk e => by omega) (fun g hg e => by have := hlF g hg; omega))
                · (repeat' (first | with_reducible exact hk2w | with_reducible refine Keeps.set ?_ (by simp <;> omega) _ | with_reducible refine Keeps.alloc ?_ _ | with_reducible refine Keeps.drewN ?_ _ | with_reducible refine Keeps.drew ?_))
            · have hor : openRest d L.length number (openNum number σ) σ (.ok (x, σ3)) = .error (1, posOf L.length σ3.s) := by unfold openRest; simp only [hnl]; rw [if_pos h8]
              have HOR := hid hor
              have h8' : (q0 != 8) = true := bne_iff_ne.2 h8
              clear hnl hor h8 hs2
              refine hNx.out.mono ?_
              rintro e w2 hq
              unfold nextPost at hq
              rw [HNL.out] at hq
              obtain ⟨rfl, hk2⟩ := hq
              have hk2w : Keeps (fun k => k = P ∨ k ∈ F) w w2 := Keeps.trans (by (repeat' (first | with_reducible exact hk1w | with_reducible refine Keeps.set ?_ (by simp <;> omega) _ | with_reducible refine Keeps.alloc ?_ _ | with_reducible refine Keeps.drewN ?_ _ | with_reducible refine Keeps.drew ?_))) (hk2.mono (fun _ h => h.elim))
              have hs2P : P < w2.heap.size := hk2.lt_of (by simp; omega)
              have c0_hk2 := fun o => hk2.cell (b := P) (o := o) (by first | omega | (simp; done) | (simp; omega)) (by first | omega | (simp; done) | (simp; omega)); have z0_hk2 := fun o => hk2.frozen (b := P) (o := o) (by first | omega | (simp; done) | (simp; omega)) (by first | omega | (simp; done) | (simp; omega))
              simp only [tkV]
              go_wp2_with fail
              refine (pfail_calls _ _ _).mono ?_
              rintro e w3 ⟨rfl, rfl⟩
              simp only [fltPanic]
              refine ⟨rfl, ?_⟩
              rw [HOR.out]
              exact ⟨rfl, by (repeat' (first | with_reducible exact hk2w | with_reducible refine Keeps.set ?_ (by simp <;> omega) _ | with_reducible refine Keeps.alloc ?_ _ | with_reducible refine Keeps.drewN ?_ _ | with_reducible refine Keeps.drew ?_)), by (repeat' (first | with_reducible exact (hPs.keepN hk2).alive | with_reducible refine Alive.set ?_ | with_reducible refine Alive.alloc ?_ | with_reducible refine Alive.drewN ?_ | with_reducible refine Alive.drew ?_))⟩

end Th
end Go.Proofs

namespace Go.Proofs
namespace Th
open Go.RowKit

/-- A parser's method leaves it as deep as it was. -/
structure DeepAll (b : Below) (d n : Int) (k : Nat) : Prop where
  pat : ∀ σ x σ', patternP b d n k σ = some (.ok (x, σ')) → σ'.deep = σ.deep
  bra : ∀ σ acc x σ', branchesP b d n k σ acc = some (.ok (x, σ')) → σ'.deep = σ.deep
  one : ∀ σ l can times x σ', branchP b d n k σ l can times = some (.ok (x, σ')) → σ'.deep = σ.deep
  atom : ∀ t s' σ x σ', atomP b d n k t s' σ = some (.ok (x, σ')) → σ'.deep = σ.deep
  open_ : ∀ t f σ x σ', openP b d n k t f σ = some (.ok (x, σ')) → σ'.deep = σ.deep

theorem deep_all (b : Below) (d n : Int) (k : Nat) : DeepAll b d n k := by
  induction k with
  | zero => constructor <;> intros <;> simp_all [patternP, branchesP, branchP, atomP, openP]
  | succ k ih =>
    constructor
    · intro σ x σ' h
      simp only [patternP] at h
      split at h
      · cases h
      · cases h
      · rename_i x1 σ1 h1
        split at h
        · cases h
        · cases h
        · rename_i y σ2 h2
          cases h
          exact (ih.bra _ _ _ _ h2).trans (ih.one _ _ _ _ _ _ h1)
    · intro σ acc x σ' h
      simp only [branchesP] at h
      split at h
      · cases h
      · cases h; rfl
      · split at h
        · cases h; rfl
        · split at h
          · cases h
          · cases h
          · rename_i x1 σ1 h1
            have h3 := ih.one _ _ _ _ _ _ h1
            exact (ih.bra _ _ _ _ h).trans h3
    · intro σ l can times x σ' h
      simp only [branchP] at h
      split at h
      · cases h
      · cases h; rfl
      · split at h
        · cases h; rfl
        · split at h
          · split at h
            · cases h
            · split at h
              · cases h
              · split at h
                · cases h
                · have h3 := ih.one _ _ _ _ _ _ h
                  exact h3
          · split at h
            · cases h
            · cases h
            · rename_i y σ1 h1
              exact (ih.one _ _ _ _ _ _ h).trans (ih.atom _ _ _ _ _ h1)
    · intro t s' σ x σ' h
      simp only [atomP] at h
      split at h
      · rw [Option.map_eq_some_iff] at h
        obtain ⟨y, hy, h⟩ := h
        cases h; rfl
      split at h
      · cases h; rfl
      split at h
      · cases h; rfl
      split at h
      · split at h
        · cases h
        · split at h
          · cases h
          · rw [Option.map_eq_some_iff] at h
            obtain ⟨y, hy, h⟩ := h
            cases h; rfl
      split at h
      · split at h
        · cases h
        · cases h
        · cases h; rfl
      split at h
      · cases h; rfl
      split at h
      · split at h
        all_goals
          split at h
          · cases h
          · cases h; rfl
      split at h
      · have h3 := ih.open_ _ _ _ _ _ h
        exact h3
      · cases h
    · intro t f σ x σ' h
      simp only [openP] at h
      split at h
      · cases h
      split at h
      · cases h
      split at h
      · cases h
      split at h
      · cases h
      · cases h
      · split at h
        · cases h
        · cases h
        · split at h
          · cases h
          · split at h
            · cases h; rfl
            · cases h; rfl

theorem open_c {b : Below} {k : Nat} (hp : PatC b k) : OpenC b (k + 1) := by
  intro w P d L σ F t f r h hr
  obtain ⟨kind, number, text, nt, least, most, way, fold⟩ := t
  simp only [openP] at hr
  by_cases h1 : σ.deep = 20
  · rw [if_pos h1] at hr
    cases hr
    exact open_deep h _ f h1
  rw [if_neg h1] at hr
  by_cases h2 : number = 11 ∧ σ.groups = 20
  · rw [if_pos h2] at hr
    cases hr
    exact open_groups h _ f h1 h2.1 h2.2
  rw [if_neg h2] at hr
  by_cases h3 : number = 11 ∧ text ≠ ⟨#[]⟩ ∧ σ.names.any (fun x => x.1 == text) = true
  · rw [if_pos h3] at hr
    cases hr
    exact open_twice h _ f h1 h3.1 (fun e => h2 ⟨h3.1, e⟩) h3.2.1 h3.2.2
  rw [if_neg h3] at hr
  have hins : ({ (if number = 11 then ({ σ with groups := σ.groups + 1, names := if text ≠ ⟨#[]⟩ then σ.names ++ [(text, (σ.groups : Int) + 1)] else σ.names } : Pst) else σ) with folded := if fold ≠ 0 then decide (0 < fold) else σ.folded, deep := σ.deep + 1 } : Pst) = inside number text fold σ := rfl
  rw [hins] at hr
  cases hpp : patternP b d L.length k (inside number text fold σ) with
  | none => rw [hpp] at hr; cases hr
  | some r1 =>
    have hr2 : r = openRest d L.length number (openNum number σ) σ r1 := by
      rw [hpp] at hr
      cases r1 with
      | error e => simp only [Option.some.injEq] at hr; rw [← hr]; rfl
      | ok xσ =>
        obtain ⟨x, σ3⟩ := xσ
        simp only at hr
        unfold openRest openNum
        cases hn : nextL d L.length σ3.s with
        | error e => rw [hn] at hr; simp only [Option.some.injEq] at hr; rw [← hr]; simp only [hn]
        | ok o =>
          cases o with
          | none => rw [hn] at hr; simp only [Option.some.injEq] at hr; rw [← hr]; simp only [hn]
          | some ts =>
            obtain ⟨t2, s2⟩ := ts
            rw [hn] at hr
            simp only at hr
            simp only [hn]
            by_cases h8 : t2.kind ≠ 8
            · rw [if_pos h8] at hr ⊢; cases hr; rfl
            · rw [if_neg h8] at hr ⊢
              by_cases hn1 : number = 1
              · rw [if_pos hn1] at hr ⊢; cases hr; rfl
              · rw [if_neg hn1] at hr ⊢; cases hr; rfl
    rw [hr2]
    refine open_main h kind number text nt least most way fold f h1 h2 h3 (fun W F1 hW => hp W P d L _ F1 r1 hW hpp) ?_
    intro x σ3 e
    subst e
    exact (deep_all b d L.length k).pat _ _ _ hpp

end Th
end Go.Proofs
