/- The parser: Parse. -/
import Derived.Test.YthjjfgpainleaaaGreatGM

set_option linter.unusedSimpArgs false
set_option linter.unusedVariables false
set_option linter.all false

namespace Go.Proofs
namespace Th
open Go.RowKit

attribute [local go_sem ↓] Go.wp_at_zero Go.wp_at_succ

/-- What Parse comes to. -/
def ParsePost (r : Except Flt Pat) (w : World) (e : Ending) (w' : World) : Prop :=
  match r with
  | .error f => e = .returned (.tuple #[noPat, fltV f]) ∧ Keeps No w w'
  | .ok p => ∃ sA sn sc kA kn kc ns F Fn, e = .returned (.tuple #[patV p.tree.kind (.slice sA sn sc) (.slice kA kn kc) p.tree.number p.tree.least p.tree.most p.tree.way p.tree.fold p.groups ns, fltV (0, 0)]) ∧
      NodeRep w' [.int .i64 p.tree.kind, .slice sA sn sc, .slice kA kn kc, .int .i64 p.tree.number, .int .i64 p.tree.least, .int .i64 p.tree.most, .int .i64 p.tree.way, .bool p.tree.fold] p.tree F ∧
      SliceV w' 44 2 ns p.names.length (nameCells p.names) Fn ∧ (∀ g ∈ F, w.heap.size ≤ g) ∧ (∀ g ∈ Fn, w.heap.size ≤ g) ∧ Keeps No w w'

theorem par_world {P : Program} {f : FuncId} {args : Array Value} {R : Ending → World → Prop} {W : World} (F : World → Prop) (hF : F W) (h : ∀ W', F W' → Calls P f args W' R) : Calls P f args W R := h W hF

/-- The results' boxes. -/
structure ParAt (w W : World) : Prop where
  box : PatBox W w.heap.size
  z0 : ∀ i, W.frozen? ⟨w.heap.size, i, none⟩ = false
  flt : (∃ v, W.cell? ⟨w.heap.size + 1, 0, none⟩ = some v) ∧ ∃ v, W.cell? ⟨w.heap.size + 1, 1, none⟩ = some v
  z1 : ∀ i, W.frozen? ⟨w.heap.size + 1, i, none⟩ = false
  keeps : Keeps No w W
  size : w.heap.size + 1 < W.heap.size
theorem PatBox.keep {S : Nat → Prop} {w w' : World} {b : Nat} (h : PatBox w b) (hk : Keeps S w w') (hs : ¬ S b) : PatBox w' b := by
  obtain ⟨v0, v1, v2, v3, v4, v5, v6, v7, v8, v9, k0, k1, k2, k3, k4, k5, k6, k7, k8, k9⟩ := h
  have hb := lt_of_cell k0
  exact ⟨v0, v1, v2, v3, v4, v5, v6, v7, v8, v9, (hk.cell hb hs).trans k0, (hk.cell hb hs).trans k1, (hk.cell hb hs).trans k2, (hk.cell hb hs).trans k3, (hk.cell hb hs).trans k4, (hk.cell hb hs).trans k5, (hk.cell hb hs).trans k6, (hk.cell hb hs).trans k7, (hk.cell hb hs).trans k8, (hk.cell hb hs).trans k9⟩
theorem ParAt.keep {S : Nat → Prop} {w W W' : World} (h : ParAt w W) (hk : Keeps S W W') (hs : ∀ k, k < w.heap.size + 2 → ¬ S k) : ParAt w W' := by
  have hz := h.size
  have h0 : w.heap.size < W.heap.size := by omega
  obtain ⟨⟨u0, f0⟩, ⟨u1, f1⟩⟩ := h.flt
  exact ⟨h.box.keep hk (hs _ (by omega)), fun i => (hk.frozen h0 (hs _ (by omega))).trans (h.z0 i), ⟨⟨u0, (hk.cell hz (hs _ (by omega))).trans f0⟩, ⟨u1, (hk.cell hz (hs _ (by omega))).trans f1⟩⟩, fun i => (hk.frozen hz (hs _ (by omega))).trans (h.z1 i),
    h.keeps.trans' hk (fun k hk1 hk2 => hs k (by omega) hk2), hk.lt_of hz⟩

theorem ParAt.keepN2 {w W : World} (h : ParAt w W) (W' : World) (hk : Keeps No W W') : ParAt w W' := h.keep hk (fun _ _ h => h)
theorem settleL_length {σ : Pst} {l : List (Int × Int × ByteArray)} {ns : List Int} (h : settleL σ l = .ok ns) : ns.length = l.length := by
  induction l generalizing ns with
  | nil => simp only [settleL] at h; cases h; rfl
  | cons a l ih =>
    simp only [settleL] at h
    cases h1 : settle1 σ a with
    | error f => rw [h1] at h; cases h
    | ok v =>
      rw [h1] at h
      simp only at h
      cases h2 : settleL σ l with
      | error f => rw [h2] at h; cases h
      | ok vs => rw [h2] at h; cases h; simp [ih h2]

theorem par_names {w : World} {P : Nat} {d : Int} {L : List Int} {σ : Pst} {F : List Nat} (h : PsAt w P d L σ F) : ∃ v6 Fl, w.cell? ⟨P, 6, none⟩ = some v6 ∧ SliceV w 44 2 v6 σ.names.length (nameCells σ.names) Fl ∧ ∀ g ∈ Fl, P < g := by
  obtain ⟨v6, v7, h6, h7, o6, o7, _⟩ := h.own
  exact ⟨v6, _, h6, SliceV.of_own o6, fun g hg => (o6.lt g (by simpa using hg)).1⟩

theorem ps_new {w W : World} {B P : Nat} {A : Option Addr} {c : Nat} {d : Int} {L : List Int} {folded : Bool} {T : TypeId} (hA : Row B w A (ints L)) (hk : Keeps No w W) (hB : B ≤ P) (hc : L.length ≤ c) (hbig : c ≤ 9223372036854775807) (hL : L.length ≤ 300) (hp : Points L) (hd : d = 1 ∨ d = 2 ∨ d = 3)
    (hb : W.heap[P]? = some (.cells #[.int .i64 d, .slice A L.length c, .int .i64 0, .bool folded, .int .i64 0, .int .i64 0, .slice none 0 0, .slice none 0 0] T (0, 0))) :
    PsAt W P d L { s := L, folded := folded, deep := 0, groups := 0, names := [], agains := [] } [] := by
  have hc' : ∀ o, W.cell? ⟨P, o, none⟩ = (#[.int .i64 d, .slice A L.length c, .int .i64 0, .bool folded, .int .i64 0, .int .i64 0, .slice none 0 0, .slice none 0 0] : Array Value)[o]? := fun o => cell_of_row W P o _ _ (0, 0) hb
  exact ⟨A, c, 0, .slice none 0 0, .slice none 0 0, ⟨hc' 0, hc' 1, hc' 2, hc' 3, hc' 4, hc' 5, hc' 6, hc' 7, fun o => frozen_of_row W P o _ _ hb, (hA.mono hB).keep hk (fun _ _ h => h), Nat.zero_le _, rfl, hc, hbig, hL, hp, hd, World.ownsRow_nil _ _ _ _, World.ownsRow_nil _ _ _ _, Nat.zero_le _, Nat.zero_le _, Nat.le_refl _, by simp⟩, rfl⟩

set_option maxRecDepth 100000 in
set_option maxHeartbeats 4000000 in
theorem parse_good {b : Below} {k : Nat} (hp : PatC b k) {B : Nat} {w : World} {A : Option Addr} {c : Nat} {d : Int} {L : List Int} (hA : Row B w A (ints L)) (hB : B ≤ w.heap.size) (hc : L.length ≤ c) (hbig : c ≤ 9223372036854775807) (hL : L.length ≤ 300) (hpt : Points L) (hd : d = 1 ∨ d = 2 ∨ d = 3) (folded : Bool) (hr0 : rightL d L = 0)
    (hAg : ∀ x σ', patternP b d L.length k { s := L, folded := folded, deep := 0, groups := 0, names := [], agains := [] } = some (.ok (x, σ')) → AgOk σ'.agains.length x ∧ countN x ≤ 5000) {r : Except Flt Pat} (hr : parseP b k d L folded = some r) :
    Calls Tryz.prog 10 #[.int .i64 d, .slice A L.length c, .bool folded] w (ParsePost r w) := by
  have hR := fun W (hk : Keeps No w W) => right_calls (w := W) d (hA.keep hk (fun _ _ h => h)) hbig hc
  rw [hr0] at hR
  have hmf : ∀ (fn : Fn) (first cap : Array Value) (w : World), (Instr.makeFunc fn first cap).run Tryz.prog w = .ok (.func fn first cap) w := fun _ _ _ _ => rfl
  unfold parseP at hr
  cases hpp : patternP b d L.length k { s := L, folded := folded, deep := 0, groups := 0, names := [], agains := [] } with
  | none => rw [hpp] at hr; cases hr
  | some r1 =>
    rw [hpp] at hr
    have HP := hid (fun W hW => hp W (w.heap.size + 1 + 1) d L _ [] _ hW hpp)
    have hagx : ∀ x σ', r1 = .ok (x, σ') → AgOk σ'.agains.length x ∧ countN x ≤ 5000 := fun x σ' e => hAg x σ' (by rw [hpp, e])
    have HNEW := hid (fun W (hk : Keeps No w W) hb => ps_new (W := W) (P := w.heap.size + 1 + 1) (T := 55) (folded := folded) hA hk (by omega) hc hbig hL hpt hd hb)
    clear hp hAg hpp
    cases r1 with
    | error f =>
      simp only [Option.some.injEq] at hr
      subst hr
      clear hagx
      go_enter_defers Tryz.func10, Tryz.ntmps10
      go_wp2_with fail
      refine (hR _ (by (repeat' (first | with_reducible exact Keeps.refl _ _ | with_reducible refine Keeps.set ?_ (by simp <;> omega) _ | with_reducible refine Keeps.alloc ?_ _ | with_reducible refine Keeps.drewN ?_ _ | with_reducible refine Keeps.drew ?_)))).mono ?_
      rintro e wa ⟨rfl, rfl⟩
      go_wp2_with fail
      refine par_world (fun W0 => PsAt W0 (w.heap.size + 1 + 1) d L { s := L, folded := folded, deep := 0, groups := 0, names := [], agains := [] } [] ∧ ParAt w W0) ⟨HNEW.out _ (by (repeat' (first | with_reducible exact Keeps.refl _ _ | with_reducible refine Keeps.set ?_ (by simp <;> omega) _ | with_reducible refine Keeps.alloc ?_ _ | with_reducible refine Keeps.drewN ?_ _ | with_reducible refine Keeps.drew ?_))) (heap_new (by simp)), ⟨_, _, _, _, _, _, _, _, _, _, by simp [go_sem]; rfl, by simp [go_sem]; rfl, by simp [go_sem]; rfl, by simp [go_sem]; rfl, by simp [go_sem]; rfl, by simp [go_sem]; rfl, by simp [go_sem]; rfl, by simp [go_sem]; rfl, by simp [go_sem]; rfl, by simp [go_sem]; rfl⟩, by simp [go_sem], by simp [go_sem], by simp [go_sem], by (repeat' (first | with_reducible exact Keeps.refl _ _ | with_reducible refine Keeps.set ?_ (by simp <;> omega) _ | with_reducible refine Keeps.alloc ?_ _ | with_reducible refine Keeps.drewN ?_ _ | with_reducible refine Keeps.drew ?_)), by simp⟩ ?_
      rintro W0 ⟨hPs0, hPA⟩
      refine (HP.out W0 hPs0).mono ?_
      rintro e w1 ⟨rfl, hk1, hal1⟩
      have HPA := hPA.keep hk1 (fun k hk e => by rcases e with e | e; omega; simp at e)
      simp only [fltPanic]
      refine leaves_cons (f := 20) (args := #[.pointer (some ⟨w.heap.size, 0, none⟩), .pointer (some ⟨w.heap.size + 1, 0, none⟩)]) (by simp) (by simp [go_sem]) ?_
      refine (parseCatch_panicking (by omega) f _ HPA.size HPA.box HPA.z0 HPA.flt HPA.z1).mono ?_
      rintro e u' wz ⟨rfl, rfl, hkz, ⟨p0, p1, p2, p3, p4, p5, p6, p7, p8, p9⟩, f0, f1⟩
      have hke : Keeps No w wz := HPA.keeps.trans' hkz (fun k h1 h2 => by rcases h2 with h2 | h2 <;> omega)
      simp only [Leaves, settle, List.dropWhile]
      refine ⟨.tuple #[noPat, fltV f], by simp [results, Tryz.results10, go_sem, noPat, patV, fltV, *], ?_⟩
      exact ⟨rfl, hke⟩
    | ok xσ =>
      obtain ⟨x, σ'⟩ := xσ
      have hag := hagx x σ' rfl
      simp only at hr
      by_cases hs : σ'.s = []
      · rw [if_neg (fun e => e hs)] at hr
        have hlt : ¬ posOf L.length σ'.s < (L.length : Int) := by rw [hs]; simp [posOf]
        clear hs
        cases hse : settleL σ' σ'.agains with
        | error f =>
          rw [hse] at hr
          simp only [Option.some.injEq] at hr
          subst hr
          have HS := hid hse
          clear hse hagx
          go_enter_defers Tryz.func10, Tryz.ntmps10
          go_wp2_with fail
          refine (hR _ (by (repeat' (first | with_reducible exact Keeps.refl _ _ | with_reducible refine Keeps.set ?_ (by simp <;> omega) _ | with_reducible refine Keeps.alloc ?_ _ | with_reducible refine Keeps.drewN ?_ _ | with_reducible refine Keeps.drew ?_)))).mono ?_
          rintro e wa ⟨rfl, rfl⟩
          go_wp2_with fail
          refine par_world (fun W0 => PsAt W0 (w.heap.size + 1 + 1) d L { s := L, folded := folded, deep := 0, groups := 0, names := [], agains := [] } [] ∧ ParAt w W0) ⟨HNEW.out _ (by (repeat' (first | with_reducible exact Keeps.refl _ _ | with_reducible refine Keeps.set ?_ (by simp <;> omega) _ | with_reducible refine Keeps.alloc ?_ _ | with_reducible refine Keeps.drewN ?_ _ | with_reducible refine Keeps.drew ?_))) (heap_new (by simp)), ⟨_, _, _, _, _, _, _, _, _, _, by simp [go_sem]; rfl, by simp [go_sem]; rfl, by simp [go_sem]; rfl, by simp [go_sem]; rfl, by simp [go_sem]; rfl, by simp [go_sem]; rfl, by simp [go_sem]; rfl, by simp [go_sem]; rfl, by simp [go_sem]; rfl, by simp [go_sem]; rfl⟩, by simp [go_sem], by simp [go_sem], by simp [go_sem], by (repeat' (first | with_reducible exact Keeps.refl _ _ | with_reducible refine Keeps.set ?_ (by simp <;> omega) _ | with_reducible refine Keeps.alloc ?_ _ | with_reducible refine Keeps.drewN ?_ _ | with_reducible refine Keeps.drew ?_)), by simp⟩ ?_
          rintro W0 ⟨hPs0, hPA⟩
          refine (HP.out W0 hPs0).mono ?_
          rintro e w1 ⟨v', Fn, F1, rfl, hN, hnu, hfr, hP1, hgr, hk1⟩
          obtain ⟨sA, sn, sc, kA, kn, kc, rfl, hN2⟩ := hN.parts
          have HPA1 := hPA.keep hk1 (fun k hk e => by rcases e with e | e; omega; simp at e)
          obtain ⟨-, -, -, -, -, -, y2, -, -, y5, y6, -, -⟩ := hP1.cells
          have hPw := hP1.lt
          have hz1 := HPA1.size
          have hz0 := hPA.size
          have hPl := hP1.lists
          clear hN
          go_wp2_with fail
          refine (settle_calls (hP1.keepN (by (repeat' (first | with_reducible exact Keeps.refl _ _ | with_reducible refine Keeps.set ?_ (by simp <;> omega) _ | with_reducible refine Keeps.alloc ?_ _ | with_reducible refine Keeps.drewN ?_ _ | with_reducible refine Keeps.drew ?_))))).mono ?_
          rintro e w2 hq
          unfold SetlPost at hq
          rw [HS.out] at hq
          obtain ⟨rfl, hk2⟩ := hq
          have HPA := HPA1.keep (Keeps.trans (by (repeat' (first | with_reducible exact Keeps.refl _ _ | with_reducible refine Keeps.set ?_ (by simp <;> omega) _ | with_reducible refine Keeps.alloc ?_ _ | with_reducible refine Keeps.drewN ?_ _ | with_reducible refine Keeps.drew ?_))) hk2) (fun _ _ h => h)
          simp only [fltPanic]
          refine leaves_cons (f := 20) (args := #[.pointer (some ⟨w.heap.size, 0, none⟩), .pointer (some ⟨w.heap.size + 1, 0, none⟩)]) (by simp) (by simp [go_sem]) ?_
          refine (parseCatch_panicking (by omega) f _ HPA.size HPA.box HPA.z0 HPA.flt HPA.z1).mono ?_
          rintro e u' wz ⟨rfl, rfl, hkz, ⟨p0, p1, p2, p3, p4, p5, p6, p7, p8, p9⟩, f0, f1⟩
          have hke : Keeps No w wz := HPA.keeps.trans' hkz (fun k h1 h2 => by rcases h2 with h2 | h2 <;> omega)
          simp only [Leaves, settle, List.dropWhile]
          refine ⟨.tuple #[noPat, fltV f], by simp [results, Tryz.results10, go_sem, noPat, patV, fltV, *], ?_⟩
          exact ⟨rfl, hke⟩
        | ok ns =>
          rw [hse] at hr
          have HS := hid hse
          clear hse hagx
          by_cases hc1 : 1000 < countN x
          · simp only at hr
            rw [if_pos hc1] at hr
            simp only [Option.some.injEq] at hr
            subst hr
            have hc1' : (1000 : Int) < (countN x : Int) := by omega
            go_enter_defers Tryz.func10, Tryz.ntmps10
            go_wp2_with fail
            refine (hR _ (by (repeat' (first | with_reducible exact Keeps.refl _ _ | with_reducible refine Keeps.set ?_ (by simp <;> omega) _ | with_reducible refine Keeps.alloc ?_ _ | with_reducible refine Keeps.drewN ?_ _ | with_reducible refine Keeps.drew ?_)))).mono ?_
            rintro e wa ⟨rfl, rfl⟩
            go_wp2_with fail
            refine par_world (fun W0 => PsAt W0 (w.heap.size + 1 + 1) d L { s := L, folded := folded, deep := 0, groups := 0, names := [], agains := [] } [] ∧ ParAt w W0) ⟨HNEW.out _ (by (repeat' (first | with_reducible exact Keeps.refl _ _ | with_reducible refine Keeps.set ?_ (by simp <;> omega) _ | with_reducible refine Keeps.alloc ?_ _ | with_reducible refine Keeps.drewN ?_ _ | with_reducible refine Keeps.drew ?_))) (heap_new (by simp)), ⟨_, _, _, _, _, _, _, _, _, _, by simp [go_sem]; rfl, by simp [go_sem]; rfl, by simp [go_sem]; rfl, by simp [go_sem]; rfl, by simp [go_sem]; rfl, by simp [go_sem]; rfl, by simp [go_sem]; rfl, by simp [go_sem]; rfl, by simp [go_sem]; rfl, by simp [go_sem]; rfl⟩, by simp [go_sem], by simp [go_sem], by simp [go_sem], by (repeat' (first | with_reducible exact Keeps.refl _ _ | with_reducible refine Keeps.set ?_ (by simp <;> omega) _ | with_reducible refine Keeps.alloc ?_ _ | with_reducible refine Keeps.drewN ?_ _ | with_reducible refine Keeps.drew ?_)), by simp⟩ ?_
            rintro W0 ⟨hPs0, hPA⟩
            refine (HP.out W0 hPs0).mono ?_
            rintro e w1 ⟨v', Fn, F1, rfl, hN, hnu, hfr, hP1, hgr, hk1⟩
            obtain ⟨sA, sn, sc, kA, kn, kc, rfl, hN2⟩ := hN.parts
            have HPA1 := hPA.keep hk1 (fun k hk e => by rcases e with e | e; omega; simp at e)
            obtain ⟨-, -, -, -, -, -, y2, -, -, y5, y6, -, -⟩ := hP1.cells
            have hPw := hP1.lt
            have hz1 := HPA1.size
            have hz0 := hPA.size
            have hPl := hP1.lists
            clear hN
            go_wp2_with fail
            refine (settle_calls (hP1.keepN (by (repeat' (first | with_reducible exact Keeps.refl _ _ | with_reducible refine Keeps.set ?_ (by simp <;> omega) _ | with_reducible refine Keeps.alloc ?_ _ | with_reducible refine Keeps.drewN ?_ _ | with_reducible refine Keeps.drew ?_))))).mono ?_
            rintro e w2 hq
            unfold SetlPost at hq
            rw [HS.out] at hq
            obtain ⟨An, cn, Fi, rfl, hsv, hfi, hk2⟩ := hq
            have hkb2 : Keeps No w1 w2 := Keeps.trans (by (repeat' (first | with_reducible exact Keeps.refl _ _ | with_reducible refine Keeps.set ?_ (by simp <;> omega) _ | with_reducible refine Keeps.alloc ?_ _ | with_reducible refine Keeps.drewN ?_ _ | with_reducible refine Keeps.drew ?_))) hk2
            have hb2 : w2.heap[w1.heap.size]? = some (.cells ([] ++ ([.int .i64 x.kind, .slice sA sn sc, .slice kA kn kc, .int .i64 x.number, .int .i64 x.least, .int .i64 x.most, .int .i64 x.way, .bool x.fold] : List Value) ++ []).toArray 27 (0, 0)) := (hk2.block w1.heap.size (by simp) id).trans (heap_new rfl)
            have hFlt : ∀ g ∈ Fn, g < w1.heap.size := fun g hg => hN2.kind.1.lt hg
            have hfr' : ∀ g ∈ Fn, W0.heap.size ≤ g ∧ g ∉ F1 := hfr
            go_wp2_with fail
            refine (put_calls (countN x) x (Nat.le_refl _) hag.2 (o := 0) hb2 rfl (hN2.keeps hkb2 (fun _ _ h => h)) (fun h => by have := hFlt _ h; omega) hnu hsv (fun g hg => ⟨fun e => by have := hfi g hg; simp at this; omega, fun h => by have := hfi g hg; have := hFlt g h; simp at *; omega⟩) (by rw [settleL_length HS.out]; exact hag.1)).mono ?_
            rintro e w3 ⟨rfl, c', hx', hb3, hk3⟩
            have hk13 : Keeps (fun k => k = w1.heap.size ∨ k ∈ Fn) w1 w3 := (hkb2.mono (fun _ h => h.elim)).trans hk3
            have HPA := HPA1.keep hk13 (fun k hk e => by rcases e with e | e; omega; have := (hfr' k e).1; omega)
            go_wp2_with fail
            refine (pfail_calls _ _ _).mono ?_
            rintro e wf ⟨rfl, rfl⟩
            simp only [fltPanic]
            refine leaves_cons (f := 20) (args := #[.pointer (some ⟨w.heap.size, 0, none⟩), .pointer (some ⟨w.heap.size + 1, 0, none⟩)]) (by simp) (by simp [go_sem]) ?_
            refine (parseCatch_panicking (by omega) (2, 0) _ HPA.size HPA.box HPA.z0 HPA.flt HPA.z1).mono ?_
            rintro e u' wz ⟨rfl, rfl, hkz, ⟨p0, p1, p2, p3, p4, p5, p6, p7, p8, p9⟩, f0, f1⟩
            have hke : Keeps No w wz := HPA.keeps.trans' hkz (fun k h1 h2 => by rcases h2 with h2 | h2 <;> omega)
            simp only [Leaves, settle, List.dropWhile]
            refine ⟨.tuple #[noPat, fltV (2, 0)], by simp [results, Tryz.results10, go_sem, noPat, patV, fltV, *], ?_⟩
            exact ⟨rfl, hke⟩
          · simp only at hr
            rw [if_neg hc1] at hr
            simp only [Option.some.injEq] at hr
            subst hr
            have hc1' : ¬ (1000 : Int) < (countN x : Int) := by omega
            go_enter_defers Tryz.func10, Tryz.ntmps10
            go_wp2_with fail
            refine (hR _ (by (repeat' (first | with_reducible exact Keeps.refl _ _ | with_reducible refine Keeps.set ?_ (by simp <;> omega) _ | with_reducible refine Keeps.alloc ?_ _ | with_reducible refine Keeps.drewN ?_ _ | with_reducible refine Keeps.drew ?_)))).mono ?_
            rintro e wa ⟨rfl, rfl⟩
            go_wp2_with fail
            refine par_world (fun W0 => PsAt W0 (w.heap.size + 1 + 1) d L { s := L, folded := folded, deep := 0, groups := 0, names := [], agains := [] } [] ∧ ParAt w W0) ⟨HNEW.out _ (by (repeat' (first | with_reducible exact Keeps.refl _ _ | with_reducible refine Keeps.set ?_ (by simp <;> omega) _ | with_reducible refine Keeps.alloc ?_ _ | with_reducible refine Keeps.drewN ?_ _ | with_reducible refine Keeps.drew ?_))) (heap_new (by simp)), ⟨_, _, _, _, _, _, _, _, _, _, by simp [go_sem]; rfl, by simp [go_sem]; rfl, by simp [go_sem]; rfl, by simp [go_sem]; rfl, by simp [go_sem]; rfl, by simp [go_sem]; rfl, by simp [go_sem]; rfl, by simp [go_sem]; rfl, by simp [go_sem]; rfl, by simp [go_sem]; rfl⟩, by simp [go_sem], by simp [go_sem], by simp [go_sem], by (repeat' (first | with_reducible exact Keeps.refl _ _ | with_reducible refine Keeps.set ?_ (by simp <;> omega) _ | with_reducible refine Keeps.alloc ?_ _ | with_reducible refine Keeps.drewN ?_ _ | with_reducible refine Keeps.drew ?_)), by simp⟩ ?_
            rintro W0 ⟨hPs0, hPA⟩
            refine (HP.out W0 hPs0).mono ?_
            rintro e w1 ⟨v', Fn, F1, rfl, hN, hnu, hfr, hP1, hgr, hk1⟩
            obtain ⟨sA, sn, sc, kA, kn, kc, rfl, hN2⟩ := hN.parts
            have HPA1 := hPA.keep hk1 (fun k hk e => by rcases e with e | e; omega; simp at e)
            obtain ⟨-, -, -, -, -, -, y2, -, -, y5, y6, -, -⟩ := hP1.cells
            have hPw := hP1.lt
            have hz1 := HPA1.size
            have hz0 := hPA.size
            have hPl := hP1.lists
            clear hN
            go_wp2_with fail
            refine (settle_calls (hP1.keepN (by (repeat' (first | with_reducible exact Keeps.refl _ _ | with_reducible refine Keeps.set ?_ (by simp <;> omega) _ | with_reducible refine Keeps.alloc ?_ _ | with_reducible refine Keeps.drewN ?_ _ | with_reducible refine Keeps.drew ?_))))).mono ?_
            rintro e w2 hq
            unfold SetlPost at hq
            rw [HS.out] at hq
            obtain ⟨An, cn, Fi, rfl, hsv, hfi, hk2⟩ := hq
            have hkb2 : Keeps No w1 w2 := Keeps.trans (by (repeat' (first | with_reducible exact Keeps.refl _ _ | with_reducible refine Keeps.set ?_ (by simp <;> omega) _ | with_reducible refine Keeps.alloc ?_ _ | with_reducible refine Keeps.drewN ?_ _ | with_reducible refine Keeps.drew ?_))) hk2
            have hb2 : w2.heap[w1.heap.size]? = some (.cells ([] ++ ([.int .i64 x.kind, .slice sA sn sc, .slice kA kn kc, .int .i64 x.number, .int .i64 x.least, .int .i64 x.most, .int .i64 x.way, .bool x.fold] : List Value) ++ []).toArray 27 (0, 0)) := (hk2.block w1.heap.size (by simp) id).trans (heap_new rfl)
            have hFlt : ∀ g ∈ Fn, g < w1.heap.size := fun g hg => hN2.kind.1.lt hg
            have hfr' : ∀ g ∈ Fn, W0.heap.size ≤ g ∧ g ∉ F1 := hfr
            go_wp2_with fail
            refine (put_calls (countN x) x (Nat.le_refl _) hag.2 (o := 0) hb2 rfl (hN2.keeps hkb2 (fun _ _ h => h)) (fun h => by have := hFlt _ h; omega) hnu hsv (fun g hg => ⟨fun e => by have := hfi g hg; simp at this; omega, fun h => by have := hfi g hg; have := hFlt g h; simp at *; omega⟩) (by rw [settleL_length HS.out]; exact hag.1)).mono ?_
            rintro e w3 ⟨rfl, c', hx', hb3, hk3⟩
            have hk13 : Keeps (fun k => k = w1.heap.size ∨ k ∈ Fn) w1 w3 := (hkb2.mono (fun _ h => h.elim)).trans hk3
            have HPA := HPA1.keep hk13 (fun k hk e => by rcases e with e | e; omega; have := (hfr' k e).1; omega)
            have hPw0 := hPs0.lt
            have hPs3 := (hP1.keepN hkb2).keep hk3 (fun k hk e => by rcases e with e | e; omega; have := (hfr' k e).1; omega) (fun g hg e => by rcases e with e | e; have := (hPl g hg).2; omega; exact (hfr' g e).2 hg)
            obtain ⟨sv, kv, xs', Fs', Fk', Fl', rfl, hFn', hs', hk', hl'⟩ := hx'.out
            obtain ⟨sA', sc', rfl⟩ := hs'.slice
            obtain ⟨kA', kc', rfl⟩ := hk'.slice
            have hcell := fun i hi => block_cell hb3 rfl (i := i) hi
            have t0 := hcell 0 (by simp); have t1 := hcell 1 (by simp); have t2 := hcell 2 (by simp); have t3 := hcell 3 (by simp)
            have t4 := hcell 4 (by simp); have t5 := hcell 5 (by simp); have t6 := hcell 6 (by simp); have t7 := hcell 7 (by simp)
            simp at t0 t1 t2 t3 t4 t5 t6 t7
            obtain ⟨-, -, -, -, -, -, -, -, -, z5, z6', -, -⟩ := hPs3.cells
            obtain ⟨v6, Fl6, z6, hv6, hv6l⟩ := par_names hPs3
            obtain ⟨A6, c6, rfl⟩ := hv6.slice
            have hF1 := hPs3.lists
            have hP3 := hPs3.lt
            have hT3 : w1.heap.size < w3.heap.size := lt_of_cell t0
            generalize putN ns x = px at *
            obtain ⟨v0', v1', v2', v3', v4', v5', v6', v7', v8', v9', k0', k1', k2', k3', k4', k5', k6', k7', k8', k9'⟩ := HPA.box
            obtain ⟨⟨u0, f0⟩, ⟨u1, f1⟩⟩ := HPA.flt
            have hzz := HPA.z0
            have hzz1 := HPA.z1
            have hzs := HPA.size
            have hi1 : ¬ w1.heap.size = w.heap.size := by omega
            have hi2 : ¬ w1.heap.size = w.heap.size + 1 := by omega
            have hi3 : ¬ w.heap.size = w1.heap.size := by omega
            have hi4 : ¬ w.heap.size + 1 = w1.heap.size := by omega
            have hzs' : w.heap.size < w3.heap.size := by omega
            clear hcell
            clear hb3 hl' hs' hk' hsv hfi hb2
            clear hPs0 hPA HP HNEW hR hmf HPA1 y2 y5 hP1
            go_wp2_with fail
            go_region_held3 (fun w' => (w'.cell? ⟨w1.heap.size, 0, none⟩ = some (.int .i64 px.kind) ∧ w'.cell? ⟨w1.heap.size, 1, none⟩ = some (.slice sA' px.set.length sc') ∧ w'.cell? ⟨w1.heap.size, 2, none⟩ = some (.slice kA' px.kids.length kc') ∧ w'.cell? ⟨w1.heap.size, 3, none⟩ = some (.int .i64 px.number) ∧ w'.cell? ⟨w1.heap.size, 4, none⟩ = some (.int .i64 px.least) ∧
                w'.cell? ⟨w1.heap.size, 5, none⟩ = some (.int .i64 px.most) ∧ w'.cell? ⟨w1.heap.size, 6, none⟩ = some (.int .i64 px.way) ∧ w'.cell? ⟨w1.heap.size, 7, none⟩ = some (.bool px.fold)) ∧ w'.cell? ⟨w.heap.size + 1 + 1, 5, none⟩ = some (.int .i64 σ'.groups) ∧ w'.cell? ⟨w.heap.size + 1 + 1, 6, none⟩ = some (.slice A6 σ'.names.length c6)) (simp [go_sem, *]) (fail)
            all_goals go_wp2_with fail
            refine (fun (F : World → Prop) (hF : F _) (h : ∀ W', F W' → bodyPostD _ _ _ _ _ W') => h _ hF)
              (fun W' => PatCells W' w.heap.size px.kind (.slice sA' px.set.length sc') (.slice kA' px.kids.length kc') px.number px.least px.most px.way px.fold σ'.groups (.slice A6 σ'.names.length c6) ∧ W'.cell? ⟨w.heap.size + 1, 0, none⟩ = some (.int .i64 0) ∧ W'.cell? ⟨w.heap.size + 1, 1, none⟩ = some (.int .i64 0) ∧ Keeps (fun k => k = w.heap.size ∨ k = w.heap.size + 1) w3 W') ?_ ?_
            · refine ⟨⟨?_, ?_, ?_, ?_, ?_, ?_, ?_, ?_, ?_, ?_⟩, ?_, ?_, ?_⟩
              all_goals first | (simp [go_sem, *]; done) | skip
              (repeat' (first | with_reducible exact Keeps.refl _ _ | with_reducible refine Keeps.set ?_ (by simp <;> omega) _ | with_reducible refine Keeps.alloc ?_ _ | with_reducible refine Keeps.drewN ?_ _ | with_reducible refine Keeps.drew ?_))
            rintro W' ⟨⟨p0, p1, p2, p3, p4, p5, p6, p7, p8, p9⟩, g0, g1, hkW⟩
            refine leaves_cons (f := 20) (args := #[.pointer (some ⟨w.heap.size, 0, none⟩), .pointer (some ⟨w.heap.size + 1, 0, none⟩)]) (by simp) (by simp [go_sem]) ?_
            refine (parseCatch_idle _).mono ?_
            rintro e u' w4 ⟨rfl, rfl, hk4⟩
            have hl1 := lt_of_cell p0
            have hl2 := lt_of_cell g0
            simp only at hl1 hl2
            have q0 := fun o => hk4.cell (b := w.heap.size) (o := o) hl1 id
            have q1 := fun o => hk4.cell (b := w.heap.size + 1) (o := o) hl2 id
            have hke : Keeps No w w4 := (HPA.keeps.trans' hkW (fun k h1 h2 => by rcases h2 with h2 | h2 <;> omega)).trans hk4
            have hx4 := (hx'.keeps hkW (fun g hg e => by have := (hfr' g hg).1; omega)).keeps hk4 (fun _ _ h => h)
            have hv4 := (hv6.keeps hkW (fun g hg e => by have := hv6l g hg; omega)).keeps hk4 (fun _ _ h => h)
            have hfg : ∀ g ∈ Fn, w.heap.size ≤ g := fun g hg => by have := (hfr' g hg).1; omega
            have hvg : ∀ g ∈ Fl6, w.heap.size ≤ g := fun g hg => by have := hv6l g hg; omega
            simp only [Leaves, settle]
            refine ⟨.tuple #[patV px.kind (.slice sA' px.set.length sc') (.slice kA' px.kids.length kc') px.number px.least px.most px.way px.fold σ'.groups (.slice A6 σ'.names.length c6), fltV (0, 0)], by simp [results, Tryz.results10, go_sem, patV, fltV, q0, q1, p0, p1, p2, p3, p4, p5, p6, p7, p8, p9, g0, g1], ?_⟩
            exact ⟨_, _, _, _, _, _, _, Fn, Fl6, rfl, hx4, hv4, hfg, hvg, hke⟩
      · rw [if_pos hs] at hr
        simp only [Option.some.injEq] at hr
        subst hr
        have hlt : posOf L.length σ'.s < (L.length : Int) := by
          have := List.length_pos_iff.2 hs
          unfold posOf
          omega
        clear hagx
        go_enter_defers Tryz.func10, Tryz.ntmps10
        go_wp2_with fail
        refine (hR _ (by (repeat' (first | with_reducible exact Keeps.refl _ _ | with_reducible refine Keeps.set ?_ (by simp <;> omega) _ | with_reducible refine Keeps.alloc ?_ _ | with_reducible refine Keeps.drewN ?_ _ | with_reducible refine Keeps.drew ?_)))).mono ?_
        rintro e wa ⟨rfl, rfl⟩
        go_wp2_with fail
        refine par_world (fun W0 => PsAt W0 (w.heap.size + 1 + 1) d L { s := L, folded := folded, deep := 0, groups := 0, names := [], agains := [] } [] ∧ ParAt w W0) ⟨HNEW.out _ (by (repeat' (first | with_reducible exact Keeps.refl _ _ | with_reducible refine Keeps.set ?_ (by simp <;> omega) _ | with_reducible refine Keeps.alloc ?_ _ | with_reducible refine Keeps.drewN ?_ _ | with_reducible refine Keeps.drew ?_))) (heap_new (by simp)), ⟨_, _, _, _, _, _, _, _, _, _, by simp [go_sem]; rfl, by simp [go_sem]; rfl, by simp [go_sem]; rfl, by simp [go_sem]; rfl, by simp [go_sem]; rfl, by simp [go_sem]; rfl, by simp [go_sem]; rfl, by simp [go_sem]; rfl, by simp [go_sem]; rfl, by simp [go_sem]; rfl⟩, by simp [go_sem], by simp [go_sem], by simp [go_sem], by (repeat' (first | with_reducible exact Keeps.refl _ _ | with_reducible refine Keeps.set ?_ (by simp <;> omega) _ | with_reducible refine Keeps.alloc ?_ _ | with_reducible refine Keeps.drewN ?_ _ | with_reducible refine Keeps.drew ?_)), by simp⟩ ?_
        rintro W0 ⟨hPs0, hPA⟩
        refine (HP.out W0 hPs0).mono ?_
        rintro e w1 ⟨v', Fn, F1, rfl, hN, hnu, hfr, hP1, hgr, hk1⟩
        obtain ⟨sA, sn, sc, kA, kn, kc, rfl, hN2⟩ := hN.parts
        have HPA1 := hPA.keep hk1 (fun k hk e => by rcases e with e | e; omega; simp at e)
        obtain ⟨-, -, -, -, -, -, y2, -, -, y5, y6, -, -⟩ := hP1.cells
        have hPw := hP1.lt
        have hz1 := HPA1.size
        have hz0 := hPA.size
        have hPl := hP1.lists
        clear hN
        have HPA := HPA1.keepN2 (w1.alloc (.cells #[.int .i64 x.kind, .slice sA sn sc, .slice kA kn kc, .int .i64 x.number, .int .i64 x.least, .int .i64 x.most, .int .i64 x.way, .bool x.fold] 27)) (by (repeat' (first | with_reducible exact Keeps.refl _ _ | with_reducible refine Keeps.set ?_ (by simp <;> omega) _ | with_reducible refine Keeps.alloc ?_ _ | with_reducible refine Keeps.drewN ?_ _ | with_reducible refine Keeps.drew ?_)))
        go_wp2_with fail
        refine (pfail_calls _ _ _).mono ?_
        rintro e wf ⟨rfl, rfl⟩
        simp only [fltPanic]
        refine leaves_cons (f := 20) (args := #[.pointer (some ⟨w.heap.size, 0, none⟩), .pointer (some ⟨w.heap.size + 1, 0, none⟩)]) (by simp) (by simp [go_sem]) ?_
        refine (parseCatch_panicking (by omega) (1, posOf L.length σ'.s) _ HPA.size HPA.box HPA.z0 HPA.flt HPA.z1).mono ?_
        rintro e u' wz ⟨rfl, rfl, hkz, ⟨p0, p1, p2, p3, p4, p5, p6, p7, p8, p9⟩, f0, f1⟩
        have hke : Keeps No w wz := HPA.keeps.trans' hkz (fun k h1 h2 => by rcases h2 with h2 | h2 <;> omega)
        simp only [Leaves, settle, List.dropWhile]
        refine ⟨.tuple #[noPat, fltV (1, posOf L.length σ'.s)], by simp [results, Tryz.results10, go_sem, noPat, patV, fltV, *], ?_⟩
        exact ⟨rfl, hke⟩

end Th
end Go.Proofs
