/- The parser: a pattern. -/
import Derived.Test.YthjjfgpainleaaaGreatGK
import Derived.Test.YthjjfgpainleaaaGreatTokT

set_option linter.unusedSimpArgs false
set_option linter.unusedVariables false
set_option linter.all false

namespace Go.Proofs
namespace Th
open Go.RowKit

theorem PsAt.pts2 {w : World} {P : Nat} {d : Int} {L : List Int} {σ : Pst} {F : List Nat} (h : PsAt w P d L σ F) : Points σ.s ∧ σ.s.length ≤ 300 := by
  obtain ⟨A, c, v6, v7, h0, h1, h2, h3, h4, h5, h6, h7, h8, h9, h10, h11, h12, h13, h14, h15, h16, h17, h18, h19, h20, h21, h22, h23⟩ := h.facts
  refine ⟨fun x hx => h16 x ?_, by omega⟩
  rw [h18] at hx
  exact List.mem_of_mem_drop hx

/-- What is deferred: the options are as they were. -/
theorem was_deferred {b1 b3 P : Nat} {f : Bool} {v : Value} (u : FrameMode) (w : World) (h1 : w.cell? ⟨b1, 0, none⟩ = some (.pointer (some ⟨P, 0, none⟩))) (h3 : w.cell? ⟨b3, 0, none⟩ = some (.bool f)) (hP : w.cell? ⟨P, 3, none⟩ = some v) (hz : w.frozen? ⟨P, 3, none⟩ = false) :
    CallsD Tryz.prog 36 #[.pointer (some ⟨b3, 0, none⟩), .pointer (some ⟨b1, 0, none⟩)] u w fun e u' w' => u' = u ∧ (e = .returned (.tuple #[]) ∧ w' = w.setCell ⟨P, 3, none⟩ (.bool f)) := by
  go_enter_d Tryz.func36, Tryz.ntmps36
  go_wp2
  exact ⟨rfl, _, results_none rfl _ _ _, rfl, rfl⟩


theorem NdAt.of_block2 {w : World} {B : Nat} (h : ∀ o, w.cell? ⟨B, o, none⟩ = (#[.int .i64 0, .slice none 0 0, .slice none 0 0, .int .i64 0, .int .i64 0, .int .i64 0, .int .i64 0, .bool false] : Array Value)[o]? ∧ w.frozen? ⟨B, o, none⟩ = false) : NdAt w B :=
  ⟨(h 0).1, (h 1).1, (h 2).1, (h 3).1, (h 4).1, (h 5).1, (h 6).1, (h 7).1, fun o => (h o).2⟩

/-- What the pattern's own boxes hold. -/
structure PatAt (w : World) (P : Nat) (d : Int) (L : List Int) (σ : Pst) (F : List Nat) (W : World) : Prop where
  box : W.cell? ⟨w.heap.size, 0, none⟩ = some (.pointer (some ⟨P, 0, none⟩))
  was : W.cell? ⟨w.heap.size + 1 + 1, 0, none⟩ = some (.bool σ.folded)
  nd : NdAt W (w.heap.size + 1)
  keeps : Keeps (fun k => k = P ∨ k ∈ F) w W
  size : w.heap.size + 2 < W.heap.size
theorem PatAt.keep {S : Nat → Prop} {w W W' : World} {P : Nat} {d : Int} {L : List Int} {σ : Pst} {F : List Nat} (h : PatAt w P d L σ F W) (hk : Keeps S W W') (hs : ∀ b, b < w.heap.size → S b → b = P ∨ b ∈ F) (h0 : ∀ b, w.heap.size ≤ b → b < w.heap.size + 3 → ¬ S b) : PatAt w P d L σ F W' := by
  have hz := h.size
  exact ⟨(hk.cell (by omega) (h0 _ (by omega) (by omega))).trans h.box, (hk.cell (by omega) (h0 _ (by omega) (by omega))).trans h.was, h.nd.keep hk (h0 _ (by omega) (by omega)), h.keeps.trans' hk hs, hk.lt_of hz⟩
theorem PatAt.keepN {w W W' : World} {P : Nat} {d : Int} {L : List Int} {σ : Pst} {F : List Nat} (h : PatAt w P d L σ F W) (hk : Keeps No W W') : PatAt w P d L σ F W' := h.keep hk (fun _ _ h => h.elim) (fun _ _ _ h => h)
theorem calls_world {P : Program} {f : FuncId} {args : Array Value} {R : Ending → World → Prop} {W : World} (F : World → Prop) (hF : F W) (h : ∀ W', F W' → Calls P f args W' R) : Calls P f args W R := h W hF

/-- Where the loop of a pattern stands. -/
def BrsAt (b : Below) (w : World) (P : Nat) (d : Int) (L : List Int) (F : List Nat) (σ0 : Pst) (r : Except Flt (Nd × Pst)) (gk : Nat) (σ : Pst) (ts : List Nd) (v : Value) (wr : World) : Prop :=
  ∃ (G Fc : List Nat), branchesP b d L.length gk σ ts = some r ∧ ts ≠ [] ∧ NL wr (w.heap.size + 3) v ts G ∧ G.Nodup ∧ (∀ g ∈ G, w.heap.size + 3 ≤ g ∧ g ∉ Fc) ∧ (∀ g, v.ownBlock = some g → g ∉ Fc) ∧ PsAt wr P d L σ Fc ∧ Grew (w.heap.size + 3) F Fc ∧
    PatAt w P d L σ0 F wr ∧ countNs ts + 2 * σ.s.length ≤ 601

theorem ownsRow_new {w : World} {base B : Nat} {e : TypeId} {size n : Nat} {cs : List Value} (hb : w.heap[B]? = some (.cells cs.toArray e (0, 0))) (hB : base ≤ B) (hl : cs.length = n * size) (hm : n ≤ 1000) : w.ownsRow base e size (.slice (some ⟨B, 0, none⟩) n n) n cs :=
  ⟨hl, .inr ⟨B, n, cs.toArray, rfl, hB, hb, Nat.le_refl _, by unfold maxLen; omega, by simpa using hl, by rw [← hl]; simp⟩⟩

/-- Behind the first branch. -/
def patRest (σ : Pst) : Except Flt (Nd × Pst) → Except Flt (Nd × Pst)
  | .error f => .error f
  | .ok (y, σ2) => .ok (y, { σ2 with folded := σ.folded })

set_option maxRecDepth 100000 in
set_option maxHeartbeats 8000000 in
theorem pattern_c {b : Below} (hb : Good b) {k : Nat} (ha : ∀ j, j < k → BranC b j) : PatC b k := by
  intro w P d L σ F r h hr
  cases k with
  | zero => cases hr
  | succ k =>
  have hP := h.lt
  have hlist := h.lists
  have hfar : ∀ b, w.heap.size ≤ b → ¬ (b = P ∨ b ∈ F) := fun b hb e => by
    rcases e with e | e
    · omega
    · have := (hlist _ e).2; omega
  obtain ⟨A0, c0, -, -, -, -, -, h3, -, -, -, -, h8⟩ := h.cells
  have hmf : ∀ (fn : Fn) (first cap : Array Value) (w : World), (Instr.makeFunc fn first cap).run Tryz.prog w = .ok (.func fn first cap) w := fun _ _ _ _ => rfl
  have hi1 : ¬ P = w.heap.size := by omega
  have hi2 : ¬ w.heap.size = P := by omega
  have hi3 : ¬ P = w.heap.size + 1 := by omega
  have hi4 : ¬ w.heap.size + 1 = P := by omega
  have hi5 : ¬ P = w.heap.size + 1 + 1 := by omega
  have hi6 : ¬ w.heap.size + 1 + 1 = P := by omega
  have hP1 : P < w.heap.size + 1 := by omega
  have hP2 : P < w.heap.size + 1 + 1 := by omega
  have hP3 : P < w.heap.size + 1 + 1 + 1 := by omega
  simp only [patternP] at hr
  cases hbr : branchP b d L.length k σ [] false 0 with
  | none => rw [hbr] at hr; cases hr
  | some r0 =>
    rw [hbr] at hr
    have HBR := hid hbr
    have ha' := hid ha
    have hH := hid h
    cases r0 with
    | error f =>
      simp only [Option.some.injEq] at hr
      have HR := hid hr
      clear hr hbr ha h
      go_enter_defers Tryz.func21, Tryz.ntmps21
      go_wp2_with fail
      refine calls_world (fun W0 => PsAt W0 P d L σ F ∧ PatAt w P d L σ F W0) ⟨hH.out.keepN (by (repeat' (first | with_reducible exact Keeps.refl _ _ | with_reducible refine Keeps.set ?_ (by simp <;> omega) _ | with_reducible refine Keeps.alloc ?_ _ | with_reducible refine Keeps.drewN ?_ _ | with_reducible refine Keeps.drew ?_))), by simp [go_sem], by simp [go_sem], by simp [go_sem, NdAt], by (repeat' (first | with_reducible exact Keeps.refl _ _ | with_reducible refine Keeps.set ?_ (by simp <;> omega) _ | with_reducible refine Keeps.alloc ?_ _ | with_reducible refine Keeps.drewN ?_ _ | with_reducible refine Keeps.drew ?_)), by simp⟩ ?_
      rintro W0 ⟨hPs0, hPat0⟩
      clear h3 h8 hmf hH hi1 hi2 hi3 hi4 hi5 hi6 hP1 hP2 hP3
      refine (ha'.out k (by omega) _ P d L σ F _ hPs0 HBR.out).mono ?_
      rintro e w1 ⟨rfl, hk1, hal1⟩
      have HPAT := hPat0.keep hk1 (fun _ _ h => h) (fun b hb _ => hfar b hb)
      have HAL := hal1
      simp only [fltPanic]
      refine leaves_cons (f := 36) (args := #[.pointer (some ⟨w.heap.size + 1 + 1, 0, none⟩), .pointer (some ⟨w.heap.size, 0, none⟩)]) (by simp) (by simp [go_sem]) ?_
      refine (was_deferred _ _ HPAT.box HPAT.was HAL.1.choose_spec HAL.2).mono ?_
      rintro e u' wz ⟨rfl, rfl, rfl⟩
      simp only [Leaves, settle]
      rw [← HR.out]
      exact ⟨rfl, by (repeat' (first | with_reducible exact HPAT.keeps | with_reducible refine Keeps.set ?_ (by simp <;> omega) _ | with_reducible refine Keeps.alloc ?_ _ | with_reducible refine Keeps.drewN ?_ _ | with_reducible refine Keeps.drew ?_)), by (repeat' (first | with_reducible exact HAL | with_reducible refine Alive.set ?_ | with_reducible refine Alive.alloc ?_ | with_reducible refine Alive.drewN ?_ | with_reducible refine Alive.drew ?_))⟩
    | ok xσ =>
      obtain ⟨x, σ1⟩ := xσ
      simp only at hr
      have hcx := (count_all hb.ends d L.length k).one _ _ _ _ _ _ hbr
      simp only [countNs] at hcx
      have hs300 := h.pts2.2
      cases hb2 : branchesP b d L.length k σ1 [x] with
      | none => rw [hb2] at hr; cases hr
      | some r1 =>
        have hr' : r = patRest σ r1 := by
          rw [hb2] at hr
          cases r1 with
          | error f => simp only [Option.some.injEq] at hr; exact hr.symm
          | ok yσ => simp only [Option.some.injEq] at hr; exact hr.symm
        have HR := hid hr'.symm
        have HB2 := hid hb2
        clear hr hr' hb2 hbr ha h
        go_enter_defers Tryz.func21, Tryz.ntmps21
        go_wp2_with fail
        refine calls_world (fun W0 => PsAt W0 P d L σ F ∧ PatAt w P d L σ F W0) ⟨hH.out.keepN (by (repeat' (first | with_reducible exact Keeps.refl _ _ | with_reducible refine Keeps.set ?_ (by simp <;> omega) _ | with_reducible refine Keeps.alloc ?_ _ | with_reducible refine Keeps.drewN ?_ _ | with_reducible refine Keeps.drew ?_))), by simp [go_sem], by simp [go_sem], by simp [go_sem, NdAt], by (repeat' (first | with_reducible exact Keeps.refl _ _ | with_reducible refine Keeps.set ?_ (by simp <;> omega) _ | with_reducible refine Keeps.alloc ?_ _ | with_reducible refine Keeps.drewN ?_ _ | with_reducible refine Keeps.drew ?_)), by simp⟩ ?_
        rintro W0 ⟨hPs0, hPat0⟩
        clear h3 h8 hmf hH hi1 hi2 hi3 hi4 hi5 hi6 hP1 hP2 hP3
        refine (ha'.out k (by omega) _ P d L σ F _ hPs0 HBR.out).mono ?_
        rintro e w1 ⟨v', Fn, F1, rfl, hN, hnu, hfr, hP1, hgr1, hk1⟩
        obtain ⟨sA, sn, sc, kA, kn, kc, rfl, hN2⟩ := hN.parts
        have hPat1 := hPat0.keep hk1 (fun _ _ h => h) (fun b hb _ => hfar b hb)
        have hz0 := hPat0.size
        have hz1 := hPat1.size
        go_wp2_with fail
        go_loopg [4] k (fun gk v4 wr => ∃ σc ts, BrsAt b w P d L F σ r1 gk σc ts v4 wr ∧ gk ≤ k)
        case atStart =>
          refine ⟨σ1, [x], ⟨Fn, F1, HB2.out, by simp, ⟨_, ownsRow_new (cs := [.int .i64 x.kind, .slice sA sn sc, .slice kA kn kc, .int .i64 x.number, .int .i64 x.least, .int .i64 x.most, .int .i64 x.way, .bool x.fold]) (heap_new (by simp)) (by omega) (by rfl) (by simp), (hN2.keeps ((Keeps.refl No w1).alloc _) (fun _ _ h => h)).alone, fun g hg e => ?_⟩, hnu, fun g hg => ⟨by have := (hfr g hg).1; omega, (hfr g hg).2⟩, fun g hg h => ?_, hP1.keepN (by (repeat' (first | with_reducible exact Keeps.refl _ _ | with_reducible refine Keeps.set ?_ (by simp <;> omega) _ | with_reducible refine Keeps.alloc ?_ _ | with_reducible refine Keeps.drewN ?_ _ | with_reducible refine Keeps.drew ?_))), hgr1.mono (by omega), hPat1.keepN (by (repeat' (first | with_reducible exact Keeps.refl _ _ | with_reducible refine Keeps.set ?_ (by simp <;> omega) _ | with_reducible refine Keeps.alloc ?_ _ | with_reducible refine Keeps.drewN ?_ _ | with_reducible refine Keeps.drew ?_))), by simp only [countNs]; omega⟩, Nat.le_refl _⟩
          · have := hN2.kind.1.lt hg
            have e : some w1.heap.size = some g := e
            injection e with e
            omega
          · have := (hP1.lists g h).2
            have hg : some w1.heap.size = some g := hg
            injection hg with hg
            omega
        case round =>
          obtain ⟨σc, ts, ⟨G, Fc, hr, hne, hNL, hGn, hGf, hGo, hPs, hgr, hPat, hcnt⟩, hgk⟩ := hrel
          clear hP1 hgr1 hk1 hPat1 hN2 hN hnu hfr hz0 hz1 hPs0 hPat0
          cases gk with
          | zero => cases hr
          | succ gk =>
            obtain ⟨oA, oc, rfl⟩ := hNL.slice
            have hws := hPat.size
            have hlc := hPs.lists
            have hPw := hPs.lt
            have hNx := hid (next_calls hPs)
            have hbx := hPat.box
            simp only [branchesP] at hr
            cases hnl : nextL d L.length σc.s with
            | error f =>
              rw [hnl] at hr
              simp only [Option.some.injEq] at hr
              have HNL := hid hnl
              have HR1 := hid hr.symm
              clear hnl hr
              go_wp2_with fail
              refine hNx.out.mono ?_
              rintro e w2 hq
              unfold nextPost at hq
              rw [HNL.out] at hq
              obtain ⟨rfl, hk2⟩ := hq
              have HPAT2 := hPat.keepN hk2; have hbx2 := HPAT2.box
              have HPAT := HPAT2
              have HAL := (hPs.keepN hk2).alive
              simp only [fltPanic]
              refine leaves_cons (f := 36) (args := #[.pointer (some ⟨w.heap.size + 1 + 1, 0, none⟩), .pointer (some ⟨w.heap.size, 0, none⟩)]) (by simp) (by simp [go_sem]) ?_
              refine (was_deferred _ _ HPAT.box HPAT.was HAL.1.choose_spec HAL.2).mono ?_
              rintro e u' wz ⟨rfl, rfl, rfl⟩
              simp only [Leaves, settle]
              rw [← HR.out, HR1.out]
              exact ⟨rfl, by (repeat' (first | with_reducible exact HPAT.keeps | with_reducible refine Keeps.set ?_ (by simp <;> omega) _ | with_reducible refine Keeps.alloc ?_ _ | with_reducible refine Keeps.drewN ?_ _ | with_reducible refine Keeps.drew ?_)), by (repeat' (first | with_reducible exact HAL | with_reducible refine Alive.set ?_ | with_reducible refine Alive.alloc ?_ | with_reducible refine Alive.drewN ?_ | with_reducible refine Alive.drew ?_))⟩
            | ok o =>
              rw [hnl] at hr
              cases o with
              | none =>
                simp only [Option.some.injEq] at hr
                have HNL := hid hnl
                have HR1 := hid hr.symm
                clear hnl hr
                go_wp2_with fail
                refine hNx.out.mono ?_
                rintro e w2 hq
                unfold nextPost at hq
                rw [HNL.out] at hq
                obtain ⟨rfl, hk2⟩ := hq
                have HPAT2 := hPat.keepN hk2; have hbx2 := HPAT2.box
                simp only [tkV]
                go_wp2_with fail
                obtain ⟨xo, hown, hG, hdis⟩ := hNL
                have hsl := SliceV.of_own hown
                refine (either_calls (ts := ts) (xs := xo) (Fl := (Value.ownBlock (.slice oA ts.length oc)).toList) (F := G) (hsl.keeps (S := No) (by (repeat' (first | with_reducible exact hk2 | with_reducible refine Keeps.set ?_ (by simp <;> omega) _ | with_reducible refine Keeps.alloc ?_ _ | with_reducible refine Keeps.drewN ?_ _ | with_reducible refine Keeps.drew ?_))) (fun _ _ h => h)) (hG.keeps (S := No) (by (repeat' (first | with_reducible exact hk2 | with_reducible refine Keeps.set ?_ (by simp <;> omega) _ | with_reducible refine Keeps.alloc ?_ _ | with_reducible refine Keeps.drewN ?_ _ | with_reducible refine Keeps.drew ?_))) (fun _ _ h => h)) (List.length_pos_iff.2 hne) (by omega)).mono ?_
                rintro e w3 ⟨⟨v', g, F', rfl, hN, hS, hg, hgl⟩, hk3⟩
                obtain ⟨sA, sn, sc, kA, kn, kc, rfl, hN2⟩ := hN.parts
                have hk23 : Keeps No wr w3 := Keeps.trans (by (repeat' (first | with_reducible exact hk2 | with_reducible refine Keeps.set ?_ (by simp <;> omega) _ | with_reducible refine Keeps.alloc ?_ _ | with_reducible refine Keeps.drewN ?_ _ | with_reducible refine Keeps.drew ?_))) hk3
                have hs3 : w.heap.size + 1 < w3.heap.size := hk23.lt_of (by omega)
                have HPAT := hPat.keepN hk23
                obtain ⟨x0, x1, x2, x3, x4, x5, x6, x7, x8⟩ := HPAT.nd
                have hGlt : ∀ x ∈ F', w.heap.size + 3 ≤ x ∧ x < wr.heap.size ∧ x ∉ Fc := fun x hx => ⟨(hGf x (hS.subset hx)).1, hG.kind.1.lt (hS.subset hx), (hGf x (hS.subset hx)).2⟩
                have hgge : ∀ x ∈ g, wr.heap.size ≤ x := fun x hx => by have h1 := hg x hx; have h2 := hk2.size; (try simp at h1); omega
                have hPs3 := hPs.keepN hk23
                clear hN hdis hown hsl
                go_wp2_with fail
                refine (fun (F : World → Prop) (hF : F _) (h : ∀ W', F W' → bodyPostD _ _ _ _ _ W') => h _ hF)
                  (fun W' => Keeps (But (w.heap.size + 1)) w3 W' ∧ W'.cell? ⟨w.heap.size + 1, 0, none⟩ = some (.int .i64 (eitherN ts).kind) ∧ W'.cell? ⟨w.heap.size + 1, 1, none⟩ = some (.slice sA sn sc) ∧ W'.cell? ⟨w.heap.size + 1, 2, none⟩ = some (.slice kA kn kc) ∧ W'.cell? ⟨w.heap.size + 1, 3, none⟩ = some (.int .i64 (eitherN ts).number) ∧
                    W'.cell? ⟨w.heap.size + 1, 4, none⟩ = some (.int .i64 (eitherN ts).least) ∧ W'.cell? ⟨w.heap.size + 1, 5, none⟩ = some (.int .i64 (eitherN ts).most) ∧ W'.cell? ⟨w.heap.size + 1, 6, none⟩ = some (.int .i64 (eitherN ts).way) ∧ W'.cell? ⟨w.heap.size + 1, 7, none⟩ = some (.bool (eitherN ts).fold)) ?_ ?_
                · refine ⟨by (repeat' (first | with_reducible exact Keeps.refl _ _ | with_reducible refine Keeps.set ?_ (by simp <;> omega) _ | with_reducible refine Keeps.alloc ?_ _ | with_reducible refine Keeps.drewN ?_ _ | with_reducible refine Keeps.drew ?_)), ?_, ?_, ?_, ?_, ?_, ?_, ?_, ?_⟩
                  all_goals (simp [go_sem, *])
                clear x0 x1 x2 x3 x4 x5 x6 x7 x8
                rintro W' ⟨hkW, z0, z1, z2, z3, z4, z5, z6, z7⟩
                have hPw := hPs.lt
                have hPs4 : PsAt W' P d L σc Fc := hPs3.keep hkW (fun k hk e => by have e : k = _ := e; omega) (fun x hx e => by
                  have e : x = _ := e
                  rcases hgr x hx with h | h
                  · have := (hlist x h).2; omega
                  · omega)
                have HAL := hPs4.alive
                have hsz3 := HPAT.size
                refine leaves_cons (f := 36) (args := #[.pointer (some ⟨w.heap.size + 1 + 1, 0, none⟩), .pointer (some ⟨w.heap.size, 0, none⟩)]) (by simp) (by simp [go_sem]) ?_
                refine (was_deferred _ _ ((hkW.cell (by omega) (show ¬ w.heap.size = w.heap.size + 1 by omega)).trans HPAT.box) ((hkW.cell (by omega) (show ¬ w.heap.size + 1 + 1 = w.heap.size + 1 by omega)).trans HPAT.was) HAL.1.choose_spec HAL.2).mono ?_
                rintro e u' wz ⟨rfl, rfl, rfl⟩
                simp only [Leaves, settle]
                have hPw2 : ¬ w.heap.size + 1 = P := by omega
                have hPw3 : ¬ P = w.heap.size + 1 := by omega
                refine ⟨.agg #[.int .i64 (eitherN ts).kind, .slice sA sn sc, .slice kA kn kc, .int .i64 (eitherN ts).number, .int .i64 (eitherN ts).least, .int .i64 (eitherN ts).most, .int .i64 (eitherN ts).way, .bool (eitherN ts).fold], by simp [results, Tryz.results21, go_sem, *], ?_⟩
                rw [← HR.out, HR1.out]
                refine ⟨_, g ++ F', Fc, rfl, ⟨_, rfl, hN2.keeps (S := fun k => k = w.heap.size + 1 ∨ k = P) (by (repeat' (first | with_reducible exact (hkW.mono (fun k (e : k = w.heap.size + 1) => .inl e)) | with_reducible refine Keeps.set ?_ (by simp <;> omega) _ | with_reducible refine Keeps.alloc ?_ _ | with_reducible refine Keeps.drewN ?_ _ | with_reducible refine Keeps.drew ?_))) (fun x hx e => ?_)⟩, ?_, ?_, hPs4.setFolded _, hgr.mono (by omega), ?_⟩
                · rcases List.mem_append.1 hx with hx | hx
                  · have := hgge x hx; omega
                  · have := (hGlt x hx).1; omega
                · refine List.nodup_append.2 ⟨nodup_one hgl, hGn.sublist hS, fun x hx y hy e => ?_⟩
                  have := hgge x hx
                  have := (hGlt y hy).2.1
                  omega
                · intro x hx
                  rcases List.mem_append.1 hx with hx | hx
                  · exact ⟨by have := hgge x hx; omega, fun h => by have := (hlc x h).2; have := hgge x hx; omega⟩
                  · exact ⟨by have := (hGlt x hx).1; omega, (hGlt x hx).2.2⟩
                · exact (HPAT.keeps.trans' hkW (fun k hk e => by have e : k = w.heap.size + 1 := e; omega)).set (fun _ => .inl rfl) _
              | some tk =>
                obtain ⟨tk, s'⟩ := tk
                have hsn := next_len hnl
                simp only at hr
                obtain ⟨q0, q1, q2, q3, q4, q5, q6, q7⟩ := tk
                by_cases h9 : q0 ≠ 9
                · rw [if_pos h9] at hr
                  simp only [Option.some.injEq] at hr
                  have HNL := hid hnl
                  have HR1 := hid hr.symm
                  have h9' : (q0 != 9) = true := bne_iff_ne.2 h9
                  clear hnl hr h9
                  go_wp2_with fail
                  refine hNx.out.mono ?_
                  rintro e w2 hq
                  unfold nextPost at hq
                  rw [HNL.out] at hq
                  obtain ⟨rfl, hk2⟩ := hq
                  have HPAT2 := hPat.keepN hk2; have hbx2 := HPAT2.box
                  simp only [tkV]
                  go_wp2_with fail
                  obtain ⟨xo, hown, hG, hdis⟩ := hNL
                  have hsl := SliceV.of_own hown
                  refine (either_calls (ts := ts) (xs := xo) (Fl := (Value.ownBlock (.slice oA ts.length oc)).toList) (F := G) (hsl.keeps (S := No) (by (repeat' (first | with_reducible exact hk2 | with_reducible refine Keeps.set ?_ (by simp <;> omega) _ | with_reducible refine Keeps.alloc ?_ _ | with_reducible refine Keeps.drewN ?_ _ | with_reducible refine Keeps.drew ?_))) (fun _ _ h => h)) (hG.keeps (S := No) (by (repeat' (first | with_reducible exact hk2 | with_reducible refine Keeps.set ?_ (by simp <;> omega) _ | with_reducible refine Keeps.alloc ?_ _ | with_reducible refine Keeps.drewN ?_ _ | with_reducible refine Keeps.drew ?_))) (fun _ _ h => h)) (List.length_pos_iff.2 hne) (by omega)).mono ?_
                  rintro e w3 ⟨⟨v', g, F', rfl, hN, hS, hg, hgl⟩, hk3⟩
                  obtain ⟨sA, sn, sc, kA, kn, kc, rfl, hN2⟩ := hN.parts
                  have hk23 : Keeps No wr w3 := Keeps.trans (by (repeat' (first | with_reducible exact hk2 | with_reducible refine Keeps.set ?_ (by simp <;> omega) _ | with_reducible refine Keeps.alloc ?_ _ | with_reducible refine Keeps.drewN ?_ _ | with_reducible refine Keeps.drew ?_))) hk3
                  have hs3 : w.heap.size + 1 < w3.heap.size := hk23.lt_of (by omega)
                  have HPAT := hPat.keepN hk23
                  obtain ⟨x0, x1, x2, x3, x4, x5, x6, x7, x8⟩ := HPAT.nd
                  have hGlt : ∀ x ∈ F', w.heap.size + 3 ≤ x ∧ x < wr.heap.size ∧ x ∉ Fc := fun x hx => ⟨(hGf x (hS.subset hx)).1, hG.kind.1.lt (hS.subset hx), (hGf x (hS.subset hx)).2⟩
                  have hgge : ∀ x ∈ g, wr.heap.size ≤ x := fun x hx => by have h1 := hg x hx; have h2 := hk2.size; (try simp at h1); omega
                  have hPs3 := hPs.keepN hk23
                  clear hN hdis hown hsl
                  go_wp2_with fail
                  refine (fun (F : World → Prop) (hF : F _) (h : ∀ W', F W' → bodyPostD _ _ _ _ _ W') => h _ hF)
                    (fun W' => Keeps (But (w.heap.size + 1)) w3 W' ∧ W'.cell? ⟨w.heap.size + 1, 0, none⟩ = some (.int .i64 (eitherN ts).kind) ∧ W'.cell? ⟨w.heap.size + 1, 1, none⟩ = some (.slice sA sn sc) ∧ W'.cell? ⟨w.heap.size + 1, 2, none⟩ = some (.slice kA kn kc) ∧ W'.cell? ⟨w.heap.size + 1, 3, none⟩ = some (.int .i64 (eitherN ts).number) ∧
                      W'.cell? ⟨w.heap.size + 1, 4, none⟩ = some (.int .i64 (eitherN ts).least) ∧ W'.cell? ⟨w.heap.size + 1, 5, none⟩ = some (.int .i64 (eitherN ts).most) ∧ W'.cell? ⟨w.heap.size + 1, 6, none⟩ = some (.int .i64 (eitherN ts).way) ∧ W'.cell? ⟨w.heap.size + 1, 7, none⟩ = some (.bool (eitherN ts).fold)) ?_ ?_
                  · refine ⟨by (repeat' (first | with_reducible exact Keeps.refl _ _ | with_reducible refine Keeps.set ?_ (by simp <;> omega) _ | with_reducible refine Keeps.alloc ?_ _ | with_reducible refine Keeps.drewN ?_ _ | with_reducible refine Keeps.drew ?_)), ?_, ?_, ?_, ?_, ?_, ?_, ?_, ?_⟩
                    all_goals (simp [go_sem, *])
                  clear x0 x1 x2 x3 x4 x5 x6 x7 x8
                  rintro W' ⟨hkW, z0, z1, z2, z3, z4, z5, z6, z7⟩
                  have hPw := hPs.lt
                  have hPs4 : PsAt W' P d L σc Fc := hPs3.keep hkW (fun k hk e => by have e : k = _ := e; omega) (fun x hx e => by
                    have e : x = _ := e
                    rcases hgr x hx with h | h
                    · have := (hlist x h).2; omega
                    · omega)
                  have HAL := hPs4.alive
                  have hsz3 := HPAT.size
                  refine leaves_cons (f := 36) (args := #[.pointer (some ⟨w.heap.size + 1 + 1, 0, none⟩), .pointer (some ⟨w.heap.size, 0, none⟩)]) (by simp) (by simp [go_sem]) ?_
                  refine (was_deferred _ _ ((hkW.cell (by omega) (show ¬ w.heap.size = w.heap.size + 1 by omega)).trans HPAT.box) ((hkW.cell (by omega) (show ¬ w.heap.size + 1 + 1 = w.heap.size + 1 by omega)).trans HPAT.was) HAL.1.choose_spec HAL.2).mono ?_
                  rintro e u' wz ⟨rfl, rfl, rfl⟩
                  simp only [Leaves, settle]
                  have hPw2 : ¬ w.heap.size + 1 = P := by omega
                  have hPw3 : ¬ P = w.heap.size + 1 := by omega
                  refine ⟨.agg #[.int .i64 (eitherN ts).kind, .slice sA sn sc, .slice kA kn kc, .int .i64 (eitherN ts).number, .int .i64 (eitherN ts).least, .int .i64 (eitherN ts).most, .int .i64 (eitherN ts).way, .bool (eitherN ts).fold], by simp [results, Tryz.results21, go_sem, *], ?_⟩
                  rw [← HR.out, HR1.out]
                  refine ⟨_, g ++ F', Fc, rfl, ⟨_, rfl, hN2.keeps (S := fun k => k = w.heap.size + 1 ∨ k = P) (by (repeat' (first | with_reducible exact (hkW.mono (fun k (e : k = w.heap.size + 1) => .inl e)) | with_reducible refine Keeps.set ?_ (by simp <;> omega) _ | with_reducible refine Keeps.alloc ?_ _ | with_reducible refine Keeps.drewN ?_ _ | with_reducible refine Keeps.drew ?_))) (fun x hx e => ?_)⟩, ?_, ?_, hPs4.setFolded _, hgr.mono (by omega), ?_⟩
                  · rcases List.mem_append.1 hx with hx | hx
                    · have := hgge x hx; omega
                    · have := (hGlt x hx).1; omega
                  · refine List.nodup_append.2 ⟨nodup_one hgl, hGn.sublist hS, fun x hx y hy e => ?_⟩
                    have := hgge x hx
                    have := (hGlt y hy).2.1
                    omega
                  · intro x hx
                    rcases List.mem_append.1 hx with hx | hx
                    · exact ⟨by have := hgge x hx; omega, fun h => by have := (hlc x h).2; have := hgge x hx; omega⟩
                    · exact ⟨by have := (hGlt x hx).1; omega, (hGlt x hx).2.2⟩
                  · exact (HPAT.keeps.trans' hkW (fun k hk e => by have e : k = w.heap.size + 1 := e; omega)).set (fun _ => .inl rfl) _
                · rw [if_neg h9] at hr
                  cases hbr : branchP b d L.length gk { σc with s := s' } [] false 0 with
                  | none => rw [hbr] at hr; cases hr
                  | some r2 =>
                    rw [hbr] at hr
                    have h9' : (q0 != 9) = false := by simpa using h9
                    have HNL := hid hnl
                    have HBR1 := hid hbr
                    have hfar2 : ∀ b, b < w.heap.size → (b = P ∨ b ∈ Fc) → b = P ∨ b ∈ F := fun b hb e => e.imp id (fun e => (hgr b e).elim id (fun e => by omega))
                    have hfar3 : ∀ b, w.heap.size ≤ b → b < w.heap.size + 3 → ¬ (b = P ∨ b ∈ Fc) := fun b hb hb2 e => by
                      rcases e with e | e
                      · omega
                      · rcases hgr _ e with e | e
                        · exact hfar b hb (.inr e)
                        · omega
                    cases r2 with
                    | error f =>
                      simp only [Option.some.injEq] at hr
                      have HR1 := hid hr.symm
                      clear hnl hr hbr h9
                      go_wp2_with fail
                      refine hNx.out.mono ?_
                      rintro e w2 hq
                      unfold nextPost at hq
                      rw [HNL.out] at hq
                      obtain ⟨rfl, hk2⟩ := hq
                      have HPAT2 := hPat.keepN hk2; have hbx2 := HPAT2.box
                      have hPs2 := hPs.keepN hk2
                      have hP2 := hPs2.lt
                      obtain ⟨-, -, -, -, -, -, y2, -, -, -, -, -, y8⟩ := hPs2.cells
                      have hbP : ¬ w.heap.size = P := by omega
                      have hbP' : ¬ P = w.heap.size := by omega
                      have hw2 : wr.heap.size ≤ w2.heap.size := hk2.size
                      have hw2h : w.heap.size < w2.heap.size := by omega
                      simp only [tkV]
                      go_wp2_with fail
                      refine calls_world (fun W => PsAt W P d L { σc with s := s' } Fc ∧ PatAt w P d L σ F W ∧ Keeps (But P) wr W ∧ w2.heap.size < W.heap.size) ⟨(hPs2.setAt hsn.2).keepN (by (repeat' (first | with_reducible exact Keeps.refl _ _ | with_reducible refine Keeps.set ?_ (by simp <;> omega) _ | with_reducible refine Keeps.alloc ?_ _ | with_reducible refine Keeps.drewN ?_ _ | with_reducible refine Keeps.drew ?_))), HPAT2.keep (S := But P) (by (repeat' (first | with_reducible exact Keeps.refl _ _ | with_reducible refine Keeps.set ?_ (by simp <;> omega) _ | with_reducible refine Keeps.alloc ?_ _ | with_reducible refine Keeps.drewN ?_ _ | with_reducible refine Keeps.drew ?_))) (fun b hb e => .inl e) (fun b hb hb2 e => by have e : b = P := e; omega), by (repeat' (first | with_reducible exact (hk2.mono (fun _ h => h.elim)) | with_reducible refine Keeps.set ?_ (by simp <;> omega) _ | with_reducible refine Keeps.alloc ?_ _ | with_reducible refine Keeps.drewN ?_ _ | with_reducible refine Keeps.drew ?_)), by simp⟩ ?_
                      rintro W ⟨hPsW, hPatW, hkW, hszW⟩
                      clear y2 y8 hPs2 HPAT2
                      refine (ha'.out gk (by omega) _ P d L _ Fc _ hPsW HBR1.out).mono ?_
                      rintro e w3 ⟨rfl, hk3, hal3⟩
                      have HPAT := hPatW.keep hk3 hfar2 hfar3
                      have HAL := hal3
                      simp only [fltPanic]
                      refine leaves_cons (f := 36) (args := #[.pointer (some ⟨w.heap.size + 1 + 1, 0, none⟩), .pointer (some ⟨w.heap.size, 0, none⟩)]) (by simp) (by simp [go_sem]) ?_
                      refine (was_deferred _ _ HPAT.box HPAT.was HAL.1.choose_spec HAL.2).mono ?_
                      rintro e u' wz ⟨rfl, rfl, rfl⟩
                      simp only [Leaves, settle]
                      rw [← HR.out, HR1.out]
                      exact ⟨rfl, by (repeat' (first | with_reducible exact HPAT.keeps | with_reducible refine Keeps.set ?_ (by simp <;> omega) _ | with_reducible refine Keeps.alloc ?_ _ | with_reducible refine Keeps.drewN ?_ _ | with_reducible refine Keeps.drew ?_)), by (repeat' (first | with_reducible exact HAL | with_reducible refine Alive.set ?_ | with_reducible refine Alive.alloc ?_ | with_reducible refine Alive.drewN ?_ | with_reducible refine Alive.drew ?_))⟩
                    | ok xσ2 =>
                      obtain ⟨y, σ2⟩ := xσ2
                      simp only at hr
                      have hcy := (count_all hb.ends d L.length gk).one _ _ _ _ _ _ hbr
                      simp only [countNs] at hcy
                      have hlt := length_le_count ts
                      have HR1 := hid hr
                      clear hnl hr hbr h9
                      go_wp2_with fail
                      refine hNx.out.mono ?_
                      rintro e w2 hq
                      unfold nextPost at hq
                      rw [HNL.out] at hq
                      obtain ⟨rfl, hk2⟩ := hq
                      have HPAT2 := hPat.keepN hk2; have hbx2 := HPAT2.box
                      have hPs2 := hPs.keepN hk2
                      have hP2 := hPs2.lt
                      obtain ⟨-, -, -, -, -, -, y2, -, -, -, -, -, y8⟩ := hPs2.cells
                      have hbP : ¬ w.heap.size = P := by omega
                      have hbP' : ¬ P = w.heap.size := by omega
                      have hw2 : wr.heap.size ≤ w2.heap.size := hk2.size
                      have hw2h : w.heap.size < w2.heap.size := by omega
                      simp only [tkV]
                      go_wp2_with fail
                      refine calls_world (fun W => PsAt W P d L { σc with s := s' } Fc ∧ PatAt w P d L σ F W ∧ Keeps (But P) wr W ∧ w2.heap.size < W.heap.size) ⟨(hPs2.setAt hsn.2).keepN (by (repeat' (first | with_reducible exact Keeps.refl _ _ | with_reducible refine Keeps.set ?_ (by simp <;> omega) _ | with_reducible refine Keeps.alloc ?_ _ | with_reducible refine Keeps.drewN ?_ _ | with_reducible refine Keeps.drew ?_))), HPAT2.keep (S := But P) (by (repeat' (first | with_reducible exact Keeps.refl _ _ | with_reducible refine Keeps.set ?_ (by simp <;> omega) _ | with_reducible refine Keeps.alloc ?_ _ | with_reducible refine Keeps.drewN ?_ _ | with_reducible refine Keeps.drew ?_))) (fun b hb e => .inl e) (fun b hb hb2 e => by have e : b = P := e; omega), by (repeat' (first | with_reducible exact (hk2.mono (fun _ h => h.elim)) | with_reducible refine Keeps.set ?_ (by simp <;> omega) _ | with_reducible refine Keeps.alloc ?_ _ | with_reducible refine Keeps.drewN ?_ _ | with_reducible refine Keeps.drew ?_)), by simp⟩ ?_
                      rintro W ⟨hPsW, hPatW, hkW, hszW⟩
                      clear y2 y8 hPs2 HPAT2
                      refine (ha'.out gk (by omega) _ P d L _ Fc _ hPsW HBR1.out).mono ?_
                      rintro e w3 ⟨v', Fn, F1, rfl, hN, hnu, hfr, hP3, hgr3, hk3⟩
                      obtain ⟨sA, sn, sc, kA, kn, kc, rfl, hN2⟩ := hN.parts
                      have HPAT := hPatW.keep hk3 hfar2 hfar3
                      have hbx3 := HPAT.box
                      have hkr : Keeps (fun k => k = P ∨ k ∈ Fc) wr w3 := (hkW.mono (fun _ e => .inl e)).trans hk3
                      have hownlt := hNL.lt
                      have hNL3 := hNL.keep hkr (fun g hg e => e.elim (fun e => by have := (hGf g hg).1; omega) (hGf g hg).2) (fun g hg e => e.elim (fun e => by have := (hownlt g hg).1; omega) (hGo g hg))
                      have hGlt : ∀ g ∈ G, g < wr.heap.size := fun g hg => by obtain ⟨xo, _, hG, _⟩ := hNL; exact hG.kind.1.lt hg
                      have hfr' : ∀ g ∈ Fn, wr.heap.size ≤ g ∧ g < w3.heap.size ∧ g ∉ F1 := fun g hg => ⟨by have := (hfr g hg).1; omega, hN2.kind.1.lt hg, (hfr g hg).2⟩
                      have hgr3' : Grew wr.heap.size Fc F1 := hgr3.mono (by omega)
                      have hl1 := hP3.lists
                      have hs3 := HPAT.size
                      have hdF : ∀ g ∈ Fn, Value.ownBlock (.slice oA ts.length oc) ≠ some g := fun g hg e => by have := (hownlt g e).2; have := (hfr' g hg).1; omega
                      clear hN hNL hPatW hPsW
                      go_wp2_with (at_builtin; (refine wpl_nodes (us := [y]) rfl _ _ rfl rfl (hNL3.keepN (by (repeat' (first | with_reducible exact Keeps.refl _ _ | with_reducible refine Keeps.set ?_ (by simp <;> omega) _ | with_reducible refine Keeps.alloc ?_ _ | with_reducible refine Keeps.drewN ?_ _ | with_reducible refine Keeps.drew ?_)))) rfl (NewsAt.of_block (m := 1) (heap_new (by simp)) rfl hN2.one) (hN2.alone.keeps ((Keeps.refl No w3).alloc _) (fun _ _ h => h)) (fun g hg => hdF g hg) (by simp; omega) (by simp; omega) ?_); intro A2 c2 w4 hown2 hgrow2 hat2)
                      go_roundg gk
                      case measure => omega
                      case rel =>
                        have hkn : Keeps No w3 (w3.alloc (.cells #[.int .i64 y.kind, .slice sA sn sc, .slice kA kn kc, .int .i64 y.number, .int .i64 y.least, .int .i64 y.most, .int .i64 y.way, .bool y.fold] 27)) := (Keeps.refl No w3).alloc _
                        have hP4 : PsAt w4 P d L σ2 F1 := (hP3.keepN hkn).keep hgrow2 (fun k hk e => by have := (hownlt k e).1; omega) (fun g hg e => by
                          rcases hgr3' g hg with h | h
                          · exact hGo g e h
                          · have := (hownlt g e).2; omega)
                        have hPat4 := (HPAT.keepN hkn).keep hgrow2 (fun k hk e => by have := (hownlt k e).1; omega) (fun k hk hk2 e => by have := (hownlt k e).1; omega)
                        have hat3 : Value.ownBlock (.slice A2 (ts ++ [y]).length c2) = Value.ownBlock (.slice oA ts.length oc) ∨ Value.ownBlock (.slice A2 (ts ++ [y]).length c2) = some (w3.alloc (.cells #[.int .i64 y.kind, .slice sA sn sc, .slice kA kn kc, .int .i64 y.number, .int .i64 y.least, .int .i64 y.most, .int .i64 y.way, .bool y.fold] 27)).heap.size := hat2
                        rw [show (ts ++ [y]).length = ts.length + 1 from by simp] at hat3
                        refine ⟨σ2, ts ++ [y], ⟨G ++ Fn, F1, HR1.out, by simp, by simpa only [List.length_append, List.length_cons, List.length_nil, Nat.zero_add] using hown2, ?_, ?_, ?_, hP4, ?_, hPat4, ?_⟩, by omega⟩
                        · refine List.nodup_append.2 ⟨hGn, hnu, fun a ha b hb e => ?_⟩
                          have := hGlt a ha
                          have := (hfr' b hb).1
                          omega
                        · intro g hg
                          rcases List.mem_append.1 hg with hg | hg
                          · refine ⟨(hGf g hg).1, fun h => ?_⟩
                            rcases hgr3' g h with h | h
                            · exact (hGf g hg).2 h
                            · have := hGlt g hg; omega
                          · exact ⟨by have := (hfr' g hg).1; omega, (hfr' g hg).2.2⟩
                        · intro g hg h
                          rcases hat3 with e | e
                          · rw [e] at hg
                            rcases hgr3' g h with h | h
                            · exact hGo g hg h
                            · have := (hownlt g hg).2; omega
                          · rw [e] at hg
                            injection hg with hg
                            simp at hg
                            have := (hl1 g h).2
                            omega
                        · intro g hg
                          rcases hgr3' g hg with h | h
                          · exact hgr g h
                          · exact .inr (by omega)
                        · rw [countNs_append]
                          simp only [countNs]
                          omega

end Th
end Go.Proofs
