/- The parser: an atom: what is spoken of again. -/
import Derived.Test.YthjjfgpainleaaaGreatPrsK
import Derived.Deep.RegionLaw

set_option linter.unusedSimpArgs false
set_option linter.unusedVariables false
set_option linter.all false

namespace Go.Proofs
namespace Th
open Go.RowKit

attribute [local go_sem ↓] Go.wp_at_zero Go.wp_at_succ

set_option maxRecDepth 100000 in
set_option maxHeartbeats 4000000 in
theorem atom_again {w : World} {P : Nat} {d : Int} {L : List Int} {σ : Pst} {F : List Nat} (h : PsAt w P d L σ F) {s' : List Int} (hs : s' <:+ σ.s) (hsl : s'.length + 1 ≤ σ.s.length) (number m : Int) (text : ByteArray) (nt : Bool) (least most way fold : Int)
    (hn1 : -1000 ≤ number) (hme : m = if number < 0 then number + ((σ.groups : Int) + 1) else number) (hmn : number < 0 → 1 ≤ m) :
    Calls Tryz.prog 51 #[.pointer (some ⟨P, 0, none⟩), tkV ⟨10, number, text, nt, least, most, way, fold⟩, .int .i64 (posOf L.length s')] w (PPost P d L F (.ok (.mk 18 [] [] (σ.agains.length + 1) 0 0 0 σ.folded, { σ with s := s', agains := σ.agains ++ [(posOf L.length σ.s, m, text)] })) w) := by
  obtain ⟨i0, hi, hz0, hz1, hz2⟩ := info_parts againInfo
  obtain ⟨A0, c0, v6, v7', h0, h1, h2, h3, h4, h5, h6, h7, h8⟩ := h.cells
  have hP := h.lt
  have hg20 : σ.groups ≤ 20 := by obtain ⟨A, c, v6, v7, h0, h1, h2, h3, h4, h5, h6, h7, h8, h9, h10, h11, h12, h13, h14, h15, h16, h17, h18, h19, h20, h21, _⟩ := h.facts; exact h21
  have hag : σ.agains.length + 1 + s'.length ≤ L.length := by obtain ⟨A, c, v6, v7, h0, h1, h2, h3, h4, h5, h6, h7, h8, h9, h10, h11, h12, h13, h14, h15, h16, h17, h18, h19, h20, h21, h22, h23⟩ := h.facts; omega
  have hW := h.setAt hs
  have hlist := h.lists
  have hi1 : ¬ P = w.heap.size := by omega
  have hi2 : ¬ w.heap.size = P := by omega
  have hi3 : ¬ P = w.heap.size + 1 := by omega
  have hi4 : ¬ w.heap.size + 1 = P := by omega
  have hg20' : (σ.groups : Int) ≤ 20 := by omega
  have hg0 : (0 : Int) ≤ (σ.groups : Int) := by omega
  have HM := hid hme
  have HN := hid hmn
  clear h hs hsl hme hmn
  simp only [tkV]
  go_enter Tryz.func51, Tryz.ntmps51
  go_upto_if 120 with fail
  go_cut [] (fun W => PsAt W P d L { σ with s := s' } F ∧ W.cell? ⟨P, 3, none⟩ = some (.bool σ.folded) ∧ (∀ o, W.frozen? ⟨P, o, none⟩ = false) ∧ W.cell? ⟨w.heap.size, 1, none⟩ = some (.int .i64 m) ∧ W.cell? ⟨w.heap.size, 2, none⟩ = some (.string text) ∧
      NdAt W (w.heap.size + 1) ∧ Keeps (fun k => k = P ∨ k ∈ F) w W ∧ w.heap.size + 1 < W.heap.size)
  case first =>
    by_cases hn0 : number < 0
    · have hm1 := HN.out hn0
      have hmd : m = number + ((σ.groups : Int) + 1) := by rw [HM.out, if_pos hn0]
      subst hmd
      clear HM HN
      go_wp2_with fail
      go_region
      all_goals
        go_wp2_with fail
        go_meet
        case rel =>
          refine ⟨(hW.keepN (by (repeat' (first | with_reducible exact Keeps.refl _ _ | with_reducible refine Keeps.set ?_ (by simp <;> omega) _ | with_reducible refine Keeps.alloc ?_ _ | with_reducible refine Keeps.drewN ?_ _ | with_reducible refine Keeps.drew ?_)))), ?_, ?_, ?_, ?_, ?_, ?_, ?_⟩
          all_goals first | (simp [go_sem, NdAt, *]; done) | skip
          (repeat' (first | with_reducible exact Keeps.refl _ _ | with_reducible refine Keeps.set ?_ (by simp <;> omega) _ | with_reducible refine Keeps.alloc ?_ _ | with_reducible refine Keeps.drewN ?_ _ | with_reducible refine Keeps.drew ?_))
    · have hmd : m = number := by rw [HM.out, if_neg hn0]
      subst hmd
      clear HM HN
      go_wp2_with fail
      go_meet
      case rel =>
        refine ⟨(hW.keepN (by (repeat' (first | with_reducible exact Keeps.refl _ _ | with_reducible refine Keeps.set ?_ (by simp <;> omega) _ | with_reducible refine Keeps.alloc ?_ _ | with_reducible refine Keeps.drewN ?_ _ | with_reducible refine Keeps.drew ?_)))), ?_, ?_, ?_, ?_, ?_, ?_, ?_⟩
        all_goals first | (simp [go_sem, NdAt, *]; done) | skip
        (repeat' (first | with_reducible exact Keeps.refl _ _ | with_reducible refine Keeps.set ?_ (by simp <;> omega) _ | with_reducible refine Keeps.alloc ?_ _ | with_reducible refine Keeps.drewN ?_ _ | with_reducible refine Keeps.drew ?_))
  case rest =>
    clear h0 h1 h2 h3 h4 h5 h6 h7 h8 hW HM HN
    obtain ⟨hW, h3, h8, k1, k2, hnd, hkW, hsW⟩ := hcut
    obtain ⟨W, rfl⟩ : ∃ W : World, W = wc := ⟨_, rfl⟩
    obtain ⟨v6, v7, h6, h7, o6, o7, hn6, hn7, hm6, hm7⟩ := hW.own
    have hPW : P < W.heap.size := by omega
    have hsW' : w.heap.size < W.heap.size := by omega
    have hW' := hid hW
    have hnd' := hid hnd
    have hm7' := hid hm7
    have o7' := hid o7
    simp only at hn7
    clear o6 hm6 hW hnd hm7 o7
    go_wp2_with fail
    go_region_law
      (((refine step_app rfl _ _ _ (by rfl) (P + 1) 81 i0 _ 3 32 Tryz.underlying53 hi hz0 hz1 hz2 rfl (by decide) (v := v7) (n := σ.agains.length) (xs := againCells σ.agains) (by rfl) (own_keepN o7'.out (by (repeat' (first | with_reducible exact Keeps.refl _ _ | with_reducible refine Keeps.set ?_ (by simp <;> omega) _ | with_reducible refine Keeps.alloc ?_ _ | with_reducible refine Keeps.drewN ?_ _ | with_reducible refine Keeps.drew ?_)))) (by rfl) (NewsAt.of_block (cs := [.int .i64 (posOf L.length σ.s), .int .i64 m, .string text]) (m := 1) (heap_new (by simp)) rfl (by simp [Value.oneCell'])) (by unfold maxLen; omega) (by omega) (by simp; omega) ?_); intro A1 c1 w1 hp;
        have hd7 : ∀ g, v7.ownBlock = some g → g < w.heap.size ∧ g ≠ P := (fun g hg => by (have := hlist g (hm7'.out g hg); omega));
        have g0 := fun o => hp.2.1.cell (b := P) (o := o) (by first | omega | (simp; done) | (simp; omega)) (fun e => (hd7 P e).2 rfl); have g1 := fun o => hp.2.1.cell (b := w.heap.size) (o := o) (by first | omega | (simp; done) | (simp; omega)) (fun e => absurd (hd7 _ e).1 (by omega)); have y0 := fun o => hp.2.1.frozen (b := P) (o := o) (by first | omega | (simp; done) | (simp; omega)) (fun e => (hd7 P e).2 rfl); have hp' := hid hp; clear hp))
    all_goals
      obtain ⟨F2, hP2, hgr, hkk⟩ := PsAt.addAgain ((hW'.out).keepN (w' := (W.alloc (.cells #[.int .i64 (posOf L.length σ.s), .int .i64 m, .string text] 81)).drew) (by (repeat' (first | with_reducible exact Keeps.refl _ _ | with_reducible refine Keeps.set ?_ (by simp <;> omega) _ | with_reducible refine Keeps.alloc ?_ _ | with_reducible refine Keeps.drewN ?_ _ | with_reducible refine Keeps.drew ?_)))) (by simp only; omega) (posOf L.length σ.s) m text (by simp [go_sem, h7, hPW]) hp'.out
      simp only at hP2 hgr hkk
      have hgr' : Grew w.heap.size F F2 := hgr.mono (by simp; omega)
      have hkk2 : Keeps (fun k => k = P ∨ k ∈ F) w (w1.setCell ⟨P, 7, none⟩ (.slice A1 (σ.agains.length + 1) c1)) := Keeps.trans (by (repeat' (first | with_reducible exact hkW | with_reducible refine Keeps.set ?_ (by simp <;> omega) _ | with_reducible refine Keeps.alloc ?_ _ | with_reducible refine Keeps.drewN ?_ _ | with_reducible refine Keeps.drew ?_))) hkk
      have hndV : NdAt (w1.setCell ⟨P, 7, none⟩ (.slice A1 (σ.agains.length + 1) c1)) (w.heap.size + 1) := (hnd'.out.keep ((Keeps.refl (fun k => k = P ∨ k ∈ F) W).alloc _).drew (fun e => by rcases e with e | e; omega; have := (hlist _ e).2; omega)).keep hkk (fun e => by rcases e with e | e; omega; have := (hlist _ e).2; omega)
      have hszV : w.heap.size + 1 < (w1.setCell ⟨P, 7, none⟩ (.slice A1 (σ.agains.length + 1) c1)).heap.size := hkk.lt_of (by simp; omega)
      have hl2 : ∀ g ∈ F2, g ≠ w.heap.size + 1 := fun g hg e => by
        rcases hgr g hg with h | h
        · have := (hlist g h).2; omega
        · simp at h; omega
      have h7V : (w1.setCell ⟨P, 7, none⟩ (.slice A1 (σ.agains.length + 1) c1)).cell? ⟨P, 7, none⟩ = some (.slice A1 (σ.agains.length + 1) c1) := cell_same (v := v7) ((g0 7).trans (by simp [go_sem, h7, hPW]))
      dsimp only [Exit.then]
      refine any_world (fun V => PsAt V P d L { σ with s := s', agains := σ.agains ++ [(posOf L.length σ.s, m, text)] } F2 ∧ V.cell? ⟨P, 7, none⟩ = some (.slice A1 (σ.agains.length + 1) c1) ∧ NdAt V (w.heap.size + 1) ∧ Keeps (fun k => k = P ∨ k ∈ F) w V ∧ w.heap.size + 1 < V.heap.size) ⟨hP2, h7V, hndV, hkk2, hszV⟩ ?_
      clear hP2 h7V hndV hkk2 hszV hkk hgr g0 g1 y0 hp' hd7 hW' hnd' hm7' o7' h3 h8 k1 k2 h6 h7 hkW hsW hsW' hPW
      rintro V ⟨hV, h7, ⟨x0, x1, x2, x3, x4, x5, x6, x7, x8⟩, hkV, hsV⟩
      obtain ⟨A9, c9, v69, v79, -, -, -, h3, -, -, -, -, h8⟩ := hV.cells
      have hPV := hV.lt
      simp only at h3
      clear A9 c9 v69 v79
      go_wp2_with fail
      go_region_held3 (fun w' => w'.cell? ⟨P, 7, none⟩ = some (.slice A1 (σ.agains.length + 1) c1) ∧ w'.cell? ⟨P, 3, none⟩ = some (.bool σ.folded)) (simp [go_sem, *]) (fail)
      all_goals go_wp2_with fail
      refine bodyPost_ret (v := ndV 18 nilS nilS (σ.agains.length + 1) 0 0 0 σ.folded) (by simp [results, Tryz.results51, go_sem, ndV, nilS, *]) rfl ⟨_, [], F2, rfl, ⟨_, rfl, kindN_rep _ _ _ _ _ _ _⟩, List.nodup_nil, by simp, ?_, hgr', ?_⟩
      · exact hV.keep (S := But (w.heap.size + 1)) (by (repeat' (first | with_reducible exact Keeps.refl _ _ | with_reducible refine Keeps.set ?_ (by simp <;> omega) _ | with_reducible refine Keeps.alloc ?_ _ | with_reducible refine Keeps.drewN ?_ _ | with_reducible refine Keeps.drew ?_))) (fun k hk e => by have e : k = _ := e; omega) (fun g hg e => hl2 g hg e)
      · (repeat' (first | with_reducible exact hkV | with_reducible refine Keeps.set ?_ (by simp <;> omega) _ | with_reducible refine Keeps.alloc ?_ _ | with_reducible refine Keeps.drewN ?_ _ | with_reducible refine Keeps.drew ?_))

end Th
end Go.Proofs
