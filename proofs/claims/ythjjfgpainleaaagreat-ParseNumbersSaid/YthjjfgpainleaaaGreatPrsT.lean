/- The parser: a branch. -/
import Derived.Test.YthjjfgpainleaaaGreatGP
import Derived.Test.YthjjfgpainleaaaGreatTokT
import Derived.Deep.RegionLaw

set_option linter.unusedSimpArgs false
set_option linter.unusedVariables false
set_option linter.all false

namespace Go.Proofs
namespace Th
open Go.RowKit

attribute [local go_sem ↓] Go.wp_at_zero Go.wp_at_succ

theorem NdAt.of_block_new {w : World} {B : Nat} (h : w.heap[B]? = some ndBox) : NdAt w B := by
  have hc : ∀ o, w.cell? ⟨B, o, none⟩ = (#[.int .i64 0, .slice none 0 0, .slice none 0 0, .int .i64 0, .int .i64 0, .int .i64 0, .int .i64 0, .bool false] : Array Value)[o]? := fun o => cell_of_row w B o _ _ (0, 0) h
  refine ⟨hc 0, hc 1, hc 2, hc 3, hc 4, hc 5, hc 6, hc 7, fun o => ?_⟩
  simp [World.frozen?, h]

theorem NodesRep.snoc {w : World} {c : List Value} {t : List Nd} {y : Nd} {F : List Nat} (h : NodesRep w c (t ++ [y]) F) :
    ∃ x1 cy G1 Gy, c = x1 ++ cy ∧ F = G1 ++ Gy ∧ NodesRep w x1 t G1 ∧ NodeRep w cy y Gy := by
  induction t generalizing c F with
  | nil =>
    cases h with
    | cons h hs =>
      cases hs
      exact ⟨[], _, [], _, by simp, by simp, .nil, h⟩
  | cons x t ih =>
    cases h with
    | cons h hs =>
      obtain ⟨x1, cy, G1, Gy, rfl, rfl, h1, h2⟩ := ih hs
      exact ⟨_, cy, _, Gy, by rw [List.append_assoc], by rw [List.append_assoc], .cons h h1, h2⟩

theorem own_set8 {w : World} {base g n cap m : Nat} {e : TypeId} {x1 cs : List Value} (h : w.ownsRow base e 8 (.slice (some ⟨g, 0, none⟩) n cap) n (x1 ++ cs)) (hl : x1.length = m * 8) (hcs : cs.length = 8) (u0 u1 u2 u3 u4 u5 u6 u7 : Value) :
    ((((((((w.setCell ⟨g, m * 8, none⟩ u0).setCell ⟨g, m * 8 + 1, none⟩ u1).setCell ⟨g, m * 8 + 2, none⟩ u2).setCell ⟨g, m * 8 + 3, none⟩ u3).setCell ⟨g, m * 8 + 4, none⟩ u4).setCell ⟨g, m * 8 + 5, none⟩ u5).setCell ⟨g, m * 8 + 6, none⟩ u6).setCell ⟨g, m * 8 + 7, none⟩ u7).ownsRow
      base e 8 (.slice (some ⟨g, 0, none⟩) n cap) n (x1 ++ [u0, u1, u2, u3, u4, u5, u6, u7]) := by
  have h1 := (((((((((h.stored (m * 8) u0).1.stored (m * 8 + 1) u1).1).stored (m * 8 + 2) u2).1.stored (m * 8 + 3) u3).1.stored (m * 8 + 4) u4).1.stored (m * 8 + 5) u5).1.stored (m * 8 + 6) u6).1.stored (m * 8 + 7) u7).1
  match cs, hcs with
  | [c0, c1, c2, c3, c4, c5, c6, c7], _ =>
    have hs : ∀ (i : Nat) (l : List Value) (u : Value), (x1 ++ l).set (m * 8 + i) u = x1 ++ l.set i u := fun i l u => by
      rw [List.set_append_right _ _ (by omega)]
      congr 2
      omega
    have hs0 : ∀ (l : List Value) (u : Value), (x1 ++ l).set (m * 8) u = x1 ++ l.set 0 u := fun l u => hs 0 l u
    simpa only [hs, hs0, List.set_cons_zero, List.set_cons_succ] using h1

/-- The last node of a row is repeated. -/
theorem rep_row0 {V V8 : World} {base g oc : Nat} {ts' : List Nd} {y : Nd} {x1 : List Value} {G1 Gy : List Nat} {k n l m wy : Int} {f : Bool} {sv kv : Value} {q4 q5 q6 : Int}
    (h8 : V8.ownsRow base 27 8 (.slice (some ⟨g, 0, none⟩) (ts'.length + 1) oc) (ts'.length + 1) (x1 ++ [.int .i64 12, .slice none 0 0, .slice (some ⟨V.heap.size, 0, none⟩) 1 1, .int .i64 0, .int .i64 q4, .int .i64 q5, .int .i64 q6, .bool false]))
    (hk : Keeps (But g) V V8) (hz : V8.heap.size = V.heap.size) (hG1 : NodesRep V x1 ts' G1) (hy : NodeRep V [.int .i64 k, sv, kv, .int .i64 n, .int .i64 l, .int .i64 m, .int .i64 wy, .bool f] y Gy) (hd : ∀ x ∈ G1 ++ Gy, g ≠ x) (hg : g < V.heap.size) :
    NL (V8.alloc (.cells #[.int .i64 k, sv, kv, .int .i64 n, .int .i64 l, .int .i64 m, .int .i64 wy, .bool f] 27)) base (.slice (some ⟨g, 0, none⟩) (ts'.length + 1) oc) (ts' ++ [.mk 12 [] [y] 0 q4 q5 q6 false]) (G1 ++ ([V.heap.size] ++ Gy)) := by
  have hlen : ∀ z : Nd, (ts' ++ [z]).length = ts'.length + 1 := fun z => by simp
  have hk2 : Keeps (But g) V (V8.alloc (.cells #[.int .i64 k, sv, kv, .int .i64 n, .int .i64 l, .int .i64 m, .int .i64 wy, .bool f] 27)) := hk.alloc _
  have hb : (V8.alloc (.cells #[.int .i64 k, sv, kv, .int .i64 n, .int .i64 l, .int .i64 m, .int .i64 wy, .bool f] 27)).heap[V.heap.size]? = some (.cells [.int .i64 k, sv, kv, .int .i64 n, .int .i64 l, .int .i64 m, .int .i64 wy, .bool f].toArray 27 (0, 0)) := heap_new hz.symm
  have ho := own_keepN h8 ((Keeps.refl No V8).alloc (.cells #[.int .i64 k, sv, kv, .int .i64 n, .int .i64 l, .int .i64 m, .int .i64 wy, .bool f] 27))
  generalize V8.alloc (.cells #[.int .i64 k, sv, kv, .int .i64 n, .int .i64 l, .int .i64 m, .int .i64 wy, .bool f] 27) = Z at *
  refine ⟨_, by rw [hlen]; exact ho, (hG1.keeps hk2 (fun x hx e => hd x (List.mem_append_left _ hx) e.symm)).append (NodeRep.alone ?_), ?_⟩
  · have hkid : NodesRep Z [.int .i64 k, sv, kv, .int .i64 n, .int .i64 l, .int .i64 m, .int .i64 wy, .bool f] [y] Gy := (hy.keeps hk2 (fun x hx e => hd x (List.mem_append_right _ hx) e.symm)).alone
    have := NodeRep.mk (kind := 12) (number := 0) (least := q4) (most := q5) (way := q6) (fold := false) (set := []) (SliceV.nil Z 85 2) (SliceV.new (n := 1) (c := 1) (size := 8) hb (by rfl) (by omega) (by omega)) hkid
    simpa using this
  · intro x hx e
    have e : some g = some x := e
    injection e with e
    rcases List.mem_append.1 hx with hx | hx
    · exact hd x (List.mem_append_left _ hx) e
    · rcases List.mem_append.1 hx with hx | hx
      · simp at hx; omega
      · exact hd x (List.mem_append_right _ hx) e
theorem rep_row {V : World} {base g oc : Nat} {ts' : List Nd} {y : Nd} {x1 : List Value} {G1 Gy : List Nat} {k n l m wy : Int} {f : Bool} {sv kv : Value}
    (ho : V.ownsRow base 27 8 (.slice (some ⟨g, 0, none⟩) (ts' ++ [y]).length oc) (ts' ++ [y]).length (x1 ++ [.int .i64 k, sv, kv, .int .i64 n, .int .i64 l, .int .i64 m, .int .i64 wy, .bool f])) (hl : x1.length = ts'.length * 8)
    (hG1 : NodesRep V x1 ts' G1) (hy : NodeRep V [.int .i64 k, sv, kv, .int .i64 n, .int .i64 l, .int .i64 m, .int .i64 wy, .bool f] y Gy) (hd : ∀ x ∈ G1 ++ Gy, Value.ownBlock (.slice (some ⟨g, 0, none⟩) (ts' ++ [y]).length oc) ≠ some x) (hg : g < V.heap.size) (q4 q5 q6 : Int) :
    NL (((((((((V.setCell ⟨g, ts'.length * 8, none⟩ (.int .i64 12)).setCell ⟨g, ts'.length * 8 + 1, none⟩ (.slice none 0 0)).setCell ⟨g, ts'.length * 8 + 2, none⟩ (.slice (some ⟨V.heap.size, 0, none⟩) 1 1)).setCell ⟨g, ts'.length * 8 + 3, none⟩ (.int .i64 0)).setCell ⟨g, ts'.length * 8 + 4, none⟩ (.int .i64 q4)).setCell
      ⟨g, ts'.length * 8 + 5, none⟩ (.int .i64 q5)).setCell ⟨g, ts'.length * 8 + 6, none⟩ (.int .i64 q6)).setCell ⟨g, ts'.length * 8 + 7, none⟩ (.bool false)).alloc (.cells #[.int .i64 k, sv, kv, .int .i64 n, .int .i64 l, .int .i64 m, .int .i64 wy, .bool f] 27))
      base (.slice (some ⟨g, 0, none⟩) (ts'.length + 1) oc) (ts' ++ [.mk 12 [] [y] 0 q4 q5 q6 false]) (G1 ++ ([V.heap.size] ++ Gy)) := by
  have hlen : ∀ z : Nd, (ts' ++ [z]).length = ts'.length + 1 := fun z => by simp
  rw [hlen] at ho
  exact rep_row0 (own_set8 ho hl (by rfl) _ _ _ _ _ _ _ _) (by (repeat' (first | with_reducible exact Keeps.refl _ _ | with_reducible refine Keeps.set ?_ (by simp <;> omega) _ | with_reducible refine Keeps.alloc ?_ _ | with_reducible refine Keeps.drewN ?_ _ | with_reducible refine Keeps.drew ?_))) (by simp [World.setCell]) hG1 hy (fun x hx e => hd x hx (by rw [e]; rfl)) hg

/-- Where the loop of a branch stands. -/
def BranAt (b : Below) (w : World) (P : Nat) (d : Int) (L : List Int) (F : List Nat) (r : Except Flt (Nd × Pst)) (gk : Nat) (σ : Pst) (ts : List Nd) (can : Bool) (times : Int) (v : Value) (wr : World) : Prop :=
  ∃ (G Fc : List Nat), branchP b d L.length gk σ ts can times = some r ∧ NL wr (w.heap.size + 1) v ts G ∧ G.Nodup ∧ (∀ g ∈ G, w.heap.size + 1 ≤ g ∧ g ∉ Fc) ∧ (∀ g, v.ownBlock = some g → g ∉ Fc) ∧ PsAt wr P d L σ Fc ∧ Grew (w.heap.size + 1) F Fc ∧
    Keeps (fun k => k = P ∨ k ∈ F) (w.alloc ndBox) wr ∧ countNs ts + 2 * σ.s.length ≤ 600 ∧ 0 ≤ times ∧ times ≤ 4

theorem PsAt.points {w : World} {P : Nat} {d : Int} {L : List Int} {σ : Pst} {F : List Nat} (h : PsAt w P d L σ F) : Points σ.s ∧ σ.s.length ≤ 300 := by
  obtain ⟨A, c, v6, v7, h0, h1, h2, h3, h4, h5, h6, h7, h8, h9, h10, h11, h12, h13, h14, h15, h16, h17, h18, h19, h20, h21, h22, h23⟩ := h.facts
  refine ⟨fun x hx => h16 x ?_, by omega⟩
  rw [h18] at hx
  exact List.mem_of_mem_drop hx

/-- A token that comes next. -/
theorem next_ok_tk {d n : Int} {s s' : List Int} {t : Tk} (hp : Points s) (h : nextL d n s = .ok (some (t, s'))) : TkOk t := by
  unfold nextL at h
  cases s with
  | nil => simp at h
  | cons p s =>
    simp only [List.cons_ne_nil, if_false, reduceCtorEq] at h
    cases ht : token d (p :: s) with
    | error e => rw [ht] at h; simp at h
    | ok ts =>
      obtain ⟨t1, s1⟩ := ts
      rw [ht] at h
      simp only [Except.ok.injEq, Option.some.injEq, Prod.mk.injEq] at h
      obtain ⟨rfl, rfl⟩ := h
      exact token_ok hp ht

set_option maxRecDepth 100000 in
set_option maxHeartbeats 8000000 in
theorem branch_c {b : Below} (hb : Good b) {k : Nat} (ha : ∀ j, j < k → AtomC b j) : BranC b k := by
  intro w P d L σ F r h hr
  have hP := h.lt
  have hlist := h.lists
  have hfar : ∀ b, w.heap.size ≤ b → ¬ (b = P ∨ b ∈ F) := fun b hb e => by
    rcases e with e | e
    · omega
    · have := (hlist _ e).2; omega
  have hstart : BranAt b w P d L F r k σ [] false 0 (.slice none 0 0) (w.alloc ndBox) :=
    ⟨[], F, hr, NL.nil _ _, List.nodup_nil, by simp, fun g hg => by simp [Value.ownBlock] at hg, h.keepN (by (repeat' (first | with_reducible exact Keeps.refl _ _ | with_reducible refine Keeps.set ?_ (by simp <;> omega) _ | with_reducible refine Keeps.alloc ?_ _ | with_reducible refine Keeps.drewN ?_ _ | with_reducible refine Keeps.drew ?_))), Grew.refl _ _, Keeps.refl _ _, by have := h.points.2; simp [countNs]; omega, by omega, by omega⟩
  have ha' := hid ha
  clear hr h ha
  go_enter Tryz.func37, Tryz.ntmps37
  go_wp2_with fail
  go_loopg [3, 4, 5] k (fun gk v3 v4 v5 wr => ∃ σ ts can times, BranAt b w P d L F r gk σ ts can times v3 wr ∧ v4 = .bool can ∧ v5 = .int .i64 times ∧ gk ≤ k)
  case atStart => exact ⟨σ, [], false, 0, hstart, rfl, rfl, Nat.le_refl _⟩
  case round =>
    obtain ⟨σc, ts, can, times, ⟨G, Fc, hr, hNL, hGn, hGf, hGo, hPs, hgr, hkb, hcnt, ht0, ht4⟩, rfl, rfl, hgk⟩ := hrel
    cases gk with
    | zero => cases hr
    | succ gk =>
      obtain ⟨oA, oc, rfl⟩ := hNL.slice
      have hkp : Keeps (fun k => k = P ∨ k ∈ F) w wr := Keeps.trans (by (repeat' (first | with_reducible exact Keeps.refl _ _ | with_reducible refine Keeps.set ?_ (by simp <;> omega) _ | with_reducible refine Keeps.alloc ?_ _ | with_reducible refine Keeps.drewN ?_ _ | with_reducible refine Keeps.drew ?_))) hkb
      have hws : w.heap.size + 1 ≤ wr.heap.size := by have := hkb.size; simp at this; omega
      have hws' : w.heap.size < wr.heap.size := by omega
      have hPw := hPs.lt
      have hlc := hPs.lists
      have HND := hid (NdAt.of_block_new (heap_new (by simp)) (w := w.alloc ndBox) (B := w.heap.size) |>.keep hkb (hfar _ (Nat.le_refl _)))
      obtain ⟨A0, c0, -, -, -, -, y2, -, -, -, -, -, y8⟩ := hPs.cells
      have hNx := hid (next_calls hPs)
      simp only [branchP] at hr
      cases hnl : nextL d L.length σc.s with
      | error f =>
        rw [hnl] at hr
        simp only [Option.some.injEq] at hr
        have HNL := hid hnl
        have HR := hid hr
        clear hnl hr
        go_wp2_with fail
        refine hNx.out.mono ?_
        rintro e w2 hq
        unfold nextPost at hq
        rw [HNL.out] at hq
        obtain ⟨rfl, hk2⟩ := hq
        have hk2w : Keeps (fun k => k = P ∨ k ∈ F) w w2 := hkp.trans (hk2.mono (fun _ h => h.elim))
        simp only [fltPanic]
        refine ⟨rfl, ?_⟩
        rw [← HR.out]
        exact ⟨rfl, hk2w, (hPs.keepN hk2).alive⟩
      | ok o =>
        rw [hnl] at hr
        cases o with
        | none =>
          simp only [Option.some.injEq] at hr
          have HNL := hid hnl
          have HR := hid hr
          clear hnl hr
          go_wp2_with fail
          refine hNx.out.mono ?_
          rintro e w2 hq
          unfold nextPost at hq
          rw [HNL.out] at hq
          obtain ⟨rfl, hk2⟩ := hq
          simp only [tkV]
          go_wp2_with fail
          obtain ⟨xo, hown, hG, hdis⟩ := hNL
          have hsl := SliceV.of_own hown
          refine (row_calls (ts := ts) (xs := xo) (Fl := (Value.ownBlock (.slice oA ts.length oc)).toList) (F := G) (hsl.keeps (S := No) (by (repeat' (first | with_reducible exact hk2 | with_reducible refine Keeps.set ?_ (by simp <;> omega) _ | with_reducible refine Keeps.alloc ?_ _ | with_reducible refine Keeps.drewN ?_ _ | with_reducible refine Keeps.drew ?_))) (fun _ _ h => h)) (hG.keeps (S := No) (by (repeat' (first | with_reducible exact hk2 | with_reducible refine Keeps.set ?_ (by simp <;> omega) _ | with_reducible refine Keeps.alloc ?_ _ | with_reducible refine Keeps.drewN ?_ _ | with_reducible refine Keeps.drew ?_))) (fun _ _ h => h)) (by omega)).mono ?_
          rintro e w3 ⟨⟨v', g, F', rfl, hN, hS, hg, hgl⟩, hk3⟩
          obtain ⟨sA, sn, sc, kA, kn, kc, rfl, hN2⟩ := hN.parts
          have hk23 : Keeps No wr w3 := Keeps.trans (by (repeat' (first | with_reducible exact hk2 | with_reducible refine Keeps.set ?_ (by simp <;> omega) _ | with_reducible refine Keeps.alloc ?_ _ | with_reducible refine Keeps.drewN ?_ _ | with_reducible refine Keeps.drew ?_))) hk3
          have hs3 : w.heap.size < w3.heap.size := hk23.lt_of hws'
          obtain ⟨x0, x1, x2, x3, x4, x5, x6, x7, x8⟩ := HND.out.keep hk23 id
          have hk3w : Keeps (fun k => k = P ∨ k ∈ F) w w3 := hkp.trans (hk23.mono (fun _ h => h.elim))
          have hGlt : ∀ x ∈ F', w.heap.size + 1 ≤ x ∧ x < wr.heap.size ∧ x ∉ Fc := fun x hx => ⟨(hGf x (hS.subset hx)).1, hG.kind.1.lt (hS.subset hx), (hGf x (hS.subset hx)).2⟩
          have hgge : ∀ x ∈ g, wr.heap.size ≤ x := fun x hx => by have h1 := hg x hx; have h2 := hk2.size; (try simp at h1); omega
          have hPs3 := hPs.keepN hk23
          clear hN hdis hown hsl
          go_wp2_with fail
          refine bodyPost_ret (v := .agg #[.int .i64 (rowN ts).kind, .slice sA sn sc, .slice kA kn kc, .int .i64 (rowN ts).number, .int .i64 (rowN ts).least, .int .i64 (rowN ts).most, .int .i64 (rowN ts).way, .bool (rowN ts).fold]) (by simp [results, Tryz.results37, go_sem, ndV, *]) rfl ?_
          rw [← HR.out]
          refine ⟨_, g ++ F', Fc, rfl, ⟨_, rfl, hN2.keeps (S := But w.heap.size) (by (repeat' (first | with_reducible exact Keeps.refl _ _ | with_reducible refine Keeps.set ?_ (by simp <;> omega) _ | with_reducible refine Keeps.alloc ?_ _ | with_reducible refine Keeps.drewN ?_ _ | with_reducible refine Keeps.drew ?_))) (fun x hx e => ?_)⟩, ?_, ?_, ?_, hgr.mono (by omega), ?_⟩
          · have e : x = _ := e
            rcases List.mem_append.1 hx with hx | hx
            · have := hgge x hx; omega
            · have := (hGlt x hx).1; omega
          · refine List.nodup_append.2 ⟨nodup_one hgl, hGn.sublist hS, fun x hx y hy e => ?_⟩
            have := hgge x hx
            have := (hGlt y hy).2.1
            omega
          · intro x hx
            rcases List.mem_append.1 hx with hx | hx
            · exact ⟨by have := hgge x hx; omega, fun h => by have := (hlc x h).2; have := hgge x hx; omega⟩
            · exact ⟨by have := (hGlt x hx).1; omega, (hGlt x hx).2.2⟩
          · exact hPs3.keep (S := But w.heap.size) (by (repeat' (first | with_reducible exact Keeps.refl _ _ | with_reducible refine Keeps.set ?_ (by simp <;> omega) _ | with_reducible refine Keeps.alloc ?_ _ | with_reducible refine Keeps.drewN ?_ _ | with_reducible refine Keeps.drew ?_))) (fun k hk e => by have e : k = _ := e; omega) (fun x hx e => by
              have e : x = _ := e
              rcases hgr x hx with h | h
              · have := (hlist x h).2; omega
              · omega)
          · (repeat' (first | with_reducible exact hk3w | with_reducible refine Keeps.set ?_ (by simp <;> omega) _ | with_reducible refine Keeps.alloc ?_ _ | with_reducible refine Keeps.drewN ?_ _ | with_reducible refine Keeps.drew ?_))
        | some tk =>
          obtain ⟨tk, s'⟩ := tk
          have htk := next_ok_tk hPs.points.1 hnl
          have hsn := next_len hnl
          simp only at hr
          obtain ⟨q0, q1, q2, q3, q4, q5, q6, q7⟩ := tk
          by_cases h89 : q0 = 9 ∨ q0 = 8
          · rw [if_pos h89] at hr
            simp only [Option.some.injEq] at hr
            have HNL := hid hnl
            have HR := hid hr
            clear hnl hr
            rcases h89 with rfl | rfl
            all_goals
              go_wp2_with fail
              refine hNx.out.mono ?_
              rintro e w2 hq
              unfold nextPost at hq
              rw [HNL.out] at hq
              obtain ⟨rfl, hk2⟩ := hq
              simp only [tkV]
              go_wp2_with fail
              obtain ⟨xo, hown, hG, hdis⟩ := hNL
              have hsl := SliceV.of_own hown
              refine (row_calls (ts := ts) (xs := xo) (Fl := (Value.ownBlock (.slice oA ts.length oc)).toList) (F := G) (hsl.keeps (S := No) (by (repeat' (first | with_reducible exact hk2 | with_reducible refine Keeps.set ?_ (by simp <;> omega) _ | with_reducible refine Keeps.alloc ?_ _ | with_reducible refine Keeps.drewN ?_ _ | with_reducible refine Keeps.drew ?_))) (fun _ _ h => h)) (hG.keeps (S := No) (by (repeat' (first | with_reducible exact hk2 | with_reducible refine Keeps.set ?_ (by simp <;> omega) _ | with_reducible refine Keeps.alloc ?_ _ | with_reducible refine Keeps.drewN ?_ _ | with_reducible refine Keeps.drew ?_))) (fun _ _ h => h)) (by omega)).mono ?_
              rintro e w3 ⟨⟨v', g, F', rfl, hN, hS, hg, hgl⟩, hk3⟩
              obtain ⟨sA, sn, sc, kA, kn, kc, rfl, hN2⟩ := hN.parts
              have hk23 : Keeps No wr w3 := Keeps.trans (by (repeat' (first | with_reducible exact hk2 | with_reducible refine Keeps.set ?_ (by simp <;> omega) _ | with_reducible refine Keeps.alloc ?_ _ | with_reducible refine Keeps.drewN ?_ _ | with_reducible refine Keeps.drew ?_))) hk3
              have hs3 : w.heap.size < w3.heap.size := hk23.lt_of hws'
              obtain ⟨x0, x1, x2, x3, x4, x5, x6, x7, x8⟩ := HND.out.keep hk23 id
              have hk3w : Keeps (fun k => k = P ∨ k ∈ F) w w3 := hkp.trans (hk23.mono (fun _ h => h.elim))
              have hGlt : ∀ x ∈ F', w.heap.size + 1 ≤ x ∧ x < wr.heap.size ∧ x ∉ Fc := fun x hx => ⟨(hGf x (hS.subset hx)).1, hG.kind.1.lt (hS.subset hx), (hGf x (hS.subset hx)).2⟩
              have hgge : ∀ x ∈ g, wr.heap.size ≤ x := fun x hx => by have h1 := hg x hx; have h2 := hk2.size; (try simp at h1); omega
              have hPs3 := hPs.keepN hk23
              clear hN hdis hown hsl
              go_wp2_with fail
              refine bodyPost_ret (v := .agg #[.int .i64 (rowN ts).kind, .slice sA sn sc, .slice kA kn kc, .int .i64 (rowN ts).number, .int .i64 (rowN ts).least, .int .i64 (rowN ts).most, .int .i64 (rowN ts).way, .bool (rowN ts).fold]) (by simp [results, Tryz.results37, go_sem, ndV, *]) rfl ?_
              rw [← HR.out]
              refine ⟨_, g ++ F', Fc, rfl, ⟨_, rfl, hN2.keeps (S := But w.heap.size) (by (repeat' (first | with_reducible exact Keeps.refl _ _ | with_reducible refine Keeps.set ?_ (by simp <;> omega) _ | with_reducible refine Keeps.alloc ?_ _ | with_reducible refine Keeps.drewN ?_ _ | with_reducible refine Keeps.drew ?_))) (fun x hx e => ?_)⟩, ?_, ?_, ?_, hgr.mono (by omega), ?_⟩
              · have e : x = _ := e
                rcases List.mem_append.1 hx with hx | hx
                · have := hgge x hx; omega
                · have := (hGlt x hx).1; omega
              · refine List.nodup_append.2 ⟨nodup_one hgl, hGn.sublist hS, fun x hx y hy e => ?_⟩
                have := hgge x hx
                have := (hGlt y hy).2.1
                omega
              · intro x hx
                rcases List.mem_append.1 hx with hx | hx
                · exact ⟨by have := hgge x hx; omega, fun h => by have := (hlc x h).2; have := hgge x hx; omega⟩
                · exact ⟨by have := (hGlt x hx).1; omega, (hGlt x hx).2.2⟩
              · exact hPs3.keep (S := But w.heap.size) (by (repeat' (first | with_reducible exact Keeps.refl _ _ | with_reducible refine Keeps.set ?_ (by simp <;> omega) _ | with_reducible refine Keeps.alloc ?_ _ | with_reducible refine Keeps.drewN ?_ _ | with_reducible refine Keeps.drew ?_))) (fun k hk e => by have e : k = _ := e; omega) (fun x hx e => by
                  have e : x = _ := e
                  rcases hgr x hx with h | h
                  · have := (hlist x h).2; omega
                  · omega)
              · (repeat' (first | with_reducible exact hk3w | with_reducible refine Keeps.set ?_ (by simp <;> omega) _ | with_reducible refine Keeps.alloc ?_ _ | with_reducible refine Keeps.drewN ?_ _ | with_reducible refine Keeps.drew ?_))
          rw [if_neg h89] at hr
          have h9 : (q0 == 9) = false := beq_eq_false_iff_ne.2 (fun e => h89 (.inl e))
          have h8 : (q0 == 8) = false := beq_eq_false_iff_ne.2 (fun e => h89 (.inr e))
          by_cases h6 : q0 = 6
          · subst h6
            rw [if_pos rfl] at hr
            have HNL := hid hnl
            cases can with
            | false =>
              rw [if_pos rfl] at hr
              simp only [Option.some.injEq] at hr
              have HR := hid hr
              clear hnl hr h89
              go_wp2_with fail
              refine hNx.out.mono ?_
              rintro e w2 hq
              unfold nextPost at hq
              rw [HNL.out] at hq
              obtain ⟨rfl, hk2⟩ := hq
              have hk2w : Keeps (fun k => k = P ∨ k ∈ F) w w2 := hkp.trans (hk2.mono (fun _ h => h.elim))
              have hs2P : P < w2.heap.size := hk2.lt_of hPw
              have y2' : w2.cell? ⟨P, 2, none⟩ = some (.int .i64 (posOf L.length σc.s)) := (hk2.cell hPw id).trans y2
              have y8' : ∀ o, w2.frozen? ⟨P, o, none⟩ = false := fun o => (hk2.frozen hPw id).trans (y8 o)
              simp only [tkV]
              go_wp2_with fail
              refine (pfail_calls _ _ _).mono ?_
              rintro e w3 ⟨rfl, rfl⟩
              simp only [fltPanic]
              refine ⟨rfl, ?_⟩
              rw [← HR.out]
              exact ⟨rfl, by (repeat' (first | with_reducible exact hk2w | with_reducible refine Keeps.set ?_ (by simp <;> omega) _ | with_reducible refine Keeps.alloc ?_ _ | with_reducible refine Keeps.drewN ?_ _ | with_reducible refine Keeps.drew ?_)), by (repeat' (first | with_reducible exact (hPs.keepN hk2).alive | with_reducible refine Alive.set ?_ | with_reducible refine Alive.alloc ?_ | with_reducible refine Alive.drewN ?_ | with_reducible refine Alive.drew ?_))⟩
            | true =>
              rw [if_neg (by simp)] at hr
              by_cases h4 : 4 < times + 1
              · rw [if_pos h4] at hr
                simp only [Option.some.injEq] at hr
                have HR := hid hr
                clear hnl hr h89
                go_wp2_with fail
                refine hNx.out.mono ?_
                rintro e w2 hq
                unfold nextPost at hq
                rw [HNL.out] at hq
                obtain ⟨rfl, hk2⟩ := hq
                have hk2w : Keeps (fun k => k = P ∨ k ∈ F) w w2 := hkp.trans (hk2.mono (fun _ h => h.elim))
                have hs2P : P < w2.heap.size := hk2.lt_of hPw
                have y2' : w2.cell? ⟨P, 2, none⟩ = some (.int .i64 (posOf L.length σc.s)) := (hk2.cell hPw id).trans y2
                have y8' : ∀ o, w2.frozen? ⟨P, o, none⟩ = false := fun o => (hk2.frozen hPw id).trans (y8 o)
                simp only [tkV]
                go_wp2_with fail
                refine (pfail_calls _ _ _).mono ?_
                rintro e w3 ⟨rfl, rfl⟩
                simp only [fltPanic]
                refine ⟨rfl, ?_⟩
                rw [← HR.out]
                exact ⟨rfl, by (repeat' (first | with_reducible exact hk2w | with_reducible refine Keeps.set ?_ (by simp <;> omega) _ | with_reducible refine Keeps.alloc ?_ _ | with_reducible refine Keeps.drewN ?_ _ | with_reducible refine Keeps.drew ?_)), by (repeat' (first | with_reducible exact (hPs.keepN hk2).alive | with_reducible refine Alive.set ?_ | with_reducible refine Alive.alloc ?_ | with_reducible refine Alive.drewN ?_ | with_reducible refine Alive.drew ?_))⟩
              · rw [if_neg h4] at hr
                cases hgl : ts.getLast? with
                | none => rw [hgl] at hr; cases hr
                | some y =>
                  obtain ⟨ts', rfl⟩ : ∃ ts', ts = ts' ++ [y] := by
                    rw [List.getLast?_eq_some_iff] at hgl
                    exact hgl
                  rw [hgl, List.dropLast_concat] at hr
                  simp only at hr
                  have HR := hid hr
                  clear hnl hr h89 hgl
                  obtain ⟨xo, hown, hG, hdis⟩ := hNL
                  obtain ⟨x1, cy, G1, Gy, rfl, rfl, hG1, hy⟩ := hG.snoc
                  obtain ⟨g, hA⟩ : ∃ g, oA = some ⟨g, 0, none⟩ := by
                    rcases hown.2 with ⟨_, h0⟩ | ⟨g, cap, cur, h1, _⟩
                    · simp at h0
                    · injection h1 with h1 _ _; exact ⟨g, h1⟩
                  subst hA
                  obtain ⟨sv, kv, ys, Fs, Fk, Fl, rfl, rfl, hys, hyk, hyl⟩ := hy.out
                  obtain ⟨sA, sc, rfl⟩ := hys.slice
                  obtain ⟨kA, kc, rfl⟩ := hyk.slice
                  have hl1 : x1.length = ts'.length * 8 := hG1.kind.2
                  have hlen : (ts' ++ [y]).length = ts'.length + 1 := by simp
                  have hg0 := (hown.lt g rfl)
                  have hcl : ∀ i, i < 8 → wr.cell? ⟨g, ts'.length * 8 + i, none⟩ = ([.int .i64 y.kind, .slice sA y.set.length sc, .slice kA y.kids.length kc, .int .i64 y.number, .int .i64 y.least, .int .i64 y.most, .int .i64 y.way, .bool y.fold] : List Value)[i]? := fun i hi => by
                    rw [hown.cellAt (ts'.length * 8 + i) (by omega), List.getElem?_append_right (by omega)]
                    congr 1
                    omega
                  go_wp2_with fail
                  refine hNx.out.mono ?_
                  rintro e w2 hq
                  unfold nextPost at hq
                  rw [HNL.out] at hq
                  obtain ⟨rfl, hk2⟩ := hq
                  have hk2w : Keeps (fun k => k = P ∨ k ∈ F) w w2 := hkp.trans (hk2.mono (fun _ h => h.elim))
                  have hs2P : P < w2.heap.size := hk2.lt_of hPw
                  have y2' : w2.cell? ⟨P, 2, none⟩ = some (.int .i64 (posOf L.length σc.s)) := (hk2.cell hPw id).trans y2
                  have y8' : ∀ o, w2.frozen? ⟨P, o, none⟩ = false := fun o => (hk2.frozen hPw id).trans (y8 o)
                  simp only [tkV]
                  have hcw : ∀ i, i < 8 → w2.cell? ⟨g, ts'.length * 8 + i, none⟩ = ([.int .i64 y.kind, .slice sA y.set.length sc, .slice kA y.kids.length kc, .int .i64 y.number, .int .i64 y.least, .int .i64 y.most, .int .i64 y.way, .bool y.fold] : List Value)[i]? := fun i hi => (hk2.cell hg0.2 id).trans (hcl i hi)
                  have hfz : ∀ o, w2.frozen? ⟨g, o, none⟩ = false := fun o => (hk2.frozen hg0.2 id).trans (hown.frozenAt o)
                  have c0 := hcw 0 (by omega); have c1 := hcw 1 (by omega); have c2 := hcw 2 (by omega); have c3 := hcw 3 (by omega)
                  have c4 := hcw 4 (by omega); have c5 := hcw 5 (by omega); have c6 := hcw 6 (by omega); have c7 := hcw 7 (by omega)
                  simp only [Nat.add_zero, List.getElem?_cons_zero, List.getElem?_cons_succ] at c0 c1 c2 c3 c4 c5 c6 c7
                  have hg2 : g < w2.heap.size := hk2.lt_of hg0.2
                  have hgw2 : ¬ g = w2.heap.size := by omega
                  have hgw2' : ¬ w2.heap.size = g := by omega
                  have hgw3 : ¬ g = w2.heap.size + 1 := by omega
                  have hgw3' : ¬ w2.heap.size + 1 = g := by omega
                  have hgP : ¬ g = P := by omega
                  have hgP' : ¬ P = g := by omega
                  have hlm : ts'.length ≤ 1000 := by have := length_le_count (ts' ++ [y]); omega
                  clear hcl hcw
                  go_upto_region 13 with fail
                  refine wp_world (fun V => (V.cell? ⟨g, ts'.length * 8, none⟩ = some (.int .i64 y.kind) ∧ V.cell? ⟨g, ts'.length * 8 + 1, none⟩ = some (.slice sA y.set.length sc) ∧ V.cell? ⟨g, ts'.length * 8 + 2, none⟩ = some (.slice kA y.kids.length kc) ∧ V.cell? ⟨g, ts'.length * 8 + 3, none⟩ = some (.int .i64 y.number) ∧
                      V.cell? ⟨g, ts'.length * 8 + 4, none⟩ = some (.int .i64 y.least) ∧ V.cell? ⟨g, ts'.length * 8 + 5, none⟩ = some (.int .i64 y.most) ∧ V.cell? ⟨g, ts'.length * 8 + 6, none⟩ = some (.int .i64 y.way) ∧ V.cell? ⟨g, ts'.length * 8 + 7, none⟩ = some (.bool y.fold)) ∧ (∀ o, V.frozen? ⟨g, o, none⟩ = false) ∧
                      V.cell? ⟨w2.heap.size, 4, none⟩ = some (.int .i64 q4) ∧ V.cell? ⟨w2.heap.size, 5, none⟩ = some (.int .i64 q5) ∧ V.cell? ⟨w2.heap.size, 6, none⟩ = some (.int .i64 q6) ∧ Keeps No wr V ∧ w2.heap.size < V.heap.size) ?_ ?_
                  · refine ⟨⟨?_, ?_, ?_, ?_, ?_, ?_, ?_, ?_⟩, ?_, ?_, ?_, ?_, ?_, ?_⟩
                    all_goals first | (simp [go_sem, *]; done) | skip
                    (repeat' (first | with_reducible exact hk2 | with_reducible refine Keeps.set ?_ (by simp <;> omega) _ | with_reducible refine Keeps.alloc ?_ _ | with_reducible refine Keeps.drewN ?_ _ | with_reducible refine Keeps.drew ?_))
                  clear c0 c1 c2 c3 c4 c5 c6 c7 hfz y2' y8' hs2P hk2w
                  rintro V ⟨⟨c0, c1, c2, c3, c4, c5, c6, c7⟩, hfz, k4, k5, k6, hkV, hsV⟩
                  have hgV : g < V.heap.size := by omega
                  have hgV1 : ¬ g = V.heap.size := by omega
                  have hgV2 : ¬ V.heap.size = g := by omega
                  have hgV3 : ¬ w2.heap.size = V.heap.size := by omega
                  have HOWN := hid hown
                  have HG1 := hid hG1
                  have HY := hid hy
                  have HDIS := hid hdis
                  clear hown hG1 hy hdis hys hyk hyl hG
                  go_cut [] (fun Z => NL Z (w.heap.size + 1) (.slice (some ⟨g, 0, none⟩) (ts'.length + 1) oc) (ts' ++ [.mk 12 [] [y] 0 q4 q5 q6 false]) (G1 ++ ([V.heap.size] ++ (Fs ++ Fk ++ Fl))) ∧ Keeps (fun k => k = g) V Z)
                  case first =>
                    go_region_law (fail)
                    all_goals
                      dsimp only [Exit.then]
                      go_wp2_with fail
                      go_meet
                      case rel => exact ⟨rep_row (own_keepN HOWN.out (by (repeat' (first | with_reducible exact hkV | with_reducible refine Keeps.set ?_ (by simp <;> omega) _ | with_reducible refine Keeps.alloc ?_ _ | with_reducible refine Keeps.drewN ?_ _ | with_reducible refine Keeps.drew ?_)))) hl1 (HG1.out.keeps hkV (fun _ _ h => h)) (HY.out.keeps hkV (fun _ _ h => h)) HDIS.out hgV q4 q5 q6 |>.keepN (by (repeat' (first | with_reducible exact Keeps.refl _ _ | with_reducible refine Keeps.set ?_ (by simp <;> omega) _ | with_reducible refine Keeps.alloc ?_ _ | with_reducible refine Keeps.drewN ?_ _ | with_reducible refine Keeps.drew ?_))), by (repeat' (first | with_reducible exact Keeps.refl _ _ | with_reducible refine Keeps.set ?_ (by simp <;> omega) _ | with_reducible refine Keeps.alloc ?_ _ | with_reducible refine Keeps.drewN ?_ _ | with_reducible refine Keeps.drew ?_))⟩
                  case rest =>
                    obtain ⟨hNL, hkg⟩ := hcut
                    obtain ⟨Z, rfl⟩ : ∃ Z : World, Z = wc := ⟨_, rfl⟩
                    clear c0 c1 c2 c3 c4 c5 c6 c7 hfz k4 k5 k6
                    have hkZ : Keeps (fun k => k = P ∨ k ∈ F) (w.alloc ndBox) Z := Keeps.trans' (hkb.trans (hkV.mono (fun _ h => h.elim))) hkg (fun k hk e => by have e : k = g := e; simp at hk; omega)
                    have hPZ := (hPs.keepN hkV).keep hkg (fun k hk e => by have e : k = g := e; omega) (fun x hx e => by have e : x = g := e; exact hGo g rfl (e ▸ hx))
                    have hsZ : w2.heap.size < Z.heap.size := hkg.lt_of hsV
                    obtain ⟨-, -, -, -, -, -, z2, -, -, -, -, -, z8⟩ := hPZ.cells
                    have hPZ' := hPZ.lt
                    have HPZ := hid (hPZ.setAt hsn.2)
                    have HNLZ := hid hNL
                    have hVZ := hkg.size
                    clear hNL hPZ
                    go_wp2_with fail
                    go_roundg gk
                    case measure => omega
                    case rel =>
                      have hnP : ∀ x ∈ G1 ++ ([V.heap.size] ++ (Fs ++ Fk ++ Fl)), x ≠ P := fun x hx e => by
                        rcases List.mem_append.1 hx with hx | hx
                        · have := (hGf x (List.mem_append_left _ hx)).1; omega
                        · rcases List.mem_append.1 hx with hx | hx
                          · simp at hx; omega
                          · have := (hGf x (List.mem_append_right _ hx)).1; omega
                      have hwV : wr.heap.size ≤ V.heap.size := hkV.size
                      have hGlt : ∀ x ∈ G1 ++ (Fs ++ Fk ++ Fl), x < wr.heap.size := fun x hx => (List.mem_append.1 hx).elim (fun h => HG1.out.kind.1.lt h) (fun h => HY.out.kind.1.lt h)
                      refine ⟨{ σc with s := s' }, ts' ++ [.mk 12 [] [y] 0 q4 q5 q6 false], true, times + 1, ⟨G1 ++ ([V.heap.size] ++ (Fs ++ Fk ++ Fl)), Fc, HR.out, HNLZ.out.keep (S := But P) (by (repeat' (first | with_reducible exact Keeps.refl _ _ | with_reducible refine Keeps.set ?_ (by simp <;> omega) _ | with_reducible refine Keeps.alloc ?_ _ | with_reducible refine Keeps.drewN ?_ _ | with_reducible refine Keeps.drew ?_))) (fun x hx e => hnP x hx e) (fun x hx e => by have e : x = P := e; injection hx with hx; simp at hx; omega), ?_, ?_, ?_, HPZ.out, hgr, ?_, ?_, by omega, by omega⟩, rfl, rfl, by omega⟩
                      · have h1 := List.nodup_append.1 hGn
                        refine List.nodup_append.2 ⟨h1.1, List.nodup_cons.2 ⟨fun h => ?_, h1.2.1⟩, fun a ha b hb e => ?_⟩
                        · have := hGlt V.heap.size (List.mem_append_right _ h); omega
                        · rcases List.mem_append.1 hb with hb | hb
                          · simp at hb
                            have := hGlt a (List.mem_append_left _ ha); omega
                          · exact h1.2.2 a ha b hb e
                      · intro x hx
                        rcases List.mem_append.1 hx with hx | hx
                        · exact hGf x (List.mem_append_left _ hx)
                        · rcases List.mem_append.1 hx with hx | hx
                          · simp at hx
                            exact ⟨by omega, fun h => by have := (hlc x h).2; omega⟩
                          · exact hGf x (List.mem_append_right _ hx)
                      · intro x hx
                        injection hx with hx
                        simp at hx
                        subst hx
                        exact hGo g rfl
                      · refine Keeps.set hkZ (fun _ => .inl rfl) _
                      · rw [countNs_append] at hcnt ⊢
                        have := hsn.1
                        simp only [countNs, countN] at hcnt ⊢
                        omega
          · rw [if_neg h6] at hr
            have h6' : (q0 == 6) = false := beq_eq_false_iff_ne.2 h6
            have HNL := hid hnl
            cases hat : atomP b d L.length gk ⟨q0, q1, q2, q3, q4, q5, q6, q7⟩ s' σc with
            | none => rw [hat] at hr; cases hr
            | some r1 =>
              rw [hat] at hr
              have HAT := hid hat
              cases r1 with
              | error f =>
                simp only [Option.some.injEq] at hr
                have HR := hid hr
                clear hnl hr hat h89 h6
                go_wp2_with fail
                refine hNx.out.mono ?_
                rintro e w2 hq
                unfold nextPost at hq
                rw [HNL.out] at hq
                obtain ⟨rfl, hk2⟩ := hq
                simp only [tkV]
                go_wp2_with fail
                have hPs2 := hPs.keepN (w' := w2.alloc (tkBoxOf q0 q1 q2 q3 q4 q5 q6 q7)) (by (repeat' (first | with_reducible exact hk2 | with_reducible refine Keeps.set ?_ (by simp <;> omega) _ | with_reducible refine Keeps.alloc ?_ _ | with_reducible refine Keeps.drewN ?_ _ | with_reducible refine Keeps.drew ?_)))
                have hA := ha'.out gk (by omega) _ P d L σc Fc ⟨q0, q1, q2, q3, q4, q5, q6, q7⟩ s' _ hPs2 hsn.2 hsn.1 htk.low HAT.out
                simp only [tkV] at hA
                refine hA.mono ?_
                rintro e w3 ⟨rfl, hk3, hal3⟩
                have hk3w : Keeps (fun k => k = P ∨ k ∈ F) w w3 := Keeps.trans' (w1 := w2.alloc (tkBoxOf q0 q1 q2 q3 q4 q5 q6 q7)) (by (repeat' (first | with_reducible exact (hkp.trans (hk2.mono (fun _ h => h.elim))) | with_reducible refine Keeps.set ?_ (by simp <;> omega) _ | with_reducible refine Keeps.alloc ?_ _ | with_reducible refine Keeps.drewN ?_ _ | with_reducible refine Keeps.drew ?_))) hk3 (fun k hk e => e.imp id (fun e => (hgr k e).elim id (fun e => by omega)))
                simp only [fltPanic]
                refine ⟨rfl, ?_⟩
                rw [← HR.out]
                exact ⟨rfl, hk3w, hal3⟩
              | ok xσ =>
                obtain ⟨x, σ1⟩ := xσ
                simp only at hr
                have hcx := (count_all hb.ends d L.length gk).atom _ _ _ _ _ hsn.1 hat
                have HR := hid hr
                clear hnl hr hat h89 h6
                go_wp2_with fail
                refine hNx.out.mono ?_
                rintro e w2 hq
                unfold nextPost at hq
                rw [HNL.out] at hq
                obtain ⟨rfl, hk2⟩ := hq
                simp only [tkV]
                go_wp2_with fail
                have hPs2 := hPs.keepN (w' := w2.alloc (tkBoxOf q0 q1 q2 q3 q4 q5 q6 q7)) (by (repeat' (first | with_reducible exact hk2 | with_reducible refine Keeps.set ?_ (by simp <;> omega) _ | with_reducible refine Keeps.alloc ?_ _ | with_reducible refine Keeps.drewN ?_ _ | with_reducible refine Keeps.drew ?_)))
                have hA := ha'.out gk (by omega) _ P d L σc Fc ⟨q0, q1, q2, q3, q4, q5, q6, q7⟩ s' _ hPs2 hsn.2 hsn.1 htk.low HAT.out
                simp only [tkV] at hA
                refine hA.mono ?_
                rintro e w3 ⟨v', Fn, F1, rfl, hN, hnu, hfr, hP3, hgr3, hk3⟩
                obtain ⟨sA, sn, sc, kA, kn, kc, rfl, hN2⟩ := hN.parts
                have hw2 : wr.heap.size ≤ w2.heap.size := hk2.size
                have hw3 : w2.heap.size < w3.heap.size := hk3.lt_of (by simp)
                have hfar2 : ∀ b, wr.heap.size ≤ b → ¬ (b = P ∨ b ∈ Fc) := fun b hb e => by
                  rcases e with e | e
                  · omega
                  · have := (hlc _ e).2; omega
                have hkr : Keeps (fun k => k = P ∨ k ∈ Fc) wr w3 := Keeps.trans (by (repeat' (first | with_reducible exact (hk2.mono (fun _ h => h.elim)) | with_reducible refine Keeps.set ?_ (by simp <;> omega) _ | with_reducible refine Keeps.alloc ?_ _ | with_reducible refine Keeps.drewN ?_ _ | with_reducible refine Keeps.drew ?_))) hk3
                have hownlt := hNL.lt
                have hNL3 := hNL.keep hkr (fun g hg e => e.elim (fun e => by have := (hGf g hg).1; omega) (hGf g hg).2) (fun g hg e => e.elim (fun e => by have := (hownlt g hg).1; omega) (hGo g hg))
                have hGlt : ∀ g ∈ G, g < wr.heap.size := fun g hg => by obtain ⟨xo, _, hG, _⟩ := hNL; exact hG.kind.1.lt hg
                have hfr' : ∀ g ∈ Fn, w2.heap.size + 1 ≤ g ∧ g < w3.heap.size ∧ g ∉ F1 := fun g hg => ⟨by have := (hfr g hg).1; simpa using this, hN2.kind.1.lt hg, (hfr g hg).2⟩
                have hgr3' : Grew (w2.heap.size + 1) Fc F1 := fun g hg => (hgr3 g hg).imp id (fun h => by simpa using h)
                have k0 : w3.cell? ⟨w2.heap.size, 0, none⟩ = some (.int .i64 q0) := (hk3.cell (b := w2.heap.size) (o := 0) (by simp) (hfar2 _ hw2)).trans (World.cell?_alloc_at _ _ _ _ rfl)
                have hlt := length_le_count ts
                have hl1 := hP3.lists
                have hdF : ∀ g ∈ Fn, Value.ownBlock (.slice oA ts.length oc) ≠ some g := fun g hg e => by have := (hownlt g e).2; have := (hfr' g hg).1; omega
                clear hA hN hNL
                go_wp2_with (at_builtin; (refine wpl_nodes (us := [x]) rfl _ _ rfl rfl (hNL3.keepN (by (repeat' (first | with_reducible exact Keeps.refl _ _ | with_reducible refine Keeps.set ?_ (by simp <;> omega) _ | with_reducible refine Keeps.alloc ?_ _ | with_reducible refine Keeps.drewN ?_ _ | with_reducible refine Keeps.drew ?_)))) rfl (NewsAt.of_block (m := 1) (heap_new (by simp)) rfl hN2.one) (hN2.alone.keeps ((Keeps.refl No w3).alloc _) (fun _ _ h => h)) (fun g hg => hdF g hg) (by simp; omega) (by simp; omega) ?_); intro A2 c2 w4 hown2 hgrow2 hat2; have k4 : w4.cell? ⟨w2.heap.size, 0, none⟩ = some (.int .i64 q0) := (hgrow2.cell (b := w2.heap.size) (o := 0) (by simp; omega) (fun e => by (have := (hownlt _ e).2; omega))).trans (by simp [go_sem, k0, hw3]))
                go_roundg gk
                case measure => omega
                case rel =>
                  have hkA : Keeps (fun k => k = P ∨ k ∈ F) (w.alloc ndBox) w4 := by
                    refine Keeps.trans' (w1 := w3.alloc (.cells #[.int .i64 x.kind, .slice sA sn sc, .slice kA kn kc, .int .i64 x.number, .int .i64 x.least, .int .i64 x.most, .int .i64 x.way, .bool x.fold] 27)) ?_ hgrow2 (fun k hk e => by have := (hownlt k e).1; simp at hk; omega)
                    refine Keeps.alloc ?_ _
                    exact Keeps.trans' hkb hkr (fun k hk e => e.imp id (fun e => (hgr k e).elim id (fun e => by simp at hk; omega)))
                  have hP4 : PsAt w4 P d L σ1 F1 := (hP3.keepN (w' := w3.alloc (.cells #[.int .i64 x.kind, .slice sA sn sc, .slice kA kn kc, .int .i64 x.number, .int .i64 x.least, .int .i64 x.most, .int .i64 x.way, .bool x.fold] 27)) (by (repeat' (first | with_reducible exact Keeps.refl _ _ | with_reducible refine Keeps.set ?_ (by simp <;> omega) _ | with_reducible refine Keeps.alloc ?_ _ | with_reducible refine Keeps.drewN ?_ _ | with_reducible refine Keeps.drew ?_)))).keep hgrow2 (fun k hk e => by have := (hownlt k e).1; omega) (fun g hg e => by
                    rcases hgr3' g hg with h | h
                    · exact hGo g e h
                    · have := (hownlt g e).2; omega)
                  refine ⟨σ1, ts ++ [x], (q0 != 11), 0, ⟨G ++ Fn, F1, HR.out, by simpa only [List.length_append, List.length_cons, List.length_nil, Nat.zero_add] using hown2, ?_, ?_, ?_, hP4, ?_, hkA, ?_, by omega, by omega⟩, rfl, rfl, by omega⟩
                  · refine List.nodup_append.2 ⟨hGn, hnu, fun a ha b hb e => ?_⟩
                    have := hGlt a ha
                    have := (hfr' b hb).1
                    omega
                  · intro g hg
                    rcases List.mem_append.1 hg with hg | hg
                    · refine ⟨(hGf g hg).1, fun h => ?_⟩
                      rcases hgr3' g h with h | h
                      · exact (hGf g hg).2 h
                      · have := hGlt g hg; omega
                    · exact ⟨by have := (hfr' g hg).1; omega, (hfr' g hg).2.2⟩
                  · intro g hg h
                    have hat3 : Value.ownBlock (.slice A2 (ts ++ [x]).length c2) = Value.ownBlock (.slice oA ts.length oc) ∨ Value.ownBlock (.slice A2 (ts ++ [x]).length c2) = some (w3.alloc (.cells #[.int .i64 x.kind, .slice sA sn sc, .slice kA kn kc, .int .i64 x.number, .int .i64 x.least, .int .i64 x.most, .int .i64 x.way, .bool x.fold] 27)).heap.size := hat2
                    rw [show (ts ++ [x]).length = ts.length + 1 from by simp] at hat3
                    rcases hat3 with e | e
                    · rw [e] at hg
                      rcases hgr3' g h with h | h
                      · exact hGo g hg h
                      · have := (hownlt g hg).2; omega
                    · rw [e] at hg
                      injection hg with hg
                      simp at hg
                      have := (hl1 g h).2
                      omega
                  · intro g hg
                    rcases hgr3' g hg with h | h
                    · exact hgr g h
                    · exact .inr (by omega)
                  · rw [countNs_append]
                    simp only [countNs]
                    omega

end Th
end Go.Proofs
