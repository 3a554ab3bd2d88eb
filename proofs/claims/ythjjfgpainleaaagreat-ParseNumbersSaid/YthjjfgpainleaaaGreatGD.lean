/- The reader of tokens: names. The reader of tokens: names. -/
import Derived.Test.YthjjfgpainleaaaGreatGC
import Derived.Test.YthjjfgpainleaaaGreatShelf

set_option linter.unusedSimpArgs false
set_option linter.unusedVariables false

namespace Go.Proofs
namespace Th
open Go.RowKit

abbrev bT : Nat := 184
theorem info_builder : (Tryz.prog.info? 184).map (·.size) = some 2 := by kernel_rfl
theorem lies_builder : liesAt Tryz.prog Tryz.prog.depth 184 (2 / Tryz.prog.cellsOf 184) 0 184 1 = true := by kernel_rfl

set_option maxHeartbeats 1000000 in
set_option maxRecDepth 100000 in
theorem copyCheck_fresh (b : Nat) (w : World) (h0 : w.cell? ⟨b, 0, none⟩ = some (.pointer none)) (hsh : w.shape? b = some (184, 2)) (hfz : w.frozen? ⟨b, 0, none⟩ = false) :
    Calls Tryz.prog 176 #[.pointer (some ⟨b, 0, none⟩)] w fun e w' => e = .returned (.tuple #[]) ∧ w' = w.setCell ⟨b, 0, none⟩ (.pointer (some ⟨b, 0, none⟩)) := by
  obtain ⟨j, hj, hjs⟩ := Option.map_eq_some_iff.1 info_builder
  have e1 : (convert 182 221 (.pointer (some ⟨b, 0, none⟩))).run Tryz.prog w = .ok (.pointer (some ⟨b, 0, none⟩)) w := Lib.run_to_unsafe (P := Tryz.prog) (w := w) ⟨b, 0, none⟩ Tryz.underlying182 Tryz.underlying221 hj (by rw [hjs]; decide) hsh (Nat.zero_lt_succ 1)
  have e2 : (callFunc 203 #[.pointer (some ⟨b, 0, none⟩)]).run Tryz.prog w = .ok (.value (.pointer (some ⟨b, 0, none⟩))) w := by
    rw [run_callFunc_extern Tryz.func203 (by kernel_rfl) (by kernel_rfl) (by kernel_rfl) (e := Extern.AbiNoEscape.same) (by kernel_rfl)]
    rw [Lib.run_noEscape]
    rfl
  have e3 : (convert 221 182 (.pointer (some ⟨b, 0, none⟩))).run Tryz.prog w = .ok (.pointer (some ⟨b, 0, none⟩)) w := Lib.run_from_unsafe (P := Tryz.prog) (w := w) ⟨b, 0, none⟩ Tryz.underlying221 Tryz.underlying182 hj hsh lies_builder
  go_enter Tryz.func176, Tryz.ntmps176
  go_wp2
  go_end0
  exact ⟨rfl, rfl⟩

set_option maxHeartbeats 1000000 in
set_option maxRecDepth 100000 in
theorem copyCheck_used (b : Nat) (w : World) (h0 : w.cell? ⟨b, 0, none⟩ = some (.pointer (some ⟨b, 0, none⟩))) :
    Calls Tryz.prog 176 #[.pointer (some ⟨b, 0, none⟩)] w fun e w' => e = .returned (.tuple #[]) ∧ w' = w := by
  obtain ⟨j, hj, hjs⟩ := Option.map_eq_some_iff.1 info_builder
  have e1 := fun w => Lib.run_neq_ptr_same (P := Tryz.prog) (w := w) ⟨b, 0, none⟩ Tryz.underlying182 hj
  go_enter Tryz.func176, Tryz.ntmps176
  go_wp2
  go_end0
  exact ⟨rfl, rfl⟩

theorem copyCheck_calls (B b : Nat) (bs : List Value) (w : World) (h : Lib.IsBuilder bT 5 B b bs w) :
    Calls Tryz.prog 176 #[.pointer (some ⟨b, 0, none⟩)] w fun e w' => e = .returned (.tuple #[]) ∧ Lib.BuilderAt bT 5 B b (.pointer (some ⟨b, 0, none⟩)) bs w' ∧ Below B w w' := by
  rcases h with h | h
  · refine (copyCheck_fresh b w h.cell0 h.shape h.frozen0).mono ?_
    rintro e w' ⟨rfl, rfl⟩
    exact ⟨rfl, h.used _, (Below.refl B w).setCell (p := ⟨b, 0, none⟩) h.1 _⟩
  · refine (copyCheck_used b w h.cell0).mono ?_
    rintro e w' ⟨rfl, rfl⟩
    exact ⟨rfl, h, Below.refl B _⟩

set_option maxHeartbeats 2000000 in
set_option maxRecDepth 100000 in
theorem writeRune_calls (B b : Nat) (bs : List Value) (r : Int) (hr0 : -2147483648 ≤ r) (hr1 : r ≤ 2147483647) (w : World) (h : Lib.IsBuilder bT 5 B b bs w) (hlen : bs.length + 4 ≤ 1000) (hBw : B ≤ w.heap.size) :
    Calls Tryz.prog 164 #[.pointer (some ⟨b, 0, none⟩), .int .i32 r] w fun e w' => e = .returned (.tuple #[.int .i64 (Lib.runeCells r).length, .nilIface]) ∧ Lib.IsBuilder bT 5 B b (bs ++ Lib.runeCells r) w' ∧ Below B w w' := by
  have hk4 := Lib.runeCells_le r
  go_enter Tryz.func164, Tryz.ntmps164
  go_wp2_with fail
  refine (copyCheck_calls B b bs _ h).mono ?_
  rintro e w1 ⟨rfl, h1, hb1⟩
  obtain ⟨hB, v, hbk, hown, hne⟩ := h1
  obtain ⟨ao, cap, rfl⟩ : ∃ ao cap, v = .slice ao bs.length cap := by
    rcases hown.2 with ⟨hv, h0⟩ | ⟨g, cap, cur, hv, _⟩
    · exact ⟨none, 0, by rw [hv, h0]⟩
    · exact ⟨_, _, hv⟩
  have c0 : w1.cell? ⟨b, 0, none⟩ = some (.pointer (some ⟨b, 0, none⟩)) := by rw [Lib.cell_of_heap hbk]; rfl
  have c1 : w1.cell? ⟨b, 1, none⟩ = some (.slice ao bs.length cap) := by rw [Lib.cell_of_heap hbk]; rfl
  have hs1 : w.heap.size ≤ w1.heap.size := hb1.size
  go_wp2_with fail
  refine (Tryz.utf8_AppendRune_plain B _ bs.length bs r hr0 hr1 _ hown (by omega) (by omega)).mono ?_
  rintro e w2 ⟨v', rfl, hown', o, hgrow⟩
  have hlt : b < w1.heap.size := by
    rcases Nat.lt_or_ge b w1.heap.size with h' | h'
    · exact h'
    · simp [Array.getElem?_eq_none h'] at hbk
  have hb2 : w2.heap[b]? = some (.cells #[.pointer (some ⟨b, 0, none⟩), .slice ao bs.length cap] bT (0, 0)) := by
    rw [hgrow.block b (by simp; omega) (fun e => hne e.symm), Lib.alloc_old w1 _ b hlt]
    exact hbk
  have d0 : w2.cell? ⟨b, 0, none⟩ = some (.pointer (some ⟨b, 0, none⟩)) := by rw [Lib.cell_of_heap hb2]; rfl
  have d1 : w2.cell? ⟨b, 1, none⟩ = some (.slice ao bs.length cap) := by rw [Lib.cell_of_heap hb2]; rfl
  have f1 : w2.frozen? ⟨b, 1, none⟩ = false := Lib.frozen_of_heap hb2 1
  obtain ⟨g, cap', rfl⟩ : ∃ g cap', v' = .slice (some ⟨g, 0, none⟩) (bs.length + (Lib.runeCells r).length) cap' := by
    rcases hown'.2 with ⟨_, h0⟩ | ⟨g, cap', cur, hv, _⟩
    · omega
    · exact ⟨g, cap', hv⟩
  have hown1 := hown
  clear hown
  have hmax : bs.length ≤ 1000 := by omega
  go_wp2
  go_ret2
  refine ⟨?_, ?_, ?_⟩
  · have e : ((bs.length : Int) + ((Lib.runeCells r).length : Int) - (bs.length : Int)) = ((Lib.runeCells r).length : Int) := by omega
    simp [e]
  · exact Or.inr (Lib.BuilderAt.put (T := bT) (e := 5) hB hb2 (bs' := bs ++ Lib.runeCells r) (by simpa using hown') (by decide))
  · refine ((hb1.alloc (by omega) _).grown hgrow (by simp; omega) (fun k hk => ?_)).setCell (p := ⟨b, 1, none⟩) hB _
    rcases hown1.2 with ⟨hv, _⟩ | ⟨g0, cap0, cur0, hv, hb0, _⟩
    · injection hv with hv1; subst hv1; simp [Value.ownBlock] at hk
    · injection hv with hv1; subst hv1; simp [Value.ownBlock] at hk; omega

end Th
end Go.Proofs

namespace Go.Proofs
namespace Th
open Go.RowKit

def asc (l : List Int) : List UInt8 := l.map fun p => UInt8.ofNat p.toNat
theorem asc_append (a b : List Int) : asc (a ++ b) = asc a ++ asc b := by simp [asc]
theorem bytesOf_eq (l : List Int) : bytesOf l = ⟨(asc l).toArray⟩ := rfl

theorem runeCells_asc {r : Int} (h0 : 0 ≤ r) (h1 : r ≤ 127) : Lib.runeCells r = Lib.byteCells (asc [r]) := by
  rw [← Lib.byteCells_encodeRune]
  simp [Lib.encodeRune, Lib.encodeRuneZ_one h0 h1, asc, Nat.toUInt8]

theorem run_all (p : Int → Bool) (n : Nat) (s : List Int) : (∀ x ∈ (run p n s).1, p x = true) ∧ (run p n s).1.length ≤ n := by
  induction n generalizing s with
  | zero => simp [run_nil]
  | succ n ih =>
    cases s with
    | nil => simp [run]
    | cons x t =>
      by_cases h : p x = true
      · rw [run_go _ _ _ _ h]
        refine ⟨?_, by simp; exact (ih t).2⟩
        intro y hy
        rcases List.mem_cons.1 hy with rfl | hy
        · exact h
        · exact (ih t).1 y hy
      · rw [run_stop _ _ _ _ (by simpa using h)]
        simp

theorem name_bd {x : Int} (h : isNameCh x = true) : 0 ≤ x ∧ x ≤ 127 := by
  simp [isNameCh, isLetter, isDigit] at h
  omega

theorem nameCh_enters : Enters 163 := fun _ _ => by kernel_rfl

theorem isBuilder_keep {B b : Nat} {bs : List Value} {w w' : World} {x : Nat} (h : Lib.IsBuilder bT 5 B b bs w) (hk : Keeps (But x) w w') (hx : x < B) : Lib.IsBuilder bT 5 B b bs w' := by
  have key : ∀ p, Lib.BuilderAt bT 5 B b p bs w → Lib.BuilderAt bT 5 B b p bs w' := by
    rintro p ⟨hB, v, hb, ho, hn⟩
    have hlt : b < w.heap.size := (Array.getElem?_eq_some_iff.1 hb).1
    refine ⟨hB, v, by rw [hk.block b hlt (by simp; omega)]; exact hb, ?_, hn⟩
    refine ho.kept ⟨hk.os, hk.tape, hk.output, hk.size, fun k hk1 hk2 => hk.block k hk1 (fun e => hk2 (by rw [e]))⟩ ?_ (row := some x)
    rcases ho.2 with ⟨hv, _⟩ | ⟨g0, cap0, cur0, hv, hb0, _⟩
    · subst hv; exact .inl (by simp [Value.ownBlock])
    · subst hv; refine .inr ?_; simp [Value.ownBlock]; omega
  exact h.imp (key _) (key _)

set_option maxHeartbeats 2000000 in
theorem name_calls {w : World} {b : Nat} {d : Int} {L s : List Int} (h : Rs w b d L s) :
    Calls Tryz.prog 138 #[.pointer (some ⟨b, 0, none⟩)] w fun e w' => e = .returned (.string (bytesOf (nameL s).1)) ∧ Rs w' b d L (nameL s).2 ∧ Keeps (But b) w w' := by
  have hb := h.lt
  by_cases hc : isLetter (hd s) || hd s == 95
  · have e : nameL s = run isNameCh 20 s := by unfold nameL; rw [if_pos hc]
    rw [e]
    clear e
    have hall := run_all isNameCh 20 s
    generalize hx : hd s = x at hc
    have HX := hid hx
    clear hx
    go_enter Tryz.func138, Tryz.ntmps138
    go_wp2_with fail
    refine (peek h).mono ?_
    rintro e w1 ⟨rfl, q, rfl⟩
    rw [HX.out]
    go_wp2_with fail
    refine (isLetter_calls x _).mono ?_
    rintro e w1 ⟨rfl, rfl⟩
    have hc2 : (isLetter x = false → (x != 95) = false) := by
      intro hl
      rw [hl] at hc
      simpa using hc
    cases hl : isLetter x
    all_goals first | (have hne := hc2 hl; go_wp2_with fail) | go_wp2_with fail
    all_goals
      clear hc hc2 hl
      try clear hne
      have hr0 : Rs ((w.drewN q).alloc (.cells #[.pointer none, .slice none 0 0] bT)) b d L s := (h.drewN q).keep (S := No) (by (repeat' (first | with_reducible exact Keeps.refl _ _ | with_reducible refine Keeps.set ?_ (by simp <;> omega) _ | with_reducible refine Keeps.alloc ?_ _ | with_reducible refine Keeps.drewN ?_ _ | with_reducible refine Keeps.drew ?_))) (fun _ _ h => h)
      have hB0 : Lib.IsBuilder bT 5 w.heap.size w.heap.size [] ((w.drewN q).alloc (.cells #[.pointer none, .slice none 0 0] bT)) := Lib.fresh_isBuilder bT 5 (w.drewN q)
      refine (run_calls nameCh_enters isNameCh_calls 20 (by omega) hr0).mono ?_
      rintro e w1 ⟨⟨A1, c1, rfl, hR1, hc1, hx1⟩, hr1, hk1⟩
      have hB1 := isBuilder_keep hB0 hk1 hb
      have hs1 : w.heap.size < w1.heap.size := by have := hk1.size; simp at this; omega
      have hkw : Keeps (But b) w w1 := Keeps.trans (by (repeat' (first | with_reducible exact Keeps.refl _ _ | with_reducible refine Keeps.set ?_ (by simp <;> omega) _ | with_reducible refine Keeps.alloc ?_ _ | with_reducible refine Keeps.drewN ?_ _ | with_reducible refine Keeps.drew ?_))) hk1
      clear hB0 hr0 hk1
      generalize hl : (run isNameCh 20 s).1 = l at *
      generalize hl2 : (run isNameCh 20 s).2 = s1 at *
      have HL := hid hl
      have HL2 := hid hl2
      clear hl hl2
      generalize hn : l.length = n at *
      have HN := hid hn
      clear hn
      have hn20 : n ≤ 20 := hall.2
      go_wp2_with fail
      go_loopg [6, 19] n (fun gk _ i wr => ∃ k : Nat, gk + k = n ∧ i = .int .i64 k ∧ Lib.IsBuilder bT 5 w.heap.size w.heap.size (Lib.byteCells (asc (l.take k))) wr ∧ Below w.heap.size w1 wr)
      case atStart => exact ⟨0, rfl, rfl, hB1, Below.refl _ _⟩
      case round =>
        obtain ⟨k, hk, rfl, hB2, hbl⟩ := hrel
        have hs2 : w.heap.size ≤ wr.heap.size := by have := hbl.size; omega
        by_cases hlt : k < n
        · obtain ⟨ab, ao, hA, hab, hv⟩ := hR1.int_at (j := k) (by rw [HN.out]; exact hlt)
          have hbd := name_bd (hall.1 _ (List.getElem_mem (by rw [HN.out]; exact hlt) : l[k]'(by rw [HN.out]; exact hlt) ∈ l))
          have hsn : Lib.byteCells (asc (l.take (k + 1))) = Lib.byteCells (asc (l.take k)) ++ Lib.runeCells (l[k]'(by rw [HN.out]; exact hlt)) := by
            rw [runeCells_asc hbd.1 hbd.2, ← Lib.byteCells_append, List.take_succ_eq_append_getElem (by rw [HN.out]; exact hlt), asc_append]
          have hv2 : wr.cell? ⟨ab, ao + k, none⟩ = _ := (hbl.cell (p := ⟨ab, ao + k, none⟩) (by simp; omega)).trans hv
          have hlen : (Lib.byteCells (asc (l.take k))).length + 4 ≤ 1000 := by rw [Lib.byteCells_length]; simp [asc]; omega
          generalize l[k]'(by rw [HN.out]; exact hlt) = r at *
          have HS := hid hsn
          clear hsn hv
          subst hA
          have hr2 := hbd.2
          have hr1' := hbd.1
          go_wp2_with fail
          refine (writeRune_calls _ _ _ r (by omega) (by omega) _ hB2 hlen hs2).mono ?_
          rintro e w3 ⟨rfl, hB3, hbl3⟩
          go_wp2_with fail
          go_roundg (gk - 1)
          case measure => omega
          case rel => exact ⟨k + 1, by omega, by go_num, by rw [HS.out]; exact hB3, hbl.trans hbl3⟩
        · obtain rfl : k = n := by omega
          have htk : l.take k = l := List.take_of_length_le (by rw [HN.out]; omega)
          rw [htk] at hB2
          clear htk
          go_wp2_with fail
          refine (Tryz.Builder_String_any _ _ _ _ hB2 hs2).mono ?_
          rintro e w3 ⟨rfl, hbl3⟩
          go_wp2_with fail
          go_ret
          have hbb := hbl.trans hbl3
          have hkk : Keeps (fun k => w.heap.size ≤ k) w1 w3 := ⟨hbb.os, hbb.tape, hbb.output, hbb.size, fun k _ hn => hbb.block k (by omega)⟩
          rw [HL.out, HL2.out]
          exact ⟨rfl, hr1.keep hkk (fun k hk => by omega), hkw.trans' hkk (fun k h1 h2 => by omega)⟩
  · have e : nameL s = ([], s) := by unfold nameL; rw [if_neg hc]
    rw [e]
    clear e
    generalize hx : hd s = x at hc
    have HX := hid hx
    have hl : isLetter x = false := by
      cases h : isLetter x
      · rfl
      · rw [h] at hc; simp at hc
    have hne : (x != 95) = true := by rw [hl] at hc; simpa using hc
    clear hx hc
    go_enter Tryz.func138, Tryz.ntmps138
    go_wp2_with fail
    refine (peek h).mono ?_
    rintro e w1 ⟨rfl, q, rfl⟩
    rw [HX.out]
    go_wp2_with fail
    refine (isLetter_calls x _).mono ?_
    rintro e w1 ⟨rfl, rfl⟩
    rw [hl]
    go_wp2_with fail
    go_ret
    exact ⟨rfl, h.drewN q, (Keeps.refl _ _).drewN q⟩

end Th
end Go.Proofs
