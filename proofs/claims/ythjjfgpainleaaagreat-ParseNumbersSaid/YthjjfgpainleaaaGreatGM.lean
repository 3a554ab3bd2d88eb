/- The parser: what groups are spoken of. The parser: numbers are put right. The parser: Parse: what is caught; what is wrong at once. -/
import Derived.Test.YthjjfgpainleaaaGreatGP
import Derived.Test.YthjjfgpainleaaaGreatGE
import Derived.Deep.RegionHeld3
import Derived.Deep.DrawnRows

set_option linter.unusedSimpArgs false
set_option linter.unusedVariables false
set_option linter.all false

namespace Go.Proofs
namespace Th
open Go.RowKit

attribute [local go_sem ↓] Go.wp_at_zero Go.wp_at_succ

theorem againCells_at {l : List (Int × Int × ByteArray)} {j : Nat} (hj : j < l.length) : (againCells l)[j * 3]? = some (.int .i64 l[j].1) ∧ (againCells l)[j * 3 + 1]? = some (.int .i64 l[j].2.1) ∧ (againCells l)[j * 3 + 2]? = some (.string l[j].2.2) := by
  induction l generalizing j with
  | nil => simp at hj
  | cons x l ih =>
    have hc : againCells (x :: l) = .int .i64 x.1 :: .int .i64 x.2.1 :: .string x.2.2 :: againCells l := rfl
    rw [hc]
    cases j with
    | zero => simp
    | succ j =>
      have := ih (j := j) (by simpa using hj)
      rw [show (j + 1) * 3 = j * 3 + 1 + 1 + 1 from by omega]
      simpa using this

theorem settleL_append (σ : Pst) (l m : List (Int × Int × ByteArray)) (ns : List Int) (h : settleL σ l = .ok ns) : settleL σ (l ++ m) = match settleL σ m with | .error f => .error f | .ok ms => .ok (ns ++ ms) := by
  induction l generalizing ns with
  | nil =>
    simp only [settleL] at h
    cases h
    cases hm : settleL σ m <;> simp [hm]
  | cons a l ih =>
    simp only [settleL] at h
    simp only [List.cons_append, settleL]
    cases h1 : settle1 σ a with
    | error f => rw [h1] at h; cases h
    | ok v =>
      rw [h1] at h
      simp only at h ⊢
      cases h2 : settleL σ l with
      | error f => rw [h2] at h; cases h
      | ok vs =>
        rw [h2] at h
        cases h
        rw [ih vs h2]
        cases settleL σ m <;> simp
theorem settleL_error (σ : Pst) (l m : List (Int × Int × ByteArray)) (f : Flt) (h : settleL σ l = .error f) : settleL σ (l ++ m) = .error f := by
  induction l with
  | nil => cases h
  | cons a l ih =>
    simp only [settleL] at h
    simp only [List.cons_append, settleL]
    cases h1 : settle1 σ a with
    | error f => rw [h1] at h; exact h
    | ok v =>
      rw [h1] at h
      simp only at h ⊢
      cases h2 : settleL σ l with
      | error f => rw [h2] at h; cases h; rw [ih h2]
      | ok vs => rw [h2] at h; cases h

theorem nameAt_find {l : List (ByteArray × Int)} {t : ByteArray} : l.find? (fun x => x.1 == t) = (nameAt l t).bind fun i => l[i]? := by
  unfold nameAt
  induction l with
  | nil => rfl
  | cons x l ih =>
    rw [List.find?_cons, List.findIdx?_cons]
    cases h : (x.1 == t) with
    | true => simp
    | false =>
      simp only [Bool.false_eq_true, if_false]
      rw [ih]
      cases List.findIdx? (fun x => x.1 == t) l <;> simp
theorem nameAt_lt {l : List (ByteArray × Int)} {t : ByteArray} {i : Nat} (h : nameAt l t = some i) : i < l.length := by
  unfold nameAt at h
  rw [List.findIdx?_eq_some_iff_getElem] at h
  exact h.1

theorem str_ne2 {t : ByteArray} (h : t ≠ ⟨#[]⟩) : (!t.toList.isEmpty) = true := by
  rw [ByteArray.toList_eq]
  cases t with | mk d => cases d with | mk l => cases l with | nil => exact absurd rfl h | cons _ _ => rfl

/-- What settle comes to. -/
def SetlPost (σ : Pst) (w : World) (e : Ending) (w' : World) : Prop :=
  match settleL σ σ.agains with
  | .error f => e = fltPanic f ∧ Keeps No w w'
  | .ok ns => ∃ A c Fl, e = .returned (.slice A ns.length c) ∧ SliceV w' 3 1 (.slice A ns.length c) ns.length (ints ns) Fl ∧ (∀ g ∈ Fl, w.heap.size ≤ g) ∧ Keeps No w w'

theorem intInfo : (Tryz.prog.info? 3).map (fun i => (i.zero, i.size, i.bytes)) = some (some (.int .i64 0), 1, 8) := by kernel_rfl

set_option maxRecDepth 100000 in
set_option maxHeartbeats 8000000 in
theorem settle_calls {w : World} {P : Nat} {d : Int} {L : List Int} {σ : Pst} {F : List Nat} (h : PsAt w P d L σ F) :
    Calls Tryz.prog 24 #[.pointer (some ⟨P, 0, none⟩)] w (SetlPost σ w) := by
  obtain ⟨i0, hi, hz0, hz1, hz2⟩ := info_parts intInfo
  obtain ⟨v6, v7, h6, h7, o6, o7, hn6, hn7, -, -⟩ := h.own
  obtain ⟨-, -, -, -, -, -, -, -, -, h5, -, -, h8⟩ := h.cells
  have hv6 := SliceV.of_own o6
  have hv7 := SliceV.of_own o7
  have hP := h.lt
  have hmf : ∀ (fn : Fn) (first cap : Array Value) (w : World), (Instr.makeFunc fn first cap).run Tryz.prog w = .ok (.func fn first cap) w := fun _ _ _ _ => rfl
  obtain ⟨A6, c6, rfl⟩ := hv6.slice
  obtain ⟨A7, c7, rfl⟩ := hv7.slice
  generalize hag : σ.agains = ag at *
  have HAG := hid hag
  generalize hn : ag.length = n at *
  have HN := hid hn
  clear h o6 o7 hag hn
  go_enter Tryz.func24, Tryz.ntmps24
  go_wp2_with fail
  go_loopg [3, 13] n (fun gk v i wr => ∃ (k : Nat) (ns : List Int), gk + k = n ∧ i = .int .i64 k ∧ wr.ownsRow w.heap.size 3 1 v ns.length (ints ns) ∧ settleL σ (ag.take k) = .ok ns ∧ Keeps No w wr ∧ ns.length ≤ k)
  case atStart => exact ⟨0, [], rfl, rfl, World.ownsRow_nil _ _ _ _, rfl, by (repeat' (first | with_reducible exact Keeps.refl _ _ | with_reducible refine Keeps.set ?_ (by simp <;> omega) _ | with_reducible refine Keeps.alloc ?_ _ | with_reducible refine Keeps.drewN ?_ _ | with_reducible refine Keeps.drew ?_)), by simp⟩
  case round =>
    obtain ⟨k, ns, hk, rfl, ho, hsl, hkw, hnl⟩ := hrel
    obtain ⟨oA, oc, rfl, _⟩ := ownsRow.slice ho
    have hws := hkw.size
    have hPw : P < wr.heap.size := by omega
    by_cases hlt : k < n
    · have hkl : k < ag.length := by rw [HN.out]; exact hlt
      obtain ⟨ga, cap, hA, _, hcap, hmax, hg, hce⟩ := hv7.cells hlt
      injection hA with hA _ hcc
      subst hA hcc
      have hgw : ga < wr.heap.size := by omega
      have c0 := (hkw.cell hg id).trans (hce 0 (by omega))
      have c1 := (hkw.cell hg id).trans (hce 1 (by omega))
      have c2 := (hkw.cell hg id).trans (hce 2 (by omega))
      rw [Nat.add_zero, (againCells_at hkl).1] at c0
      rw [(againCells_at hkl).2.1] at c1
      rw [(againCells_at hkl).2.2] at c2
      have htk : settleL σ (ag.take (k + 1)) = match settle1 σ ag[k] with | .error f => .error f | .ok m => .ok (ns ++ [m]) := by
        rw [List.take_succ_eq_append_getElem hkl, settleL_append _ _ _ _ hsl]
        simp only [settleL]
        cases settle1 σ ag[k] <;> rfl
      have hbad : ∀ f, settle1 σ ag[k] = .error f → settleL σ ag = .error f := fun f e => by
        conv => lhs; rw [← List.take_append_drop (k + 1) ag]
        refine settleL_error _ _ _ _ ?_
        rw [htk, e]
      have hs1 : settle1 σ ag[k] = match (if ag[k].2.2 ≠ ⟨#[]⟩ then (σ.names.find? (fun x => x.1 == ag[k].2.2)).map (·.2) else some ag[k].2.1) with | none => .error (5, ag[k].1) | some m => if (σ.groups : Int) < m then .error (5, ag[k].1) else .ok m := rfl
      generalize hak : ag[k] = a at *
      obtain ⟨af, am, at_⟩ := a
      simp only at c0 c1 c2 hs1
      have HTK := hid htk
      have HBAD := hid hbad
      have HS1 := hid hs1
      have q5 := (hkw.cell hP id).trans h5
      have q6 := (hkw.cell hP id).trans h6
      have HV6 := hid (hv6.keeps hkw (fun _ _ h => h))
      clear htk hbad hs1 hak hce hv7
      by_cases ht : at_ = ⟨#[]⟩
      · have ht1 : (!at_.toList.isEmpty) = false := by rw [ht, ByteArray.toList_eq]; rfl
        by_cases hgm : (σ.groups : Int) < am
        · have h1 : settle1 σ (af, am, at_) = .error (5, af) := by rw [HS1.out, if_neg (fun e => e ht)]; simp only; rw [if_pos hgm]
          go_wp2_with fail
          refine (pfail_calls _ _ _).mono ?_
          rintro e w2 ⟨rfl, rfl⟩
          simp only [fltPanic]
          refine ⟨rfl, ?_⟩
          unfold SetlPost
          rw [HAG.out, HBAD.out _ h1]
          exact ⟨rfl, by (repeat' (first | with_reducible exact hkw | with_reducible refine Keeps.set ?_ (by simp <;> omega) _ | with_reducible refine Keeps.alloc ?_ _ | with_reducible refine Keeps.drewN ?_ _ | with_reducible refine Keeps.drew ?_))⟩
        · have h1 : settle1 σ (af, am, at_) = .ok am := by rw [HS1.out, if_neg (fun e => e ht)]; simp only; rw [if_neg hgm]
          clear ht
          go_wp2_with (at_builtin; (refine wpl_app rfl _ _ 22 rfl w.heap.size 3 i0 _ 1 8 Tryz.underlying22 hi hz0 hz1 hz2 rfl (by decide) rfl (own_keepN ho (by (repeat' (first | with_reducible exact Keeps.refl _ _ | with_reducible refine Keeps.set ?_ (by simp <;> omega) _ | with_reducible refine Keeps.alloc ?_ _ | with_reducible refine Keeps.drewN ?_ _ | with_reducible refine Keeps.drew ?_)))) rfl (NewsAt.of_block (cs := [.int .i64 (am)]) (m := 1) (heap_new (by simp)) rfl (by simp [Value.oneCell'])) (by unfold maxLen; omega) (by omega) (by simp; omega) ?_); intro A2 c2 w4 hp)
          have hp' := hid hp
          clear hp
          go_roundg (gk - 1)
          case measure => omega
          case rel =>
            obtain ⟨hq1, hq2, _⟩ := hp'.out
            have hol := (ho).lt
            have hkw4 : Keeps No w w4 := Keeps.trans' (w1 := (wr.alloc (.cells #[.int .i64 af, .int .i64 am, .string at_] 81)).alloc (.cells #[.int .i64 am] 3)) (S := No) (by (repeat' (first | with_reducible exact hkw | with_reducible refine Keeps.set ?_ (by simp <;> omega) _ | with_reducible refine Keeps.alloc ?_ _ | with_reducible refine Keeps.drewN ?_ _ | with_reducible refine Keeps.drew ?_))) hq2 (fun k hk e => by have := (hol k e).1; omega)
            exact ⟨k + 1, ns ++ [am], by omega, by go_num, by simpa [ints] using hq1, by rw [HTK.out, h1], hkw4, by simp; omega⟩
      · have ht1 := str_ne2 ht
        go_wp2_with fail
        refine (indexName_calls (t := at_) settle1_enters (settle1_tells (by simp [go_sem])) (HV6.out.keeps (S := No) (by (repeat' (first | with_reducible exact Keeps.refl _ _ | with_reducible refine Keeps.set ?_ (by simp <;> omega) _ | with_reducible refine Keeps.alloc ?_ _ | with_reducible refine Keeps.drewN ?_ _ | with_reducible refine Keeps.drew ?_))) (fun _ _ h => h)) (by omega)).mono ?_
        rintro e w1 ⟨⟨r, rfl, hr⟩, hk1⟩
        unfold IdxPost at hr
        have hkw1 : Keeps No w w1 := Keeps.trans (by (repeat' (first | with_reducible exact hkw | with_reducible refine Keeps.set ?_ (by simp <;> omega) _ | with_reducible refine Keeps.alloc ?_ _ | with_reducible refine Keeps.drewN ?_ _ | with_reducible refine Keeps.drew ?_))) hk1
        have hbw1 : wr.heap.size < w1.heap.size := hk1.lt_of (by simp)
        have b0 : w1.cell? ⟨wr.heap.size, 0, none⟩ = some (.int .i64 af) := (hk1.cell (by simp) id).trans (by simp [go_sem])
        have p5 := (hkw1.cell hP id).trans h5
        have p6 := (hkw1.cell hP id).trans h6
        have hPw1 : P < w1.heap.size := by have := hkw1.size; omega
        cases hna : nameAt σ.names at_ with
        | none =>
          rw [hna] at hr
          have hr : r = -1 := hr
          subst hr
          have h1 : settle1 σ (af, am, at_) = .error (5, af) := by rw [HS1.out, if_pos ht, nameAt_find, hna]; rfl
          clear hna ht
          go_wp2_with fail
          refine (pfail_calls _ _ _).mono ?_
          rintro e w2 ⟨rfl, rfl⟩
          simp only [fltPanic]
          refine ⟨rfl, ?_⟩
          unfold SetlPost
          rw [HAG.out, HBAD.out _ h1]
          exact ⟨rfl, by (repeat' (first | with_reducible exact hkw1 | with_reducible refine Keeps.set ?_ (by simp <;> omega) _ | with_reducible refine Keeps.alloc ?_ _ | with_reducible refine Keeps.drewN ?_ _ | with_reducible refine Keeps.drew ?_))⟩
        | some j =>
          rw [hna] at hr
          have hr : r = j := hr
          subst hr
          have hjl := nameAt_lt hna
          obtain ⟨gb, cap6, hA6, _, hcap6, hmax6, hg6, hce6⟩ := hv6.cells hjl
          injection hA6 with hA6 _ hcc6
          subst hA6 hcc6
          have hgb : gb < w1.heap.size := by have := hkw1.size; omega
          have m1 := (hkw1.cell hg6 id).trans (hce6 1 (by omega))
          rw [(nameCells_at hjl).2] at m1
          have hfd : σ.names.find? (fun x => x.1 == at_) = some σ.names[j] := by rw [nameAt_find, hna]; simp [hjl]
          generalize σ.names[j] = nm at *
          obtain ⟨nt, nm⟩ := nm
          simp only at m1
          have hj0 : (0 : Int) ≤ (j : Int) := by omega
          have hj1 : (j : Int) < (σ.names.length : Int) := by omega
          have hjm : ¬ ((j : Int) < 0) := by omega
          by_cases hgm : (σ.groups : Int) < nm
          · have h1 : settle1 σ (af, am, at_) = .error (5, af) := by rw [HS1.out, if_pos ht, hfd]; simp only [Option.map_some]; rw [if_pos hgm]
            clear hna ht hfd
            go_wp2_with fail
            refine (pfail_calls _ _ _).mono ?_
            rintro e w2 ⟨rfl, rfl⟩
            simp only [fltPanic]
            refine ⟨rfl, ?_⟩
            unfold SetlPost
            rw [HAG.out, HBAD.out _ h1]
            exact ⟨rfl, by (repeat' (first | with_reducible exact hkw1 | with_reducible refine Keeps.set ?_ (by simp <;> omega) _ | with_reducible refine Keeps.alloc ?_ _ | with_reducible refine Keeps.drewN ?_ _ | with_reducible refine Keeps.drew ?_))⟩
          · have h1 : settle1 σ (af, am, at_) = .ok nm := by rw [HS1.out, if_pos ht, hfd]; simp only [Option.map_some]; rw [if_neg hgm]
            clear hna ht hfd
            have ho1 := own_keepN ho (Keeps.trans (by (repeat' (first | with_reducible exact Keeps.refl _ _ | with_reducible refine Keeps.set ?_ (by simp <;> omega) _ | with_reducible refine Keeps.alloc ?_ _ | with_reducible refine Keeps.drewN ?_ _ | with_reducible refine Keeps.drew ?_))) hk1)
            go_wp2_with (at_builtin; (refine wpl_app rfl _ _ 22 rfl w.heap.size 3 i0 _ 1 8 Tryz.underlying22 hi hz0 hz1 hz2 rfl (by decide) rfl (own_keepN ho1 (by (repeat' (first | with_reducible exact Keeps.refl _ _ | with_reducible refine Keeps.set ?_ (by simp <;> omega) _ | with_reducible refine Keeps.alloc ?_ _ | with_reducible refine Keeps.drewN ?_ _ | with_reducible refine Keeps.drew ?_)))) rfl (NewsAt.of_block (cs := [.int .i64 (nm)]) (m := 1) (heap_new (by simp)) rfl (by simp [Value.oneCell'])) (by unfold maxLen; omega) (by omega) (by simp; omega) ?_); intro A2 c2 w4 hp)
            have hp' := hid hp
            clear hp
            go_roundg (gk - 1)
            case measure => omega
            case rel =>
              obtain ⟨hq1, hq2, _⟩ := hp'.out
              have hol := (ho1).lt
              have hkw4 : Keeps No w w4 := Keeps.trans' (w1 := w1.alloc (.cells #[.int .i64 nm] 3)) (S := No) (by (repeat' (first | with_reducible exact hkw1 | with_reducible refine Keeps.set ?_ (by simp <;> omega) _ | with_reducible refine Keeps.alloc ?_ _ | with_reducible refine Keeps.drewN ?_ _ | with_reducible refine Keeps.drew ?_))) hq2 (fun k hk e => by have := (hol k e).1; omega)
              exact ⟨k + 1, ns ++ [nm], by omega, by go_num, by simpa [ints] using hq1, by rw [HTK.out, h1], hkw4, by simp; omega⟩
    · obtain rfl : k = n := by omega
      have htk : ag.take k = ag := List.take_of_length_le (by rw [HN.out]; exact Nat.le_refl _)
      rw [htk] at hsl
      have HS := hid hsl
      have hsv := SliceV.of_own ho
      have hol := ho.lt
      clear hsl htk hv6 hv7 ho
      go_wp2_with fail
      go_ret
      unfold SetlPost
      rw [HAG.out, HS.out]
      exact ⟨oA, oc, _, rfl, hsv, fun g hg => (hol g (by simpa using hg)).1, hkw⟩

end Th
end Go.Proofs

namespace Go.Proofs
namespace Th
open Go.RowKit

mutual
/-- What is spoken of again stands among m. -/
def AgOk (m : Nat) : Nd → Prop
  | .mk k _ kids n _ _ _ _ => (k = 18 → 1 ≤ n ∧ n ≤ (m : Int)) ∧ AgOks m kids
def AgOks (m : Nat) : List Nd → Prop
  | [] => True
  | x :: xs => AgOk m x ∧ AgOks m xs
end

/-- What put leaves. -/
def PutP (w : World) (b : Nat) (e : TypeId) (pre post : List Value) (t' : Nd) (F : List Nat) (w' : World) : Prop :=
  ∃ c', NodeRep w' c' t' F ∧ w'.heap[b]? = some (.cells (pre ++ c' ++ post).toArray e (0, 0)) ∧ Keeps (fun k => k = b ∨ k ∈ F) w w'

theorem block_cell {w : World} {b o : Nat} {e : TypeId} {pre c post : List Value} (hb : w.heap[b]? = some (.cells (pre ++ c ++ post).toArray e (0, 0))) (ho : pre.length = o) {i : Nat} (hi : i < c.length) : w.cell? ⟨b, o + i, none⟩ = c[i]? := by
  rw [cell_of_row w b (o + i) _ e (0, 0) hb]
  simp only [List.getElem?_toArray]
  rw [List.append_assoc, List.getElem?_append_right (by omega), List.getElem?_append_left (by omega)]
  congr 1
  omega
theorem block_frozen {w : World} {b : Nat} {e : TypeId} {cs : Array Value} (hb : w.heap[b]? = some (.cells cs e (0, 0))) (o : Nat) : w.frozen? ⟨b, o, none⟩ = false := frozen_of_row w b o cs e hb
theorem block_set {w : World} {b o i : Nat} {e : TypeId} {pre c post : List Value} (hb : w.heap[b]? = some (.cells (pre ++ c ++ post).toArray e (0, 0))) (ho : pre.length = o) (hi : i < c.length) (u : Value) :
    (w.setCell ⟨b, o + i, none⟩ u).heap[b]? = some (.cells (pre ++ c.set i u ++ post).toArray e (0, 0)) := by
  rw [heap_setCell_same w b (o + i) _ e u hb]
  congr 2
  apply Array.ext'
  rw [Array.toList_setIfInBounds]
  simp only [List.append_assoc]
  rw [List.set_append_right _ _ (by omega), show o + i - pre.length = i from by omega, List.set_append_left _ _ hi]

theorem putNs_append (ns : List Int) (l m : List Nd) : putNs ns (l ++ m) = putNs ns l ++ putNs ns m := by
  induction l with
  | nil => rfl
  | cons x l ih => simp [putNs, ih]
theorem putNs_length (ns : List Int) (l : List Nd) : (putNs ns l).length = l.length := by
  induction l with
  | nil => rfl
  | cons x l ih => simp [putNs, ih]
theorem AgOks_get {m : Nat} {l : List Nd} (h : AgOks m l) {j : Nat} (hj : j < l.length) : AgOk m l[j] := by
  induction l generalizing j with
  | nil => simp at hj
  | cons x l ih =>
    cases j with
    | zero => exact h.1
    | succ j => exact ih h.2 (by simpa using hj)
theorem countNs_get {l : List Nd} {j : Nat} (hj : j < l.length) : countNs (l.take j) + countN l[j] + countNs (l.drop (j + 1)) = countNs l := by
  conv => rhs; rw [← List.take_append_drop j l, countNs_append, List.drop_eq_getElem_cons hj]
  simp only [countNs]
  omega

set_option maxHeartbeats 8000000 in
theorem put_calls (m : Nat) : ∀ (t : Nd), countN t ≤ m → m ≤ 5000 → ∀ {w : World} {b o : Nat} {e : TypeId} {pre c post : List Value} {F : List Nat} {A : Option Addr} {cN : Nat} {ns : List Int} {Fn : List Nat}
    (hb : w.heap[b]? = some (.cells (pre ++ c ++ post).toArray e (0, 0))) (ho : pre.length = o) (hN : NodeRep w c t F) (hbF : b ∉ F) (hF : F.Nodup) (hn : SliceV w 3 1 (.slice A ns.length cN) ns.length (ints ns) Fn) (hnd : ∀ g ∈ Fn, g ≠ b ∧ g ∉ F) (hag : AgOk ns.length t),
    Calls Tryz.prog 23 #[.pointer (some ⟨b, o, none⟩), .slice A ns.length cN] w fun e' w' => e' = .returned (.int .i64 (countN t)) ∧ PutP w b e pre post (putN ns t) F w' := by
  induction m with
  | zero => intro t ht; have := countN_pos t; omega
  | succ m ih =>
    intro t ht hm w b o e pre c post F A cN ns Fn hb ho hN hbF hF hn hnd hag
    obtain ⟨sv, kv, xs, Fs, Fk, Fl, rfl, rfl, hs, hk, hl⟩ := hN.out
    have hbw : b < w.heap.size := (Array.getElem?_eq_some_iff.1 hb).1
    have hN2 := hN
    obtain ⟨sA, sc, rfl⟩ := hs.slice
    obtain ⟨kA, kc, rfl⟩ := hk.slice
    obtain ⟨kind, set, kids, number, least, most, way, fold⟩ := t
    simp only [Nd.kind, Nd.set, Nd.kids, Nd.number, Nd.least, Nd.most, Nd.way, Nd.fold] at *
    have hcount : countN (.mk kind set kids number least most way fold) = 1 + countNs kids := rfl
    have hag1 : kind = 18 → 1 ≤ number ∧ number ≤ (ns.length : Int) := hag.1
    have hag2 : AgOks ns.length kids := hag.2
    have c0 := block_cell hb ho (i := 0) (by simp)
    have c2 := block_cell hb ho (i := 2) (by simp)
    have c3 := block_cell hb ho (i := 3) (by simp)
    have hz := fun o => block_frozen hb o
    simp at c0 c2 c3
    have IH := hid ih
    have HB := hid hb
    have hkl := length_le_count kids
    clear ih hb hag
    go_enter Tryz.func23, Tryz.ntmps23
    go_upto_if 11 with fail
    go_cut [] (fun W => ∃ c1, W.heap[b]? = some (.cells (pre ++ c1 ++ post).toArray e (0, 0)) ∧ c1 = [.int .i64 kind, .slice sA set.length sc, .slice kA kids.length kc, .int .i64 (if kind = 18 then ns.getD (number - 1).toNat 0 else number), .int .i64 least, .int .i64 most, .int .i64 way, .bool fold] ∧ Keeps (fun k => k = b) w W)
    case first =>
      by_cases h18 : kind = 18
      · subst h18
        obtain ⟨hg1, hg2⟩ := hag1 rfl
        have hnum := hid (show (if (18 : Int) = 18 then ns.getD (number - 1).toNat 0 else number) = ns.getD (number - 1).toNat 0 by rw [if_pos rfl])
        obtain ⟨j, hj⟩ : ∃ j : Nat, number = (j : Int) + 1 := ⟨(number - 1).toNat, by omega⟩
        subst hj
        have hjl : j < ns.length := by omega
        obtain ⟨gn, capn, hA, _, hcapn, hmaxn, hgn, hcn⟩ := hn.cells hjl
        injection hA with hA _ hcc
        subst hA hcc
        have n0 := hcn 0 (by omega)
        simp only [Nat.mul_one, Nat.add_zero] at n0
        have hv : (ints ns)[j]? = some (.int .i64 (ns.getD j 0)) := by simp [ints, hjl]
        rw [hv] at n0
        have hj0 : (0 : Int) ≤ (j : Int) := by omega
        have hj1 : (j : Int) < (ns.length : Int) := by omega
        have hj2 : (ns.length : Int) ≤ 9223372036854775807 := by unfold maxLen at hmaxn; omega
        have htn : ((j : Int) + 1 - 1).toNat = j := by omega
        have HTN := hid htn
        clear htn hag1 hn hcn hg1 hg2 hv
        generalize hgv : ns.getD j 0 = v at *
        have HGV := hid hgv
        clear hgv
        go_wp2_with fail
        go_meet
        case rel =>
          exact ⟨_, block_set HB.out ho (i := 3) (by simp) (.int .i64 v), by rw [hnum.out, HTN.out, HGV.out]; rfl, by (repeat' (first | with_reducible exact Keeps.refl _ _ | with_reducible refine Keeps.set ?_ (by simp <;> omega) _ | with_reducible refine Keeps.alloc ?_ _ | with_reducible refine Keeps.drewN ?_ _ | with_reducible refine Keeps.drew ?_))⟩
      · have h18' : (kind == 18) = false := beq_eq_false_iff_ne.2 h18
        have hnum := hid (show (if kind = 18 then ns.getD (number - 1).toNat 0 else number) = number by rw [if_neg h18])
        clear h18
        go_wp2_with fail
        go_meet
        case rel => exact ⟨_, HB.out, by rw [hnum.out], by (repeat' (first | with_reducible exact Keeps.refl _ _ | with_reducible refine Keeps.set ?_ (by simp <;> omega) _ | with_reducible refine Keeps.alloc ?_ _ | with_reducible refine Keeps.drewN ?_ _ | with_reducible refine Keeps.drew ?_))⟩
    case rest =>
      obtain ⟨c1, hb1, rfl, hkW⟩ := hcut
      obtain ⟨W, rfl⟩ : ∃ W : World, W = wc := ⟨_, rfl⟩
      have hnotF : ∀ g ∈ Fs ++ Fk ++ Fl, ¬ g = b := fun g hg e => hbF (e ▸ hg)
      have hs1 := hs.keeps hkW (fun g hg => hnotF g (by simp [hg]))
      have hk1 := hk.keeps hkW (fun g hg => hnotF g (by simp [hg]))
      have hl1 := hl.keeps hkW (fun g hg => hnotF g (by simp [hg]))
      have hn1 := hn.keeps hkW (fun g hg => (hnd g hg).1)
      have hput : putN ns (.mk kind set kids number least most way fold) = .mk kind set (putNs ns kids) (if kind = 18 then ns.getD (number - 1).toNat 0 else number) least most way fold := rfl
      have HPUT := hid hput
      have hW0 := hkW.size
      generalize (if kind = 18 then ns.getD (number - 1).toNat 0 else number) = num at *
      have d2 := block_cell hb1 ho (i := 2) (by simp)
      simp at d2
      have HCOUNT := hid hcount
      clear c0 c2 c3 hz hs hk hl hn hput hcount hag1 HB
      rcases hk1.2 with ⟨hv0, hn0, hF0⟩ | ⟨g, cap, cur, hv0, hF0, hg0, hcap, hmax, htk⟩
      · have hk0 : kids = [] := List.length_eq_zero_iff.1 hn0
        subst hk0
        injection hv0 with hA _ hcc
        subst hA hcc hF0
        go_wp2_with fail
        go_loopg [5, 28] 0 (fun gk v i wr => gk = 0 ∧ i = .int .i64 0 ∧ v = .int .i64 1 ∧ wr = W)
        case atStart => exact ⟨rfl, rfl, rfl, rfl⟩
        case round =>
          obtain ⟨rfl, rfl, rfl, rfl⟩ := hrel
          go_wp2_with fail
          go_ret
          refine ⟨by rw [HCOUNT.out]; rfl, _, ?_, hb1, hkW.mono (fun k e => .inl e)⟩
          rw [HPUT.out]
          exact .mk hs1 hk1 hl1
      · injection hv0 with hA _ hcc
        subst hA hcc
        subst hF0
        obtain ⟨sp, hsp⟩ : ∃ sp, cur = (xs ++ sp).toArray := ⟨cur.toList.drop (kids.length * 8), by rw [← htk, List.take_append_drop]⟩
        subst hsp
        have hFn := List.nodup_append.1 (List.append_assoc Fs [g] Fl ▸ hF)
        have hFn2 : g ∉ Fl ∧ Fl.Nodup := List.nodup_cons.1 (by simpa using hFn.2.1)
        have hgb : g ≠ b := fun e => hnotF g (by simp) e
        have hbl : ∀ x ∈ Fl, x ≠ b := fun x hx e => hnotF x (by simp [hx]) e
        have hxl : xs.length = kids.length * 8 := hk1.1
        have hgW : g < W.heap.size := (Array.getElem?_eq_some_iff.1 hg0).1
        have hz2 := fun o => block_frozen hb1 o
        have hfl1 := hl1.kind.1
        generalize hn : kids.length = n at *
        have HNK := hid hn
        clear hk1 htk hn
        go_wp2_with fail
        go_loopg [5, 28] n (fun gk v i wr => ∃ (k : Nat) (xd xr : List Value) (Fd Fr : List Nat), gk + k = n ∧ i = .int .i64 k ∧ v = .int .i64 (1 + (countNs (kids.take k) : Int)) ∧ wr.heap[g]? = some (.cells (xd ++ xr ++ sp).toArray 27 (0, 0)) ∧ xd.length = k * 8 ∧
          NodesRep wr xd (putNs ns (kids.take k)) Fd ∧ NodesRep wr xr (kids.drop k) Fr ∧ Fl = Fd ++ Fr ∧ Keeps (fun x => x = g ∨ x ∈ Fl) W wr)
        case atStart => exact ⟨0, [], xs, [], Fl, rfl, rfl, rfl, by simpa using hg0, by simp, .nil, by simpa using hl1, rfl, Keeps.refl _ _⟩
        case round =>
          obtain ⟨k, xd, xr, Fd, Fr, hk, rfl, rfl, hgr, hxd, hD, hR, hFl, hkr⟩ := hrel
          have hbr : wr.heap[b]? = W.heap[b]? := hkr.block b (Array.getElem?_eq_some_iff.1 hb1).1 (fun e => e.elim (fun e => hgb e.symm) (fun e => hbl b e rfl))
          have hb2 := hbr.trans hb1
          have hgwr : g < wr.heap.size := (Array.getElem?_eq_some_iff.1 hgr).1
          have e2 := block_cell hb2 ho (i := 2) (by simp)
          simp at e2
          have hnr := hn1.keeps hkr (fun x hx e => by
            have h1 := (hnd x hx).2
            rcases e with rfl | e
            · exact h1 (by simp)
            · exact h1 (by simp [e]))
          by_cases hlt : k < n
          · have hkl' : k < kids.length := by rw [HNK.out]; exact hlt
            have hts := countNs_get hkl'
            have hagk := AgOks_get hag2 hkl'
            have htk1 : kids.take (k + 1) = kids.take k ++ [kids[k]] := List.take_succ_eq_append_getElem hkl'
            rw [List.drop_eq_getElem_cons hkl'] at hR
            have hce : (countNs (kids.take (k + 1)) : Int) = (countNs (kids.take k) : Int) + (countN kids[k] : Int) := by rw [htk1, countNs_append]; simp only [countNs]; omega
            have hpe : putNs ns (kids.take (k + 1)) = putNs ns (kids.take k) ++ [putN ns kids[k]] := by rw [htk1, putNs_append]; rfl
            have hcp := HCOUNT.out
            generalize kids[k] = x at *
            cases hR with
            | @cons cx xr' _ _ Fx Fr' hx hR' =>
              rw [show xd ++ (cx ++ xr') ++ sp = xd ++ cx ++ (xr' ++ sp) from by simp] at hgr
              have hFln := hFn2.2
              rw [hFl] at hFln
              have hg1 : g ∉ Fd ++ (Fx ++ Fr') := fun h => hFn2.1 (by rw [hFl]; exact h)
              have hd1 := List.nodup_append.1 hFln
              have hd2 := List.nodup_append.1 hd1.2.1
              have hP := hid (IH.out x (by omega) (by omega) hgr hxd hx (fun h => hg1 (by simp [h])) hd2.1 hnr (fun y hy => ⟨fun e => (hnd y hy).2 (by rw [e]; simp), fun e => (hnd y hy).2 (by rw [hFl]; simp [e])⟩) hagk)
              have hcx : countN x ≤ 5000 := by omega
              have hct : countNs (kids.take k) ≤ 5000 := by omega
              have HCE := hid hce
              have HPE := hid hpe
              have hk0 : (0 : Int) ≤ (k : Int) := by omega
              have hkn : (k : Int) < (n : Int) := by omega
              have hcapn : (n : Int) ≤ 9223372036854775807 := by unfold maxLen at hmax; omega
              clear hts hagk htk1 hce hpe hFln hcp
              go_wp2_with fail
              refine hP.out.mono ?_
              rintro e' w2 ⟨rfl, c', hx', hg2, hk2⟩
              have hkr2 : Keeps (fun x => x = g ∨ x ∈ Fl) W w2 := hkr.trans (hk2.mono (fun y e => e.imp id (fun h => by rw [hFl]; simp [h])))
              have hR2 := hR'.keeps hk2 (fun y hy e => by
                rcases e with rfl | e
                · exact hg1 (by simp [hy])
                · exact hd2.2.2 y e y hy rfl)
              have hD2 := hD.keeps hk2 (fun y hy e => by
                rcases e with rfl | e
                · exact hg1 (by simp [hy])
                · exact hd1.2.2 y hy y (by simp [e]) rfl)
              have hcl := hx'.kind.2
              go_wp2_with fail
              go_roundg (gk - 1)
              case measure => omega
              case rel =>
                refine ⟨k + 1, xd ++ c', xr', Fd ++ Fx, Fr', by omega, by go_num, by rw [HCE.out]; go_num, by simpa using hg2, by simp [hxd, hcl]; omega, ?_, hR2, by rw [hFl]; simp, hkr2⟩
                rw [HPE.out]
                exact hD2.append hx'.alone
          · obtain rfl : k = n := by omega
            have htk : kids.take k = kids := List.take_of_length_le (by rw [HNK.out]; exact Nat.le_refl _)
            have hdr : kids.drop k = [] := List.drop_eq_nil_of_le (by rw [HNK.out]; exact Nat.le_refl _)
            rw [hdr] at hR
            simp only [htk] at hD ⊢
            cases hR
            have hkF : Keeps (fun k => k = b ∨ k ∈ Fs ++ [g] ++ Fl) w wr := (hkW.mono (fun _ e => .inl e)).trans (hkr.mono (fun y e => .inr (by rcases e with rfl | e; simp; simp [e])))
            have hsF := hs1.keeps hkr (fun y hy e => by
              rcases e with rfl | e
              · exact hFn.2.2 _ hy _ (by simp) rfl
              · exact hFn.2.2 _ hy _ (by simp [e]) rfl)
            clear htk hdr
            go_wp2_with fail
            go_ret
            refine ⟨ret_eq (by rw [HCOUNT.out]; go_num), _, ?_, hb2, hkF⟩
            rw [HPUT.out]
            have hD' : NodesRep wr xd (putNs ns kids) Fl := by rw [hFl]; simpa using hD
            refine .mk hsF ?_ hD'
            have hpl : (putNs ns kids).length = k := by rw [putNs_length, HNK.out]
            rw [hpl]
            exact ⟨hxd, .inr ⟨g, _, _, rfl, rfl, hgr, hcap, hmax, by rw [← hxd]; simp⟩⟩

end Th
end Go.Proofs

namespace Go.Proofs
namespace Th
open Go.RowKit

attribute [local go_sem ↓] Go.wp_at_zero Go.wp_at_succ

/-- A node's value by its parts. -/
def ndOf (x : Nd) (sv kv : Value) : Value := .agg #[.int .i64 x.kind, sv, kv, .int .i64 x.number, .int .i64 x.least, .int .i64 x.most, .int .i64 x.way, .bool x.fold]
def patV (k : Int) (sv kv : Value) (number least most way : Int) (fold : Bool) (g : Int) (ns : Value) : Value := .agg #[.int .i64 k, sv, kv, .int .i64 number, .int .i64 least, .int .i64 most, .int .i64 way, .bool fold, .int .i64 g, ns]
def noPat : Value := patV 0 nilS nilS 0 0 0 0 false 0 nilS
def fltV (f : Flt) : Value := .agg #[.int .i64 f.1, .int .i64 f.2]

set_option maxRecDepth 100000 in
set_option maxHeartbeats 1000000 in
theorem parse_bad {B : Nat} {w : World} {A : Option Addr} {c : Nat} {d : Int} {L : List Int} (hA : Row B w A (ints L)) (hc : L.length ≤ c) (hbig : c ≤ 9223372036854775807) (folded : Bool) (hr : rightL d L ≠ 0) :
    Calls Tryz.prog 10 #[.int .i64 d, .slice A L.length c, .bool folded] w fun e w' => e = .returned (.tuple #[noPat, fltV (rightL d L, 0)]) ∧ Keeps No w w' := by
  have hR := fun W (hk : Keeps No w W) => right_calls (w := W) d (hA.keep hk (fun _ _ h => h)) hbig hc
  have hr' : (rightL d L != 0) = true := bne_iff_ne.2 hr
  generalize rightL d L = e0 at *
  generalize L.length = n at *
  clear hr
  go_enter_defers Tryz.func10, Tryz.ntmps10
  go_wp2_with fail
  refine (hR _ (by (repeat' (first | with_reducible exact Keeps.refl _ _ | with_reducible refine Keeps.set ?_ (by simp <;> omega) _ | with_reducible refine Keeps.alloc ?_ _ | with_reducible refine Keeps.drewN ?_ _ | with_reducible refine Keeps.drew ?_)))).mono ?_
  rintro e w1 ⟨rfl, rfl⟩
  go_wp2_with fail
  exact ⟨.tuple #[noPat, fltV (e0, 0)], by simp [results, Tryz.results10, go_sem, noPat, patV, fltV, nilS], rfl, by (repeat' (first | with_reducible exact Keeps.refl _ _ | with_reducible refine Keeps.set ?_ (by simp <;> omega) _ | with_reducible refine Keeps.alloc ?_ _ | with_reducible refine Keeps.drewN ?_ _ | with_reducible refine Keeps.drew ?_))⟩

/-- What is caught. -/
def PatBox (w : World) (b : Nat) : Prop := ∃ v0 v1 v2 v3 v4 v5 v6 v7 v8 v9, w.cell? ⟨b, 0, none⟩ = some v0 ∧ w.cell? ⟨b, 1, none⟩ = some v1 ∧ w.cell? ⟨b, 2, none⟩ = some v2 ∧ w.cell? ⟨b, 3, none⟩ = some v3 ∧ w.cell? ⟨b, 4, none⟩ = some v4 ∧ w.cell? ⟨b, 5, none⟩ = some v5 ∧ w.cell? ⟨b, 6, none⟩ = some v6 ∧ w.cell? ⟨b, 7, none⟩ = some v7 ∧
  w.cell? ⟨b, 8, none⟩ = some v8 ∧ w.cell? ⟨b, 9, none⟩ = some v9
/-- The ten cells of a pattern. -/
def PatCells (w : World) (b : Nat) (k : Int) (sv kv : Value) (number least most way : Int) (fold : Bool) (g : Int) (ns : Value) : Prop :=
  w.cell? ⟨b, 0, none⟩ = some (.int .i64 k) ∧ w.cell? ⟨b, 1, none⟩ = some sv ∧ w.cell? ⟨b, 2, none⟩ = some kv ∧ w.cell? ⟨b, 3, none⟩ = some (.int .i64 number) ∧ w.cell? ⟨b, 4, none⟩ = some (.int .i64 least) ∧ w.cell? ⟨b, 5, none⟩ = some (.int .i64 most) ∧ w.cell? ⟨b, 6, none⟩ = some (.int .i64 way) ∧ w.cell? ⟨b, 7, none⟩ = some (.bool fold) ∧
    w.cell? ⟨b, 8, none⟩ = some (.int .i64 g) ∧ w.cell? ⟨b, 9, none⟩ = some ns

set_option maxHeartbeats 2000000 in
theorem parseCatch_panicking {b0 b1 : Nat} (h01 : b0 < b1) (f : Flt) (w : World) (h1 : b1 < w.heap.size) (hc : PatBox w b0) (hz : ∀ i, w.frozen? ⟨b0, i, none⟩ = false)
    (hc1 : (∃ v, w.cell? ⟨b1, 0, none⟩ = some v) ∧ ∃ v, w.cell? ⟨b1, 1, none⟩ = some v) (hz1 : ∀ i, w.frozen? ⟨b1, i, none⟩ = false) :
    CallsD Tryz.prog 20 #[.pointer (some ⟨b0, 0, none⟩), .pointer (some ⟨b1, 0, none⟩)] (.panicking ([{ v := .iface 33 (.agg #[.int .i64 f.1, .int .i64 f.2]), recovered := false }])) w fun e u' w' =>
      e = .returned (.tuple #[]) ∧ u' = .panicking ([{ v := .iface 33 (.agg #[.int .i64 f.1, .int .i64 f.2]), recovered := true }]) ∧
        Keeps (fun k => k = b0 ∨ k = b1) w w' ∧ PatCells w' b0 0 nilS nilS 0 0 0 0 false 0 nilS ∧ w'.cell? ⟨b1, 0, none⟩ = some (.int .i64 f.1) ∧ w'.cell? ⟨b1, 1, none⟩ = some (.int .i64 f.2) := by
  obtain ⟨n, m⟩ := f
  simp only
  have hta : ∀ w : World, (Instr.typeAssert (.iface 33 (.agg #[.int .i64 n, .int .i64 m])) 20 33 true).run Tryz.prog w = .ok (.tuple #[.agg #[.int .i64 n, .int .i64 m], .bool true]) w := fun _ => by kernel_rfl
  refine callsD_of_wpS Tryz.func20 rfl fun c₀ cs hu => ?_
  apply wpS_seq
  apply wpS_region
  simp [wpOpsS, go_sem, recoverD, hu, Tryz.ntmps20, Exit.thenS, hta, Array.replicate, List.replicate]
  obtain ⟨v0, v1, v2, v3, v4, v5, v6, v7, v8, v9, k0, k1, k2, k3, k4, k5, k6, k7, k8, k9⟩ := hc
  obtain ⟨⟨u1, hc1⟩, ⟨u2, hc2⟩⟩ := hc1
  have i1 : b0 < w.heap.size := by omega
  have i3 : ¬ b0 = b1 := by omega
  have i4 : ¬ b1 = b0 := by omega
  have i5 : ¬ b0 = w.heap.size := by omega
  have i6 : ¬ b1 = w.heap.size := by omega
  refine wpS_of_wp ?_
  go_wp2_with fail
  go_region_held3 (fun w' => w'.cell? ⟨w.heap.size, 0, none⟩ = some (.int .i64 n) ∧ w'.cell? ⟨w.heap.size, 1, none⟩ = some (.int .i64 m)) (simp [go_sem, *]) (fail)
  all_goals go_wp2
  clear hta
  refine ⟨rfl, _, rfl, _, results_none rfl _ _ _, rfl, rfl, ?_, ?_, ?_, ?_⟩
  · (repeat' (first | with_reducible exact Keeps.refl _ _ | with_reducible refine Keeps.set ?_ (by simp <;> omega) _ | with_reducible refine Keeps.alloc ?_ _ | with_reducible refine Keeps.drewN ?_ _ | with_reducible refine Keeps.drew ?_))
  · refine ⟨?_, ?_, ?_, ?_, ?_, ?_, ?_, ?_, ?_, ?_⟩ <;> simp [go_sem, nilS, *]
  · simp [go_sem, *]
  · simp [go_sem, *]

theorem parseCatch_idle {b0 b1 : Nat} (w : World) :
    CallsD Tryz.prog 20 #[.pointer (some ⟨b0, 0, none⟩), .pointer (some ⟨b1, 0, none⟩)] .returning w fun e u' w' => e = .returned (.tuple #[]) ∧ u' = .returning ∧ Keeps No w w' := by
  have hta : ∀ w : World, (Instr.typeAssert .nilIface 20 33 true).run Tryz.prog w = .ok (.tuple #[.agg #[.int .i64 0, .int .i64 0], .bool false]) w := fun _ => by kernel_rfl
  refine callsD_of_wpS Tryz.func20 rfl fun c₀ cs hu => ?_
  apply wpS_seq
  apply wpS_region
  simp [wpOpsS, go_sem, recoverD, hu, Tryz.ntmps20, Exit.thenS, hta, Array.replicate, List.replicate]
  refine wpS_of_wp ?_
  go_wp2
  refine ⟨rfl, _, by cases c₀; simp_all, _, results_none rfl _ _ _, rfl, rfl, ?_⟩
  (repeat' (first | with_reducible exact Keeps.refl _ _ | with_reducible refine Keeps.set ?_ (by simp <;> omega) _ | with_reducible refine Keeps.alloc ?_ _ | with_reducible refine Keeps.drewN ?_ _ | with_reducible refine Keeps.drew ?_))

end Th
end Go.Proofs
