/- The parser's methods, together. Laws: texts as points; the number of a name. Laws: what must be in any case. Laws: ParseNumbers, its walk. Arguments opened: the names of a pattern, a pattern whole (as far as the laws read it). -/
import Derived.Test.YthjjfgpainleaaaGreatGJ
import Derived.Test.YthjjfgpainleaaaGreatPrsT
import Derived.Test.YthjjfgpainleaaaGreatPrsU
import Derived.Test.YthjjfgpainleaaaGreatPrsZ
import Derived.ProofKit
import Derived.Deep.Slices
import Derived.Deep.Fields
import Derived.ChangeSame

set_option linter.unusedSimpArgs false
set_option linter.unusedVariables false
set_option linter.all false

namespace Go.Proofs
namespace Th

theorem pat_all {b : Below} (hb : Good b) (k : Nat) : ∀ j, j ≤ k → PatC b j ∧ OpenC b j ∧ AtomC b j ∧ BranC b j := by
  induction k with
  | zero =>
    intro j hj
    obtain rfl : j = 0 := by omega
    refine ⟨?_, ?_, ?_, ?_⟩
    · intro w P d L σ F r _ h; cases h
    · intro w P d L σ F t f r _ h; cases h
    · intro w P d L σ F t s' r _ _ _ _ h; cases h
    · intro w P d L σ F r _ h; cases h
  | succ k ih =>
    intro j hj
    rcases Nat.lt_or_ge j (k + 1) with h | h
    · exact ih j (by omega)
    · obtain rfl : j = k + 1 := by omega
      have hA := atom_calls hb (ih k (Nat.le_refl _)).2.1
      have hO := open_c (ih k (Nat.le_refl _)).1
      have hB := branch_c hb (k := k + 1) (fun j hj => (ih j (by omega)).2.2.1)
      have hP := pattern_c hb (k := k + 1) (fun j hj => (ih j (by omega)).2.2.2)
      exact ⟨hP, hO, hA, hB⟩
theorem pattern_calls {b : Below} (hb : Good b) (k : Nat) : PatC b k := (pat_all hb k k (Nat.le_refl _)).1

end Th
end Go.Proofs

namespace Go.Proofs
namespace Th
open Go.RowKit

def byteInts (s : ByteArray) : List Int := s.data.toList.map fun b => (b.toNat : Int)

theorem SliceV.row {w : World} {e : TypeId} {size n c : Nat} {A : Option Addr} {xs : List Value} {F : List Nat} (h : SliceV w e size (.slice A n c) n xs F) : Row w.heap.size w A xs := by
  rcases h.2 with ⟨_, h0, _⟩ | ⟨g, cap, cur, h1, h2, h3, h4, h5, h6⟩
  · subst h0
    exact .inl (by simpa using h.1)
  · injection h1 with h1 _ _
    refine .inr ⟨g, 0, h1, (Array.getElem?_eq_some_iff.1 h3).1, fun j v hj => ?_⟩
    have hlt : j < n * size := by
      have := (List.getElem?_eq_some_iff.1 hj).1
      rw [h.1] at this
      exact this
    rw [Nat.zero_add, cell_of_row w g j cur e (0, 0) h3, ← Array.getElem?_toList, ← hj, ← h6, List.getElem?_take_of_lt hlt]

theorem SliceV.cap {w : World} {e : TypeId} {size n c : Nat} {A : Option Addr} {xs : List Value} {F : List Nat} (h : SliceV w e size (.slice A n c) n xs F) : n ≤ c ∧ c ≤ maxLen := by
  rcases h.2 with ⟨h1, h0, _⟩ | ⟨g, cap, cur, h1, h2, h3, h4, h5, h6⟩
  · injection h1 with _ _ h2; subst h0; subst h2; exact ⟨Nat.le_refl _, by unfold maxLen; omega⟩
  · injection h1 with _ _ h7; subst h7; exact ⟨h4, h5⟩

set_option maxHeartbeats 4000000 in
theorem pointsOf_calls (s : ByteArray) (w : World) (hs : s.size ≤ 1000000) :
    Calls Tryz.prog 18 #[.string s] w fun e w' => ∃ A c F, e = .returned (.slice A (byteInts s).length c) ∧ SliceV w' 3 1 (.slice A (byteInts s).length c) (byteInts s).length (ints (byteInts s)) F ∧ (∀ g ∈ F, w.heap.size ≤ g) ∧ Keeps No w w' := by
  obtain ⟨i0, hi, hz0, hz1, hz2⟩ := info_parts intInfo
  have hsz : (byteInts s).length = s.size := by simp [byteInts]
  go_enter Tryz.func18, Tryz.ntmps18
  go_wp2_with fail
  go_loopg [3, 4] s.size (fun gk v i wr => ∃ (k : Nat), gk + k = s.size ∧ i = .int .i64 k ∧ wr.ownsRow w.heap.size 3 1 v k (ints ((byteInts s).take k)) ∧ Keeps No w wr)
  case atStart => exact ⟨0, rfl, rfl, World.ownsRow_nil _ _ _ _, by (repeat' (first | with_reducible exact Keeps.refl _ _ | with_reducible refine Keeps.set ?_ (by simp <;> omega) _ | with_reducible refine Keeps.alloc ?_ _ | with_reducible refine Keeps.drewN ?_ _ | with_reducible refine Keeps.drew ?_))⟩
  case round =>
    obtain ⟨k, hk, rfl, ho, hkw⟩ := hrel
    obtain ⟨oA, oc, rfl, _⟩ := ownsRow.slice ho
    have hws := hkw.size
    by_cases hlt : k < s.size
    · have hkl : k < (byteInts s).length := by rw [hsz]; exact hlt
      have hb : (byteInts s)[k] = (s[k].toNat : Int) := by simp [byteInts]; rfl
      have htk : (byteInts s).take (k + 1) = (byteInts s).take k ++ [(s[k].toNat : Int)] := by rw [List.take_succ_eq_append_getElem hkl, hb]
      have hb1 : (s[k].toNat : Int) < 256 := by have := s[k].toNat_lt; omega
      have hb0 : (0 : Int) ≤ (s[k].toNat : Int) := by omega
      have HTK := hid htk
      clear htk hb hsz
      go_wp2_with (at_builtin; go_loud (refine wpl_app rfl _ _ 22 rfl w.heap.size 3 i0 _ 1 8 Tryz.underlying22 hi hz0 hz1 hz2 rfl (by decide) rfl (own_keepN ho (by (repeat' (first | with_reducible exact Keeps.refl _ _ | with_reducible refine Keeps.set ?_ (by simp <;> omega) _ | with_reducible refine Keeps.alloc ?_ _ | with_reducible refine Keeps.drewN ?_ _ | with_reducible refine Keeps.drew ?_)))) rfl (NewsAt.of_block (cs := [.int .i64 (s[k].toNat : Int)]) (m := 1) (heap_new (by simp)) rfl (by simp [Value.oneCell'])) (by unfold maxLen; omega) (by omega) (by simp; omega) ?_); intro A2 c2 w4 hp)
      obtain ⟨hq1, hq2, _⟩ := hp
      go_roundg (gk - 1)
      case measure => omega
      case rel =>
        have hol := ho.lt
        have hkw4 : Keeps No w w4 := Keeps.trans' (w1 := wr.alloc (.cells #[.int .i64 (s[k].toNat : Int)] 3)) (S := No) (by (repeat' (first | with_reducible exact hkw | with_reducible refine Keeps.set ?_ (by simp <;> omega) _ | with_reducible refine Keeps.alloc ?_ _ | with_reducible refine Keeps.drewN ?_ _ | with_reducible refine Keeps.drew ?_))) hq2 (fun k hk e => by have := (hol k e).1; omega)
        exact ⟨k + 1, by omega, by go_num, by rw [HTK.out]; simpa [ints] using hq1, hkw4⟩
    · obtain rfl : k = s.size := by omega
      have htk : (byteInts s).take s.size = byteInts s := List.take_of_length_le (by omega)
      rw [htk] at ho
      have hsv := SliceV.of_own ho
      have hol := ho.lt
      have HSZ := hid hsz
      clear htk ho hsz
      go_wp2_with fail
      go_ret
      rw [HSZ.out]
      exact ⟨oA, oc, _, rfl, hsv, fun g hg => (hol g (by simpa using hg)).1, hkw⟩

/-- The number of the first name that is this one; an errno. -/
def numberL (l : List (ByteArray × Int)) (t : ByteArray) : Int × Int := match l with
  | [] => (0, 5)
  | x :: l => if (x.1 == t) = true then (x.2, 0) else numberL l t

/-- One name of a row of them. -/
theorem Row.name_at {B : Nat} {w : World} {A : Option Addr} {l : List (ByteArray × Int)} (h : Row B w A (nameCells l)) {j : Nat} (hj : j < l.length) :
    ∃ ab ao, A = some ⟨ab, ao, none⟩ ∧ ab < B ∧ w.cell? ⟨ab, ao + j * 2, none⟩ = some (.string l[j].1) ∧ w.cell? ⟨ab, ao + j * 2 + 1, none⟩ = some (.int .i64 l[j].2) := by
  have hn := nameCells_at hj
  rcases h with h | ⟨ab, ao, h1, h2, h3⟩
  · rw [h] at hn; simp at hn
  · exact ⟨ab, ao, h1, h2, h3 _ _ hn.1, by have := h3 _ _ hn.2; rw [Nat.add_assoc]; exact this⟩

theorem numberL_drop {l : List (ByteArray × Int)} {t : ByteArray} {k : Nat} (hk : k < l.length) : numberL (l.drop k) t = if (l[k].1 == t) = true then (l[k].2, 0) else numberL (l.drop (k + 1)) t := by
  rw [List.drop_eq_getElem_cons hk]; rfl

set_option maxHeartbeats 4000000 in
theorem nameNumber_calls {B : Nat} {w : World} {A sA kA : Option Addr} {c sn sc kn kc : Nat} {l : List (ByteArray × Int)} (h : Row B w A (nameCells l)) (hB : B ≤ w.heap.size) (hl : l.length ≤ 9223372036854775807) (k n le mo wy : Int) (f : Bool) (g : Int) (t : ByteArray) :
    Calls Tryz.prog 15 #[patV k (.slice sA sn sc) (.slice kA kn kc) n le mo wy f g (.slice A l.length c), .string t] w fun e w' => e = .returned (.tuple #[.int .i64 (numberL l t).1, .int .i64 (numberL l t).2]) ∧ Keeps No w w' := by
  generalize hm : l.length = m at *
  have HM := hid hm
  have hH := hid h
  clear hm h
  simp only [patV]
  go_enter Tryz.func15, Tryz.ntmps15
  go_wp2_with fail
  go_loopw [11] (fun i wr => ∃ j : Nat, j ≤ m ∧ i = .int .i64 j ∧ numberL (l.drop j) t = numberL l t ∧ Keeps No w wr) (fun i _ => m - (intOf i).toNat)
  case atStart => exact ⟨0, by omega, rfl, rfl, by (repeat' (first | with_reducible exact Keeps.refl _ _ | with_reducible refine Keeps.set ?_ (by simp <;> omega) _ | with_reducible refine Keeps.alloc ?_ _ | with_reducible refine Keeps.drewN ?_ _ | with_reducible refine Keeps.drew ?_))⟩
  case round =>
    obtain ⟨j, hj, rfl, hnum, hkw⟩ := hrel
    have hws := hkw.size
    by_cases hlt : j < m
    · have hjl : j < l.length := by rw [HM.out]; exact hlt
      obtain ⟨ab, ao, rfl, hab, c0, c1⟩ := hH.out.name_at hjl
      have hab1 : ab < wr.heap.size := by omega
      have d0 := (hkw.cell (by omega) id).trans c0
      have d1 := (hkw.cell (by omega) id).trans c1
      have hd := numberL_drop (t := t) hjl
      generalize l[j] = x at *
      obtain ⟨xn, xm⟩ := x
      simp only at c0 c1 d0 d1 hd
      rw [← bytes_beq] at hd
      generalize hq : (xn.toList == t.toList) = q at *
      cases q with
      | true =>
        have hres : numberL l t = (xm, 0) := by rw [← hnum, hd]; rfl
        have HRES := hid hres
        clear hres hnum hd c0 c1
        go_wp2_with fail
        refine bodyPost_ret (v := .tuple #[.int .i64 xm, .int .i64 0]) (by simp [results, Tryz.results15, go_sem]) rfl ⟨?_, by (repeat' (first | with_reducible exact hkw | with_reducible refine Keeps.set ?_ (by simp <;> omega) _ | with_reducible refine Keeps.alloc ?_ _ | with_reducible refine Keeps.drewN ?_ _ | with_reducible refine Keeps.drew ?_))⟩
        rw [HRES.out]
      | false =>
        have hres : numberL (l.drop (j + 1)) t = numberL l t := by rw [← hnum, hd]; rfl
        have HRES := hid hres
        clear hres hnum hd c0 c1
        go_wp2_with fail
        go_roundw
        case rel => exact ⟨j + 1, by omega, by go_num, HRES.out, by (repeat' (first | with_reducible exact hkw | with_reducible refine Keeps.set ?_ (by simp <;> omega) _ | with_reducible refine Keeps.alloc ?_ _ | with_reducible refine Keeps.drewN ?_ _ | with_reducible refine Keeps.drew ?_))⟩
        case measure => simp [intOf]; omega
    · obtain rfl : j = m := by omega
      have hres : numberL l t = (0, 5) := by rw [← hnum, List.drop_eq_nil_of_le (by rw [HM.out]; exact Nat.le_refl _)]; rfl
      have HRES := hid hres
      clear hres hnum
      go_wp2_with fail
      refine bodyPost_ret (v := .tuple #[.int .i64 0, .int .i64 5]) (by simp [results, Tryz.results15, go_sem]) rfl ⟨?_, hkw⟩
      rw [HRES.out]

end Th
end Go.Proofs

namespace Go.Proofs
namespace Th
open Go.RowKit

theorem NodeRep.lens {w : World} {k n l m y : Int} {f : Bool} {sA kA : Option Addr} {sn sc kn kc : Nat} {t : Nd} {F : List Nat} (h : NodeRep w [.int .i64 k, .slice sA sn sc, .slice kA kn kc, .int .i64 n, .int .i64 l, .int .i64 m, .int .i64 y, .bool f] t F) : sn = t.set.length ∧ kn = t.kids.length := by
  obtain ⟨sv, kv, xs, Fs, Fk, Fl, hc, _, hs, hk, _⟩ := h.out
  obtain ⟨A, c, rfl⟩ := hs.slice
  obtain ⟨A', c', rfl⟩ := hk.slice
  injection hc with _ hc
  injection hc with h1 hc
  injection hc with h2 _
  injection h1 with _ h1 _
  injection h2 with _ h2 _
  exact ⟨h1, h2⟩

/-- a(?<x>b|c)* -/
def begL : List Int := [97, 40, 63, 60, 120, 62, 98, 124, 99, 41, 42]
def begT : Nd := .mk 9 [] [pointsN [(97, 97)], .mk 12 [] [.mk 11 [] [.mk 10 [] [pointsN [(98, 98)], pointsN [(99, 99)]] 0 0 0 0 false] 1 0 0 0 false] 0 0 (-1) 1 false] 0 0 0 0 false
def begS : Pst := { s := [], folded := false, deep := 0, groups := 1, names := [(⟨#[120]⟩, 1)], agains := [] }

theorem beg_pattern : patternP nought 1 begL.length 40 { s := begL, folded := false, deep := 0, groups := 0, names := [], agains := [] } = some (.ok (begT, begS)) := by rfl
theorem beg_parse : parseP nought 40 1 begL false = some (.ok ⟨begT, 1, [(⟨#[120]⟩, 1)]⟩) := by rfl
theorem beg_right : rightL 1 begL = 0 := by rfl
theorem beg_points : Points begL := by unfold Points begL; simp
theorem beg_number : numberL [(⟨#[120]⟩, 1)] ⟨#[120]⟩ = (1, 0) := by rfl

theorem beg_bytes : byteInts ⟨#[97, 40, 63, 60, 120, 62, 98, 124, 99, 41, 42]⟩ = begL := by rfl

set_option maxRecDepth 100000 in
set_option maxHeartbeats 4000000 in
theorem begun_calls (w : World) : Calls Tryz.prog 9 #[] w fun e w' => e = .returned (.bool true) ∧ Keeps No w w' := by
  go_enter Tryz.func9, Tryz.ntmps9
  go_wp2_with fail
  refine (pointsOf_calls _ _ (by decide)).mono ?_
  rw [beg_bytes]
  rintro e w1 ⟨A1, c1, F1, rfl, hsv, hf1, hk1⟩
  have hcp := hsv.cap
  go_wp2_with fail
  refine (parse_good (pattern_calls nought_good 40) hsv.row (Nat.le_refl _) hcp.1 (by have := hcp.2; unfold maxLen at this; omega) (by decide) beg_points (.inl rfl) false beg_right ?_ beg_parse).mono ?_
  · intro x σ' h
    rw [beg_pattern] at h
    cases h
    refine ⟨?_, by decide⟩
    simp [begT, begS, AgOk, AgOks, pointsN]
  rintro e w2 ⟨sA, sn, sc, kA, kn, kc, ns, F, Fn, rfl, hN, hns, hF, hFn, hk2⟩
  obtain ⟨hsn, hkn'⟩ := hN.lens
  have hkn : kn = 2 := hkn'
  subst hkn
  clear hkn'
  obtain ⟨A6, c6, rfl⟩ := hns.slice
  have hNum := fun (w' : World) (hk : Keeps No w2 w') => nameNumber_calls (w := w') (A := A6) (c := c6) (l := [(⟨#[120]⟩, 1)]) ((hns.row).keep hk (fun _ _ h => h)) hk.size (by simp) 9 0 0 0 0 false 1 ⟨#[120]⟩ (sA := sA) (kA := kA) (sn := sn) (sc := sc) (kn := 2) (kc := kc)
  simp only [beg_number, List.length_cons, List.length_nil, Nat.zero_add] at hNum
  have hkw : Keeps No w w2 := hk1.trans hk2
  have hdat : begT.kind = 9 ∧ begT.number = 0 ∧ begT.least = 0 ∧ begT.most = 0 ∧ begT.way = 0 ∧ begT.fold = false := ⟨rfl, rfl, rfl, rfl, rfl, rfl⟩
  obtain ⟨e1, e2, e3, e4, e5, e6⟩ := hdat
  simp only [patV, fltV, e1, e2, e3, e4, e5, e6] at hNum ⊢
  clear e1 e2 e3 e4 e5 e6 hN hns hF hFn hsv hf1 hcp hk1 hk2 hsn
  go_wp2_with fail
  refine (hNum _ (by (repeat' (first | with_reducible exact Keeps.refl _ _ | with_reducible refine Keeps.set ?_ (by simp <;> omega) _ | with_reducible refine Keeps.alloc ?_ _ | with_reducible refine Keeps.drewN ?_ _ | with_reducible refine Keeps.drew ?_)))).mono ?_
  rintro e w3 ⟨rfl, hk3⟩
  have c0_hk3 := fun o => hk3.cell (b := w2.heap.size) (o := o) (by first | omega | (simp; done) | (simp; omega)) (by first | omega | (simp; done) | (simp; omega)); have z0_hk3 := fun o => hk3.frozen (b := w2.heap.size) (o := o) (by first | omega | (simp; done) | (simp; omega)) (by first | omega | (simp; done) | (simp; omega)); have c1_hk3 := fun o => hk3.cell (b := w2.heap.size + 1) (o := o) (by first | omega | (simp; done) | (simp; omega)) (by first | omega | (simp; done) | (simp; omega)); have z1_hk3 := fun o => hk3.frozen (b := w2.heap.size + 1) (o := o) (by first | omega | (simp; done) | (simp; omega)) (by first | omega | (simp; done) | (simp; omega))
  have hkw3 : Keeps No w w3 := Keeps.trans (by (repeat' (first | with_reducible exact hkw | with_reducible refine Keeps.set ?_ (by simp <;> omega) _ | with_reducible refine Keeps.alloc ?_ _ | with_reducible refine Keeps.drewN ?_ _ | with_reducible refine Keeps.drew ?_))) hk3
  go_wp2_with fail
  go_ret
  exact ⟨rfl, hkw3⟩

end Th
end Go.Proofs

namespace Go.Proofs
namespace Th
open Go.RowKit

set_option maxRecDepth 100000 in
set_option maxHeartbeats 8000000 in
theorem numbers_walk {B : Nat} {w : World} {A sA kA : Option Addr} {c sn sc kn kc : Nat} {l : List (ByteArray × Int)} (h : Row B w A (nameCells l)) (hB : B ≤ w.heap.size) (hl : l.length ≤ 9223372036854775807) (k n le mo wy : Int) (f : Bool) (g : Int) (t : ByteArray) :
    Calls Tryz.prog 5 #[patV k (.slice sA sn sc) (.slice kA kn kc) n le mo wy f g (.slice A l.length c), .string t] w fun e w' => e = .returned (.bool true) ∧ Keeps No w w' := by
  have hNum := fun (w' : World) (hk : Keeps No w w') => nameNumber_calls (w := w') (A := A) (c := c) (l := l) (h.keep hk (fun _ _ h => h)) (Nat.le_trans hB hk.size) hl k n le mo wy f g t (sA := sA) (kA := kA) (sn := sn) (sc := sc) (kn := kn) (kc := kc)
  generalize hm : l.length = m at *
  have HM := hid hm
  have hH := hid h
  have hN' := hid hNum
  clear hm h hNum
  simp only [patV] at hN' ⊢
  have hNW := hid (fun w' hk => hN'.out w' hk)
  clear hN'
  generalize hr1 : numberL l t = r at *
  obtain ⟨r1, r2⟩ := r
  have HR := hid hr1
  clear hr1
  go_enter Tryz.func5, Tryz.ntmps5
  go_wp2_with fail
  refine (hNW.out _ (by (repeat' (first | with_reducible exact Keeps.refl _ _ | with_reducible refine Keeps.set ?_ (by simp <;> omega) _ | with_reducible refine Keeps.alloc ?_ _ | with_reducible refine Keeps.drewN ?_ _ | with_reducible refine Keeps.drew ?_)))).mono ?_
  rintro e w1 ⟨rfl, hk1⟩
  simp only
  have hb1 : w.heap.size < w1.heap.size := hk1.lt_of (by simp)
  have hkw1 : Keeps No w w1 := Keeps.trans (by (repeat' (first | with_reducible exact Keeps.refl _ _ | with_reducible refine Keeps.set ?_ (by simp <;> omega) _ | with_reducible refine Keeps.alloc ?_ _ | with_reducible refine Keeps.drewN ?_ _ | with_reducible refine Keeps.drew ?_))) hk1
  have hbx := fun o => hk1.cell (b := w.heap.size) (o := o) (by simp) id
  have b9 : w1.cell? ⟨w.heap.size, 9, none⟩ = some (.slice A m c) := (hbx 9).trans (by simp [go_sem])
  clear hbx hk1
  go_wp2_with fail
  go_loop [7, 8, 9] (fun a b i => ∃ (j : Nat) (x1 x2 : Int), j ≤ m ∧ i = .int .i64 ((j : Int) - 1) ∧ a = .int .i64 x1 ∧ b = .int .i64 x2 ∧ numberL (l.drop j) t = (x1, x2)) (fun _ _ i => (intOf i + 1).toNat)
  case atStart => exact ⟨m, 0, 5, Nat.le_refl _, rfl, rfl, rfl, by rw [List.drop_eq_nil_of_le (by rw [HM.out]; exact Nat.le_refl _)]; rfl⟩
  case round =>
    obtain ⟨j, x1, x2, hj, rfl, rfl, rfl, hx⟩ := hrel
    cases j with
    | zero =>
      rw [List.drop_zero, HR.out] at hx
      injection hx with e1 e2
      subst e1 e2
      go_wp2_with fail
      refine (begun_calls _).mono ?_
      rintro e w2 ⟨rfl, hk2⟩
      go_wp2_with fail
      go_ret
      exact ⟨rfl, hkw1.trans hk2⟩
    | succ j =>
      have hjl : j < l.length := by rw [HM.out]; omega
      have hd := numberL_drop (t := t) hjl
      rw [hx] at hd
      obtain ⟨ab, ao, rfl, hab, c0, c1⟩ := hH.out.name_at hjl
      have hkk := (hkw1.cell (b := ab) (o := ao + j * 2) (by omega) id)
      have d0 := (hkw1.cell (b := ab) (o := ao + j * 2) (by omega) id).trans c0
      have d1 := (hkw1.cell (b := ab) (o := ao + j * 2 + 1) (by omega) id).trans c1
      have hsub : ((j + 1 : Nat) : Int) - 1 = (j : Int) := by omega
      have hj0 : (0 : Int) ≤ (j : Int) := by omega
      have hj1 : (j : Int) < (m : Int) := by omega
      rw [hsub]
      generalize l[j] = x at *
      obtain ⟨xn, xm⟩ := x
      simp only at c0 c1 d0 d1 hd
      rw [← bytes_beq] at hd
      clear hkk c0 c1 hsub hx
      generalize hq : (xn.toList == t.toList) = q at *
      have HD := hid hd
      clear hd
      cases q with
      | true =>
        go_wp2_with fail
        go_round
        case rel => exact ⟨j, xm, 0, by omega, by go_num, rfl, rfl, HD.out⟩
        case measure => simp [intOf]
      | false =>
        go_wp2_with fail
        go_round
        case rel => exact ⟨j, x1, x2, by omega, by go_num, rfl, rfl, HD.out⟩
        case measure => simp [intOf]

end Th
end Go.Proofs

namespace Go.Proofs
namespace Th
open Go.ChangeShapes Go.WideShapes Go.Deep Go.RowKit

section
variable {H : Type} {enc : TypeId × Value → H} {P : Program} {w : World} {base : Nat} {spare : Nat → Bool} {held : Bool}
theorem open_slice_fields {t e : TypeId} {fs : Array Field} {fuel : Nat} {cs : List Value} {x : DataW H × List MemPlace} (ht : P.underlying t = some (.slice e)) (he : P.underlying e = some (.struct fs))
    (hone : oneCellFields P fs = true) (hC : P.cellsOf e = fs.size) (h : DataW.trod enc P w base spare held fuel t cs = some x) :
    (cs = [.slice none 0 0] ∧ x = (.nil, [])) ∨
    ∃ (a : Addr) (len cap m : Nat) (D : Nat → DataW H) (Pl : Nat → List MemPlace), cs = [.slice (some a) len cap] ∧ base ≤ a.block ∧ len ≤ cap ∧ cap ≤ maxLen ∧ m = (if spare a.block then cap else len) ∧
      x = (.slice ((List.range len).map D) ((List.range (m - len)).map fun j => D (len + j)), MemPlace.row a (m * fs.size) ++ (List.range m).flatMap Pl) ∧
      ∀ i, i < m → ∃ (ys : List (DataW H × List MemPlace)) (n : Nat), D i = .agg (ys.map (·.1)) ∧ Pl i = ys.flatMap (·.2) ∧ ys.length = fs.size ∧
        ∀ (j : Nat) (f : Field), fs[j]? = some f → ∃ (v : Value) (y : DataW H × List MemPlace), w.cell? (a.add (i * fs.size + j)) = some v ∧ ys[j]? = some y ∧ DataW.trod enc P w base spare held n f.type [v] = some y := by
  rcases open_slice ht h with h0 | ⟨a, len, cap, m, n, D, Pl, hcs, hb, hl, hm, hmm, hx, hi⟩
  · exact .inl h0
  · refine .inr ⟨a, len, cap, m, D, Pl, hcs, hb, hl, hm, hmm, by rw [hC] at hx; exact hx, fun i him => ?_⟩
    obtain ⟨cs', hc, ht'⟩ := hi i him
    rw [hC] at hc
    obtain ⟨ys, n', hn', hy, hlen, hyl, hf⟩ := DataW.trod_struct he ht'
    obtain ⟨_, hcl, hat⟩ := World.cells?_some hc
    simp only [Prod.mk.injEq] at hy
    refine ⟨ys, n', hy.1, hy.2, hyl, fun j f hj => ?_⟩
    obtain ⟨ho, hk⟩ := hone_of hone j f hj
    have hjl : j < fs.size := (Array.getElem?_eq_some_iff.1 hj).1
    have hcell := hat j hjl
    have hv : cs'[j]? = some (cs'[j]'(by omega)) := List.getElem?_eq_getElem (by omega)
    have h1 := hf j f hj
    rw [ho, hk] at h1
    have hone' : (cs'.drop j).take 1 = [cs'[j]'(by omega)] := by
      rw [List.drop_eq_getElem_cons (by omega)]
      rfl
    rw [hone'] at h1
    have hys : ys[j]? = some (ys[j]'(by omega)) := List.getElem?_eq_getElem (by omega)
    refine ⟨_, _, ?_, hys, h1.trans hys⟩
    rw [← Go.Deep.add_add, hcell, hv]
end

section
variable {H : Type} {enc : TypeId × Value → H} {w : World}

/-- A slice of names, read as an argument: its cells stand in a row. -/
theorem open_names {fuel : Nat} {cs : List Value} {x : DataW H × List MemPlace} (h : DataW.trod enc Tryz.prog w 0 (fun _ => true) true fuel 28 cs = some x) :
    ∃ A l c, cs = [.slice A l.length c] ∧ Row w.heap.size w A (nameCells l) ∧ l.length ≤ maxLen := by
  rcases open_slice_fields Tryz.underlying28 Tryz.underlying44 (by kernel_rfl) (by kernel_rfl) h with ⟨h0, _⟩ | ⟨a, len, cap, m, D, Pl, hcs, _, hl, hm, hmm, _, hi⟩
  · exact ⟨none, [], 0, h0, .inl rfl, by simp⟩
  · simp only [if_true] at hmm
    subst hmm
    have hcell : ∀ i, i < len → ∃ (s : ByteArray) (n : Int), w.cell? (a.add (i * 2)) = some (.string s) ∧ w.cell? (a.add (i * 2 + 1)) = some (.int .i64 n) := fun i hlt => by
      obtain ⟨ys, k, _, _, _, hf⟩ := hi i (Nat.lt_of_lt_of_le hlt hl)
      obtain ⟨v0, y0, c0, _, t0⟩ := hf 0 _ rfl
      obtain ⟨v1, y1, c1, _, t1⟩ := hf 1 _ rfl
      obtain ⟨s, e0, _⟩ := DataW.trod_string Tryz.underlying9 t0
      obtain ⟨n, e1, _⟩ := DataW.trod_int Tryz.underlying3 t1
      simp only [List.cons.injEq, and_true] at e0 e1
      subst e0 e1
      exact ⟨s, n, by simpa using c0, by simpa using c1⟩
    have hall : ∀ n, n ≤ len → ∃ l : List (ByteArray × Int), l.length = n ∧ ∀ i (hlt : i < l.length), w.cell? (a.add (i * 2)) = some (.string l[i].1) ∧ w.cell? (a.add (i * 2 + 1)) = some (.int .i64 l[i].2) := by
      intro n
      induction n with
      | zero => exact fun _ => ⟨[], rfl, fun i hlt => by simp at hlt⟩
      | succ n ih =>
        intro hn
        obtain ⟨l, hl1, hl2⟩ := ih (by omega)
        obtain ⟨s, k, c0, c1⟩ := hcell n (by omega)
        refine ⟨l ++ [(s, k)], by simp [hl1], fun i hlt => ?_⟩
        by_cases hi' : i < l.length
        · rw [List.getElem_append_left hi']
          exact hl2 i hi'
        · have : i = n := by simp at hlt; omega
          subst this
          rw [List.getElem_append_right (by omega)]
          simpa [hl1] using ⟨c0, c1⟩
    obtain ⟨l, hl1, hl2⟩ := hall len (Nat.le_refl _)
    subst hl1
    refine ⟨some a, l, m, hcs, ?_, by omega⟩
    cases l with
    | nil => exact .inl rfl
    | cons x l =>
      obtain ⟨ab, ao, sp⟩ := a
      have h00 := (hl2 0 (by simp)).1
      have hsp : sp = none := by simpa [Addr.add] using World.cell?_spot h00
      subst hsp
      refine .inr ⟨ab, ao, rfl, World.block_lt_of_cell? w _ h00, fun j v hj => ?_⟩
      have hjl : j < (nameCells (x :: l)).length := (List.getElem?_eq_some_iff.1 hj).1
      have hlen : ∀ l : List (ByteArray × Int), (nameCells l).length = l.length * 2 := fun l => by
        induction l with
        | nil => rfl
        | cons y l ih => rw [show nameCells (y :: l) = [.string y.1, .int .i64 y.2] ++ nameCells l from rfl, List.length_append, ih]; simp; omega
      have hlen := hlen (x :: l)
      have hk : j / 2 < (x :: l).length := by omega
      have hn := nameCells_at hk
      have hc := hl2 (j / 2) hk
      have e : j = j / 2 * 2 ∨ j = j / 2 * 2 + 1 := by omega
      rcases e with e | e
      · rw [e] at hj
        rw [hn.1] at hj
        injection hj with hj
        subst hj
        have := hc.1
        rw [← e, Go.WideShapes.add_plain] at this
        exact this
      · rw [e] at hj
        rw [hn.2] at hj
        injection hj with hj
        subst hj
        have := hc.2
        rw [← e, Go.WideShapes.add_plain] at this
        exact this

set_option maxRecDepth 100000 in
/-- A pattern, read as an argument: its cells by their kinds, its names in a row. -/
theorem open_pattern {r : Reach} {b0 : Nat} {v : Value} {d : DataW H} {p : List MemPlace} (hv : Value.okWide Tryz.prog w r b0 30 v) (h : DataW.Trod enc Tryz.prog w 0 (fun _ => true) true 30 v d p) :
    ∃ (k n le mo wy g : Int) (f : Bool) (sA kA A : Option Addr) (sn sc kn kc c : Nat) (l : List (ByteArray × Int)),
      v = patV k (.slice sA sn sc) (.slice kA kn kc) n le mo wy f g (.slice A l.length c) ∧ Row w.heap.size w A (nameCells l) ∧ l.length ≤ maxLen := by
  obtain ⟨cs, rfl, hsz⟩ := okWide_struct Tryz.underlying30 hv
  rw [show Tryz.prog.cellsOf 30 = 10 by kernel_rfl] at hsz
  obtain ⟨cl⟩ := cs
  match cl, hsz with
  | [c0, c1, c2, c3, c4, c5, c6, c7, c8, c9], _ =>
    obtain ⟨fuel, hf⟩ := h
    obtain ⟨xs, m, _, _, _, hxl, hg⟩ := DataW.trod_struct Tryz.underlying30 hf
    have some_of : ∀ i, i < 3 → ∃ y, xs[i]? = some y := fun i hi => ⟨_, List.getElem?_eq_getElem (by rw [hxl]; exact hi)⟩
    have g0 : DataW.trod enc Tryz.prog w 0 (fun _ => true) true m 27 (([c0, c1, c2, c3, c4, c5, c6, c7, c8, c9].drop 0).take (Tryz.prog.cellsOf 27)) = xs[0]? := hg 0 _ rfl
    have g1 : DataW.trod enc Tryz.prog w 0 (fun _ => true) true m 3 (([c0, c1, c2, c3, c4, c5, c6, c7, c8, c9].drop 8).take (Tryz.prog.cellsOf 3)) = xs[1]? := hg 1 _ rfl
    have g2 : DataW.trod enc Tryz.prog w 0 (fun _ => true) true m 28 (([c0, c1, c2, c3, c4, c5, c6, c7, c8, c9].drop 9).take (Tryz.prog.cellsOf 28)) = xs[2]? := hg 2 _ rfl
    obtain ⟨y0, e0⟩ := some_of 0 (by decide)
    obtain ⟨y1, e1⟩ := some_of 1 (by decide)
    obtain ⟨y2, e2⟩ := some_of 2 (by decide)
    rw [e0] at g0
    rw [e1] at g1
    rw [e2] at g2
    rw [show Tryz.prog.cellsOf 27 = 8 by kernel_rfl] at g0
    rw [show Tryz.prog.cellsOf 3 = 1 by kernel_rfl] at g1
    rw [show Tryz.prog.cellsOf 28 = 1 by kernel_rfl] at g2
    simp only [List.drop_zero, List.drop_succ_cons, List.take_succ_cons, List.take_zero] at g0 g1 g2
    obtain ⟨g, q1, _⟩ := DataW.trod_int Tryz.underlying3 g1
    obtain ⟨A, l, c, q2, hrow, hll⟩ := open_names g2
    obtain ⟨zs, m', _, _, _, hzl, hz⟩ := DataW.trod_struct Tryz.underlying27 g0
    have some_z : ∀ i, i < 8 → ∃ y, zs[i]? = some y := fun i hi => ⟨_, List.getElem?_eq_getElem (by rw [hzl]; exact hi)⟩
    have z0 : DataW.trod enc Tryz.prog w 0 (fun _ => true) true m' 3 (([c0, c1, c2, c3, c4, c5, c6, c7].drop 0).take (Tryz.prog.cellsOf 3)) = zs[0]? := hz 0 _ rfl
    have z1 : DataW.trod enc Tryz.prog w 0 (fun _ => true) true m' 24 (([c0, c1, c2, c3, c4, c5, c6, c7].drop 1).take (Tryz.prog.cellsOf 24)) = zs[1]? := hz 1 _ rfl
    have z2 : DataW.trod enc Tryz.prog w 0 (fun _ => true) true m' 25 (([c0, c1, c2, c3, c4, c5, c6, c7].drop 2).take (Tryz.prog.cellsOf 25)) = zs[2]? := hz 2 _ rfl
    have z3 : DataW.trod enc Tryz.prog w 0 (fun _ => true) true m' 3 (([c0, c1, c2, c3, c4, c5, c6, c7].drop 3).take (Tryz.prog.cellsOf 3)) = zs[3]? := hz 3 _ rfl
    have z4 : DataW.trod enc Tryz.prog w 0 (fun _ => true) true m' 3 (([c0, c1, c2, c3, c4, c5, c6, c7].drop 4).take (Tryz.prog.cellsOf 3)) = zs[4]? := hz 4 _ rfl
    have z5 : DataW.trod enc Tryz.prog w 0 (fun _ => true) true m' 3 (([c0, c1, c2, c3, c4, c5, c6, c7].drop 5).take (Tryz.prog.cellsOf 3)) = zs[5]? := hz 5 _ rfl
    have z6 : DataW.trod enc Tryz.prog w 0 (fun _ => true) true m' 3 (([c0, c1, c2, c3, c4, c5, c6, c7].drop 6).take (Tryz.prog.cellsOf 3)) = zs[6]? := hz 6 _ rfl
    have z7 : DataW.trod enc Tryz.prog w 0 (fun _ => true) true m' 4 (([c0, c1, c2, c3, c4, c5, c6, c7].drop 7).take (Tryz.prog.cellsOf 4)) = zs[7]? := hz 7 _ rfl
    obtain ⟨_, w0⟩ := some_z 0 (by decide)
    obtain ⟨_, w1⟩ := some_z 1 (by decide)
    obtain ⟨_, w2⟩ := some_z 2 (by decide)
    obtain ⟨_, w3⟩ := some_z 3 (by decide)
    obtain ⟨_, w4⟩ := some_z 4 (by decide)
    obtain ⟨_, w5⟩ := some_z 5 (by decide)
    obtain ⟨_, w6⟩ := some_z 6 (by decide)
    obtain ⟨_, w7⟩ := some_z 7 (by decide)
    rw [w0] at z0; rw [w1] at z1; rw [w2] at z2; rw [w3] at z3; rw [w4] at z4; rw [w5] at z5; rw [w6] at z6; rw [w7] at z7
    rw [show Tryz.prog.cellsOf 3 = 1 by kernel_rfl] at z0 z3 z4 z5 z6
    rw [show Tryz.prog.cellsOf 24 = 1 by kernel_rfl] at z1
    rw [show Tryz.prog.cellsOf 25 = 1 by kernel_rfl] at z2
    rw [show Tryz.prog.cellsOf 4 = 1 by kernel_rfl] at z7
    simp only [List.drop_zero, List.drop_succ_cons, List.take_succ_cons, List.take_zero] at z0 z1 z2 z3 z4 z5 z6 z7
    obtain ⟨k, p0, _⟩ := DataW.trod_int Tryz.underlying3 z0
    obtain ⟨n, p3, _⟩ := DataW.trod_int Tryz.underlying3 z3
    obtain ⟨le, p4, _⟩ := DataW.trod_int Tryz.underlying3 z4
    obtain ⟨mo, p5, _⟩ := DataW.trod_int Tryz.underlying3 z5
    obtain ⟨wy, p6, _⟩ := DataW.trod_int Tryz.underlying3 z6
    obtain ⟨f, p7, _⟩ := DataW.trod_bool Tryz.underlying4 z7
    have p1 : ∃ sA sn sc, [c1] = [Value.slice sA sn sc] := by
      rcases DataW.trod_slice Tryz.underlying24 z1 with ⟨h, _⟩ | ⟨a, len, cap, _, _, _, _, h, _⟩
      · exact ⟨_, _, _, h⟩
      · exact ⟨_, _, _, h⟩
    have p2 : ∃ sA sn sc, [c2] = [Value.slice sA sn sc] := by
      rcases DataW.trod_slice Tryz.underlying25 z2 with ⟨h, _⟩ | ⟨a, len, cap, _, _, _, _, h, _⟩
      · exact ⟨_, _, _, h⟩
      · exact ⟨_, _, _, h⟩
    obtain ⟨sA, sn, sc, p1⟩ := p1
    obtain ⟨kA, kn, kc, p2⟩ := p2
    simp only [List.cons.injEq, and_true] at q1 q2 p0 p1 p2 p3 p4 p5 p6 p7
    subst q1 q2 p0 p1 p2 p3 p4 p5 p6 p7
    exact ⟨k, n, le, mo, wy, g, f, sA, kA, A, sn, sc, kn, kc, c, l, rfl, hrow, hll⟩
end

end Th
end Go.Proofs
