/- The reader of tokens: runs of points. -/
import Derived.Test.YthjjfgpainleaaaGreatGA
import Derived.Deep.LoopGhost

set_option linter.unusedSimpArgs false
set_option linter.unusedVariables false

namespace Go.Proofs
namespace Th
open Go.RowKit

theorem may_any {w : World} {b : Nat} {d : Int} {L s : List Int} {c : Int} (h : Rs w b d L s) (h0 : 0 ≤ c) (h1 : c ≤ 200) :
    Calls Tryz.prog 126 #[.pointer (some ⟨b, 0, none⟩), .int .i32 c] w fun e w' => e = .returned (.bool (decide (hd s = c))) ∧ Rs w' b d L (if hd s = c then s.tail else s) ∧ Keeps (But b) w w' := by
  by_cases hc : hd s = c
  · refine (may_yes h h0 h1 hc).mono fun e w' ⟨he, hr, hk⟩ => ⟨by rw [he]; simp [hc], by rw [if_pos hc]; exact hr, hk⟩
  · refine (may_no h h0 h1 hc).mono fun e w' ⟨he, q, hw⟩ => ⟨by rw [he]; simp [hc], by rw [if_neg hc, hw]; exact h, by rw [hw]; exact (Keeps.refl _ _).drewN q⟩

/-- A predicate on points, as a function of the program tells it. -/
def Tells (g : Nat) (p : Int → Bool) : Prop := ∀ (x : Int) (W : World), Calls Tryz.prog g #[.int .i64 x] W fun e W' => e = .returned (.bool (p x)) ∧ W' = W

theorem isDigit_calls : Tells 136 isDigit := by
  intro x W
  unfold isDigit
  go_enter Tryz.func136, Tryz.ntmps136
  go_wp2
  all_goals (go_ret; exact ⟨ret_eq (congrArg Value.bool (by (first | rfl | (rw [Bool.eq_iff_iff]; first | (simp_all; done) | (simp_all; omega))))), rfl⟩)

theorem isLetter_calls : Tells 137 isLetter := by
  intro x W
  unfold isLetter
  go_enter Tryz.func137, Tryz.ntmps137
  go_wp2
  all_goals (go_ret; exact ⟨ret_eq (congrArg Value.bool (by (first | rfl | (rw [Bool.eq_iff_iff]; first | (simp_all; done) | (simp_all; omega))))), rfl⟩)

theorem isHex_calls : Tells 161 isHex := by
  intro x W
  go_enter Tryz.func161, Tryz.ntmps161
  go_wp2_with (go_at_call 136; refine (isDigit_calls x _).mono ?_; rintro e w' ⟨rfl, rfl⟩)
  all_goals (go_ret; exact ⟨ret_eq (congrArg Value.bool (by (first | rfl | (rw [Bool.eq_iff_iff]; first | (simp_all [isHex]; done) | (simp_all [isHex]; omega))))), rfl⟩)

theorem isNameCh_calls : Tells 163 isNameCh := by
  intro x W
  go_enter Tryz.func163, Tryz.ntmps163
  go_wp2_with (first
    | (go_at_call 137; refine (isLetter_calls x _).mono ?_; rintro e w' ⟨rfl, rfl⟩)
    | (go_at_call 136; refine (isDigit_calls x _).mono ?_; rintro e w' ⟨rfl, rfl⟩))
  all_goals (go_ret; exact ⟨ret_eq (congrArg Value.bool (by (first | rfl | (rw [Bool.eq_iff_iff]; first | (simp_all [isNameCh]; done) | (simp_all [isNameCh]; omega))))), rfl⟩)

/-- A function of the program that has a body is entered. -/
def Enters (g : Nat) : Prop := ∀ (args : Array Value) (w : World), (callFunc g args).run Tryz.prog w = .ok (.enter g args) w

/-- The reader, its place told. -/
structure Rq (w : World) (b : Nat) (d : Int) (A : Option Addr) (c : Nat) (L : List Int) (a : Nat) : Prop where
  c0 : w.cell? ⟨b, 0, none⟩ = some (.int .i64 d)
  c1 : w.cell? ⟨b, 1, none⟩ = some (.slice A L.length c)
  c2 : w.cell? ⟨b, 2, none⟩ = some (.int .i64 a)
  fz : w.frozen? ⟨b, 2, none⟩ = false
  row : Row b w A (ints L)
  le : a ≤ L.length
  cap : L.length ≤ c
  big : c ≤ 9223372036854775807
  small : L.length ≤ 300

theorem Rs.open {w : World} {b : Nat} {d : Int} {L s : List Int} (h : Rs w b d L s) : ∃ A c a, Rq w b d A c L a ∧ s = L.drop a := by
  obtain ⟨A, c, a, h0, h1, h2, h3, h4, h5, h6, h7, h8, h9⟩ := h
  exact ⟨A, c, a, ⟨h0, h1, h2, h3, h4, h5, h7, h8, h9⟩, h6⟩
theorem Rq.shut {w : World} {b : Nat} {d : Int} {A : Option Addr} {c : Nat} {L : List Int} {a : Nat} (h : Rq w b d A c L a) : Rs w b d L (L.drop a) :=
  ⟨A, c, a, h.c0, h.c1, h.c2, h.fz, h.row, h.le, rfl, h.cap, h.big, h.small⟩
theorem Rq.set {w : World} {b : Nat} {d : Int} {A : Option Addr} {c : Nat} {L : List Int} {a : Nat} (h : Rq w b d A c L a) {a' : Nat} (ha : a' ≤ L.length) : Rq (w.setCell ⟨b, 2, none⟩ (.int .i64 (a' : Int))) b d A c L a' where
  c0 := by rw [World.cell?_setCell_other _ _ _ _ (by simp)]; exact h.c0
  c1 := by rw [World.cell?_setCell_other _ _ _ _ (by simp)]; exact h.c1
  c2 := World.cell?_setCell_same _ _ _ h.c2
  fz := by simpa using h.fz
  row := by
    rcases h.row with h4 | ⟨ab, ao, e1, e2, e3⟩
    · exact .inl h4
    · exact .inr ⟨ab, ao, e1, e2, fun j v hj => by rw [World.cell?_setCell_other _ _ _ _ (by simp <;> omega)]; exact e3 j v hj⟩
  le := ha
  cap := h.cap
  big := h.big
  small := h.small
theorem Rq.drewN {w : World} {b : Nat} {d : Int} {A : Option Addr} {c : Nat} {L : List Int} {a : Nat} (h : Rq w b d A c L a) (q : Nat) : Rq (w.drewN q) b d A c L a := ⟨h.c0, h.c1, h.c2, h.fz, h.row, h.le, h.cap, h.big, h.small⟩

/-- A slice of a slice: the cells from i to j. -/
theorem Row.cut {B : Nat} {w : World} {A : Option Addr} {vs : List Value} (h : Row B w A vs) {i j c : Nat} (hij : i ≤ j) (hj : j ≤ vs.length) (hc : vs.length ≤ c) :
    Row B w (if c = i then A else A.map (·.add i)) ((vs.take j).drop i) := by
  rcases h with rfl | ⟨ab, ao, rfl, h2, h3⟩
  · exact .inl (by simp)
  · rcases Nat.eq_or_lt_of_le hij with rfl | hlt
    · exact .inl (by simp)
    · rw [if_neg (by omega)]
      refine .inr ⟨ab, ao + i, by simp [Addr.add], h2, fun k v hk => ?_⟩
      rw [Nat.add_assoc]
      refine h3 (i + k) v ?_
      rw [List.getElem?_drop] at hk
      have : i + k < j := by
        rcases Nat.lt_or_ge (i + k) j with h | h
        · exact h
        · rw [List.getElem?_eq_none (by simp; omega)] at hk; simp at hk
      rwa [List.getElem?_take_of_lt this] at hk

theorem run_go (p : Int → Bool) (m : Nat) (x : Int) (t : List Int) (h : p x = true) : run p (m + 1) (x :: t) = (x :: (run p m t).1, (run p m t).2) := by simp [run, h]

theorem run_done {p : Int → Bool} {w wr : World} {b : Nat} {d : Int} {A : Option Addr} {c : Nat} {L : List Int} {a0 k m : Nat} (hq : Rq wr b d A c L (a0 + k)) (hk : Keeps (But b) w wr)
    (HA : Aside (run p m (L.drop a0) = ((L.drop a0).take k ++ (run p (m - k) (L.drop (a0 + k))).1, (run p (m - k) (L.drop (a0 + k))).2))) (he : run p (m - k) (L.drop (a0 + k)) = ([], L.drop (a0 + k)))
    {A1 : Option Addr} {c1 : Nat} (hA : (if c = a0 then A else A.map (·.add a0)) = A1) (hc : c1 = c - a0) {k1 : Nat} (hk1 : k1 = k) {W : World} (hW : ∃ q, W = wr.drewN q) :
    (∃ A' c', Ending.returned (Value.slice A1 k1 c1) = .returned (.slice A' (run p m (L.drop a0)).1.length c') ∧ Row b W A' (ints (run p m (L.drop a0)).1) ∧ (run p m (L.drop a0)).1.length ≤ c' ∧ c' ≤ 9223372036854775807) ∧
      Rs W b d L (run p m (L.drop a0)).2 ∧ Keeps (But b) w W := by
  obtain ⟨q, rfl⟩ := hW
  rw [hk1]
  have h := HA.out
  rw [he] at h
  simp only [List.append_nil] at h
  rw [h]
  have hl := hq.le
  have hcap := hq.cap
  have hbig := hq.big
  have hlen : ((L.drop a0).take k).length = k := by simp; omega
  refine ⟨⟨A1, c1, ?_, ?_, ?_, ?_⟩, (hq.drewN q).shut, hk.drewN q⟩
  · rw [hlen]
  · have hr := (hq.drewN q).row.cut (i := a0) (j := a0 + k) (c := c) (by omega) (by simpa using hl) (by simpa using hcap)
    rw [hA] at hr
    have e : (List.take (a0 + k) (ints L)).drop a0 = ints ((L.drop a0).take k) := by
      simp only [ints, List.map_take, List.map_drop, List.drop_take]
      congr 1
      omega
    rwa [e] at hr
  · simp only [hlen]; omega
  · omega

theorem run_nil (p : Int → Bool) (s : List Int) : run p 0 s = ([], s) := by cases s <;> rfl
theorem run_stop (p : Int → Bool) (n : Nat) (x : Int) (t : List Int) (h : p x = false) : run p n (x :: t) = ([], x :: t) := by cases n <;> simp [run, h]

set_option maxHeartbeats 1000000 in
theorem run_calls {g : Nat} {p : Int → Bool} (eg : Enters g) (hp : Tells g p) {w : World} {b : Nat} {d : Int} {L s : List Int} (m : Nat) (hm : m ≤ 100) (h : Rs w b d L s) :
    Calls Tryz.prog 135 #[.pointer (some ⟨b, 0, none⟩), .int .i64 m, .func (.func g) #[] #[]] w fun e w' =>
      (∃ A' c', e = .returned (.slice A' (run p m s).1.length c') ∧ Row b w' A' (ints (run p m s).1) ∧ (run p m s).1.length ≤ c' ∧ c' ≤ 9223372036854775807) ∧ Rs w' b d L (run p m s).2 ∧ Keeps (But b) w w' := by
  obtain ⟨A, c, a0, hq, rfl⟩ := h.open
  clear h
  have h0 := hq.c0; have h1 := hq.c1; have h2 := hq.c2
  have hs := hq.small
  have hl := hq.le
  generalize hn : L.length = n at h1 hs hl
  have HN := hid hn
  clear hn
  go_enter Tryz.func135, Tryz.ntmps135
  go_wp2
  clear h0 h1 h2
  go_loopg [] m (fun gk wr => ∃ k : Nat, gk + k = m ∧ Rq wr b d A c L (a0 + k) ∧ Keeps (But b) w wr ∧ Aside (run p m (L.drop a0) = ((L.drop a0).take k ++ (run p (m - k) (L.drop (a0 + k))).1, (run p (m - k) (L.drop (a0 + k))).2)))
  case atStart => exact ⟨0, rfl, hq, Keeps.refl _ _, by simp [Aside]⟩
  case round =>
    obtain ⟨k, hk, hq1, hkp, HA⟩ := hrel
    have h1 := hq1.c1; have h2 := hq1.c2
    have hl1 := hq1.le
    rw [HN.out] at h1 hl1
    by_cases ha : a0 + k < n
    · by_cases hb : k < m
      · obtain ⟨ab, ao, rfl, hab, hv⟩ := hq1.row.int_at (j := a0 + k) (by rw [HN.out]; exact ha)
        generalize hv' : L[a0 + k]'(by rw [HN.out]; exact ha) = v at hv
        have HV := hid hv'
        clear hv'
        have hle : a0 + k + 1 ≤ L.length := by rw [HN.out]; omega
        have f1 : (a0 : Int) + (k : Int) < (n : Int) := by omega
        have f2 : (k : Int) < (m : Int) := by omega
        have f3 : IntKind.i64.wrap ((a0 : Int) + (k : Int) - (a0 : Int)) = (k : Int) := by rw [IntWalk.i64_in _ (by omega)]; omega
        have f4 : (0 : Int) ≤ (a0 : Int) + (k : Int) := by omega
        have f5 : ((a0 : Int) + (k : Int)).toNat = a0 + k := by omega
        have eg' : ∀ (args : Array Value) (w : World), (callFunc g args).run Tryz.prog w = .ok (.enter g args) w := eg
        have hv' := hid (hp v)
        generalize hpv : p v = pv at hv'
        have HP := hid hpv
        clear hpv hp
        have hz := hq1.fz
        have f6 : (a0 : Int) ≤ (a0 : Int) + (k : Int) := by omega
        have f7 : (a0 : Int) + (k : Int) ≤ (c : Int) := by have := hq1.cap; rw [HN.out] at this; omega
        have hcn : n ≤ c := by have := hq1.cap; rw [HN.out] at this; exact this
        cases pv
        · go_wp2
          go_quiet (exact Calls.quiet_of_same (hv'.out _))
          clear f3
          go_wp2
          go_quiet (fail)
          go_wp2
          have hne : ¬ c = a0 := by omega
          go_ret
          refine run_done hq1 hkp HA ?_ ?_ ?_ ?_ ⟨_, World.drewN_drewN _ _ _⟩
          rotate_left
          · rw [if_neg hne]; simp [Addr.add_lit]
          · rfl
          · omega
          rw [List.drop_eq_getElem_cons (i := a0 + k) (by rw [HN.out]; exact ha)]
          exact run_stop _ _ _ _ (by rw [HV.out]; exact HP.out)
        · go_wp2
          go_quiet (exact Calls.quiet_of_same (hv'.out _))
          clear f3 f5
          go_wp2
          go_roundg (gk - 1)
          case measure => omega
          case rel =>
            refine ⟨k + 1, by omega, ?_, ((hkp.drewN _).set (by simp) _), ?_⟩
            · have := (hq1.drewN nq).set (a' := a0 + k + 1) (by omega)
              rw [show ((a0 + k + 1 : Nat) : Int) = (a0 : Int) + k + 1 from by omega] at this
              exact this
            · have hh := HA.out
              rw [List.drop_eq_getElem_cons (i := a0 + k) (by rw [HN.out]; exact ha), HV.out, show m - k = (m - (k + 1)) + 1 from by omega, run_go _ _ _ _ HP.out] at hh
              unfold Aside
              rw [hh, List.take_succ_eq_append_getElem (by simp; omega)]
              simp [HV.out, Nat.add_assoc]
      · obtain rfl : k = m := by omega
        have hcn : n ≤ c := by have := hq1.cap; rw [HN.out] at this; exact this
        have f1 : (a0 : Int) + (k : Int) < (n : Int) := by omega
        have f2 : decide ((k : Int) < (k : Int)) = false := by simp
        have f3 : IntKind.i64.wrap ((a0 : Int) + (k : Int) - (a0 : Int)) = (k : Int) := by rw [IntWalk.i64_in _ (by omega)]; omega
        have f6 : (a0 : Int) ≤ (a0 : Int) + (k : Int) := by omega
        have f7 : (a0 : Int) + (k : Int) ≤ (c : Int) := by omega
        have hne : ¬ c = a0 := by omega
        go_wp2
        go_quiet (fail)
        clear f3
        go_wp2
        go_quiet (fail)
        go_wp2
        go_ret
        refine run_done hq1 hkp HA (by rw [Nat.sub_self]; exact run_nil _ _) ?_ ?_ ?_ ⟨_, World.drewN_drewN _ _ _⟩
        · rw [if_neg hne]
        · rfl
        · omega
    · have hcn : n ≤ c := by have := hq1.cap; rw [HN.out] at this; exact this
      have hk0 : a0 + k = n := by omega
      have f1 : decide ((a0 : Int) + (k : Int) < (n : Int)) = false := by simp; omega
      have f6 : (a0 : Int) ≤ (a0 : Int) + (k : Int) := by omega
      have f7 : (a0 : Int) + (k : Int) ≤ (c : Int) := by omega
      have f8 : (a0 : Int) + (k : Int) - (a0 : Int) = (k : Int) := by omega
      have he : run p (m - k) (L.drop (a0 + k)) = ([], L.drop (a0 + k)) := by
        rw [List.drop_eq_nil_of_le (by rw [HN.out]; omega)]
        cases m - k <;> rfl
      have HE := hid he
      have HK := hid hk0
      clear he hk0
      by_cases hz : c = a0
      · obtain ⟨rfl, rfl⟩ : k = 0 ∧ n = c := by have := HK.out; omega
        go_wp2
        go_quiet (fail)
        go_wp2
        go_quiet (fail)
        go_wp2
        go_ret
        refine run_done hq1 hkp HA HE.out ?_ ?_ ?_ ⟨_, World.drewN_drewN _ _ _⟩
        · rw [if_pos hz]
        · omega
        · omega
      · go_wp2
        go_quiet (fail)
        go_wp2
        go_quiet (fail)
        go_wp2
        go_ret
        refine run_done hq1 hkp HA HE.out ?_ ?_ ?_ ⟨_, World.drewN_drewN _ _ _⟩
        · rw [if_neg hz]
        · rfl
        · omega

end Th
end Go.Proofs
