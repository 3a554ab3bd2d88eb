/- The reader of tokens: where a point stands in a text; numbers to the base 16. -/
import Derived.Test.YthjjfgpainleaaaGreatTokI

set_option linter.unusedSimpArgs false
set_option linter.unusedVariables false

namespace Go.Proofs
namespace Th
open Go.RowKit

/-- Where a point stands among some; -1: nowhere. -/
def amongL : List Int → Int → Int → Int
  | [], _, _ => -1
  | x :: t, p, i => if x = p then i else amongL t p (i + 1)

theorem amongL_skip {l : List Int} {p : Int} {k : Nat} (h : ∀ j (hj : j < l.length), j < k → ¬ l[j] = p) (hk : k ≤ l.length) (i : Int) : amongL l p i = amongL (l.drop k) p (i + k) := by
  induction k generalizing l i with
  | zero => simp
  | succ k ih =>
    cases l with
    | nil => simp at hk
    | cons x t =>
      have h0 := h 0 (by simp) (by omega)
      simp only [List.getElem_cons_zero] at h0
      rw [amongL, if_neg h0, ih (fun j hj hjk => by have := h (j + 1) (by simpa using hj) (by omega); simpa using this) (by simpa using hk)]
      simp only [List.drop_succ_cons]
      congr 1
      omega

def codes (s : ByteArray) : List Int := s.data.toList.map fun c => (c.toNat : Int)

theorem codes_length (s : ByteArray) : (codes s).length = s.size := by show _ = s.data.size; simp [codes]
theorem codes_get (s : ByteArray) (k : Nat) (hk : k < s.size) : (codes s)[k]'(by rw [codes_length]; exact hk) = (s[k].toNat : Int) := by
  simp [codes]
  rfl

theorem among_at {s : ByteArray} {p : Int} {k : Nat} (hall : ∀ j (hj : j < (codes s).length), j < k → ¬ (codes s)[j] = p) (hk : k < s.size) (he : (s[k].toNat : Int) = p) : amongL (codes s) p 0 = k := by
  rw [amongL_skip hall (by rw [codes_length]; omega), List.drop_eq_getElem_cons (by rw [codes_length]; exact hk), amongL, codes_get s k hk, if_pos he]
  omega
theorem among_none {s : ByteArray} {p : Int} (hall : ∀ j (hj : j < (codes s).length), j < s.size → ¬ (codes s)[j] = p) : amongL (codes s) p 0 = -1 := by
  rw [amongL_skip (k := s.size) hall (by rw [codes_length]; exact Nat.le_refl _), List.drop_of_length_le (by rw [codes_length]; exact Nat.le_refl _)]
  rfl
theorem among_next {s : ByteArray} {p : Int} {k : Nat} (hall : ∀ j (hj : j < (codes s).length), j < k → ¬ (codes s)[j] = p) (hk : k < s.size) (he : ¬ (s[k].toNat : Int) = p) :
    ∀ j (hj : j < (codes s).length), j < k + 1 → ¬ (codes s)[j] = p := by
  intro j hj hjk
  rcases Nat.lt_or_ge j k with h | h
  · exact hall j hj h
  · obtain rfl : j = k := by omega
    rw [codes_get s j hk]
    exact he

set_option maxHeartbeats 400000 in
theorem among_calls (s : ByteArray) (p : Int) (hs : s.size ≤ 100) (w : World) :
    Calls Tryz.prog 130 #[.string s, .int .i64 p] w fun e w' => e = .returned (.int .i64 (amongL (codes s) p 0)) ∧ w' = w := by
  generalize hn : s.size = n at hs
  have HN := hid hn
  clear hn
  go_enter Tryz.func130, Tryz.ntmps130
  go_wp2
  go_loop [8] (fun i => ∃ k : Nat, k ≤ n ∧ i = .int .i64 k ∧ ∀ j (hj : j < (codes s).length), j < k → ¬ (codes s)[j] = p) (fun i => n - (intOf i).toNat)
  case atStart => exact ⟨0, by omega, rfl, fun _ _ h => absurd h (by omega)⟩
  case round =>
    obtain ⟨k, hk, rfl, hall⟩ := hrel
    by_cases hlt : k < n
    · have hks : k < s.size := by rw [HN.out]; exact hlt
      have hwr : wrap64 (s[k].toNat : Int) = (s[k].toNat : Int) := by
        have := s[k].toNat_lt
        unfold wrap64
        omega
      by_cases he : (s[k].toNat : Int) = p
      · have hr := hid (among_at hall hks he)
        have hb : (wrap64 (s[k].toNat : Int) == p) = true := by rw [hwr]; simpa using he
        clear he hwr
        go_wp2
        go_ret
        exact ⟨ret_eq (congrArg (Value.int .i64) hr.out.symm), rfl⟩
      · have hr := among_next hall hks he
        have hb : (wrap64 (s[k].toNat : Int) == p) = false := by rw [hwr]; simpa using he
        clear he hwr
        go_wp2
        go_round
        case rel => exact ⟨k + 1, by omega, by go_num, hr⟩
        case measure => simp [intOf]; omega
    · obtain rfl : k = n := by omega
      have hks : ¬ k < s.size := by rw [HN.out]; omega
      have hr := hid (among_none (p := p) (s := s) (by rw [HN.out]; exact hall))
      go_wp2
      go_ret
      exact ⟨ret_eq (congrArg (Value.int .i64) hr.out.symm), rfl⟩


def hexB : ByteArray := ⟨#[48, 49, 50, 51, 52, 53, 54, 55, 56, 57, 97, 98, 99, 100, 101, 102]⟩
def ctrlB : ByteArray := ⟨#[110, 116, 114, 102, 118, 97, 101]⟩
def lookB : ByteArray := ⟨#[65, 122, 98, 66]⟩

theorem hexv_eq {x : Int} (h : isHex x = true) : amongL (codes hexB) (bits .or .i64 x 32) 0 = hexv x ∧ 0 ≤ hexv x ∧ hexv x ≤ 15 := by
  have hb : 48 ≤ x ∧ x ≤ 102 := by simp [isHex, isDigit] at h; omega
  obtain ⟨k, rfl⟩ : ∃ k : Fin 103, x = (k.val : Int) := ⟨⟨x.toNat, by omega⟩, by simp; omega⟩
  revert h
  clear hb
  revert k
  decide +kernel


/-- Digits to the base 16 alone. -/
def Hexes (l : List Int) : Prop := ∀ x ∈ l, isHex x = true
theorem number16_snoc (l : List Int) (x : Int) : number16 (l ++ [x]) = number16 l * 16 + hexv x := by simp [number16, List.foldl_append]
theorem number16_bd {l : List Int} (h : Hexes l) : 0 ≤ number16 l ∧ number16 l < 16 ^ l.length := by
  revert h
  refine snoc_ind (P := fun l => Hexes l → 0 ≤ number16 l ∧ number16 l < 16 ^ l.length) (fun _ => by simp [number16]) (fun l x ih h => ?_) l
  have h1 := ih (fun y hy => h y (by simp [hy]))
  have h2 := hexv_eq (h x (by simp))
  rw [number16_snoc, List.length_append, List.length_singleton, Int.pow_succ]
  omega

theorem run_hexes (n : Nat) (s : List Int) : Hexes (run isHex n s).1 ∧ (run isHex n s).1.length ≤ n := run_all isHex n s

set_option maxHeartbeats 400000 in
theorem number_calls {B : Nat} {w : World} {A : Option Addr} {c : Nat} {l : List Int} (h : Row B w A (ints l)) (hd_ : Hexes l) (hl : l.length ≤ 6) :
    Calls Tryz.prog 162 #[.slice A l.length c, .int .i64 16] w fun e w' => e = .returned (.int .i64 (number16 l)) ∧ w' = w := by
  generalize hn : l.length = n at hl
  have HN := hid hn
  clear hn
  go_enter Tryz.func162, Tryz.ntmps162
  go_wp2
  go_loop [5, 10] (fun v i => ∃ k : Nat, k ≤ n ∧ i = .int .i64 k ∧ v = .int .i64 (number16 (l.take k))) (fun _ i => n - (intOf i).toNat)
  case atStart => exact ⟨0, by omega, rfl, rfl⟩
  case round =>
    obtain ⟨k, hk, rfl, rfl⟩ := hrel
    by_cases hlt : k < n
    · obtain ⟨ab, ao, rfl, hab, hv⟩ := h.int_at (j := k) (by rw [HN.out]; exact hlt)
      have hx := hexv_eq (hd_ (l[k]'(by rw [HN.out]; exact hlt)) (List.getElem_mem _))
      have hs : number16 (l.take (k + 1)) = number16 (l.take k) * 16 + hexv (l[k]'(by rw [HN.out]; exact hlt)) := by
        rw [List.take_succ_eq_append_getElem (by rw [HN.out]; exact hlt), number16_snoc]
      have hb := number16_bd (l := l.take k) (fun x hx => hd_ x (List.mem_of_mem_take hx))
      have hb2 : (16 : Int) ^ (l.take k).length ≤ 16777216 := by
        have : (l.take k).length ≤ 6 := by simp; omega
        calc (16 : Int) ^ (l.take k).length ≤ 16 ^ 6 := by exact_mod_cast Nat.pow_le_pow_right (by omega) this
          _ = 16777216 := rfl
      generalize l[k]'(by rw [HN.out]; exact hlt) = x at *
      generalize number16 (l.take k) = v at *
      have HS := hid hs
      have HX := hid hx.1
      clear hs
      have hb0 := hb.1
      have hb1 : v ≤ 16777216 := by omega
      have hx0 := hx.2
      clear hb hb2 hx
      go_wp2_with fail
      refine (among_calls hexB _ (by decide) _).mono ?_
      rintro e w1 ⟨rfl, rfl⟩
      rw [HX.out]
      generalize hexv x = y at *
      go_wp2
      go_round
      case rel => exact ⟨k + 1, by omega, by go_num, by rw [HS.out]⟩
      case measure => simp [intOf]; omega
    · obtain rfl : k = n := by omega
      go_wp2
      go_ret
      exact ⟨ret_eq (by rw [List.take_of_length_le (by rw [HN.out]; omega)]; rfl), rfl⟩

end Th
end Go.Proofs
