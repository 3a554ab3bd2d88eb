/- A map with integer keys that the call makes by a literal, and asks: the operations' runs. The reader of tokens: classes by their letters. -/
import Derived.Test.YthjjfgpainleaaaGreatGA
import Derived.Test.YthjjfgpainleaaaGreatGB

set_option linter.unusedSimpArgs false
set_option linter.unusedVariables false

namespace Go.Proofs
namespace Th
open Go.RowKit

theorem i64_or_nat (a b : Nat) (ha : a < 4194304) (hb : b < 4194304) : bits .or .i64 (a : Int) (b : Int) = ((a ||| b : Nat) : Int) := by
  have hx : a ||| b < 2 ^ 22 := Nat.or_lt_two_pow (by omega) (by omega)
  have h1 : (BitVec.ofInt 64 (a : Int)).toNat = a := by
    rw [BitVec.ofInt_natCast, BitVec.toNat_ofNat]; exact Nat.mod_eq_of_lt (by omega)
  have h2 : (BitVec.ofInt 64 (b : Int)).toNat = b := by
    rw [BitVec.ofInt_natCast, BitVec.toNat_ofNat]; exact Nat.mod_eq_of_lt (by omega)
  show IntKind.i64.wrap ((BitVec.ofInt 64 (a : Int) ||| BitVec.ofInt 64 (b : Int)).toNat : Int) = _
  rw [BitVec.toNat_or, h1, h2]
  exact IntWalk.i64_in _ (by omega)

section
variable {P : Program}
theorem checkKey_int {K : TypeId} {ki : IntKind} (hK : P.underlying K = some (.int ki)) (b : Bool) (n : Nat) (k : Int) (w : World) :
    (Instr.checkKey b (n + 1) K (.int ki k)).run P w = .ok () w := by
  unfold Instr.checkKey
  simp [run_underlying hK, pure, Sem.run]

theorem findKey_now {K : TypeId} {ki : IntKind} (hK : P.underlying K = some (.int ki)) (k : Int) (es : List MapEntry) (r : Option (Nat × Value)) (hf : Instr.findNow (.int ki) (.int ki k) es 0 = some r) (w : World) :
    (Instr.findKey K (.int ki k) es).run P w = .ok r w := by
  unfold Instr.findKey
  simp [run_underlying hK, hf, pure]

theorem alloc_heap_at (W : World) (o : Obj) : (W.alloc o).heap[W.heap.size]? = some o := by
  show (W.heap.push o)[W.heap.size]? = some o
  simp

theorem run_mapUpdate_new {T K E : TypeId} {ki : IntKind} (hT : P.underlying T = some (.map K E)) (hK : P.underlying K = some (.int ki)) (W : World) (es : Array MapEntry) (clock : Nat) (k : Int) (v : Value)
    (hf : Instr.findNow (.int ki) (.int ki k) es.toList 0 = some none) :
    (Instr.mapUpdate T (.map (some W.heap.size)) (.int ki k) v).run P (W.alloc (.map es clock)) = .ok () (W.alloc (.map (es.push { key := .int ki k, val := v, born := clock }) (clock + 1))) := by
  unfold Instr.mapUpdate
  have hc := checkKey_int (P := P) hK false 9999 k (W.alloc (.map es clock))
  have hk := findKey_now (P := P) hK k es.toList none hf (W.alloc (.map es clock))
  have hh : ∀ h, (W.alloc (.map es clock)).heap[W.heap.size]'h = .map es clock := fun h => by
    have := alloc_heap_at W (.map es clock)
    rw [Array.getElem?_eq_getElem h] at this
    exact Option.some.inj this
  have hs : ∀ o' : Obj, { W.alloc (.map es clock) with heap := (W.alloc (.map es clock)).heap.setIfInBounds W.heap.size o' } = W.alloc o' := fun o' => by
    show ({ W with heap := (W.heap.push (.map es clock)).setIfInBounds W.heap.size o' } : World) = { W with heap := W.heap.push o' }
    congr 1
    apply Array.ext
    · simp
    · intro i h1 h2
      simp only [Array.size_setIfInBounds, Array.size_push] at h1
      rw [Array.getElem_setIfInBounds (by simpa using h1)]
      by_cases e : W.heap.size = i
      · subst e; simp
      · have hi : i < W.heap.size := by omega
        simp [e, Array.getElem_push, hi]
  simp [run_underlying hT, hh, getObj, Sem.run, hc, hk, setObj]
  exact hs _

theorem run_lookup_now {T K E : TypeId} {ki : IntKind} (hT : P.underlying T = some (.map K E)) (hK : P.underlying K = some (.int ki)) {z : Value} (hE : ∀ w, (zeroValue E).run P w = .ok z w) (w : World) (r : Nat) (es : Array MapEntry) (clock : Nat) (hr : w.heap[r]? = some (.map es clock)) (k : Int) (o : Option (Nat × Value))
    (hf : Instr.findNow (.int ki) (.int ki k) es.toList 0 = some o) :
    (Instr.lookup T (.map (some r)) (.int ki k) true).run P w = .ok (.tuple #[(o.map (·.2)).getD z, .bool o.isSome]) w := by
  unfold Instr.lookup
  have hc := checkKey_int (P := P) hK es.isEmpty 9999 k w
  have hk := findKey_now (P := P) hK k es.toList o hf w
  simp [run_underlying hT, hr, getObj, Sem.run, hc, hk]
  cases o with
  | none => simp [hE]
  | some p => obtain ⟨i, v⟩ := p; simp
end

end Th
end Go.Proofs

namespace Go.Proofs
namespace Th
open Go.RowKit

def classOf (p : Int) : Option ByteArray := if p = 100 then some digitB else if p = 119 then some wordB else if p = 115 then some spaceB else if p = 104 then some xdigitB else none

theorem or32 (p : Int) (h0 : 0 ≤ p) (h1 : p ≤ 1114111) : bits .or .i64 p 32 = ((p.toNat ||| 32 : Nat) : Int) := by
  obtain ⟨n, rfl⟩ := Int.eq_ofNat_of_zero_le h0
  exact i64_or_nat n 32 (by omega) (by omega)
theorem or32_low : ∀ n : Fin 128, (n.val ||| 32 = 100 ↔ (n.val = 100 ∨ n.val = 68)) ∧ (n.val ||| 32 = 119 ↔ (n.val = 119 ∨ n.val = 87)) ∧ (n.val ||| 32 = 115 ↔ (n.val = 115 ∨ n.val = 83)) ∧ (n.val ||| 32 = 104 ↔ (n.val = 104 ∨ n.val = 72)) := by decide
theorem classOf_or (p : Int) (h0 : 0 ≤ p) (h1 : p ≤ 1114111) : classT p = match classOf p with
    | some n => some { kind := 4, text := n }
    | none => match classOf (bits .or .i64 p 32) with
      | some n => some { kind := 4, text := n, not := true }
      | none => none := by
  rw [or32 p h0 h1]
  obtain ⟨n, rfl⟩ := Int.eq_ofNat_of_zero_le h0
  rw [Int.toNat_natCast]
  have key : ((n ||| 32 = 100 ↔ (n = 100 ∨ n = 68)) ∧ (n ||| 32 = 119 ↔ (n = 119 ∨ n = 87)) ∧ (n ||| 32 = 115 ↔ (n = 115 ∨ n = 83)) ∧ (n ||| 32 = 104 ↔ (n = 104 ∨ n = 72))) := by
    rcases Nat.lt_or_ge n 128 with h | h
    · exact or32_low ⟨n, h⟩
    · have : n ≤ n ||| 32 := Nat.left_le_or
      omega
  obtain ⟨k1, k2, k3, k4⟩ := key
  have c1 : ((n ||| 32 : Nat) : Int) = 100 ↔ (n = 100 ∨ n = 68) := by rw [← k1]; omega
  have c2 : ((n ||| 32 : Nat) : Int) = 119 ↔ (n = 119 ∨ n = 87) := by rw [← k2]; omega
  have c3 : ((n ||| 32 : Nat) : Int) = 115 ↔ (n = 115 ∨ n = 83) := by rw [← k3]; omega
  have c4 : ((n ||| 32 : Nat) : Int) = 104 ↔ (n = 104 ∨ n = 72) := by rw [← k4]; omega
  have d1 : (n : Int) = 100 ↔ n = 100 := by omega
  have d2 : (n : Int) = 119 ↔ n = 119 := by omega
  have d3 : (n : Int) = 115 ↔ n = 115 := by omega
  have d4 : (n : Int) = 104 ↔ n = 104 := by omega
  have d5 : (n : Int) = 68 ↔ n = 68 := by omega
  have d6 : (n : Int) = 87 ↔ n = 87 := by omega
  have d7 : (n : Int) = 83 ↔ n = 83 := by omega
  have d8 : (n : Int) = 72 ↔ n = 72 := by omega
  unfold classT classOf
  simp only [c1, c2, c3, c4, d1, d2, d3, d4, d5, d6, d7, d8]
  by_cases a1 : n = 100
  · simp [a1]
  by_cases a2 : n = 119
  · simp [a2]
  by_cases a3 : n = 115
  · simp [a3]
  by_cases a4 : n = 104
  · simp [a4]
  by_cases a5 : n = 68
  · simp [a5]
  by_cases a6 : n = 87
  · simp [a6]
  by_cases a7 : n = 83
  · simp [a7]
  by_cases a8 : n = 72
  · simp [a8]
  simp [a1, a2, a3, a4, a5, a6, a7, a8]

def classMap : Array MapEntry := #[{ key := .int .i64 100, val := .string ⟨#[100, 105, 103, 105, 116]⟩, born := 0 }, { key := .int .i64 119, val := .string ⟨#[119, 111, 114, 100]⟩, born := 1 }, { key := .int .i64 115, val := .string ⟨#[115, 112, 97, 99, 101]⟩, born := 2 }, { key := .int .i64 104, val := .string ⟨#[120, 100, 105, 103, 105, 116]⟩, born := 3 }]

theorem class_find (k : Int) : ∃ o, Instr.findNow (.int .i64) (.int .i64 k) classMap.toList 0 = some o ∧ (o.map (·.2)).getD (.string ⟨#[]⟩) = .string ((classOf k).getD ⟨#[]⟩) ∧ o.isSome = (classOf k).isSome := by
  unfold classOf classMap
  by_cases h1 : k = 100
  · subst h1; exact ⟨_, rfl, rfl, rfl⟩
  · by_cases h2 : k = 119
    · subst h2; exact ⟨_, rfl, rfl, rfl⟩
    · by_cases h3 : k = 115
      · subst h3; exact ⟨_, rfl, rfl, rfl⟩
      · by_cases h4 : k = 104
        · subst h4; exact ⟨_, rfl, rfl, rfl⟩
        · have e1 : (k == 100) = false := by simpa using h1
          have e2 : (k == 119) = false := by simpa using h2
          have e3 : (k == 115) = false := by simpa using h3
          have e4 : (k == 104) = false := by simpa using h4
          refine ⟨none, ?_, ?_, ?_⟩ <;> simp [Instr.findNow, Instr.sameNow, e1, e2, e3, e4, h1, h2, h3, h4]

theorem zero_string (w : World) : (zeroValue 9).run Tryz.prog w = .ok (.string ⟨#[]⟩) w := by kernel_rfl

set_option maxHeartbeats 1000000 in
set_option maxRecDepth 100000 in
theorem class_calls (p : Int) (w : World) (h0 : 0 ≤ p) (h1 : p ≤ 1114111) :
    Calls Tryz.prog 129 #[.int .i64 p] w fun e w' => e = .returned (.tuple #[tkV ((classT p).getD {}), .bool (classT p).isSome]) ∧ Keeps No w w' := by
  have hmm := @run_makeMap Tryz.prog
  have hu0 : (Instr.mapUpdate 180 (.map (some (w.heap.size + 1))) (.int .i64 100) (.string ⟨#[100, 105, 103, 105, 116]⟩)).run Tryz.prog ((w.alloc tkBox).alloc (.map #[] 0)) = .ok () ((w.alloc tkBox).alloc (.map #[{ key := .int .i64 100, val := .string ⟨#[100, 105, 103, 105, 116]⟩, born := 0 }] 1)) := by
    have h := run_mapUpdate_new (P := Tryz.prog) (E := 9) Tryz.underlying180 Tryz.underlying3 (w.alloc tkBox) #[] 0 100 (.string ⟨#[100, 105, 103, 105, 116]⟩) (by simp [Instr.findNow, Instr.sameNow])
    simpa using h
  have hu1 : (Instr.mapUpdate 180 (.map (some (w.heap.size + 1))) (.int .i64 119) (.string ⟨#[119, 111, 114, 100]⟩)).run Tryz.prog ((w.alloc tkBox).alloc (.map #[{ key := .int .i64 100, val := .string ⟨#[100, 105, 103, 105, 116]⟩, born := 0 }] 1)) = .ok () ((w.alloc tkBox).alloc (.map #[{ key := .int .i64 100, val := .string ⟨#[100, 105, 103, 105, 116]⟩, born := 0 }, { key := .int .i64 119, val := .string ⟨#[119, 111, 114, 100]⟩, born := 1 }] 2)) := by
    have h := run_mapUpdate_new (P := Tryz.prog) (E := 9) Tryz.underlying180 Tryz.underlying3 (w.alloc tkBox) #[{ key := .int .i64 100, val := .string ⟨#[100, 105, 103, 105, 116]⟩, born := 0 }] 1 119 (.string ⟨#[119, 111, 114, 100]⟩) (by simp [Instr.findNow, Instr.sameNow])
    simpa using h
  have hu2 : (Instr.mapUpdate 180 (.map (some (w.heap.size + 1))) (.int .i64 115) (.string ⟨#[115, 112, 97, 99, 101]⟩)).run Tryz.prog ((w.alloc tkBox).alloc (.map #[{ key := .int .i64 100, val := .string ⟨#[100, 105, 103, 105, 116]⟩, born := 0 }, { key := .int .i64 119, val := .string ⟨#[119, 111, 114, 100]⟩, born := 1 }] 2)) = .ok () ((w.alloc tkBox).alloc (.map #[{ key := .int .i64 100, val := .string ⟨#[100, 105, 103, 105, 116]⟩, born := 0 }, { key := .int .i64 119, val := .string ⟨#[119, 111, 114, 100]⟩, born := 1 }, { key := .int .i64 115, val := .string ⟨#[115, 112, 97, 99, 101]⟩, born := 2 }] 3)) := by
    have h := run_mapUpdate_new (P := Tryz.prog) (E := 9) Tryz.underlying180 Tryz.underlying3 (w.alloc tkBox) #[{ key := .int .i64 100, val := .string ⟨#[100, 105, 103, 105, 116]⟩, born := 0 }, { key := .int .i64 119, val := .string ⟨#[119, 111, 114, 100]⟩, born := 1 }] 2 115 (.string ⟨#[115, 112, 97, 99, 101]⟩) (by simp [Instr.findNow, Instr.sameNow])
    simpa using h
  have hu3 : (Instr.mapUpdate 180 (.map (some (w.heap.size + 1))) (.int .i64 104) (.string ⟨#[120, 100, 105, 103, 105, 116]⟩)).run Tryz.prog ((w.alloc tkBox).alloc (.map #[{ key := .int .i64 100, val := .string ⟨#[100, 105, 103, 105, 116]⟩, born := 0 }, { key := .int .i64 119, val := .string ⟨#[119, 111, 114, 100]⟩, born := 1 }, { key := .int .i64 115, val := .string ⟨#[115, 112, 97, 99, 101]⟩, born := 2 }] 3)) = .ok () ((w.alloc tkBox).alloc (.map #[{ key := .int .i64 100, val := .string ⟨#[100, 105, 103, 105, 116]⟩, born := 0 }, { key := .int .i64 119, val := .string ⟨#[119, 111, 114, 100]⟩, born := 1 }, { key := .int .i64 115, val := .string ⟨#[115, 112, 97, 99, 101]⟩, born := 2 }, { key := .int .i64 104, val := .string ⟨#[120, 100, 105, 103, 105, 116]⟩, born := 3 }] 4)) := by
    have h := run_mapUpdate_new (P := Tryz.prog) (E := 9) Tryz.underlying180 Tryz.underlying3 (w.alloc tkBox) #[{ key := .int .i64 100, val := .string ⟨#[100, 105, 103, 105, 116]⟩, born := 0 }, { key := .int .i64 119, val := .string ⟨#[119, 111, 114, 100]⟩, born := 1 }, { key := .int .i64 115, val := .string ⟨#[115, 112, 97, 99, 101]⟩, born := 2 }] 3 104 (.string ⟨#[120, 100, 105, 103, 105, 116]⟩) (by simp [Instr.findNow, Instr.sameNow])
    simpa using h
  have hl : ∀ k : Int, (Instr.lookup 180 (.map (some (w.heap.size + 1))) (.int .i64 k) true).run Tryz.prog ((w.alloc tkBox).alloc (.map #[{ key := .int .i64 100, val := .string ⟨#[100, 105, 103, 105, 116]⟩, born := 0 }, { key := .int .i64 119, val := .string ⟨#[119, 111, 114, 100]⟩, born := 1 }, { key := .int .i64 115, val := .string ⟨#[115, 112, 97, 99, 101]⟩, born := 2 }, { key := .int .i64 104, val := .string ⟨#[120, 100, 105, 103, 105, 116]⟩, born := 3 }] 4)) = .ok (.tuple #[.string ((classOf k).getD ⟨#[]⟩), .bool (classOf k).isSome]) ((w.alloc tkBox).alloc (.map #[{ key := .int .i64 100, val := .string ⟨#[100, 105, 103, 105, 116]⟩, born := 0 }, { key := .int .i64 119, val := .string ⟨#[119, 111, 114, 100]⟩, born := 1 }, { key := .int .i64 115, val := .string ⟨#[115, 112, 97, 99, 101]⟩, born := 2 }, { key := .int .i64 104, val := .string ⟨#[120, 100, 105, 103, 105, 116]⟩, born := 3 }] 4)) := fun k => by
    obtain ⟨o, h1, h2, h3⟩ := class_find k
    have h := run_lookup_now (P := Tryz.prog) Tryz.underlying180 Tryz.underlying3 zero_string ((w.alloc tkBox).alloc (.map #[{ key := .int .i64 100, val := .string ⟨#[100, 105, 103, 105, 116]⟩, born := 0 }, { key := .int .i64 119, val := .string ⟨#[119, 111, 114, 100]⟩, born := 1 }, { key := .int .i64 115, val := .string ⟨#[115, 112, 97, 99, 101]⟩, born := 2 }, { key := .int .i64 104, val := .string ⟨#[120, 100, 105, 103, 105, 116]⟩, born := 3 }] 4)) (w.heap.size + 1) _ _ (show _ = some (Obj.map classMap 4) from by have := alloc_heap_at (w.alloc tkBox) (Obj.map classMap 4); simpa [classMap] using this) k o h1
    rw [h2, h3] at h
    exact h
  have hC := hid (classOf_or p h0 h1)
  clear h1
  go_enter Tryz.func129, Tryz.ntmps129
  go_wp2_with fail
  · have h : (classOf p).isSome = true := by assumption
    obtain ⟨n, hn⟩ := Option.isSome_iff_exists.1 h
    have e := hC.out
    rw [hn] at e
    refine bodyPost_ret (v := .tuple #[tkV ((classT p).getD {}), .bool (classT p).isSome]) (by simp [results, Tryz.results129, go_sem, tkV, e, hn, *]) rfl ⟨rfl, ?_⟩
    (repeat' (first | with_reducible exact Keeps.refl _ _ | with_reducible refine Keeps.set ?_ (by simp <;> omega) _ | with_reducible refine Keeps.alloc ?_ _ | with_reducible refine Keeps.drewN ?_ _ | with_reducible refine Keeps.drew ?_))
  · have h : (classOf (bits .or .i64 p 32)).isSome = true := by assumption
    have h2 : (classOf p).isSome = false := by assumption
    obtain ⟨n, hn⟩ := Option.isSome_iff_exists.1 h
    have e := hC.out
    rw [Option.isSome_eq_false_iff, Option.isNone_iff_eq_none] at h2
    rw [h2, hn] at e
    refine bodyPost_ret (v := .tuple #[tkV ((classT p).getD {}), .bool (classT p).isSome]) (by simp [results, Tryz.results129, go_sem, tkV, e, hn, *]) rfl ⟨rfl, ?_⟩
    (repeat' (first | with_reducible exact Keeps.refl _ _ | with_reducible refine Keeps.set ?_ (by simp <;> omega) _ | with_reducible refine Keeps.alloc ?_ _ | with_reducible refine Keeps.drewN ?_ _ | with_reducible refine Keeps.drew ?_))
  · have h : (classOf (bits .or .i64 p 32)).isSome = false := by assumption
    have h2 : (classOf p).isSome = false := by assumption
    have e := hC.out
    rw [Option.isSome_eq_false_iff, Option.isNone_iff_eq_none] at h2 h
    rw [h2, h] at e
    refine bodyPost_ret (v := .tuple #[tkV ((classT p).getD {}), .bool (classT p).isSome]) (by simp [results, Tryz.results129, go_sem, tkV, e, *]) rfl ⟨rfl, ?_⟩
    (repeat' (first | with_reducible exact Keeps.refl _ _ | with_reducible refine Keeps.set ?_ (by simp <;> omega) _ | with_reducible refine Keeps.alloc ?_ _ | with_reducible refine Keeps.drewN ?_ _ | with_reducible refine Keeps.drew ?_))

end Th
end Go.Proofs
