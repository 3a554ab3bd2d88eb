/- The law ParseNumbers: for every pattern and every text it answers true, and both read as before. -/
import Derived.Test.YthjjfgpainleaaaGreatGO
import Derived.Test.YthjjfgpainleaaaGreatRows
import Derived.ProofKit

set_option linter.unusedSimpArgs false
set_option linter.unusedVariables false
set_option linter.all false

namespace Go.Proofs.YthjjfgpainleaaaGreat
open Go.ChangeShapes Go.WideShapes Go.ChangeAt Go.RowKit Go.Proofs.Th
open Go.ChangeMaps (open_string)

theorem Tryz.ownN : ownKnob Tryz.prog.godebug = none := by kernel_rfl
theorem Tryz.laidOutN : laidOutB Tryz.prog = true := by kernel_rfl

set_option maxRecDepth 100000 in
theorem numbers_lifted (os : Os) (started : os.Started) (H : Type) (enc : TypeId × Value → H) :
    ReturnsInHanded {} Tryz.checked os 5 .any (Rows.parseNumbersSpec.pre6 enc Tryz.prog Tryz.f5 Rows.parseNumbersRow.domain false) (Rows.parseNumbersSpec.post enc Tryz.prog Tryz.f5 false true false false) := by
  refine returnsInHanded_of_change (C := Tryz.checked) Tryz.ownN started (by kernel_rfl) Tryz.func5
    (ChangeSpec.witness6 (enc := enc) (C := Tryz.checked) false ⟨#[], #[patV 0 (.slice none 0 0) (.slice none 0 0) 0 0 0 0 false 0 (.slice none 0 0), .string ByteArray.empty], []⟩ 8 (by kernel_rfl) (by kernel_rfl) (by kernel_rfl) (by kernel_rfl)) ?_
  intro W base args ds gs before hval0 hW hcnd _
  have hval : ∀ (j : Nat) t v, Tryz.f5.params[j]? = some t → args[j]? = some v → Value.okWide Tryz.prog W .any base t v := hval0
  have hW' := hW
  obtain ⟨p, q, hA0, hV, rfl, hfz, hnd⟩ := hW
  have hA : DataW.TrodAll enc Tryz.prog W 0 (fun _ => true) true Tryz.f5.params.toList args.toList ds p := hA0
  rw [Tryz.params5] at hA hval
  obtain ⟨v0, v1, d0, d1, p0, p1, rfl, rfl, rfl, h0, h1⟩ := trodAll_two hA
  obtain ⟨rfl, rfl⟩ := trodVars_none hV
  have h0k := h0
  obtain ⟨k, n, le, mo, wy, g, f, sA, kA, A, sn, sc, kn, kc, c, l, rfl, hrow, hll⟩ := open_pattern (hval 0 30 v0 rfl rfl) h0
  obtain ⟨s, rfl, rfl, rfl, hs⟩ := open_string Tryz.underlying9 (hval 1 9 v1 rfl rfl) h1
  clear hA0 hval0
  simp only [List.append_nil] at hW'
  have hlt : ∀ x ∈ p0, x.block < W.heap.size := fun x hx => by simpa using hW'.lt x (by simpa using hx)
  refine (numbers_walk hrow (Nat.le_refl _) (by unfold maxLen at hll; omega) k n le mo wy f g s).mono fun e W' ⟨he, hw⟩ => ?_
  subst he
  have hB : Below W.heap.size W W' := ⟨hw.os, hw.tape, hw.output, hw.size, fun k hk => hw.block k hk id⟩
  refine ⟨_, rfl, _, _, _, [], p0 ++ [], [], hW', trodAll_mk1 (shut_bool Tryz.underlying4 true), ?_, rfl, hB.frame _, fun h => by cases h⟩
  exact trodAll_mk2 (Below.trod Tryz.laidOutN (by kernel_rfl) (of_decide_eq_true (by kernel_rfl)) h0k hB hlt) (Below.trod Tryz.laidOutN (by kernel_rfl) (of_decide_eq_true (by kernel_rfl)) h1 hB (fun x hx => by cases hx))

/-- ParseNumbers, as the row says it. -/
theorem numbers_holds : Rows.ParseNumbersSaid :=
  OpenClaim.holds_of_wide 5 Tryz.f5 rfl rfl rfl rfl rfl rfl rfl ⟨rfl, rfl, rfl, rfl, rfl⟩ rfl rfl rfl rfl rfl (by kernel_rfl) Tryz.func5 (by kernel_rfl)
    (of_decide_eq_true (by kernel_rfl)) (by unfold Func.isWrapper; rw [if_neg (of_decide_eq_false (by kernel_rfl))]; exact ⟨rfl, rfl⟩)
    (fun os started H enc _ => numbers_lifted os started H enc)

end Go.Proofs.YthjjfgpainleaaaGreat
