/- The law mementolaw16.VolumeStates returns true for every input and leaves its arguments as they were; no condition beyond the row's own. -/
import Derived.Test.YtlmkbgolmcngiaaRows
import Derived.Test.YtlmkbgolmcngiaaM5
import Derived.JoinedOf
namespace Go.Proofs.Ytlmkbgolmcngiaa
open Go.ChangeShapes Go.WideShapes Go.ChangeAt Go.RowKit Go.Eng
set_option linter.unusedVariables false

theorem eng_own : ownKnob Try.prog.godebug = none := by kernel_rfl
theorem eng_laid : laidOutB Try.prog = true := by kernel_rfl
theorem eng_read22 : Try.prog.readableRec 22 = true := by kernel_rfl
theorem eng_read5 : Try.prog.readableRec 5 = true := by kernel_rfl
theorem eng_size22 : 22 < Try.prog.types.size := of_decide_eq_true (by kernel_rfl)
theorem eng_size5 : 5 < Try.prog.types.size := of_decide_eq_true (by kernel_rfl)
theorem eng_cells5 : Try.prog.cellsOf 5 = 1 := by kernel_rfl
theorem eng_bytes5 : Try.prog.bytesOf 5 = 1 := by kernel_rfl

set_option maxRecDepth 100000 in
theorem states_contract (H : Type) (enc : TypeId × Value → H) (W : World) (base : Nat) (args : Array Value) (ds gs : List (DataW H)) (before : List MemPlace)
    (hval : ∀ (j : Nat) t v, Try.f4.params[j]? = some t → args[j]? = some v → Value.okWide Try.prog W .any base t v)
    (hW : DataW.Whole enc Try.prog Try.f4.params.toList Rows.volumeStatesSpec.vars false W args.toList ds gs before)
    (hsz : (DataW.weightsEach Try.prog (Try.f4.params.toList ++ Rows.volumeStatesSpec.plain.varTypes Try.prog) (ds ++ gs)).all (· ≤ reachBytes) = true) :
    Calls Try.prog 4 args W fun e W' => ∃ v, e = .returned v ∧ Rows.volumeStatesSpec.post enc Try.prog Try.f4 false true false false W args v W' := by
  have hW' := hW
  obtain ⟨p, q, hA0, hV, rfl, _, _⟩ := hW
  have hA : DataW.TrodAll enc Try.prog W 0 (fun _ => true) true Try.f4.params.toList args.toList ds p := hA0
  rw [Try.params4] at hA hval hsz
  obtain ⟨v0, vs0, d0, ds0, p0, q0, hargs, rfl, rfl, h0, r0⟩ := trodAll_cons hA
  obtain ⟨v1, vs1, d1, ds1, p1, q1, rfl, rfl, rfl, h1, r1⟩ := trodAll_cons r0
  obtain ⟨rfl, rfl, rfl⟩ := trodAll_nil r1
  obtain rfl : args = #[v0, v1] := by cases args; simp_all
  obtain ⟨rfl, rfl⟩ := trodVars_none hV
  have hlt : ∀ x ∈ p0 ++ (p1 ++ []), x.block < W.heap.size := fun x hx => by simpa using hW'.lt x (by simpa using hx)
  obtain ⟨l, har⟩ := ar_bytes (σ := fun _ _ => none) Try.underlying22 Try.underlying5 eng_cells5 (hval 0 22 v0 rfl rfl) h0 fun elems spare hd => by
    have := sized_slice hsz (j := 0) (t := 22) (by simp) (elems := elems) (spare := spare) (by simp [hd]) Try.underlying22
    rwa [eng_bytes5, Nat.mul_one] at this
  obtain ⟨l1, har1⟩ := ar_bytes (σ := fun _ _ => none) Try.underlying22 Try.underlying5 eng_cells5 (hval 1 22 v1 rfl rfl) h1 fun elems spare hd => by
    have := sized_slice hsz (j := 1) (t := 22) (by simp) (elems := elems) (spare := spare) (by simp [hd]) Try.underlying22
    rwa [eng_bytes5, Nat.mul_one] at this
  refine ((c_law_VolumeStates l l1).calls W [v0, v1] rfl fun i a v hi hv => ?_).mono fun e W' ⟨v, σ', S', he, hb, hr⟩ => ?_
  · match i, hi, hv with
    | 0, hi, hv => simp at hi hv; subst hi; subst hv; exact har
    | 1, hi, hv => simp at hi hv; subst hi; subst hv; exact har1
    | i + 2, hi, hv => simp at hi
  · subst he
    have hvt := hr.bool
    subst hvt
    have hback := Below.trodAll eng_laid hb (ts := [22, 22]) (fun t ht => by
      simp at ht
      subst ht
      exact ⟨eng_read22, eng_size22⟩) hA hlt
    exact ⟨_, rfl, ⟨_, _, _, [], _, [], hW', trodAll_mk1 (shut_bool Try.underlying4 _), hback, rfl, hb.frame _, fun h => by cases h⟩⟩

set_option maxRecDepth 100000 in
theorem states_lifted (os : Os) (started : os.Started) (H : Type) (enc : TypeId × Value → H) :
    ReturnsInHanded {} Try.checked os 4 .any (Rows.volumeStatesSpec.pre6 enc Try.prog Try.f4 Rows.volumeStatesRow.domain false) (Rows.volumeStatesSpec.post enc Try.prog Try.f4 false true false false) := by
  refine returnsInHanded_of_change_sized (C := Try.checked) eng_own started (by kernel_rfl) Try.func4
    (ChangeSpec.witness6 (enc := enc) (C := Try.checked) false ⟨#[], #[.slice none 0 0, .slice none 0 0], []⟩ 8 (by kernel_rfl) (by kernel_rfl) (by kernel_rfl) (by kernel_rfl)) ?_
  intro W base args ds gs before hval hW _ hsz _
  exact states_contract H enc W base args ds gs before hval hW hsz

theorem states_holds : Rows.VolumeStatesSaid :=
  OpenClaim.holds_of_wide 4 Try.f4 rfl rfl rfl rfl rfl rfl rfl ⟨rfl, rfl, rfl, rfl, rfl⟩ rfl rfl rfl rfl rfl (by kernel_rfl) Try.func4 (by kernel_rfl)
    (of_decide_eq_true (by kernel_rfl)) (by unfold Func.isWrapper; first | (rw [if_pos (by decide +kernel)]; kernel_rfl) | (rw [if_neg (by decide +kernel)]; exact ⟨rfl, rfl⟩))
    (fun os started H enc _ => states_lifted os started H enc)

#print axioms states_holds
end Go.Proofs.Ytlmkbgolmcngiaa
