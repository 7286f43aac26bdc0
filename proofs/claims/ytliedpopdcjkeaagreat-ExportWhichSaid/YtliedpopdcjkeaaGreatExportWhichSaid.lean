/- The law mementolaw23.ExportWhich returns true for every input and leaves its arguments as they were; no condition beyond the row's own. -/
import Derived.Test.YtliedpopdcjkeaaGreatRows
import Derived.Test.YtliedpopdcjkeaaGreatM6
import Derived.JoinedOf
namespace Go.Proofs.YtliedpopdcjkeaaGreat
open Go.ChangeShapes Go.WideShapes Go.ChangeAt Go.RowKit Go.Eng
set_option linter.unusedVariables false

theorem eng_own : ownKnob Tryz.prog.godebug = none := by kernel_rfl
theorem eng_laid : laidOutB Tryz.prog = true := by kernel_rfl
theorem eng_read5 : Tryz.prog.readableRec 5 = true := by kernel_rfl
theorem eng_size5 : 5 < Tryz.prog.types.size := of_decide_eq_true (by kernel_rfl)
theorem eng_read22 : Tryz.prog.readableRec 22 = true := by kernel_rfl
theorem eng_size22 : 22 < Tryz.prog.types.size := of_decide_eq_true (by kernel_rfl)
theorem eng_cells5 : Tryz.prog.cellsOf 5 = 1 := by kernel_rfl
theorem eng_bytes5 : Tryz.prog.bytesOf 5 = 1 := by kernel_rfl

set_option maxRecDepth 100000 in
theorem exportWhich_contract (H : Type) (enc : TypeId × Value → H) (W : World) (base : Nat) (args : Array Value) (ds gs : List (DataW H)) (before : List MemPlace)
    (hval : ∀ (j : Nat) t v, Tryz.f3.params[j]? = some t → args[j]? = some v → Value.okWide Tryz.prog W .any base t v)
    (hW : DataW.Whole enc Tryz.prog Tryz.f3.params.toList Rows.exportWhichSpec.vars false W args.toList ds gs before)
    (hsz : (DataW.weightsEach Tryz.prog (Tryz.f3.params.toList ++ Rows.exportWhichSpec.plain.varTypes Tryz.prog) (ds ++ gs)).all (· ≤ reachBytes) = true) :
    Calls Tryz.prog 3 args W fun e W' => ∃ v, e = .returned v ∧ Rows.exportWhichSpec.post enc Tryz.prog Tryz.f3 false true false false W args v W' := by
  have hW' := hW
  obtain ⟨p, q, hA0, hV, rfl, _, _⟩ := hW
  have hA : DataW.TrodAll enc Tryz.prog W 0 (fun _ => true) true Tryz.f3.params.toList args.toList ds p := hA0
  rw [Tryz.params3] at hA hval hsz
  obtain ⟨v0, vs0, d0, ds0, p0, q0, hargs, rfl, rfl, h0, r0⟩ := trodAll_cons hA
  obtain ⟨v1, vs1, d1, ds1, p1, q1, rfl, rfl, rfl, h1, r1⟩ := trodAll_cons r0
  obtain ⟨v2, vs2, d2, ds2, p2, q2, rfl, rfl, rfl, h2, r2⟩ := trodAll_cons r1
  obtain ⟨rfl, rfl, rfl⟩ := trodAll_nil r2
  obtain rfl : args = #[v0, v1, v2] := by cases args; simp_all
  obtain ⟨rfl, rfl⟩ := trodVars_none hV
  have hlt : ∀ x ∈ p0 ++ (p1 ++ (p2 ++ [])), x.block < W.heap.size := fun x hx => by simpa using hW'.lt x (by simpa using hx)
  obtain ⟨l0, har0⟩ := ar_bytes (σ := fun _ _ => none) Tryz.underlying22 Tryz.underlying5 eng_cells5 (hval 0 22 v0 rfl rfl) h0 fun elems spare hd => by
    have := sized_slice hsz (j := 0) (t := 22) (by simp) (elems := elems) (spare := spare) (by simp [hd]) Tryz.underlying22
    rwa [eng_bytes5, Nat.mul_one] at this
  obtain ⟨l1, har1⟩ := ar_bytes (σ := fun _ _ => none) Tryz.underlying22 Tryz.underlying5 eng_cells5 (hval 1 22 v1 rfl rfl) h1 fun elems spare hd => by
    have := sized_slice hsz (j := 1) (t := 22) (by simp) (elems := elems) (spare := spare) (by simp [hd]) Tryz.underlying22
    rwa [eng_bytes5, Nat.mul_one] at this
  obtain ⟨a2, rfl, rfl, rfl, w2⟩ := open_int Tryz.underlying5 (hval 2 5 v2 rfl rfl) h2
  refine ((c_law_ExportWhich l0 l1 a2).calls W [v0, v1, .int .u8 a2] rfl fun i a v hi hv => ?_).mono fun e W' ⟨v, σ', S', he, hb, hr⟩ => ?_
  · match i, hi, hv with
    | 0, hi, hv => simp at hi hv; subst hi; subst hv; exact har0
    | 1, hi, hv => simp at hi hv; subst hi; subst hv; exact har1
    | 2, hi, hv => simp at hi hv; subst hi; subst hv; exact ar_int w2
    | i + 3, hi, hv => simp at hi
  · subst he
    have hvt := hr.bool
    subst hvt
    have hback := Below.trodAll eng_laid hb (ts := [22, 22, 5]) (fun t ht => by
      simp at ht
      rcases ht with rfl | rfl
      · exact ⟨eng_read22, eng_size22⟩
      · exact ⟨eng_read5, eng_size5⟩) hA hlt
    exact ⟨_, rfl, ⟨_, _, _, [], _, [], hW', trodAll_mk1 (shut_bool Tryz.underlying4 _), hback, rfl, hb.frame _, fun h => by cases h⟩⟩

set_option maxRecDepth 100000 in
theorem exportWhich_lifted (os : Os) (started : os.Started) (H : Type) (enc : TypeId × Value → H) :
    ReturnsInHanded {} Tryz.checked os 3 .any (Rows.exportWhichSpec.pre6 enc Tryz.prog Tryz.f3 Rows.exportWhichRow.domain false) (Rows.exportWhichSpec.post enc Tryz.prog Tryz.f3 false true false false) := by
  refine returnsInHanded_of_change_sized (C := Tryz.checked) eng_own started (by kernel_rfl) Tryz.func3
    (ChangeSpec.witness6 (enc := enc) (C := Tryz.checked) false ⟨#[], #[.slice none 0 0, .slice none 0 0, .int .u8 0], []⟩ 8 (by kernel_rfl) (by kernel_rfl) (by kernel_rfl) (by kernel_rfl)) ?_
  intro W base args ds gs before hval hW _ hsz _
  exact exportWhich_contract H enc W base args ds gs before hval hW hsz

theorem exportWhich_holds : Rows.ExportWhichSaid :=
  OpenClaim.holds_of_wide 3 Tryz.f3 rfl rfl rfl rfl rfl rfl rfl ⟨rfl, rfl, rfl, rfl, rfl⟩ rfl rfl rfl rfl rfl (by kernel_rfl) Tryz.func3 (by kernel_rfl)
    (of_decide_eq_true (by kernel_rfl)) (by unfold Func.isWrapper; first | (rw [if_pos (by decide +kernel)]; kernel_rfl) | (rw [if_neg (by decide +kernel)]; exact ⟨rfl, rfl⟩))
    (fun os started H enc _ => exportWhich_lifted os started H enc)

#print axioms exportWhich_holds
end Go.Proofs.YtliedpopdcjkeaaGreat
