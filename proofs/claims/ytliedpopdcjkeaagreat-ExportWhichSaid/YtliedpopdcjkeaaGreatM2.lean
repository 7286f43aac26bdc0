/- The law mementolaw23.ExportWhich returns true for every input and leaves its arguments as they were; no condition beyond the row's own. Part 2. -/
import Derived.Carry
import Derived.Laws.BytesArg
import Derived.Laws.MakeOwn
import Derived.Laws.Small
import Derived.Laws.Strings
import Derived.MapKept
import Derived.OpenShut
import Derived.ProofKit
import Derived.SizedLaws
import Derived.Sort.EveryDepth
import Derived.Sort.Grow
import Derived.Sort.Row
import Derived.Test.YtliedpopdcjkeaaGreatProg
import Derived.WalkKit
import Derived.Test.YtliedpopdcjkeaaGreatM1
set_option linter.unusedVariables false
set_option linter.unusedSimpArgs false
namespace Go.Eng

/-! ### Filling -/
theorem foldl_set (off : Nat) : ∀ (l : List Value) (k : Nat) (cs : Array Value), off + k + l.length ≤ cs.size →
    (l.zipIdx k).foldl (fun cs p => cs.setIfInBounds (off + p.2) p.1) cs = (cs.toList.take (off + k) ++ l ++ cs.toList.drop (off + k + l.length)).toArray
  | [], k, cs, h => by simp
  | v :: l, k, cs, h => by
    simp only [List.length_cons] at h
    simp only [List.zipIdx_cons, List.foldl_cons]
    rw [foldl_set off l (k + 1) _ (by simp; omega)]
    apply Array.ext'
    simp only [Array.toList_setIfInBounds]
    apply List.ext_getElem?
    intro i
    have e1 : off + (k + 1) + l.length = off + (k + 1) + l.length := rfl
    rw [splice_get _ _ _ _ (by simp; omega)]
    have := splice_get cs.toList (v :: l) (off + k) i (by simp; omega)
    rw [show off + k + (v :: l).length = off + k + (v :: l).length from rfl] at this
    rw [this]
    simp only [List.length_cons]
    by_cases h1 : i < off + k
    · rw [if_pos (by omega), if_pos h1, List.getElem?_set_ne (by omega)]
    · rw [if_neg h1]
      by_cases h2 : i = off + k
      · subst h2
        rw [if_pos (by omega), if_pos (by omega), List.getElem?_set_self (by simp; omega)]
        simp
      · by_cases h3 : i < off + k + (l.length + 1)
        · rw [if_neg (by omega), if_pos (by omega), if_pos h3, show i - (off + k) = (i - (off + (k + 1))) + 1 by omega]
          simp
        · rw [if_neg (by omega), if_neg (by omega), if_neg h3, List.getElem?_set_ne (by omega)]

theorem fill_step {place : Nat → Option (Nat × Nat)} {cells : Array Value} {i o s : Nat} {v : Value} {rest : List (Nat × Value)} (hp : place i = some (o, s)) (hs : v.cells.size = s) (hle : o + s ≤ cells.size) :
    Instr.fill place cells ((i, v) :: rest) = Instr.fill place (cells.toList.take o ++ v.cells.toList ++ cells.toList.drop (o + s)).toArray rest := by
  simp only [Instr.fill, hp]
  rw [if_neg (by simp [hs]; omega)]
  congr 1
  have := foldl_set o v.cells.toList 0 cells (by simp; omega)
  simp only [Nat.add_zero, Array.length_toList, hs] at this
  rw [← this, ← Array.foldl_toList, Array.toList_zipIdx]

def fillA (pl : List (Nat × Nat)) : List AV → List (Nat × AV) → Option (List AV)
  | zs, [] => some zs
  | zs, (i, a) :: r => match nthL pl i with
    | none => none
    | some (o, s) => match cellsA a with
      | none => none
      | some ys => bif Nat.beq ys.length s then (match setO zs o ys with
        | none => none
        | some zs' => fillA pl zs' r) else none

theorem fillA_spec {w : World} {σ : Sg} {S : Nat → Prop} {pl : List (Nat × Nat)} {place : Nat → Option (Nat × Nat)} (hpl : ∀ i p, nthL pl i = some p → place i = some p) : ∀ (ps : List (Nat × AV)) (vs : List Value) (zs cs : List AV) (cells : Array Value),
    fillA pl zs ps = some cs → vs.length = ps.length → (∀ (i : Nat) (p : Nat × AV) (v : Value), ps[i]? = some p → vs[i]? = some v → AR w σ S p.2 v) →
    cells.size = zs.length → (∀ (i : Nat) (z : AV) (v : Value), zs[i]? = some z → cells[i]? = some v → AR w σ S z v) →
    ∃ cells', Instr.fill place cells ((ps.map (·.1)).zip vs) = some cells' ∧ cells'.size = cs.length ∧ (∀ (i : Nat) (z : AV) (v : Value), cs[i]? = some z → cells'[i]? = some v → AR w σ S z v) ∧
      ∀ q, (∀ p ∈ ps, p.2.occ q = false) → AV.occL q zs = false → AV.occL q cs = false
  | [], vs, zs, cs, cells, h, hl, hv, hz, hc => by
    simp only [fillA, Option.some.injEq] at h
    subst h
    exact ⟨cells, by simp [Instr.fill], hz, hc, fun q _ h => h⟩
  | (i, a) :: ps, [], zs, cs, cells, h, hl, hv, hz, hc => by simp at hl
  | (i, a) :: ps, v :: vs, zs, cs, cells, h, hl, hv, hz, hc => by
    simp only [fillA] at h
    cases hp : nthL pl i with
    | none => simp [hp] at h
    | some p =>
      obtain ⟨o, s⟩ := p
      cases hca : cellsA a with
      | none => simp [hp, hca] at h
      | some ys =>
        simp only [hp, hca] at h
        cases hb : Nat.beq ys.length s with
        | false => rw [hb] at h; cases h
        | true =>
          rw [hb, cond_true] at h
          have hys := Nat.eq_of_beq_eq_true hb
          subst hys
          cases hso : setO zs o ys with
          | none => simp [hso] at h
          | some zs' =>
            simp only [hso] at h
            have hav := hv 0 (i, a) v (by simp) (by simp)
            obtain ⟨g1, g2, g3, g4⟩ := cellsA_spec hav hca
            obtain ⟨k1, k2⟩ := setO_spec hso
            have hcz : v.cells.size = ys.length := by simpa using g1
            have hst := fill_step (cells := cells) (rest := (ps.map (·.1)).zip vs) (hpl i _ hp) hcz (by omega)
            obtain ⟨cells', r1, r2, r3, r4⟩ := fillA_spec hpl ps vs zs' cs (cells.toList.take o ++ v.cells.toList ++ cells.toList.drop (o + ys.length)).toArray h (by simpa using hl) (fun j p u hj hu => hv (j + 1) p u (by simpa using hj) (by simpa using hu)) (by rw [k2]; simp; omega) (fun j z u hj hu => by
              rw [k2, splice_get _ _ _ _ k1] at hj
              rw [List.getElem?_toArray] at hu
              have hsp := splice_get cells.toList v.cells.toList o j (by simp; omega)
              rw [Array.length_toList, hcz] at hsp
              rw [hsp] at hu
              by_cases h1 : j < o
              · rw [if_pos h1] at hj hu; exact hc j z u hj (by simpa using hu)
              · rw [if_neg h1] at hj hu
                by_cases h2 : j < o + ys.length
                · rw [if_pos h2] at hj hu; exact g3 _ z u hj hu
                · rw [if_neg h2] at hj hu; exact hc j z u hj (by simpa using hu))
            refine ⟨cells', ?_, r2, r3, fun q hq hz => r4 q (fun p hp => hq p (List.mem_cons_of_mem _ hp)) (occL_setO hso hz (g4 q (hq (i, a) (List.mem_cons_self ..))))⟩
            simp only [List.map_cons, List.zip_cons_cons]
            rw [hst]
            exact r1

def sndL : List (Nat × Operand) → List Operand
  | [] => []
  | p :: l => p.2 :: sndL l
def zipN : List (Nat × Operand) → List AV → List (Nat × AV)
  | p :: l, a :: m => (p.1, a) :: zipN l m
  | _, _ => []

theorem zipN_spec : ∀ {ps : List (Nat × Operand)} {avs : List AV}, (sndL ps).length = avs.length → (zipN ps avs).length = ps.length ∧ (zipN ps avs).map (·.1) = ps.map (·.1) ∧ ∀ (i : Nat) (p : Nat × AV), (zipN ps avs)[i]? = some p → ∃ x, ps[i]? = some (p.1, x) ∧ avs[i]? = some p.2
  | [], avs, h => by simp [zipN]
  | p :: l, [], h => by simp [sndL] at h
  | p :: l, a :: m, h => by
    obtain ⟨h1, h2, h3⟩ := zipN_spec (ps := l) (avs := m) (by simpa [sndL] using h)
    refine ⟨by simp [zipN, h1], by simp [zipN, h2], fun i q hq => ?_⟩
    cases i with
    | zero => simp [zipN] at hq; subst hq; exact ⟨p.2, by simp, by simp⟩
    | succ i => simpa [zipN] using h3 i q (by simpa [zipN] using hq)

theorem sndL_eq (ps : List (Nat × Operand)) : sndL ps = ps.map (·.2) := by induction ps <;> simp_all [sndL]

theorem zip_map_fst {ps : List (Nat × Operand)} (f : Operand → Value) : (ps.map (·.1)).zip (ps.map fun p => f p.2) = ps.map fun p => (p.1, f p.2) := by
  induction ps <;> simp_all

def allPos : List (Nat × Nat) → Bool
  | [] => true
  | p :: l => Nat.blt 0 p.2 && allPos l

theorem allPos_spec {l : List (Nat × Nat)} (h : allPos l = true) : ∀ p ∈ l, 0 < p.2 := by
  induction l with
  | nil => intro p hp; cases hp
  | cons q l ih =>
    simp only [allPos, Bool.and_eq_true] at h
    intro p hp
    rcases List.mem_cons.1 hp with rfl | hp
    · simpa using h.1
    · exact ih h.2 p hp

theorem run_places {P : Program} (w : World) : ∀ (fs : List Field), (∀ f ∈ fs, 0 < P.cellsOf f.type) → (fs.mapM fun f => do pure (f.offset, ← sizeOf f.type) : Sem (List (Nat × Nat))).run P w = .ok (fs.map fun f => (f.offset, P.cellsOf f.type)) w
  | [], _ => by simp
  | f :: fs, h => by
    have h1 := h f (by simp)
    have hi : ∃ i, P.info? f.type = some i := by
      unfold Program.cellsOf at h1
      cases hi : P.info? f.type with
      | none => simp [hi] at h1
      | some i => exact ⟨i, rfl⟩
    obtain ⟨i, hi⟩ := hi
    have h2 : P.cellsOf f.type = i.size := by simp [Program.cellsOf, hi]
    have ih := run_places w fs fun f hf => h f (List.mem_cons_of_mem _ hf)
    rw [List.mapM_cons]
    simp only [Sem.run_bind, run_size hi, Result.andThen_ok, Sem.run_pure, ih, List.map_cons, h2]

section
variable {P : Program} {E : Env} {N : Nat} {tm : List (Nat × AV)} {hp : List (Nat × Option Blk)} {us : List Nat} {d : Nat} {ty : TypeId} {pos : String} {af : Array Edge} {g : Option (Nat × Bool)} {t : TypeId} {x y : Operand}

theorem ZeroC.run {zs : List AV} (h : ZeroC P t zs) (w : World) : ∃ z, (zeroValue t).run P w = .ok z w ∧ constL z.cells.toList = some zs := by
  have hzz := h.eq
  unfold zeroA at hzz
  cases hi : P.info? t with
  | none => simp [hi] at hzz
  | some i =>
    cases hz0 : i.zero with
    | none => simp [hi, hz0] at hzz
    | some z => simp only [hi, hz0] at hzz; exact ⟨z, by simp [zeroValue, typeInfo, hi, hz0], hzz⟩

theorem s_build {pl : List (Nat × Nat)} {zs cs avs : List AV} {ps : List (Nat × Operand)} [hs : StructC P t pl] [hz : ZeroC P t zs] (hx : EvArgs tm (sndL ps) avs) (hpos : allPos pl = true) (hf : fillA pl zs (zipN ps avs) = some cs) (hN : Nat.blt d N = true) :
    Step P E N ⟨some d, .build t ps.toArray, ty, pos, af, g⟩ tm hp us ⟨needL (zipO (sndL ps) avs), [], [], some (d, .agg cs), []⟩ :=
  step_val (zipO (sndL ps) avs) [] rfl hN hx.evl.1 trivial fun σ τ h us a w hv => by
    obtain ⟨z, hzr, hzc⟩ := hz.run w
    obtain ⟨c1, c2, c3⟩ := constL_spec hzc
    obtain ⟨fs, hu, hpl⟩ := hs.out
    obtain ⟨z1, z2, z3⟩ := zipN_spec (ps := ps) (avs := avs) hx.evl.2
    have hplace : ∀ i p, nthL pl i = some p → (pl.toArray)[i]? = some p := fun i p h => by rw [nthL_eq] at h; simpa using h
    have hpr := run_places (P := P) w fs.toList (fun f hf' => by
      have := allPos_spec hpos (f.offset, P.cellsOf f.type) (by rw [hpl]; exact List.mem_map_of_mem hf')
      exact this)
    have hvals : ∀ (i : Nat) (p : Nat × AV) (v : Value), (zipN ps avs)[i]? = some p → (ps.map fun p => a.eval p.2)[i]? = some v → AR w σ (RS E σ h) p.2 v ∧ ∀ q, q ∉ us → p.2.occ q = false := by
      intro i p v hp hv'
      obtain ⟨x, h1, h2⟩ := z3 i p hp
      have hsn : (sndL ps)[i]? = some x := by rw [sndL_eq, List.getElem?_map, h1]; rfl
      have hm := zipO_get hsn h2
      rw [List.getElem?_map, h1] at hv'
      injection hv' with hv'
      subst hv'
      exact ⟨hv.ar _ hm, hv.oc _ hm⟩
    obtain ⟨cells', r1, r2, r3, r4⟩ := fillA_spec (w := w) (σ := σ) (S := RS E σ h) (place := fun i => (pl.toArray)[i]?) hplace (zipN ps avs) (ps.map fun p => a.eval p.2) zs cs z.cells hf (by simp [z1]) (fun i p v h1 h2 => (hvals i p v h1 h2).1) (by simpa using c1) (fun i y v hi hv' => c3 w σ _ i y v hi (by simpa using hv'))
    rw [z2, zip_map_fst] at r1
    have harr : (ps.toArray.map fun p => (p.1, a.eval p.2)).toList = ps.map fun p => (p.1, a.eval p.2) := by simp
    refine ⟨.agg cells', ?_, ?_, fun q hq => r4 q (fun p hp => ?_) (c2 q)⟩
    · have hm : (fs.mapM fun f => do pure (f.offset, ← sizeOf f.type) : Sem (Array (Nat × Nat))).run P w = .ok pl.toArray w := by
        rw [Array.mapM_eq_mapM_toList, Sem.run_map, hpr, Result.andThen_ok, hpl]
      simp only [execOp, Instr.build, Sem.run_bind, hzr, Result.andThen_ok, run_und hu, hm, harr]
      rw [r1]
      simp
    · have := AR.agg (w := w) (σ := σ) (S := RS E σ h) (l := cs) (vs := cells'.toList) (by simpa using r2) (fun i x v hi hv' => r3 i x v hi (by simpa using hv'))
      simpa using this
    · obtain ⟨i, hi⟩ := List.getElem?_of_mem hp
      obtain ⟨x, h1, h2⟩ := z3 i p hi
      exact (hvals i p (a.eval x) hi (by rw [List.getElem?_map, h1]; rfl)).2 q hq

/-- A literal's elements, one behind another. -/
def litS (sz : Nat) : Nat → List (Nat × AV) → Option (List (List T))
  | _, [] => some []
  | k, (i, a) :: r => bif Nat.beq i k then (match cellsT a with
    | none => none
    | some ts => bif Nat.beq ts.length sz then (match litS sz (k + 1) r with
      | none => none
      | some es => some (ts :: es)) else none) else none

theorem litS_spec {w : World} {σ : Sg} {S : Nat → Prop} {sz : Nat} : ∀ (ps : List (Nat × AV)) (vs : List Value) (k : Nat) (es : List (List T)) (cells : Array Value), litS sz k ps = some es → vs.length = ps.length →
    (∀ (i : Nat) (p : Nat × AV) (v : Value), ps[i]? = some p → vs[i]? = some v → AR w σ S p.2 v) → (k + ps.length) * sz ≤ cells.size →
    es.length = ps.length ∧ (∀ c ∈ es, c.length = sz) ∧ ∃ cells', Instr.fill (fun i => some (i * sz, sz)) cells ((ps.map (·.1)).zip vs) = some cells' ∧ cells'.size = cells.size ∧ (∀ j, j < k * sz → cells'[j]? = cells[j]?) ∧
      ∀ (i : Nat) (c : List T) (j : Nat) (t : T), es[i]? = some c → c[j]? = some t → ∃ v, cells'[(k + i) * sz + j]? = some v ∧ Rd w S t v
  | [], vs, k, es, cells, h, hl, hv, hle => by
    simp only [litS, Option.some.injEq] at h
    subst h
    exact ⟨rfl, by simp, cells, by simp [Instr.fill], rfl, fun _ _ => rfl, by simp⟩
  | (i, a) :: ps, [], k, es, cells, h, hl, hv, hle => by simp at hl
  | (i, a) :: ps, v :: vs, k, es, cells, h, hl, hv, hle => by
    simp only [litS] at h
    cases hb : Nat.beq i k with
    | false => rw [hb] at h; cases h
    | true =>
      have hik := Nat.eq_of_beq_eq_true hb
      subst hik
      rw [hb, cond_true] at h
      cases hct : cellsT a with
      | none => simp [hct] at h
      | some ts =>
        simp only [hct] at h
        cases hb2 : Nat.beq ts.length sz with
        | false => rw [hb2] at h; cases h
        | true =>
          rw [hb2, cond_true] at h
          have hts := Nat.eq_of_beq_eq_true hb2
          cases hr : litS sz (i + 1) ps with
          | none => simp [hr] at h
          | some es' =>
            simp only [hr, Option.some.injEq] at h
            subst h
            simp only [List.length_cons] at hle
            have hav := hv 0 (i, a) v (by simp) (by simp)
            obtain ⟨g1, g2, g3, g4⟩ := cellsA_spec hav (cellsT_spec hct)
            have hcz : v.cells.size = sz := by simpa [mapT_eq, hts] using g1
            have hle1 : (i + 1) * sz ≤ cells.size := Nat.le_trans (Nat.mul_le_mul_right _ (by omega)) hle
            rw [Nat.add_mul, Nat.one_mul] at hle1
            have hst := fill_step (place := fun i => some (i * sz, sz)) (cells := cells) (i := i) (rest := (ps.map (·.1)).zip vs) rfl hcz hle1
            have hnsz : (cells.toList.take (i * sz) ++ v.cells.toList ++ cells.toList.drop (i * sz + sz)).toArray.size = cells.size := by simp; omega
            obtain ⟨r1, r2, cells', r3, r4, r5, r6⟩ := litS_spec ps vs (i + 1) es' (cells.toList.take (i * sz) ++ v.cells.toList ++ cells.toList.drop (i * sz + sz)).toArray hr (by simpa using hl) (fun j p u hj hu => hv (j + 1) p u (by simpa using hj) (by simpa using hu)) (by rw [hnsz]; rw [show i + 1 + ps.length = i + (ps.length + 1) by omega]; exact hle)
            have hsp : ∀ j, (cells.toList.take (i * sz) ++ v.cells.toList ++ cells.toList.drop (i * sz + sz)).toArray[j]? = if j < i * sz then cells.toList[j]? else if j < i * sz + sz then v.cells.toList[j - i * sz]? else cells.toList[j]? := by
              intro j
              rw [List.getElem?_toArray]
              have := splice_get cells.toList v.cells.toList (i * sz) j (by simp; omega)
              rwa [Array.length_toList, hcz] at this
            refine ⟨by simp [r1], fun c hc => ?_, cells', ?_, by rw [r4, hnsz], fun j hj => ?_, fun m c j t hm hj => ?_⟩
            · rcases List.mem_cons.1 hc with rfl | hc
              · exact hts
              · exact r2 c hc
            · simp only [List.map_cons, List.zip_cons_cons]; rw [hst]; exact r3
            · rw [r5 j (by rw [Nat.add_mul]; omega), hsp, if_pos hj]; simp
            · cases m with
              | zero =>
                simp at hm
                subst hm
                have hjl : j < sz := by have := (List.getElem?_eq_some_iff.1 hj).1; omega
                rw [Nat.add_zero, r5 (i * sz + j) (by rw [Nat.add_mul]; omega), hsp, if_neg (by omega), if_pos (by omega), Nat.add_sub_cancel_left]
                have hlt : j < v.cells.toList.length := by simp; omega
                have := g3 j (.t t) _ (by rw [mapT_eq, List.getElem?_map, hj]; rfl) (List.getElem?_eq_getElem hlt)
                refine ⟨_, List.getElem?_eq_getElem hlt, ?_⟩
                cases this with | t hr => exact hr
              | succ m =>
                have := r6 m c j t (by simpa using hm) hj
                rwa [show i + 1 + m = i + (m + 1) by omega] at this

theorem s_buildSlice {e sz bt n : Nat} {avs : List AV} {ps : List (Nat × Operand)} {es : List (List T)} (q : Nat) [hl : SliceC P t e sz bt] (hx : EvArgs tm (sndL ps) avs) (hq : frB q us = true) (hN : Nat.blt d N = true) (hf : litS sz 0 (zipN ps avs) = some es) (hn : (Nat.beq n ps.length && Nat.ble (n * sz) 16777216 && Nat.ble (n * bt) 16777216) = true) :
    Step P E N ⟨some d, .buildSlice t n ps.toArray, ty, pos, af, g⟩ tm hp us ⟨needL (zipO (sndL ps) avs), [], [q], some (d, .rows q sz 0 n), [(q, some (.row sz bt es))]⟩ :=
  step_eff (zipO (sndL ps) avs) [] hx.evl.1 trivial (fun q' h => by simp at h; subst h; exact hq) fun σ τ h us a w Q K' hv hF hK' => by
    simp only [Bool.and_eq_true] at hn
    obtain ⟨⟨hn1, hn2⟩, hn3⟩ := hn
    have hn1 := Nat.eq_of_beq_eq_true hn1
    have hn2 := Nat.le_of_ble_eq_true hn2
    have hn3 := Nat.le_of_ble_eq_true hn3
    obtain ⟨i, h1, h2, h3, h4, hsz, hbt⟩ := hl.out
    obtain ⟨z, hz, hzc⟩ := hl.zero h2
    obtain ⟨z1, z2, z3⟩ := zipN_spec (ps := ps) (avs := avs) hx.evl.2
    have hvals : ∀ (i : Nat) (p : Nat × AV) (v : Value), (zipN ps avs)[i]? = some p → (ps.map fun p => a.eval p.2)[i]? = some v → AR w σ (RS E σ h) p.2 v := by
      intro i p v hp hv'
      obtain ⟨x, k1, k2⟩ := z3 i p hp
      have hsn : (sndL ps)[i]? = some x := by rw [sndL_eq, List.getElem?_map, k1]; rfl
      rw [List.getElem?_map, k1] at hv'
      injection hv' with hv'
      subst hv'
      exact hv.ar _ (zipO_get hsn k2)
    generalize hzeros : ((Array.range (n * sz)).map (fun k => (if n * sz = 0 then #[] else z.cells)[k % (if n * sz = 0 then #[] else z.cells).size]!) : Array Value) = cells0
    have hc0 : cells0.size = n * sz := by subst hzeros; simp
    obtain ⟨r1, r2, cells', r3, r4, r5, r6⟩ := litS_spec (w := w) (σ := σ) (S := RS E σ h) (zipN ps avs) (ps.map fun p => a.eval p.2) 0 es cells0 hf (by simp [z1]) hvals (by rw [hc0, z1]; simp; exact Nat.le_of_eq (by rw [hn1]))
    rw [z2, zip_map_fst] at r3
    have harr : (ps.toArray.map fun p => (p.1, a.eval p.2)).toList = ps.map fun p => (p.1, a.eval p.2) := by simp
    have hrun : (execOp a.eval ⟨some d, .buildSlice t n ps.toArray, ty, pos, af, g⟩).run P w = .ok (.value (.slice (some ⟨w.heap.size, 0, none⟩) n n)) (w.alloc (.cells cells' e)) := by
      have hle : ¬ (n * sz > 2 ^ 24) := by omega
      by_cases h0 : n * sz = 0
      · simp only [if_pos h0] at hzeros
        simp only [execOp, Instr.buildSlice, Sem.run_bind, run_und h1, Result.andThen_ok, run_size h2, h3, if_neg hle, if_pos h0, Sem.run_pure, harr, hzeros]
        rw [r3]
        simp only [newRow, Sem.run_bind, run_newObj, Result.andThen_ok, Sem.run_pure]
        rfl
      · simp only [if_neg h0] at hzeros
        simp only [execOp, Instr.buildSlice, zeroValue, typeInfo, run_program, h2, hz, Sem.run_bind, run_und h1, Result.andThen_ok, run_size h2, h3, if_neg hle, if_neg h0, Sem.run_pure, harr, hzeros]
        rw [r3]
        simp only [newRow, Sem.run_bind, run_newObj, Result.andThen_ok, Sem.run_pure]
        rfl
    refine wp_of_exec hrun (hK' (sgSet σ q (some w.heap.size)) _ _ ?_)
    rw [updH_one]
    have hok : 0 < bt ∧ es.length * bt ≤ 140737488355328 ∧ 0 < sz ∧ ∀ c ∈ es, c.length = sz := ⟨hbt, by rw [r1, z1, ← hn1]; omega, hsz, r2⟩
    have hsim := hv.sim.newRow (hF q (by simp)).1 (hF q (by simp)).2 (cs := cells') (ty := e) hok (by rw [r4, hc0, r1, z1, hn1]; exact Nat.le_refl _) (fun i c j t e1 e2 => by have := r6 i c j t e1 e2; rwa [Nat.zero_add] at this)
    refine hsim.put (by simpa using hN) (AR.rows0 (sgSet_eq _ _ _) (alloc_new w _) (by rw [r4, hc0]; exact Nat.le_refl _) (Nat.le_refl _)) fun k hk => ?_
    simp only [List.mem_cons, not_or] at hk
    simp only [AV.occ]
    exact beq_ne hk.1

class ZeroTC (P : Program) (e : TypeId) (zt : outParam (List T)) : Prop where eq : (zeroA P e).bind cellsT.go = some zt

theorem s_make {e sz bt : Nat} {zt : List T} {k k' : IntKind} (q n : Nat) [hl : SliceC P t e sz bt] [hz : ZeroTC P e zt] (hx : evO tm x = some (AI k (n : Int))) (hy : evO tm y = some (AI k' (n : Int))) (hq : frB q us = true) (hN : Nat.blt d N = true) (hb : n * bt ≤ 140737488355328) :
    Step P E N ⟨some d, .makeSlice t x y, ty, pos, af, g⟩ tm hp us ⟨needL [(x, AI k (n : Int)), (y, AI k' (n : Int))], [], [q], some (d, .rows q sz 0 n), [(q, some (.row sz bt (List.replicate n zt)))]⟩ :=
  step_eff [(x, AI k (n : Int)), (y, AI k' (n : Int))] [] ⟨hx, hy, trivial⟩ trivial (fun q' h => by simp at h; subst h; exact hq) fun σ τ h us a w Q K' hv hF hK' => by
    obtain ⟨i, h1, h2, h3, h4, hsz, hbt⟩ := hl.out
    obtain ⟨z, hz0, hzc⟩ := hl.zero h2
    subst h3; subst h4
    have hx1 := (hv.ar (x, AI k (n : Int)) (by simp)).int.1
    have hy1 := (hv.ar (y, AI k' (n : Int)) (by simp)).int.1
    dsimp only at hx1 hy1
    have hle : n ≤ 140737488355328 := Nat.le_trans (Nat.le_mul_of_pos_right _ hbt) hb
    have hbi : (i.bytes : Int) * (n : Int) ≤ 281474976710656 := by
      have h9 : i.bytes * n ≤ 140737488355328 := by rw [Nat.mul_comm]; exact hb
      have h8 := Int.ofNat_le.2 h9
      rw [Int.natCast_mul] at h8
      exact Int.le_trans h8 (by decide)
    have hrun := run_make (P := P) w t e i z h1 h2 hz0 k k' (n : Int) (n : Int) (by omega) (Int.le_refl _) hbi (by omega)
    simp only [Int.toNat_natCast] at hrun
    -- the zero's cells
    have hzz := hz.eq
    simp only [zeroA, h2, hz0] at hzz
    cases hzl : constL z.cells.toList with
    | none => simp [hzl] at hzz
    | some zs =>
      rw [hzl, Option.bind_some] at hzz
      obtain ⟨c1, c2, c3⟩ := constL_spec hzl
      have hzs := cellsT_go hzz
      have hztl : zt.length = i.size := by rw [hzs, mapT_eq] at c1; simp at c1; omega
      have hexec : (execOp a.eval ⟨some d, .makeSlice t x y, ty, pos, af, g⟩).run P w = .ok (.value (.slice (some ⟨w.heap.size, 0, none⟩) n n)) (w.alloc (.cells (madeCells z.cells (n * i.size)) e)) := by
        simp [execOp, hx1, hy1, hrun]
      refine wp_of_exec hexec (hK' (sgSet σ q (some w.heap.size)) _ _ ?_)
      rw [updH_one]
      have hok : 0 < i.bytes ∧ (List.replicate n zt).length * i.bytes ≤ 140737488355328 ∧ 0 < i.size ∧ ∀ c ∈ List.replicate n zt, c.length = i.size :=
        ⟨hbt, by simpa using hb, hsz, fun c hc => by rw [(List.mem_replicate.1 hc).2]; exact hztl⟩
      have hsim := hv.sim.newRow (hF q (by simp)).1 (hF q (by simp)).2 (cs := madeCells z.cells (n * i.size)) (ty := e) hok (by simp [madeCells]) (fun m c j t' e1 e2 => by
        have hm : m < n := by have := (List.getElem?_eq_some_iff.1 e1).1; simpa using this
        rw [List.getElem?_replicate, if_pos hm] at e1
        injection e1 with e1
        subst e1
        have hj : j < i.size := by have := (List.getElem?_eq_some_iff.1 e2).1; omega
        have hidx := mul_idx (k := 0) hm hj
        refine ⟨z.cells[j]'(by omega), ?_, ?_⟩
        · simp only [madeCells, Array.getElem?_map]
          rw [Array.getElem?_range, if_pos hidx]
          simp only [Option.map_some, Option.some.injEq]
          have hmod : (m * i.size + j) % z.cells.size = j := by rw [hzc, Nat.mul_comm m i.size, Nat.mul_add_mod, Nat.mod_eq_of_lt hj]
          simp only [hmod]
          exact getElem!_pos z.cells j (by omega)
        · have := c3 w σ (RS E σ h) j (.t t') (z.cells[j]'(by omega)) (by rw [hzs, mapT_eq, List.getElem?_map, e2]; rfl) (by simp [show j < z.cells.size by omega])
          cases this with | t hr => exact hr)
      refine hsim.put (by simpa using hN) (AR.rows0 (sgSet_eq _ _ _) (alloc_new w _) (by simp [madeCells]) (Nat.le_refl _)) fun k hk => ?_
      simp only [List.mem_cons, not_or] at hk
      simp only [AV.occ]
      exact beq_ne hk.1

/-! ### Small ones -/
theorem s_min {ats : Array TypeId} {k : IntKind} {m n : Int} (hx : evO tm x = some (AI k m)) (hy : evO tm y = some (AI k n)) (hN : Nat.blt d N = true) :
    Step P E N ⟨some d, .call { callee := .builtin .min, args := #[x, y], argTypes := ats }, ty, pos, af, g⟩ tm hp us ⟨needL [(x, AI k m), (y, AI k n)], [], [], some (d, AI k (min m n)), []⟩ :=
  step_val [(x, AI k m), (y, AI k n)] [] rfl hN ⟨hx, hy, trivial⟩ trivial fun σ τ h us c w hv => by
    obtain ⟨h1, b1, b2⟩ := (hv.ar (x, AI k m) (by simp)).int
    obtain ⟨h2, b3, b4⟩ := (hv.ar (y, AI k n) (by simp)).int
    dsimp only at h1 h2
    have hm : (if n < m then n else m) = min m n := by omega
    refine ⟨_, ?_, .t (.k (.int k (min m n)) ⟨by omega, by omega⟩), fun _ _ => rfl⟩
    simp [execOp, resolve, invoke, builtin, Builtin.min_, h1, h2, Builtin.min2, hm]

theorem s_max {ats : Array TypeId} {k : IntKind} {m n : Int} (hx : evO tm x = some (AI k m)) (hy : evO tm y = some (AI k n)) (hN : Nat.blt d N = true) :
    Step P E N ⟨some d, .call { callee := .builtin .max, args := #[x, y], argTypes := ats }, ty, pos, af, g⟩ tm hp us ⟨needL [(x, AI k m), (y, AI k n)], [], [], some (d, AI k (max m n)), []⟩ :=
  step_val [(x, AI k m), (y, AI k n)] [] rfl hN ⟨hx, hy, trivial⟩ trivial fun σ τ h us c w hv => by
    obtain ⟨h1, b1, b2⟩ := (hv.ar (x, AI k m) (by simp)).int
    obtain ⟨h2, b3, b4⟩ := (hv.ar (y, AI k n) (by simp)).int
    dsimp only at h1 h2
    have hm : (if m < n then n else m) = max m n := by omega
    refine ⟨_, ?_, .t (.k (.int k (max m n)) ⟨by omega, by omega⟩), fun _ _ => rfl⟩
    simp [execOp, resolve, invoke, builtin, Builtin.max_, h1, h2, Builtin.max2, hm]

def ptrB : AV → Bool
  | .ref _ _ => true
  | .ip _ => true
  | .rp _ _ _ _ => true
  | _ => false

theorem s_nilCheck {z : AV} (hx : evO tm x = some z) (hb : ptrB z = true) (hN : Nat.blt d N = true) : Step P E N ⟨some d, .nilCheck x, ty, pos, af, g⟩ tm hp us ⟨needL [(x, z)], [], [], some (d, z), []⟩ :=
  step_val [(x, z)] [] rfl hN ⟨hx, trivial⟩ trivial fun σ τ h us c w hv => by
    have h1 := hv.ar (x, z) (by simp)
    have h2 := hv.oc (x, z) (by simp)
    dsimp only at h1 h2
    refine ⟨c.eval x, ?_, h1, h2⟩
    cases z with
    | ref => obtain ⟨b, _, hv'⟩ := h1.refv; simp [execOp, hv']
    | ip => obtain ⟨b, hv', _⟩ := h1.ipv; simp [execOp, hv']
    | rp => obtain ⟨b, _, hv'⟩ := h1.rpv; simp [execOp, hv']
    | _ => cases hb

/-- A slice held against nil. -/
theorem run_eql_slice {b : TypeId} {e : TypeId} (hu : P.underlying b = some (.slice e)) (a : Addr) (n c : Nat) (w : World) : (Op.equal b (.slice (some a) n c) (.slice none 0 0)).run P w = .ok false w := by
  show (Op.equalIn (9999 + 1) b _ _).run P w = _
  generalize 9999 = dd
  simp [Op.equalIn, run_und hu]

theorem run_eql_nils {b : TypeId} {e : TypeId} (hu : P.underlying b = some (.slice e)) (w : World) : (Op.equal b (.slice none 0 0) (.slice none 0 0)).run P w = .ok true w := by
  show (Op.equalIn (9999 + 1) b _ _).run P w = _
  generalize 9999 = dd
  simp [Op.equalIn, run_und hu]

theorem s_eqlN {t' : TypeId} {e sz bt sz' bt' : Nat} {es : List (List T)} [hl : SliceC P t e sz' bt'] (hx : evO tm x = some (.nn sz bt es)) (hy : evO tm y = some (.t (.k (.slice none 0 0)))) (hN : Nat.blt d N = true) :
    Step P E N ⟨some d, .binOp .eql t x y t', ty, pos, af, g⟩ tm hp us ⟨needL [(x, .nn sz bt es), (y, .t (.k (.slice none 0 0)))], [], [], some (d, AB false), []⟩ :=
  step_val [(x, .nn sz bt es), (y, .t (.k (.slice none 0 0)))] [] rfl hN ⟨hx, hy, trivial⟩ trivial fun σ τ h us c w hv => by
    have h1 := hv.ar (x, .nn sz bt es) (by simp)
    have h2 := (hv.ar (y, .t (.k (.slice none 0 0))) (by simp)).kv
    dsimp only at h1 h2
    obtain ⟨i, hu, _⟩ := hl.out
    generalize hev : c.eval x = v at h1
    cases h1 with
    | @nn _ _ n cap _ a hr =>
      refine ⟨.bool false, ?_, .t (.k _ trivial), fun _ _ => rfl⟩
      simp only [execOp, hev, h2, eqGuard, binOp, Sem.run_bind, run_eql_slice hu, Result.andThen_ok, Sem.run_pure]
      rfl

theorem s_eqlX {t' : TypeId} {e sz' bt' : Nat} [hl : SliceC P t e sz' bt'] (hx : evO tm x = some (.t (.k (.slice none 0 0)))) (hy : evO tm y = some (.t (.k (.slice none 0 0)))) (hN : Nat.blt d N = true) :
    Step P E N ⟨some d, .binOp .eql t x y t', ty, pos, af, g⟩ tm hp us ⟨needL [(x, .t (.k (.slice none 0 0))), (y, .t (.k (.slice none 0 0)))], [], [], some (d, AB true), []⟩ :=
  step_val [(x, .t (.k (.slice none 0 0))), (y, .t (.k (.slice none 0 0)))] [] rfl hN ⟨hx, hy, trivial⟩ trivial fun σ τ h us c w hv => by
    have h1 := (hv.ar (x, .t (.k (.slice none 0 0))) (by simp)).kv
    have h2 := (hv.ar (y, .t (.k (.slice none 0 0))) (by simp)).kv
    dsimp only at h1 h2
    obtain ⟨i, hu, _⟩ := hl.out
    refine ⟨.bool true, ?_, .t (.k _ trivial), fun _ _ => rfl⟩
    simp only [execOp, h1, h2, eqGuard, binOp, Sem.run_bind, run_eql_nils hu, Result.andThen_ok, Sem.run_pure]
    rfl

theorem Sim.as {σ : Sg} {st : St} {a : Act} {w : World} (hs : SimS E N σ st a w) {t : Nat} {y : AV} (hy : AR w σ (RS E σ st.h) y (a.tmps.getD t undef)) (hk : y.keys = []) : SimS E N σ ⟨(t, y) :: st.tm, st.hp, st.us⟩ a w := by
  have hτ : St.τ ⟨(t, y) :: st.tm, st.hp, st.us⟩ = updT st.τ (some (t, y)) := tau_cons _ _ _ _ _ _ _
  have hs' : Sim E N σ st.τ st.h st.us a w := hs
  show Sim E N σ (St.τ ⟨(t, y) :: st.tm, st.hp, st.us⟩) st.h st.us a w
  rw [hτ]
  refine { hs' with tm := fun i => ?_, fsh := fun q hq => ⟨fun i => ?_, (hs'.fsh q hq).2⟩ }
  · simp only [updT]
    split
    · rename_i e; subst e; exact hy
    · exact hs'.tm i
  · simp only [updT]
    split
    · exact occ_keys q y (by rw [hk]; simp)
    · exact (hs'.fsh q hq).1 i

/-- Is a slice nil? -/
theorem vc_nil {c : Code} {Q : Exit → St → Prop} {t sz bt : Nat} {es : List (List T)} (ht : lk tm t = some (.t (.sl sz bt es))) (h0 : es = [] → VC P E N c ⟨(t, .t (.k (.slice none 0 0))) :: tm, hp, us⟩ Q) (h1 : VC P E N c ⟨(t, .nn sz bt es) :: tm, hp, us⟩ Q) : VC P E N c ⟨tm, hp, us⟩ Q := by
  intro σ a w hs
  have har := hs.tm t
  simp only [St.τ, ht, Option.getD_some] at har
  obtain ⟨A, cap, vs, g1, g2, g3, g4, g5, g6⟩ := har.slv
  cases A with
  | some ad =>
    refine h1 σ a w (Sim.as hs ?_ rfl)
    rw [g1] at har ⊢
    cases har with | t hr => exact .nn hr
  | none =>
    have hes : es = [] := by
      cases es with
      | nil => rfl
      | cons c es =>
        cases c with
        | nil => have := g3.2 [] (by simp); simp at this; omega
        | cons t0 c => obtain ⟨a', ha, _⟩ := g5 0 _ 0 t0 rfl rfl; cases ha
    subst hes
    have hc := g4.2 rfl
    subst hc
    refine h0 rfl σ a w (Sim.as hs ?_ rfl)
    rw [g1]
    exact .t (.k _ trivial)

end
end Go.Eng

namespace Go.Eng

/-! ### Short ways -/
theorem AV.view_nil : ∀ (x : AV), x.view [] = x
  | .t x => rfl
  | .ref q o => rfl
  | .rows q sz off n => rfl
  | .ip c => rfl
  | .rp q sz i j => rfl
  | .agg l => by simp only [AV.view, viewL_eq]; congr 1; exact (List.map_congr_left fun x hx => AV.view_nil x).trans (List.map_id l)
  | .tup l => by simp only [AV.view, viewL_eq]; congr 1; exact (List.map_congr_left fun x hx => AV.view_nil x).trans (List.map_id l)
  | .fn n l => by simp only [AV.view, viewL_eq]; congr 1; exact (List.map_congr_left fun x hx => AV.view_nil x).trans (List.map_id l)
  | .mp q => rfl
  | .nn sz bt es => rfl
  | .any => rfl
termination_by x => SizeOf.sizeOf x
decreasing_by all_goals (have := List.sizeOf_lt_of_mem hx; simp; omega)

theorem AV.ren_id : ∀ (x : AV), x.ren id = x
  | .t x => rfl
  | .ref q o => rfl
  | .rows q sz off n => rfl
  | .ip c => rfl
  | .rp q sz i j => rfl
  | .agg l => by simp only [AV.ren, renL_eq]; congr 1; exact (List.map_congr_left fun x hx => AV.ren_id x).trans (List.map_id l)
  | .tup l => by simp only [AV.ren, renL_eq]; congr 1; exact (List.map_congr_left fun x hx => AV.ren_id x).trans (List.map_id l)
  | .fn n l => by simp only [AV.ren, renL_eq]; congr 1; exact (List.map_congr_left fun x hx => AV.ren_id x).trans (List.map_id l)
  | .mp q => rfl
  | .nn sz bt es => rfl
  | .any => rfl
termination_by x => SizeOf.sizeOf x
decreasing_by all_goals (have := List.sizeOf_lt_of_mem hx; simp; omega)

theorem okV_nil : ∀ (x : AV), x.okV []
  | .t x => trivial
  | .ref q o => trivial
  | .rows q sz off n => trivial
  | .ip c => trivial
  | .rp q sz i j => trivial
  | .agg l => by simp only [AV.okV]; exact okVL_of l fun x hx => okV_nil x
  | .tup l => by simp only [AV.okV]; exact okVL_of l fun x hx => okV_nil x
  | .fn n l => by simp only [AV.okV]; exact okVL_of l fun x hx => okV_nil x
  | .mp q => trivial
  | .nn sz bt es => trivial
  | .any => trivial
termination_by x => SizeOf.sizeOf x
decreasing_by all_goals (have := List.sizeOf_lt_of_mem hx; simp; omega)
where
  okVL_of (l : List AV) (h : ∀ x ∈ l, x.okV []) : AV.okVL [] l := by
    induction l with
    | nil => trivial
    | cons a l ih => exact ⟨h a (by simp), ih fun x hx => h x (List.mem_cons_of_mem _ hx)⟩

theorem okVL_nil (l : List AV) : AV.okVL [] l := okV_nil.okVL_of l fun x _ => okV_nil x
theorem viewL_nil (l : List AV) : AV.viewL [] l = l := by rw [viewL_eq]; exact (List.map_congr_left fun x _ => AV.view_nil x).trans (List.map_id l)

theorem rnG_nil : rnG [] = id := by
  funext q
  simp only [rnG, rnL, id]
  cases Nat.ble 1000 q <;> rfl

theorem LeV.same (x : AV) : LeV [] (rnG []) x x := .eq (okV_nil x) (by rw [AV.view_nil, rnG_nil, AV.ren_id])
theorem LeV.id' {x y : AV} (h : x = y) : LeV [] (rnG []) x y := h ▸ .same x

section
variable {P : Program} {E : Env} {N : Nat} {Q : Exit → St → Prop} {tm : List (Nat × AV)} {hp : List (Nat × Option Blk)} {us : List Nat}

/-- The end: data alone. -/
theorem ret_of {rvs : List ResultVar} {r : AV} {e : Exit} (l : List AV) (hl : RVL P tm hp rvs l) (hr : single l = r) (hk : r.keys = []) (he : e = .ret ∨ e = .normal := by first | exact .inl rfl | exact .inr rfl) : RetQ P rvs r [] [] e ⟨tm, hp, us⟩ := by
  refine ⟨he, l, hl, [], [], ⟨⟨⟨_, rfl, .id' hr⟩, trivial⟩, trivial, trivial, ?_⟩⟩
  simp [mapN, liveK, mkHp, nodupB, apartL, okUsT, okUsH, hk, subB]

/-- The end: rows of the call's own are data from now on. -/
theorem ret_rows {rvs : List ResultVar} {r : AV} {e : Exit} (K : List (Nat × Blk)) (l : List AV) (hl : RVL P tm hp rvs l) (hK : NeedK hp K) (ho : (single l).okV K) (hr : (single l).view K = r) (hk : r.keys = []) (he : e = .ret ∨ e = .normal := by first | exact .inl rfl | exact .inr rfl) : RetQ P rvs r [] [] e ⟨tm, hp, us⟩ := by
  refine ⟨he, l, hl, K, [], ⟨⟨⟨_, rfl, .eq ho (by rw [rnG_nil, AV.ren_id]; exact hr)⟩, trivial⟩, trivial, hK, ?_⟩⟩
  simp [mapN, liveK, mkHp, nodupB, apartL, okUsT, okUsH, hk, subB]

theorem ret_le {rvs : List ResultVar} {r : AV} {e : Exit} (K : List (Nat × Blk)) (l : List AV) (hl : RVL P tm hp rvs l) (hK : NeedK hp K) (hle : LeV K (rnG []) (single l) r) (hk : r.keys = []) (he : e = .ret ∨ e = .normal := by first | exact .inl rfl | exact .inr rfl) : RetQ P rvs r [] [] e ⟨tm, hp, us⟩ := by
  refine ⟨he, l, hl, K, [], ⟨⟨⟨_, rfl, hle⟩, trivial⟩, trivial, hK, ?_⟩⟩
  simp [mapN, liveK, mkHp, nodupB, apartL, okUsT, okUsH, hk, subB]

/-- The end: with blocks that are handed on. -/
theorem ret_hand {rvs : List ResultVar} {r : AV} {e : Exit} {hout : List (Nat × Blk)} {us' : List Nat} (K : List (Nat × Blk)) (ρ : List (Nat × Nat)) (l : List AV) (hl : RVL P tm hp rvs l) (hK : NeedK hp K) (hle : LeV K (rnG ρ) (single l) r) (hh : LeHp K (rnG ρ) hp (mkHp hout))
    (hn : (nodupB (mapN (rnG ρ) (liveK (mkHp hout))) && apartL (mapN (rnG ρ) (liveK (mkHp hout))) (keysL K) && okUsT us' [(0, r)] && okUsH us' (mkHp hout)) = true) (he : e = .ret ∨ e = .normal := by first | exact .inl rfl | exact .inr rfl) : RetQ P rvs r hout us' e ⟨tm, hp, us⟩ :=
  ⟨he, l, hl, K, ρ, ⟨⟨⟨_, rfl, hle⟩, trivial⟩, hh, hK, hn⟩⟩

theorem leL_nil {K : List (Nat × Blk)} {f : Nat → Nat} : LeL K f [] [] := trivial
theorem leL_cons {K : List (Nat × Blk)} {f : Nat → Nat} {y x : AV} {l m : List AV} (h : LeV K f y x) (hl : LeL K f l m) : LeL K f (y :: l) (x :: m) := ⟨h, hl⟩
theorem LeL.out {K : List (Nat × Blk)} {f : Nat → Nat} : ∀ {l m : List AV}, LeL K f l m → l.length = m.length ∧ ∀ (i : Nat) (y x : AV), l[i]? = some y → m[i]? = some x → LeV K f y x
  | [], [], _ => ⟨rfl, fun i y x h => by simp at h⟩
  | [], _ :: _, h => h.elim
  | _ :: _, [], h => h.elim
  | y :: l, x :: m, h => by
    obtain ⟨h1, h2⟩ := LeL.out h.2
    refine ⟨by simp [h1], fun i u v hu hv => ?_⟩
    cases i with
    | zero => simp at hu hv; subst hu; subst hv; exact h.1
    | succ i => exact h2 i u v (by simpa using hu) (by simpa using hv)
theorem LeV.aggL {K : List (Nat × Blk)} {f : Nat → Nat} {l m : List AV} (h : LeL K f l m) : LeV K f (.agg l) (.agg m) := .agg h.out.1 h.out.2
theorem LeV.tupL {K : List (Nat × Blk)} {f : Nat → Nat} {l m : List AV} (h : LeL K f l m) : LeV K f (.tup l) (.tup m) := .tup h.out.1 h.out.2
theorem LeV.tt {K : List (Nat × Blk)} {f : Nat → Nat} {x y : T} (h : x = y) : LeV K f (.t x) (.t y) := .eq trivial (by rw [h]; rfl)

theorem leL_same : ∀ (l : List AV), LeL [] (rnG []) l l
  | [] => trivial
  | x :: l => ⟨.same x, leL_same l⟩
theorem leB_same (B : Blk) : LeB [] (rnG []) B B := by
  cases B with
  | box l => exact leL_same l
  | row sz bt es => exact ⟨rfl, rfl, rfl⟩
  | obj o => exact rfl
  | nest => exact ⟨rfl, rfl, rfl, rfl⟩
theorem leB_row {K : List (Nat × Blk)} {f : Nat → Nat} {sz bt : Nat} {es es' : List (List T)} (h : es = es') : LeB K f (.row sz bt es) (.row sz bt es') := ⟨rfl, rfl, h⟩
theorem leB_box {K : List (Nat × Blk)} {f : Nat → Nat} {l m : List AV} (h : LeL K f l m) : LeB K f (.box l) (.box m) := h
theorem foldl_take {α β : Type} {f : β → α → β} {a : β} {l : List α} {i : Nat} {x : α} (h : l[i]? = some x) : (l.take (i + 1)).foldl f a = f ((l.take i).foldl f a) x := by
  rw [List.take_add_one, h]; simp
theorem take_snoc {α : Type} {l : List α} {i : Nat} {x : α} (h : l[i]? = some x) : l.take (i + 1) = l.take i ++ [x] := by
  rw [List.take_add_one, h]; simp

/-- What a state may be put down to. -/
theorem leE_same {tm' : List (Nat × AV)} {hp' : List (Nat × Option Blk)} {us' : List Nat} (h1 : LeTm [] (rnG []) tm tm') (h2 : LeHp [] (rnG []) hp hp') (h3 : (nodupB (mapN (rnG []) (liveK hp')) && apartL (mapN (rnG []) (liveK hp')) (keysL ([] : List (Nat × Blk))) && okUsT us' tm' && okUsH us' hp') = true) : LeE ⟨tm, hp, us⟩ ⟨tm', hp', us'⟩ :=
  ⟨[], [], ⟨h1, h2, trivial, h3⟩⟩

theorem letm_nil (K : List (Nat × Blk)) (f : Nat → Nat) : LeTm K f tm [] := trivial
theorem letm_cons {K : List (Nat × Blk)} {f : Nat → Nat} {t : Nat} {x y : AV} {l : List (Nat × AV)} (h : lk tm t = some y) (hl : LeV K f y x) (hr : LeTm K f tm l) : LeTm K f tm ((t, x) :: l) := ⟨⟨y, h, hl⟩, hr⟩
theorem lehp_nil (K : List (Nat × Blk)) (f : Nat → Nat) : LeHp K f hp [] := trivial
theorem lehp_cons {K : List (Nat × Blk)} {f : Nat → Nat} {q : Nat} {B B0 : Blk} {l : List (Nat × Option Blk)} (h : lkH hp (f q) = some B0) (hl : LeB K f B0 B) (hr : LeHp K f hp l) : LeHp K f hp ((q, some B) :: l) := ⟨⟨B0, h, hl⟩, hr⟩

/-- What an integer, a slice is known to be. -/
theorem vc_int {c : Code} {t : Nat} {k : IntKind} {n : Int} (ht : lk tm t = some (AI k n)) (h : inI k n → VC P E N c ⟨tm, hp, us⟩ Q) : VC P E N c ⟨tm, hp, us⟩ Q := fun σ a w hs => by
  have har := hs.tm t
  simp only [St.τ, ht, Option.getD_some] at har
  exact h (inI_iff.2 har.int.2) σ a w hs

theorem vc_slen {c : Code} {t sz bt : Nat} {es : List (List T)} (ht : lk tm t = some (.t (.sl sz bt es))) (h : es.length * bt ≤ 140737488355328 → VC P E N c ⟨tm, hp, us⟩ Q) : VC P E N c ⟨tm, hp, us⟩ Q := fun σ a w hs => by
  have har := hs.tm t
  simp only [St.τ, ht, Option.getD_some] at har
  obtain ⟨_, _, _, _, h2, _⟩ := har.slv
  exact h h2.2 σ a w hs

end
end Go.Eng

namespace Go.Eng

/-! ### Calls to which blocks are handed over -/
def Blk.ren (f : Nat → Nat) : Blk → Blk
  | .box l => .box (AV.renL f l)
  | .row sz bt es => .row sz bt es
  | .obj o => .obj o
  | .nest bt sz ibt ess => .nest bt sz ibt ess

theorem HB.unren {w : World} {σ : Sg} {S : Nat → Prop} (f : Nat → Nat) {q : Nat} {B : Blk} (h : HB w σ S (f q) (B.ren f)) : HB w (fun q => σ (f q)) S q B := by
  cases B with
  | box l =>
    obtain ⟨b, vs, ty, h1, h2, h3, h4⟩ := h
    refine ⟨b, vs, ty, h1, h2, by simpa [renL_eq] using h3, fun j x hx => ?_⟩
    obtain ⟨v, hv, ha⟩ := h4 j (x.ren f) (by rw [renL_eq, List.getElem?_map, hx]; rfl)
    exact ⟨v, hv, AR.unren f x v ha⟩
  | row sz bt es => exact h
  | obj o => exact h
  | nest => exact h

theorem HB.renI {w : World} {σ σ' : Sg} {S : Nat → Prop} (f : Nat → Nat) {q : Nat} {B : Blk} (h : HB w σ S q B) (hq : σ' (f q) = σ q) (ho : ∀ k, B.occ k = true → σ' (f k) = σ k) : HB w σ' S (f q) (B.ren f) := by
  cases B with
  | box l =>
    obtain ⟨b, vs, ty, h1, h2, h3, h4⟩ := h
    refine ⟨b, vs, ty, by rw [hq]; exact h1, h2, by simpa [renL_eq] using h3, fun j x hx => ?_⟩
    rw [renL_eq, List.getElem?_map] at hx
    cases hj : l[j]? with
    | none => rw [hj] at hx; cases hx
    | some y =>
      rw [hj] at hx
      injection hx with hx
      subst hx
      obtain ⟨v, hv, ha⟩ := h4 j y hj
      exact ⟨v, hv, AR.renI f y v (fun k hk => ho k (AV.occL_of hj hk)) ha⟩
  | row sz bt es =>
    refine ⟨h.1, ?_⟩
    rcases h.2 with ⟨h1, h2⟩ | ⟨b, vs, ty, h1, h2⟩
    · exact .inl ⟨by rw [hq]; exact h1, h2⟩
    · exact .inr ⟨b, vs, ty, by rw [hq]; exact h1, h2⟩
  | obj o =>
    obtain ⟨b, h1, h2⟩ := h
    exact ⟨b, by rw [hq]; exact h1, h2⟩
  | nest bt sz ibt ess =>
    obtain ⟨h0, b, vs, ty, h1, h2, h3, h4⟩ := h
    exact ⟨h0, b, vs, ty, by rw [hq]; exact h1, h2, h3, fun i es hi => by rw [hq]; exact h4 i es hi⟩

def keysB : List (Nat × Blk) → List Nat
  | [] => []
  | p :: l => p.1 :: keysB l

theorem keysB_iff {l : List (Nat × Blk)} {q : Nat} : q ∈ keysB l ↔ lkB l q ≠ none := by
  induction l with
  | nil => simp [keysB, lkB]
  | cons p l ih =>
    obtain ⟨k, B⟩ := p
    simp only [keysB, List.mem_cons, lkB]
    by_cases e : q = k
    · subst e; simp
    · rw [beq_ne e]; simp [e, ih]

/-- What comes of the blocks. -/
def effO (f : Nat → Nat) : List (Nat × Blk) → List (Nat × Option Blk)
  | [] => []
  | (q, B) :: l => (f q, some (B.ren f)) :: effO f l
def effI (f : Nat → Nat) (out : List Nat) : List (Nat × Blk) → List (Nat × Option Blk)
  | [] => []
  | (q, _) :: l => bif memB q out then effI f out l else (f q, none) :: effI f out l
def newK (f : Nat → Nat) (inn : List Nat) : List (Nat × Blk) → List Nat
  | [] => []
  | (q, _) :: l => bif memB q inn then newK f inn l else f q :: newK f inn l

def invK (f : Nat → Nat) (k : Nat) : List Nat → Option Nat
  | [] => none
  | q :: l => bif Nat.beq (f q) k then some q else invK f k l

theorem invK_some {f : Nat → Nat} {k q : Nat} : ∀ {l : List Nat}, invK f k l = some q → q ∈ l ∧ f q = k
  | [], h => by cases h
  | q' :: l, h => by
    simp only [invK] at h
    cases hb : Nat.beq (f q') k with
    | true => rw [hb] at h; injection h with h; subst h; exact ⟨List.mem_cons_self .., Nat.eq_of_beq_eq_true hb⟩
    | false => rw [hb] at h; obtain ⟨h1, h2⟩ := invK_some h; exact ⟨List.mem_cons_of_mem _ h1, h2⟩

theorem invK_none {f : Nat → Nat} {k : Nat} : ∀ {l : List Nat}, invK f k l = none → ∀ q ∈ l, f q ≠ k
  | [], _, q, hq => by cases hq
  | q' :: l, h, q, hq => by
    simp only [invK] at h
    cases hb : Nat.beq (f q') k with
    | true => rw [hb] at h; cases h
    | false =>
      rw [hb] at h
      rcases List.mem_cons.1 hq with rfl | hq
      · intro e; rw [e] at hb; simp at hb
      · exact invK_none h q hq

theorem lkW_effO {f : Nat → Nat} {l : List (Nat × Blk)} {W : List (Nat × Option Blk)} {k : Nat} : lkW (effO f l ++ W) k = match invK f k (keysB l) with | some q => some ((lkB l q).map (Blk.ren f)) | none => lkW W k := by
  induction l with
  | nil => rfl
  | cons p l ih =>
    obtain ⟨q, B⟩ := p
    simp only [effO, List.cons_append, lkW, keysB, invK]
    cases hb : Nat.beq (f q) k with
    | true => simp [lkB]
    | false =>
      simp only [cond_false]
      rw [ih]
      cases hi : invK f k (keysB l) with
      | none => rfl
      | some q' =>
        have h1 := (invK_some hi).2
        have hne : q' ≠ q := by rintro rfl; rw [h1] at hb; simp at hb
        simp only [lkB]
        rw [beq_ne hne]; rfl

theorem lkW_effI {f : Nat → Nat} {out : List Nat} {l : List (Nat × Blk)} {k : Nat} : (lkW (effI f out l) k = none ∧ ∀ q ∈ keysB l, q ∉ out → f q ≠ k) ∨ (lkW (effI f out l) k = some none ∧ ∃ q ∈ keysB l, q ∉ out ∧ f q = k) := by
  induction l with
  | nil => exact .inl ⟨rfl, fun q h => by cases h⟩
  | cons p l ih =>
    obtain ⟨q, B⟩ := p
    simp only [effI, keysB]
    cases hm : memB q out with
    | true =>
      have := memB_iff.1 hm
      simp only [cond_true]
      rcases ih with ⟨h1, h2⟩ | ⟨h1, q', h2, h3, h4⟩
      · refine .inl ⟨h1, fun q' hq' hn => ?_⟩
        rcases List.mem_cons.1 hq' with rfl | hq'
        · exact absurd this hn
        · exact h2 q' hq' hn
      · exact .inr ⟨h1, q', List.mem_cons_of_mem _ h2, h3, h4⟩
    | false =>
      have hnm : q ∉ out := fun h => by rw [memB_iff.2 h] at hm; cases hm
      simp only [cond_false, lkW]
      cases hb : Nat.beq (f q) k with
      | true => exact .inr ⟨rfl, q, List.mem_cons_self .., hnm, Nat.eq_of_beq_eq_true hb⟩
      | false =>
        simp only [cond_false]
        rcases ih with ⟨h1, h2⟩ | ⟨h1, q', h2, h3, h4⟩
        · refine .inl ⟨h1, fun q' hq' hn => ?_⟩
          rcases List.mem_cons.1 hq' with rfl | hq'
          · intro e; rw [e] at hb; simp at hb
          · exact h2 q' hq' hn
        · exact .inr ⟨h1, q', List.mem_cons_of_mem _ h2, h3, h4⟩

theorem mem_newK {f : Nat → Nat} {inn : List Nat} {l : List (Nat × Blk)} {k : Nat} : k ∈ newK f inn l ↔ ∃ q ∈ keysB l, q ∉ inn ∧ f q = k := by
  induction l with
  | nil => simp [newK, keysB]
  | cons p l ih =>
    obtain ⟨q, B⟩ := p
    simp only [newK, keysB, List.mem_cons]
    cases hm : memB q inn with
    | true =>
      have := memB_iff.1 hm
      simp only [cond_true, ih]
      constructor
      · rintro ⟨q', h1, h2, h3⟩; exact ⟨q', .inr h1, h2, h3⟩
      · rintro ⟨q', h1 | h1, h2, h3⟩
        · subst h1; exact absurd this h2
        · exact ⟨q', h1, h2, h3⟩
    | false =>
      have hnm : q ∉ inn := fun h => by rw [memB_iff.2 h] at hm; cases hm
      simp only [cond_false, List.mem_cons, ih]
      constructor
      · rintro (rfl | ⟨q', h1, h2, h3⟩)
        · exact ⟨q, .inl rfl, hnm, rfl⟩
        · exact ⟨q', .inr h1, h2, h3⟩
      · rintro ⟨q', h1 | h1, h2, h3⟩
        · subst h1; exact .inl h3.symm
        · exact .inr ⟨q', h1, h2, h3⟩

def scalB : List (Nat × Blk) → Bool
  | [] => true
  | (_, .box l) :: m => AV.scalL l && scalB m
  | (_, .row _ _ es) :: m => es.isEmpty && scalB m
  | (_, .obj _) :: m => scalB m
  | (_, .nest ..) :: _ => false

def keysIn (ks : List Nat) : List (Nat × Blk) → Bool
  | [] => true
  | (_, B) :: m => subB B.keys ks && keysIn ks m

theorem keysIn_out {ks : List Nat} {l : List (Nat × Blk)} (h : keysIn ks l = true) {q : Nat} {B : Blk} (hm : lkB l q = some B) : ∀ k ∈ B.keys, k ∈ ks := by
  induction l with
  | nil => cases hm
  | cons p l ih =>
    obtain ⟨k', B'⟩ := p
    simp only [keysIn, Bool.and_eq_true] at h
    simp only [lkB] at hm
    by_cases e : q = k'
    · subst e; simp at hm; subst hm; exact subB_spec h.1
    · rw [beq_ne e] at hm; exact ih h.2 hm

theorem HB.scal {w : World} {σ : Sg} {S S' : Nat → Prop} {q : Nat} {l : List (Nat × Blk)} {B : Blk} (hs : scalB l = true) (hm : lkB l q = some B) (h : HB w σ S q B) : HB w σ S' q B := by
  induction l with
  | nil => cases hm
  | cons p l ih =>
    obtain ⟨k', B'⟩ := p
    simp only [lkB] at hm
    by_cases e : q = k'
    · subst e
      simp at hm
      subst hm
      cases B' with
      | box m =>
        simp only [scalB, Bool.and_eq_true] at hs
        obtain ⟨b, vs, ty, h1, h2, h3, h4⟩ := h
        exact ⟨b, vs, ty, h1, h2, h3, fun j x hx => let ⟨v, hv, ha⟩ := h4 j x hx; ⟨v, hv, ha.scal (scalL_get hs.1 hx)⟩⟩
      | row sz bt es =>
        simp only [scalB, Bool.and_eq_true, List.isEmpty_iff] at hs
        obtain ⟨rfl, _⟩ := hs
        refine ⟨h.1, ?_⟩
        rcases h.2 with h0 | ⟨b, vs, ty, h1, h2, h3, h4⟩
        · exact .inl h0
        · exact .inr ⟨b, vs, ty, h1, h2, h3, by simp⟩
      | obj o => exact h
      | nest => cases hs
    · rw [beq_ne e] at hm
      refine ih ?_ hm
      cases B' <;> simp only [scalB, Bool.and_eq_true] at hs <;> first | exact hs.2 | exact hs | cases hs

theorem AV.occL_ex {k : Nat} : ∀ {l : List AV}, AV.occL k l = true → ∃ (i : Nat) (x : AV), l[i]? = some x ∧ x.occ k = true
  | [], h => by cases h
  | a :: l, h => by
    simp only [AV.occL, Bool.or_eq_true] at h
    rcases h with h | h
    · exact ⟨0, a, rfl, h⟩
    · obtain ⟨i, x, h1, h2⟩ := AV.occL_ex h; exact ⟨i + 1, x, by simpa using h1, h2⟩

theorem AV.occ_ren (f : Nat → Nat) (k : Nat) : ∀ (x : AV), (x.ren f).occ k = true → ∃ q ∈ x.keys, f q = k
  | .t _, h => by simp [AV.ren, AV.occ] at h
  | .ref q off, h => by simp [AV.ren, AV.occ] at h; exact ⟨q, by simp [AV.keys], h⟩
  | .rows q sz off n, h => by simp [AV.ren, AV.occ] at h; exact ⟨q, by simp [AV.keys], h⟩
  | .ip _, h => by simp [AV.ren, AV.occ] at h
  | .rp q sz i j, h => by simp [AV.ren, AV.occ] at h; exact ⟨q, by simp [AV.keys], h⟩
  | .agg l, h => by
    simp only [AV.ren, renL_eq, AV.occ] at h
    obtain ⟨i, x, h1, h2⟩ := AV.occL_ex h
    rw [List.getElem?_map] at h1
    cases hi : l[i]? with
    | none => rw [hi] at h1; cases h1
    | some y =>
      rw [hi] at h1; injection h1 with h1; subst h1
      obtain ⟨q, h3, h4⟩ := AV.occ_ren f k y h2
      exact ⟨q, by simp only [AV.keys]; exact keysL_mem hi h3, h4⟩
  | .tup l, h => by
    simp only [AV.ren, renL_eq, AV.occ] at h
    obtain ⟨i, x, h1, h2⟩ := AV.occL_ex h
    rw [List.getElem?_map] at h1
    cases hi : l[i]? with
    | none => rw [hi] at h1; cases h1
    | some y =>
      rw [hi] at h1; injection h1 with h1; subst h1
      obtain ⟨q, h3, h4⟩ := AV.occ_ren f k y h2
      exact ⟨q, by simp only [AV.keys]; exact keysL_mem hi h3, h4⟩
  | .fn n l, h => by
    simp only [AV.ren, renL_eq, AV.occ] at h
    obtain ⟨i, x, h1, h2⟩ := AV.occL_ex h
    rw [List.getElem?_map] at h1
    cases hi : l[i]? with
    | none => rw [hi] at h1; cases h1
    | some y =>
      rw [hi] at h1; injection h1 with h1; subst h1
      obtain ⟨q, h3, h4⟩ := AV.occ_ren f k y h2
      exact ⟨q, by simp only [AV.keys]; exact keysL_mem hi h3, h4⟩
  | .mp q, h => by simp [AV.ren, AV.occ] at h; exact ⟨q, by simp [AV.keys], h⟩
  | .nn _ _ _, h => by simp [AV.ren, AV.occ] at h
  | .any, h => by simp [AV.ren, AV.occ] at h
termination_by x => SizeOf.sizeOf x
decreasing_by all_goals (have := sizeOf_get hi; simp; omega)

theorem Blk.occ_ren (f : Nat → Nat) (k : Nat) (B : Blk) (h : (B.ren f).occ k = true) : ∃ q ∈ B.keys, f q = k := by
  cases B with
  | row => simp [Blk.ren, Blk.occ] at h
  | obj => simp [Blk.ren, Blk.occ] at h
  | nest => simp [Blk.ren, Blk.occ] at h
  | box l =>
    have : (AV.ren f (.agg l)).occ k = true := h
    obtain ⟨q, h1, h2⟩ := AV.occ_ren f k (.agg l) this
    exact ⟨q, h1, h2⟩

theorem HB.monoS {w : World} {σ : Sg} {S S' : Nat → Prop} {q : Nat} {B : Blk} (h : HB w σ S q B) (hS : ∀ b, S b → S' b) : HB w σ S' q B :=
  h.mono ⟨fun b hb => ⟨hS b hb, rfl⟩, fun b vs ty fr hb => ⟨vs, hb, rfl⟩⟩ rfl (fun _ _ => rfl) fun _ _ _ => rfl

theorem HB.lt {w : World} {σ : Sg} {S : Nat → Prop} {q : Nat} {B : Blk} (h : HB w σ S q B) : HB w σ (fun b => S b ∧ b < w.heap.size) q B := by
  cases B with
  | box l =>
    obtain ⟨b, vs, t, h1, h2, h3, h4⟩ := h
    exact ⟨b, vs, t, h1, h2, h3, fun j x hx => let ⟨v, hv, ha⟩ := h4 j x hx; ⟨v, hv, ha.lt⟩⟩
  | row sz bt es =>
    refine ⟨h.1, ?_⟩
    rcases h.2 with h0 | ⟨b, vs, t, h1, h2, h3, h4⟩
    · exact .inl h0
    · exact .inr ⟨b, vs, t, h1, h2, h3, fun i c j t hi hj => let ⟨v, hv, hr⟩ := h4 i c j t hi hj; ⟨v, hv, hr.lt⟩⟩
  | obj o => exact h
  | nest bt sz ibt ess =>
    obtain ⟨h0, b, vs, t, h1, h2, h3, h4⟩ := h
    exact ⟨h0, b, vs, t, h1, h2, h3, fun i es hi => let ⟨v, hv, hn⟩ := h4 i es hi; ⟨v, hv, hn.monoR fun _ _ hr => hr.lt⟩⟩

/-- Other keys of a box aren't named by what is in it. -/
structure HCk (f : Nat → Nat) (K chin chout : List (Nat × Blk)) (cargs : List AV) (r : AV) : Prop where
  inj : ∀ x ∈ keysB chin ++ keysB chout, ∀ y ∈ keysB chin ++ keysB chout, f x = f y → x = y
  ka : ∀ q ∈ keysB chin, ∀ p ∈ K, f q ≠ p.1
  ai : ∀ k ∈ AV.keysL cargs, k ∈ keysB chin
  bi : keysIn (keysB chin) chin = true
  ro : ∀ k ∈ r.keys, k ∈ keysB chout
  bo : keysIn (keysB chout) chout = true
  sc : K = [] ∨ (r.scal = true ∧ scalB chout = true)
  pm : ∀ q ∈ keysB chin, 1000 ≤ q

def unionN (l m : List Nat) : List Nat :=
  match m with
  | [] => l
  | x :: r => bif memB x l then unionN l r else unionN (x :: l) r

theorem unionN_mem {m : List Nat} : ∀ {l : List Nat} {x : Nat}, (x ∈ l ∨ x ∈ m) → x ∈ unionN l m := by
  induction m with
  | nil => intro l x h; simpa [unionN] using h
  | cons y m ih =>
    intro l x h
    simp only [unionN]
    cases hm : memB y l with
    | true =>
      refine ih ?_
      rcases h with h | h
      · exact .inl h
      · rcases List.mem_cons.1 h with rfl | h
        · exact .inl (memB_iff.1 hm)
        · exact .inr h
    | false =>
      refine ih ?_
      rcases h with h | h
      · exact .inl (List.mem_cons_of_mem _ h)
      · rcases List.mem_cons.1 h with rfl | h
        · exact .inl (List.mem_cons_self ..)
        · exact .inr h

def permB : List (Nat × Blk) → Bool
  | [] => true
  | (q, _) :: l => Nat.ble 1000 q && permB l

theorem permB_out {l : List (Nat × Blk)} (h : permB l = true) : ∀ q ∈ keysB l, 1000 ≤ q := by
  induction l with
  | nil => intro q hq; cases hq
  | cons p l ih =>
    obtain ⟨k, B⟩ := p
    simp only [permB, Bool.and_eq_true] at h
    intro q hq
    rcases List.mem_cons.1 hq with rfl | hq
    · exact Nat.le_of_ble_eq_true h.1
    · exact ih h.2 q hq

def hck (f : Nat → Nat) (K chin chout : List (Nat × Blk)) (cargs : List AV) (r : AV) : Bool :=
  nodupB (mapN f (unionN (keysB chin) (keysB chout))) && apartL (mapN f (keysB chin)) (keysL K) && subB (AV.keysL cargs) (keysB chin) && keysIn (keysB chin) chin && subB r.keys (keysB chout) && keysIn (keysB chout) chout && (match K with | [] => true | _ => r.scal && scalB chout) && permB chin

theorem hck_spec {f : Nat → Nat} {K chin chout : List (Nat × Blk)} {cargs : List AV} {r : AV} (h : hck f K chin chout cargs r = true) : HCk f K chin chout cargs r := by
  simp only [hck, Bool.and_eq_true] at h
  obtain ⟨⟨⟨⟨⟨⟨⟨h1, h2⟩, h3⟩, h4⟩, h5⟩, h6⟩, h7⟩, h8⟩ := h
  refine ⟨fun x hx y hy e => nodupB_inj h1 x (unionN_mem (List.mem_append.1 hx)) y (unionN_mem (List.mem_append.1 hy)) e, fun q hq p hp e => ?_, subB_spec h3, h4, subB_spec h5, h6, ?_, permB_out h8⟩
  · exact apartL_spec h2 (f q) (by rw [mapN_eq]; exact List.mem_map_of_mem hq) (e ▸ mem_keysL hp)
  · cases K with
    | nil => exact .inl rfl
    | cons => simp only [Bool.and_eq_true] at h7; exact .inr h7

section
variable {P : Program} {E : Env} {N : Nat} {σ : Sg} {τ : Nat → AV} {h : Nat → Option Blk} {us : List Nat} {a : Act} {w : World}

theorem Sim.callH (hs : Sim E N σ τ h us a w) {f : Nat → Nat} {K chin chout : List (Nat × Blk)} {cargs : List AV} {r : AV} (hc : HCk f K chin chout cargs r) (hin : ∀ q B, lkB chin q = some B → h (f q) = some (B.ren f)) (hfr : ∀ k ∈ newK f (keysB chin) chout, k ∉ us) (hlo : ∀ k ∈ newK f (keysB chin) chout, k < 1000)
    {w' : World} {σc : Sg} {v : Value} {S0 : Nat → Prop} (hS0 : ∀ b, S0 b → RS E σ h b ∨ ∃ p ∈ K, σ p.1 0 = some b) (hp : CPost w (fun q => σ (f q)) S0 chin w' σc r v chout) {d : Nat} (hd : d < N) :
    ∃ σ', Sim E N σ' (updT τ (some (d, r.ren f))) (updH h (effO f chout ++ effI f (keysB chout) chin)) (newK f (keysB chin) chout ++ us) (a.put (some d) v) w' := by
  -- names
  generalize hσ' : (fun k => match invK f k (keysB chout) with | some q => σc q | none => σ k : Sg) = σ'
  have hσin : ∀ q ∈ keysB chout, σ' (f q) = σc q := by
    intro q hq
    subst hσ'
    cases hi : invK f (f q) (keysB chout) with
    | none => exact absurd rfl (invK_none hi q hq)
    | some q' =>
      obtain ⟨h1, h2⟩ := invK_some hi
      have := hc.inj q' (List.mem_append_right _ h1) q (List.mem_append_right _ hq) h2
      simp only [hi]; rw [this]
  have hσout : ∀ k, (∀ q ∈ keysB chout, f q ≠ k) → σ' k = σ k := by
    intro k hk
    subst hσ'
    cases hi : invK f k (keysB chout) with
    | none => simp only [hi]
    | some q => exact absurd (invK_some hi).2 (hk q (invK_some hi).1)
  generalize hh' : updH h (effO f chout ++ effI f (keysB chout) chin) = h'
  have hh1 : ∀ q ∈ keysB chout, ∃ B, lkB chout q = some B ∧ h' (f q) = some (B.ren f) := by
    intro q hq
    have hne := keysB_iff.1 hq
    cases hB : lkB chout q with
    | none => exact absurd hB hne
    | some B =>
      refine ⟨B, rfl, ?_⟩
      subst hh'
      simp only [updH, lkW_effO]
      cases hi : invK f (f q) (keysB chout) with
      | none => exact absurd rfl (invK_none hi q hq)
      | some q' =>
        obtain ⟨h1, h2⟩ := invK_some hi
        have := hc.inj q' (List.mem_append_right _ h1) q (List.mem_append_right _ hq) h2
        subst this
        simp [hB]
  have hh2 : ∀ k, (∀ q ∈ keysB chout, f q ≠ k) → (h' k = none ∧ ∃ q ∈ keysB chin, f q = k) ∨ (h' k = h k ∧ ∀ q ∈ keysB chin, f q ≠ k) := by
    intro k hk
    subst hh'
    have hi : invK f k (keysB chout) = none := by
      cases hi : invK f k (keysB chout) with
      | none => rfl
      | some q => exact absurd (invK_some hi).2 (hk q (invK_some hi).1)
    simp only [updH, lkW_effO, hi]
    rcases lkW_effI (f := f) (out := keysB chout) (l := chin) (k := k) with ⟨h1, h2⟩ | ⟨h1, q, h2, h3, h4⟩
    · rw [h1]
      exact .inr ⟨rfl, fun q hq e => h2 q hq (fun hm => hk q hm e) e⟩
    · rw [h1]; exact .inl ⟨rfl, q, h2, h4⟩
  have hinne : ∀ q ∈ keysB chin, h (f q) ≠ none := by
    intro q hq
    have hne := keysB_iff.1 hq
    cases hB : lkB chin q with
    | none => exact absurd hB hne
    | some B => rw [hin q B hB]; simp
  have hOwn : ∀ b, Own chin (fun q => σ (f q)) b → ∃ q ∈ keysB chin, ∃ s, σ (f q) s = some b := fun b ⟨q, s, h1, h2⟩ => ⟨q, keysB_iff.2 h1, s, h2⟩
  -- a key of the new heap
  have hkey : ∀ k, h' k ≠ none → (∃ q ∈ keysB chout, f q = k ∧ σ' k = σc q) ∨ (h' k = h k ∧ σ' k = σ k ∧ (∀ q ∈ keysB chin, f q ≠ k) ∧ ∀ q ∈ keysB chout, f q ≠ k) := by
    intro k hk
    by_cases hx : ∃ q ∈ keysB chout, f q = k
    · obtain ⟨q, h1, h2⟩ := hx
      exact .inl ⟨q, h1, h2, by rw [← h2]; exact hσin q h1⟩
    · have hx' : ∀ q ∈ keysB chout, f q ≠ k := fun q hq e => hx ⟨q, hq, e⟩
      rcases hh2 k hx' with ⟨h1, _⟩ | ⟨h1, h2⟩
      · exact absurd h1 hk
      · exact .inr ⟨h1, hσout k hx', h2, hx'⟩
  have hfrb : ∀ b, b < w.heap.size → (∀ q ∈ keysB chin, ∀ s, σ (f q) s ≠ some b) → w'.heap[b]? = w.heap[b]? := fun b hb hn => hp.fr b hb fun ho => let ⟨q, hq, s, e⟩ := hOwn b ho; hn q hq s e
  have hRSold : ∀ b, RS E σ h b → b < w.heap.size → RS E σ' h' b := by
    intro b hb hlt
    refine ⟨hb.1, fun k s hk e => ?_⟩
    rcases hkey k hk with ⟨q, h1, h2, h3⟩ | ⟨h1, h2, _, _⟩
    · rw [h3] at e
      rcases (hp.own q s b (keysB_iff.1 h1) e).1 with ho | ho
      · obtain ⟨q', hq', s', e'⟩ := hOwn b ho; exact hb.2 (f q') s' (hinne q' hq') e'
      · omega
    · rw [h2] at e; exact hb.2 k s (by rw [← h1]; exact hk) e
  have he : Ev w w' (fun b => RS E σ h b ∧ b < w.heap.size) (RS E σ' h') :=
    ⟨fun b hb => ⟨hRSold b hb.1 hb.2, hfrb b hb.2 fun q hq s e => hb.1.2 (f q) s (hinne q hq) e⟩, hp.zz⟩
  have hσus : ∀ k, k ∈ us → (∀ q ∈ keysB chout, f q = k → q ∈ keysB chin) := by
    intro k hk q hq e
    by_cases hm : q ∈ keysB chin
    · exact hm
    · exact absurd hk (hfr k (mem_newK.2 ⟨q, hq, hm, e⟩))
  have hσold : ∀ k, k ∈ us → σ' k = σ k := by
    intro k hk
    by_cases hx : ∃ q ∈ keysB chout, f q = k
    · obtain ⟨q, h1, h2⟩ := hx
      have hq := hσus k hk q h1 h2
      rw [← h2, hσin q h1, hp.kp q (hc.pm q hq)]
    · exact hσout k fun q hq e => hx ⟨q, hq, e⟩
  have hus : ∀ q ∈ keysB chin, f q ∈ us := by
    intro q hq
    rcases Classical.em (f q ∈ us) with h1 | h1
    · exact h1
    · exact absurd (hs.fsh (f q) h1).2.1 (hinne q hq)
  have hkin : ∀ q ∈ keysB chout, f q ∈ newK f (keysB chin) chout ++ us := by
    intro q hq
    by_cases hm : q ∈ keysB chin
    · exact List.mem_append_right _ (hus q hm)
    · exact List.mem_append_left _ (mem_newK.2 ⟨q, hq, hm, rfl⟩)
  have hocc1 : ∀ k, (∀ q ∈ us, q ≠ k) → ∀ i, (τ i).occ k = false := fun k hk i => (hs.fsh k fun hm => hk k hm rfl).1 i
  have hSR : K = [] → ∀ b, SR w (fun q => σ (f q)) S0 chin σc chout b → RS E σ' h' b := by
    rintro rfl b ⟨hb1, hb2⟩
    have hS0' : ∀ b, S0 b → RS E σ h b := fun b hb => by rcases hS0 b hb with h1 | ⟨p, hp, _⟩; exact h1; cases hp
    refine ⟨?_, fun k s hk e => ?_⟩
    · rcases hb1 with h1 | h1 | h1
      · exact (hS0' b h1).1
      · obtain ⟨q, hq, s, e⟩ := hOwn b h1
        exact .inr (hs.own (f q) s b (hinne q hq) e).1
      · exact .inr (.inr (Nat.le_trans hs.gr h1))
    · rcases hkey k hk with ⟨q, h1, h2, h3⟩ | ⟨h1, h2, h4, _⟩
      · rw [h3] at e; exact hb2 q s (keysB_iff.1 h1) e
      · rw [h2] at e
        have hkn : h k ≠ none := by rw [← h1]; exact hk
        rcases hb1 with h5 | h5 | h5
        · exact (hS0' b h5).2 k s hkn e
        · obtain ⟨q, hq, s', e'⟩ := hOwn b h5
          exact h4 q hq (hs.inj _ _ _ _ b (hinne q hq) hkn e' e).1
        · have := (hs.own k s b hkn e).2; omega
  have hs1 : Sim E N σ' τ h' (newK f (keysB chin) chout ++ us) a w' := by
    refine { sz := hs.sz, df := hs.df, tm := fun i => (hs.tm i).lt.mono he fun k hk => hσold k ?_, hp := fun k B hB => ?_, inj := ?_, own := ?_, fsh := fun k hk => ?_,
             fr := fun b hb hM => (hp.fr b (Nat.lt_of_lt_of_le hb hs.gr) fun ho => ?_).trans (hs.fr b hb hM), gr := Nat.le_trans hs.gr hp.gr, zz := fun b vs ty fr hb => ?_, kp := fun k hk => ?_, os := hp.os.trans hs.os, tp := hp.tp.trans hs.tp, op := hp.op.trans hs.op }
    · rcases Classical.em (k ∈ us) with h1 | h1
      · exact h1
      · rw [(hs.fsh k h1).1 i] at hk; cases hk
    · rcases hkey k (by rw [hB]; simp) with ⟨q, h1, h2, h3⟩ | ⟨h1, h2, h4, h5⟩
      · obtain ⟨Bc, h6, h7⟩ := hh1 q h1
        rw [h2, hB] at h7
        injection h7 with h7
        subst h7
        rw [← h2]
        have hb0 := hp.hb q Bc h6
        have hb1 := hb0.renI (σ' := σ') f (hσin q h1) fun k hk => hσin k (keysIn_out hc.bo h6 k (by rcases Classical.em (k ∈ Bc.keys) with h8 | h8; exact h8; rw [Blk.occ_keys h8] at hk; cases hk))
        rcases hc.sc with hK | ⟨_, hsc⟩
        · exact hb1.monoS (hSR hK)
        · exact (HB.scal hsc h6 hb0).renI (σ' := σ') f (hσin q h1) fun k hk => hσin k (keysIn_out hc.bo h6 k (by rcases Classical.em (k ∈ Bc.keys) with h8 | h8; exact h8; rw [Blk.occ_keys h8] at hk; cases hk))
      · rw [h1] at hB
        refine (hs.hp k B hB).lt.mono he h2 (fun k' hk' => hσold k' ?_) fun s0 b hb => ?_
        · rcases Classical.em (k' ∈ us) with h6 | h6
          · exact h6
          · rw [(hs.fsh k' h6).2.2 k B hB] at hk'; cases hk'
        · have hkn : h k ≠ none := by rw [hB]; simp
          exact hfrb b (hs.own k s0 b hkn hb).2 fun q hq s e => h4 q hq (hs.inj _ _ _ _ b (hinne q hq) hkn e hb).1
    · intro k k' s s' b hk hk' e e'
      rcases hkey k hk with ⟨q, h1, h2, h3⟩ | ⟨h1, h2, h4, h5⟩ <;> rcases hkey k' hk' with ⟨q', h1', h2', h3'⟩ | ⟨h1', h2', h4', h5'⟩
      · rw [h3] at e; rw [h3'] at e'
        obtain ⟨h6, h7⟩ := hp.inj q q' s s' b (keysB_iff.1 h1) (keysB_iff.1 h1') e e'
        exact ⟨by rw [← h2, ← h2', h6], h7⟩
      · rw [h3] at e; rw [h2'] at e'
        have hkn : h k' ≠ none := by rw [← h1']; exact hk'
        rcases (hp.own q s b (keysB_iff.1 h1) e).1 with ho | ho
        · obtain ⟨q2, hq2, s2, e2⟩ := hOwn b ho
          exact absurd (hs.inj _ _ _ _ b (hinne q2 hq2) hkn e2 e').1 (h4' q2 hq2)
        · have := (hs.own k' s' b hkn e').2; omega
      · rw [h3'] at e'; rw [h2] at e
        have hkn : h k ≠ none := by rw [← h1]; exact hk
        rcases (hp.own q' s' b (keysB_iff.1 h1') e').1 with ho | ho
        · obtain ⟨q2, hq2, s2, e2⟩ := hOwn b ho
          exact absurd (hs.inj _ _ _ _ b (hinne q2 hq2) hkn e2 e).1 (h4 q2 hq2)
        · have := (hs.own k s b hkn e).2; omega
      · rw [h2] at e; rw [h2'] at e'
        exact hs.inj k k' s s' b (by rw [← h1]; exact hk) (by rw [← h1']; exact hk') e e'
    · intro k s b hk e
      rcases hkey k hk with ⟨q, h1, h2, h3⟩ | ⟨h1, h2, h4, h5⟩
      · rw [h3] at e
        obtain ⟨h6, h7⟩ := hp.own q s b (keysB_iff.1 h1) e
        refine ⟨?_, h7⟩
        rcases h6 with h6 | h6
        · obtain ⟨q2, hq2, s2, e2⟩ := hOwn b h6
          exact (hs.own (f q2) s2 b (hinne q2 hq2) e2).1
        · exact .inr (Nat.le_trans hs.gr h6)
      · rw [h2] at e
        obtain ⟨h6, h7⟩ := hs.own k s b (by rw [← h1]; exact hk) e
        exact ⟨h6, Nat.lt_of_lt_of_le h7 hp.gr⟩
    · have hk1 : k ∉ us := fun hm => hk (List.mem_append_right _ hm)
      obtain ⟨h1, h2, h3⟩ := hs.fsh k hk1
      have hk2 : ∀ q ∈ keysB chout, f q ≠ k := fun q hq e => hk (e ▸ hkin q hq)
      refine ⟨h1, ?_, fun k' B hB => ?_⟩
      · rcases hh2 k hk2 with ⟨h4, _⟩ | ⟨h4, _⟩
        · exact h4
        · rw [h4]; exact h2
      · rcases hkey k' (by rw [hB]; simp) with ⟨q, h4, h5, h6⟩ | ⟨h4, h5, h6, h7⟩
        · obtain ⟨Bc, h8, h9⟩ := hh1 q h4
          rw [h5, hB] at h9
          injection h9 with h9
          subst h9
          cases ho : (Bc.ren f).occ k with
          | false => rfl
          | true =>
            obtain ⟨q2, h10, h11⟩ := Blk.occ_ren f k Bc ho
            exact absurd h11 (hk2 q2 (keysIn_out hc.bo h8 q2 h10))
        · rw [h4] at hB; exact h3 k' B hB
    · obtain ⟨q, hq, s, e⟩ := hOwn b ho
      rcases (hs.own (f q) s b (hinne q hq) e).1 with h1 | h1
      · exact hM h1
      · omega
    · obtain ⟨vs1, h1, h2⟩ := hs.zz b vs ty fr hb
      obtain ⟨vs2, h3, h4⟩ := hp.zz b vs1 ty fr h1
      exact ⟨vs2, h3, by omega⟩
    · by_cases hx : ∃ q ∈ keysB chout, f q = k
      · obtain ⟨q, h1, h2⟩ := hx
        by_cases hm : q ∈ keysB chin
        · rw [hσold k (h2 ▸ hus q hm)]; exact hs.kp k hk
        · exact absurd hk (by have := hlo k (mem_newK.2 ⟨q, h1, hm, h2⟩); omega)
      · rw [hσout k fun q hq e => hx ⟨q, hq, e⟩]; exact hs.kp k hk
  refine ⟨σ', hs1.put hd ?_ fun k hk => ?_⟩
  · have h1 : AR w' σ' (SR w (fun q => σ (f q)) S0 chin σc chout) (r.ren f) v := hp.ar.renI f r v fun q hq => hσin q (hc.ro q (by
      rcases Classical.em (q ∈ r.keys) with h8 | h8
      · exact h8
      · rw [occ_keys q r h8] at hq; cases hq))
    rcases hc.sc with hK | ⟨hsc, _⟩
    · exact h1.mono ⟨fun b hb => ⟨hSR hK b hb, rfl⟩, fun b vs ty fr hb => ⟨vs, hb, rfl⟩⟩ fun _ _ => rfl
    · exact (hp.ar.scal (S' := RS E σ' h') hsc).renI f r v fun q hq => hσin q (hc.ro q (by
        rcases Classical.em (q ∈ r.keys) with h8 | h8
        · exact h8
        · rw [occ_keys q r h8] at hq; cases hq))
  · cases ho : (r.ren f).occ k with
    | false => rfl
    | true =>
      obtain ⟨q, h1, h2⟩ := AV.occ_ren f k r ho
      exact absurd (h2 ▸ hkin q (hc.ro q h1)) hk

end

def mkK (f : Nat → Nat) : List (Nat × Blk) → List (Nat × Blk)
  | [] => []
  | (q, B) :: l => (f q, B.ren f) :: mkK f l

theorem mkK_mem {f : Nat → Nat} {l : List (Nat × Blk)} {q : Nat} {B : Blk} (h : lkB l q = some B) : (f q, B.ren f) ∈ mkK f l := by
  induction l with
  | nil => cases h
  | cons p l ih =>
    obtain ⟨k, B'⟩ := p
    simp only [lkB] at h
    by_cases e : q = k
    · subst e; simp at h; subst h; simp [mkK]
    · rw [beq_ne e] at h; exact List.mem_cons_of_mem _ (ih h)

def frAll (us : List Nat) : List Nat → Bool
  | [] => true
  | k :: l => frB k us && frAll us l

theorem frAll_out {us : List Nat} : ∀ {l : List Nat}, frAll us l = true → ∀ k ∈ l, frB k us = true
  | [], _, k, hk => by cases hk
  | a :: l, h, k, hk => by
    simp only [frAll, Bool.and_eq_true] at h
    rcases List.mem_cons.1 hk with rfl | hk
    · exact h.1
    · exact frAll_out h.2 k hk

section
variable {P : Program} {E : Env} {N : Nat} {tm : List (Nat × AV)} {hp : List (Nat × Option Blk)} {us : List Nat} {d : Nat} {ty : TypeId} {pos : String} {af : Array Edge} {g : Option (Nat × Bool)} {t : TypeId} {x y : Operand}

theorem calls_H {σ : Sg} {τ : Nat → AV} {h : Nat → Option Blk} {us : List Nat} {a : Act} {w : World} {fid : FuncId} {avs cargs : List AV} {r : AV} {f : Nat → Nat} {K chin chout : List (Nat × Blk)} (hc : Con P fid cargs chin r chout) (hs : Sim E N σ τ h us a w)
    (hKh : ∀ p ∈ K, h p.1 = some p.2) (hin : ∀ q B, lkB chin q = some B → h (f q) = some (B.ren f)) (hh : HCk f K chin chout cargs r) (hv : AV.viewL K avs = AV.renL f cargs) (hok : AV.okVL K avs)
    {vs : List Value} (hl : vs.length = avs.length) (hvs : ∀ (i : Nat) (y : AV) (v : Value), avs[i]? = some y → vs[i]? = some v → AR w σ (RS E σ h) y v) :
    Calls P fid vs.toArray w fun e w' => ∃ v, e = .returned v ∧ ∃ σc, CPost w (fun q => σ (f q)) (fun b => RS E σ h b ∨ ∃ p ∈ K, σ p.1 0 = some b) chin w' σc r v chout := by
  have hlen : avs.length = cargs.length := by
    have := congrArg List.length hv
    rw [viewL_eq, renL_eq] at this
    simpa using this
  have := hc.run w (fun q => σ (f q)) (fun b => RS E σ h b ∨ ∃ p ∈ K, σ p.1 0 = some b) vs (by omega) (fun i z u hz hu => by
    have hi : i < avs.length := by have := (List.getElem?_eq_some_iff.1 hz).1; omega
    have h1 : (AV.viewL K avs)[i]? = some (z.ren f) := by rw [hv, renL_eq, List.getElem?_map, hz]; rfl
    rw [viewL_eq, List.getElem?_map, List.getElem?_eq_getElem hi] at h1
    injection h1 with h1
    have h2 := (hvs i _ u (List.getElem?_eq_getElem hi) hu).view (S' := fun b => RS E σ h b ∨ ∃ p ∈ K, σ p.1 0 = some b) (fun p hp => hs.hp p.1 p.2 (hKh p hp)) (fun b hb => .inl hb) (fun p hp b hb => .inr ⟨p, hp, hb⟩) (okVL_get hok (List.getElem?_eq_getElem hi))
    rw [h1] at h2
    exact AR.unren f z u h2) ⟨fun q B hB => ?_, fun q q' s s' b h1 h2 e1 e2 => ?_, fun q s b h1 e => ?_⟩
  · refine this.mono ?_
    rintro e w' ⟨v, σ', rfl, hpost⟩
    exact ⟨v, rfl, σ', hpost⟩
  · exact ((hs.hp (f q) (B.ren f) (hin q B hB)).unren f).monoS fun b hb => .inl hb
  · have hne : ∀ q, lkB chin q ≠ none → h (f q) ≠ none := fun q hq => by
      cases hB : lkB chin q with
      | none => exact absurd hB hq
      | some B => rw [hin q B hB]; simp
    obtain ⟨h3, h4⟩ := hs.inj _ _ _ _ b (hne q h1) (hne q' h2) e1 e2
    exact ⟨hh.inj q (List.mem_append_left _ (keysB_iff.2 h1)) q' (List.mem_append_left _ (keysB_iff.2 h2)) h3, h4⟩
  · have hne : h (f q) ≠ none := by
      cases hB : lkB chin q with
      | none => exact absurd hB h1
      | some B => rw [hin q B hB]; simp
    refine ⟨(hs.own _ s b hne e).2, ?_⟩
    rintro (h2 | ⟨p, hp, h2⟩)
    · exact h2.2 (f q) s hne e
    · exact hh.ka q (keysB_iff.2 h1) p hp (hs.inj _ _ _ _ b hne (by rw [hKh p hp]; simp) e h2).1

/-- A call to which blocks are handed over: `ρ` says which block of ours each of its names is. -/
theorem s_callH {fid : FuncId} {xs : List Operand} {ats : Array TypeId} {avs cargs : List AV} {r : AV} [hf : FnC P fid] (K : List (Nat × Blk)) (ρ : List (Nat × Nat)) {chin chout : List (Nat × Blk)} (hc : Con P fid cargs chin r chout) (hx : EvArgs tm xs avs) (hk : NeedK hp (K ++ mkK (rnL ρ) chin)) (hv : AV.viewL K avs = AV.renL (rnL ρ) cargs) (hok : AV.okVL K avs)
    (hh : hck (rnL ρ) K chin chout cargs r = true) (hF : frAll us (newK (rnL ρ) (keysB chin) chout) = true) (hN : Nat.blt d N = true) :
    Step P E N ⟨some d, .call { callee := .value (.func fid), args := xs.toArray, argTypes := ats }, ty, pos, af, g⟩ tm hp us ⟨needL (zipO xs avs), K ++ mkK (rnL ρ) chin, newK (rnL ρ) (keysB chin) chout, some (d, r.ren (rnL ρ)), effO (rnL ρ) chout ++ effI (rnL ρ) (keysB chout) chin⟩ :=
  step_eff (zipO xs avs) (K ++ mkK (rnL ρ) chin) hx.evl.1 hk (frAll_out hF) fun σ τ h us a w Q K' hv' hF' hK' => by
    have hlen := hx.evl.2
    have hck := hck_spec hh
    have hKh : ∀ p ∈ K, h p.1 = some p.2 := fun p hp => (hv'.kb p (List.mem_append_left _ hp)).1
    have hin : ∀ q B, lkB chin q = some B → h (rnL ρ q) = some (B.ren (rnL ρ)) := fun q B hB => (hv'.kb _ (List.mem_append_right _ (mkK_mem hB))).1
    refine wp_enter (exec_call rfl hf a w) (R := fun v w' => ∃ σc, CPost w (fun q => σ (rnL ρ q)) (fun b => RS E σ h b ∨ ∃ p ∈ K, σ p.1 0 = some b) chin w' σc r v chout) ?_ fun v w' ⟨σc, hpost⟩ => ?_
    · rw [show xs.toArray.map a.eval = (xs.map a.eval).toArray by simp]
      exact calls_H hc hv'.sim hKh hin hck hv hok (by simp [hlen]) fun i y u hy hu => by
        rw [List.getElem?_map] at hu
        cases hj : xs[i]? with
        | none => rw [hj] at hu; cases hu
        | some x =>
          rw [hj] at hu
          injection hu with hu
          subst hu
          exact hv'.ar _ (zipO_get hj hy)
    · obtain ⟨σ', h1⟩ := hv'.sim.callH (d := d) hck hin (fun k hk => (hF' k hk).1) (fun k hk => (hF' k hk).2) (fun b hb => hb) hpost (by simpa using hN)
      exact hK' σ' _ _ h1

end
end Go.Eng

namespace Go.Eng

section
variable {P : Program} {E : Env} {N : Nat} {st : St} {Q : Exit → St → Prop}

/-- A loop: its states are named by `α`. -/
theorem vc_while {c : Code} {α : Type} (ST : α → St) (J : α → Prop) (μ : α → Nat) (x0 : α) (h0 : LeE st (ST x0)) (hJ : J x0) (round : ∀ x, J x → VC P E N c (ST x) (Thn (fun s' => ∃ y, J y ∧ μ y < μ x ∧ LeE s' (ST y)) Q)) : VC P E N (.loop c) st Q := by
  obtain ⟨K, f, hl⟩ := h0
  refine vc_weak K f hl (vc_loop (fun m s => ∃ x, J x ∧ m = μ x ∧ s = ST x) (fun m s ⟨x, hx, hm, hs⟩ => ?_) (μ x0) ⟨x0, hJ, rfl, rfl⟩)
  subst hs; subst hm
  refine vc_mono (round x hx) fun e s' hq => ?_
  cases e with
  | normal => obtain ⟨y, h1, h2, h3⟩ := hq; exact ⟨μ y, ST y, h2, ⟨y, h1, rfl, rfl⟩, h3⟩
  | _ => exact hq

/-- A loop that counts up to `n`. -/
theorem vc_up {c : Code} (n : Nat) (ST : Nat → St) (J : Nat → Prop) (h0 : LeE st (ST 0)) (hJ : J 0) (round : ∀ i, i ≤ n → J i → VC P E N c (ST i) (Thn (fun s' => i < n ∧ J (i + 1) ∧ LeE s' (ST (i + 1))) Q)) : VC P E N (.loop c) st Q := by
  refine vc_while ST (fun i => i ≤ n ∧ J i) (fun i => n - i) 0 h0 ⟨Nat.zero_le _, hJ⟩ fun i ⟨h1, h2⟩ => ?_
  refine vc_mono (round i h1 h2) fun e s' hq => ?_
  cases e with
  | normal => obtain ⟨h3, h4, h5⟩ := hq; exact ⟨i + 1, ⟨h3, h4⟩, by omega, h5⟩
  | _ => exact hq

theorem idx_map {α β : Type} {f : α → β} {l : List α} {i : Nat} {x : α} (h : l[i]? = some x) : (l.map f)[i]? = some (f x) := by rw [List.getElem?_map, h]; rfl

theorem get_of_lt {α : Type} {l : List α} {i : Nat} (h : i < l.length) : ∃ x, l[i]? = some x := ⟨l[i], List.getElem?_eq_getElem h⟩

end

/-! ### The program's data, as Lean has them -/
structure Item where
  block : Int
  data : List Int
deriving DecidableEq

structure Write where
  seq : Int
  items : List Item
deriving DecidableEq

structure Volume where
  id : Int
  blocks : Int
  size : Int
  per : Int
  place : List Int
  total : Int
  next : Int
  hidden : Bool
  floor : Int
  pins : List Int
  writes : List Write
deriving DecidableEq

structure VolCmd where
  kind : Int
  vol : Int
  blocks : Int
  size : Int
  per : Int
  place : List Int
  total : Int
  time : Int
  index : Int
  items : List Item
deriving DecidableEq

structure Reply where
  code : Int
  len : Int
  floor : Int
  next : Int
  data : List Int
deriving DecidableEq

def i64 (n : Int) : T := .k (.int .i64 n)
def bT (b : Bool) : T := .k (.bool b)
def byteC (z : Int) : List T := [.k (.int .u8 z)]
def intC (z : Int) : List T := [.k (.int .i64 z)]
def bytesT (l : List Int) : T := .sl 1 1 (l.map byteC)
def intsT (l : List Int) : T := .sl 1 8 (l.map intC)
def itemC (x : Item) : List T := [i64 x.block, bytesT x.data]
def itemsT (l : List Item) : T := .sl 2 32 (l.map itemC)
def writeC (w : Write) : List T := [i64 w.seq, itemsT w.items]
def writesT (l : List Write) : T := .sl 2 32 (l.map writeC)
def volC (v : Volume) : List T := [i64 v.id, i64 v.blocks, i64 v.size, i64 v.per, intsT v.place, i64 v.total, i64 v.next, bT v.hidden, i64 v.floor, intsT v.pins, writesT v.writes]
def cmdC (c : VolCmd) : List T := [i64 c.kind, i64 c.vol, i64 c.blocks, i64 c.size, i64 c.per, intsT c.place, i64 c.total, i64 c.time, i64 c.index, itemsT c.items]
def repC (r : Reply) : List T := [i64 r.code, i64 r.len, i64 r.floor, i64 r.next, bytesT r.data]
def sC (l : List T) : AV := .agg (l.map .t)

end Go.Eng

namespace Go.Eng

/-! ### Maps from int to bool -/
def ents : List (Int × Bool) → Nat → List MapEntry
  | [], _ => []
  | (k, b) :: l, n => { key := .int .i64 k, val := .bool b, born := n } :: ents l (n + 1)
def mapO (l : List (Int × Bool)) : Obj := .map (ents l 0).toArray l.length
def fnd : List (Int × Bool) → Int → Option Bool
  | [], _ => none
  | (k, b) :: l, x => if x = k then some b else fnd l x

theorem ents_append : ∀ (l : List (Int × Bool)) (n : Nat) (k : Int) (b : Bool), ents (l ++ [(k, b)]) n = ents l n ++ [{ key := .int .i64 k, val := .bool b, born := n + l.length }]
  | [], n, k, b => by simp [ents]
  | (k', b') :: l, n, k, b => by simp only [List.cons_append, ents, ents_append l, List.length_cons]; rw [show n + 1 + l.length = n + (l.length + 1) by omega]

class MapC (P : Program) (t : TypeId) (e : outParam TypeId) : Prop where
  eq : ((match P.underlying t with | some (.map k e) => (match P.underlying k with | some (.int .i64) => some e | _ => none) | _ => none) = some e)
  zr : (P.info? e).bind (·.zero) = some (.bool false)

theorem MapC.out {P : Program} {t e : TypeId} (h : MapC P t e) : ∃ k, P.underlying t = some (.map k e) ∧ P.underlying k = some (.int .i64) := by
  have := h.eq
  split at this
  · rename_i k e' h1
    split at this
    · rename_i h2; injection this with this; subst this; exact ⟨k, h1, h2⟩
    · cases this
  · cases this

theorem findNow_ents (x : Int) : ∀ (l : List (Int × Bool)) (n i : Nat), Instr.findNow (.int .i64) (.int .i64 x) (ents l n) i = match fnd l x with | none => some none | some b => some (some ((l.findIdx (fun p => decide (p.1 = x))) + i, .bool b))
  | [], n, i => rfl
  | (k, b) :: l, n, i => by
    simp only [ents, Instr.findNow, Instr.sameNow, if_true, fnd, List.findIdx_cons]
    by_cases e : x = k
    · subst e; simp
    · have e1 : (x == k) = false := by simpa using e
      have e2 : decide (k = x) = false := by simp; exact fun h => e h.symm
      rw [e1, if_neg e, e2]
      simp only [cond_false]
      rw [findNow_ents x l]
      cases fnd l x with
      | none => rfl
      | some b => simp only [Option.some.injEq, Prod.mk.injEq, and_true]; omega

section
variable {P : Program} {E : Env} {N : Nat} {tm : List (Nat × AV)} {hp : List (Nat × Option Blk)} {us : List Nat} {d : Nat} {ty : TypeId} {pos : String} {af : Array Edge} {g : Option (Nat × Bool)} {t : TypeId} {x y z : Operand}

theorem run_checkKey_int {P : Program} {w : World} {kt : TypeId} (hku : P.underlying kt = some (.int .i64)) (e : Bool) (n : Nat) (k : Int) : (Instr.checkKey e (n + 1) kt (.int .i64 k)).run P w = .ok () w := by
  rw [Instr.checkKey]
  simp only [Sem.run_bind, run_und hku, Result.andThen_ok]
  rfl

theorem s_makeMap {e : TypeId} (q : Nat) [hm : MapC P t e] (hq : frB q us = true) (hN : Nat.blt d N = true) :
    Step P E N ⟨some d, .makeMap t none, ty, pos, af, g⟩ tm hp us ⟨needL [], [], [q], some (d, .mp q), [(q, some (.obj (mapO [])))]⟩ :=
  step_eff [] [] trivial trivial (fun q' h => by simp at h; subst h; exact hq) fun σ τ h us a w Q K' hv hF hK' => by
    have hq1 := (hF q (by simp)).1
    have hq2 := (hF q (by simp)).2
    obtain ⟨hf1, hf2, hf3⟩ := hv.sim.fsh q hq1
    have hrun : (Instr.makeMap t none).run P w = .ok (.map (some w.heap.size)) (w.alloc (.map #[] 0)) := rfl
    simp only [Oper.wp, execOp, Option.map_none, Sem.run_bind, hrun, Result.andThen_ok, Sem.run_pure, Oper.upon_value]
    refine hK' (sgSet σ q (some w.heap.size)) _ _ ?_
    have hs := hv.sim
    rw [updH_one]
    have hsz : w.heap.size ≤ (w.alloc (.map #[] 0)).heap.size ∧ w.heap.size < (w.alloc (.map #[] 0)).heap.size := by
      have : (w.alloc (.map #[] 0)).heap.size = w.heap.size + 1 := by show (w.heap.push _).size = _; simp
      omega
    have hRS : ∀ b, RS E σ h b → b < w.heap.size → RS E (sgSet σ q (some w.heap.size)) (hSet h q (some (.obj (mapO [])))) b := by
      intro b hb hlt
      refine ⟨hb.1, fun q' s hq' => ?_⟩
      by_cases e : q' = q
      · subst e
        simp only [sgSet, if_true]
        split
        · intro e; injection e; omega
        · intro e; cases e
      · rw [sgSet_ne _ _ e]
        exact hb.2 q' s (by simpa [hSet, e] using hq')
    have hev : Ev w (w.alloc (.map #[] 0)) (fun b => RS E σ h b ∧ b < w.heap.size) (RS E (sgSet σ q (some w.heap.size)) (hSet h q (some (.obj (mapO []))))) :=
      ⟨fun b hb => ⟨hRS b hb.1 hb.2, alloc_heap _ _ _ hb.2⟩, fun b vs t fr hb => ⟨vs, by rw [alloc_heap _ _ _ (lt_of_heap hb)]; exact hb, rfl⟩⟩
    have hs1 : Sim E N (sgSet σ q (some w.heap.size)) τ (hSet h q (some (.obj (mapO [])))) (q :: us) a (w.alloc (.map #[] 0)) := by
      refine { sz := hs.sz, df := hs.df, tm := fun i => (hs.tm i).lt.mono hev fun k hk => sgSet_ne _ _ ?_, hp := fun k B hB => ?_, inj := ?_, own := ?_, fsh := fun k hk => ?_, fr := fun b hb hM => (alloc_heap _ _ _ (Nat.lt_of_lt_of_le hb hs.gr)).trans (hs.fr b hb hM), gr := Nat.le_trans hs.gr hsz.1, zz := fun b vs t fr hb => ?_, kp := fun k hk => ?_, os := hs.os, tp := hs.tp, op := hs.op }
      · rintro rfl; rw [hf1 i] at hk; cases hk
      · by_cases e : k = q
        · subst e
          simp only [hSet, if_true, Option.some.injEq] at hB
          subst hB
          exact ⟨w.heap.size, sgSet_eq _ _ _, alloc_new _ _⟩
        · have hB0 : h k = some B := by simpa [hSet, e] using hB
          refine (hs.hp k B hB0).lt.mono hev (sgSet_ne _ _ e) (fun k' hk' => sgSet_ne _ _ ?_) fun s b hb => alloc_heap _ _ _ (hs.own k s b (by rw [hB0]; simp) hb).2
          rintro rfl; rw [hf3 k B hB0] at hk'; cases hk'
      · intro k k' s s' b h1 h2 e1 e2
        by_cases e : k = q <;> by_cases e' : k' = q
        · subst e; subst e'
          simp only [sgSet, if_true] at e1 e2
          refine ⟨rfl, ?_⟩
          split at e1 <;> split at e2 <;> simp_all
        · subst e
          rw [sgSet_ne _ _ e'] at e2
          simp only [sgSet, if_true] at e1
          split at e1
          · injection e1 with e1
            have := (hs.own k' s' b (by simpa [hSet, e'] using h2) e2).2
            omega
          · cases e1
        · subst e'
          rw [sgSet_ne _ _ e] at e1
          simp only [sgSet, if_true] at e2
          split at e2
          · injection e2 with e2
            have := (hs.own k s b (by simpa [hSet, e] using h1) e1).2
            omega
          · cases e2
        · rw [sgSet_ne _ _ e] at e1
          rw [sgSet_ne _ _ e'] at e2
          exact hs.inj k k' s s' b (by simpa [hSet, e] using h1) (by simpa [hSet, e'] using h2) e1 e2
      · intro k s b h1 e1
        by_cases e : k = q
        · subst e
          simp only [sgSet, if_true] at e1
          split at e1
          · injection e1 with e1; subst e1; exact ⟨.inr hs.gr, hsz.2⟩
          · cases e1
        · rw [sgSet_ne _ _ e] at e1
          obtain ⟨h3, h4⟩ := hs.own k s b (by simpa [hSet, e] using h1) e1
          exact ⟨h3, Nat.lt_of_lt_of_le h4 hsz.1⟩
      · have hk1 : k ∉ us := fun hm => hk (List.mem_cons_of_mem _ hm)
        have hk2 : k ≠ q := fun e => hk (e ▸ List.mem_cons_self ..)
        obtain ⟨h1, h2, h3⟩ := hs.fsh k hk1
        refine ⟨h1, by simpa [hSet, hk2] using h2, fun k' B hB => ?_⟩
        by_cases e : k' = q
        · subst e; simp only [hSet, if_true, Option.some.injEq] at hB; subst hB; rfl
        · exact h3 k' B (by simpa [hSet, e] using hB)
      · obtain ⟨vs', h1, h2⟩ := hs.zz b vs t fr hb
        exact ⟨vs', by rw [alloc_heap _ _ _ (lt_of_heap h1)]; exact h1, h2⟩
      · rw [sgSet_ne _ _ (by omega)]; exact hs.kp k hk
    refine hs1.put (by simpa using hN) (.mp (sgSet_eq _ _ _)) fun k hk => ?_
    simp only [AV.occ]
    cases hb : Nat.beq q k with
    | false => rfl
    | true => exact absurd (List.mem_cons.2 (.inl (Nat.eq_of_beq_eq_true hb).symm)) hk

theorem s_lookup {e : TypeId} {q : Nat} {l : List (Int × Bool)} {k : Int} [hm : MapC P t e] (hx : evO tm x = some (.mp q)) (hk : lkH hp q = some (.obj (mapO l))) (hy : evO tm y = some (AI .i64 k)) (hN : Nat.blt d N = true) :
    Step P E N ⟨some d, .lookup t x y false, ty, pos, af, g⟩ tm hp us ⟨needL [(x, .mp q), (y, AI .i64 k)], [(q, .obj (mapO l))], [], some (d, AB ((fnd l k).getD false)), []⟩ :=
  step_val [(x, .mp q), (y, AI .i64 k)] [(q, .obj (mapO l))] rfl hN ⟨hx, hy, trivial⟩ ⟨hk, trivial⟩ fun σ τ h us a w hv => by
    have h1 := hv.ar (x, .mp q) (by simp)
    have h2 := (hv.ar (y, AI .i64 k) (by simp)).int.1
    dsimp only at h1 h2
    obtain ⟨b, hb1, hb2⟩ := (hv.kb (q, .obj (mapO l)) (by simp)).2
    generalize hgx : a.eval x = vx at h1
    cases h1 with
    | @mp _ b' hb' =>
      rw [hb1] at hb'; injection hb' with hb'; subst hb'
      obtain ⟨kt, hu, hku⟩ := hm.out
      refine ⟨.bool ((fnd l k).getD false), ?_, .t (.k _ trivial), fun q hq => rfl⟩
      have hgo : (getObj b).run P w = .ok (mapO l) w := MapKept.run_getObj_map hb2
      have hck : (Instr.checkKey (ents l 0).toArray.isEmpty 10000 kt (.int .i64 k)).run P w = .ok () w := run_checkKey_int hku _ 9999 k
      have hzv : (zeroValue e).run P w = .ok (.bool false) w := by
        have := hm.zr
        cases hi : P.info? e with
        | none => rw [hi] at this; cases this
        | some i => rw [hi] at this; simp only [Option.bind_some] at this; simp [zeroValue, typeInfo, hi, this]
      simp only [execOp, Instr.lookup, hgx, h2, Sem.run_bind, run_und hu, Result.andThen_ok, hgo, mapO, Sem.run_pure]
      rw [hck]
      simp only [Result.andThen_ok, Instr.findKey, Sem.run_bind, run_und hku, findNow_ents]
      cases hf : fnd l k with
      | none => simp [hzv]
      | some b => simp

theorem s_mapUpdate {e : TypeId} {q : Nat} {l : List (Int × Bool)} {k : Int} {b : Bool} [hm : MapC P t e] (hx : evO tm x = some (.mp q)) (hk : lkH hp q = some (.obj (mapO l))) (hy : evO tm y = some (AI .i64 k)) (hz : evO tm z = some (AB b)) (hf : fnd l k = none) :
    Step P E N ⟨none, .mapUpdate t x y z, ty, pos, af, g⟩ tm hp us ⟨needL [(x, .mp q), (y, AI .i64 k), (z, AB b)], [(q, .obj (mapO l))], [], none, [(q, some (.obj (mapO (l ++ [(k, b)]))))]⟩ :=
  step_eff [(x, .mp q), (y, AI .i64 k), (z, AB b)] [(q, .obj (mapO l))] ⟨hx, hy, hz, trivial⟩ ⟨hk, trivial⟩ (fun _ h => by cases h) fun σ τ h us a w Q K' hv hF hK' => by
    have h1 := hv.ar (x, .mp q) (by simp)
    have h2 := (hv.ar (y, AI .i64 k) (by simp)).int.1
    have h3 := (hv.ar (z, AB b) (by simp)).bool
    dsimp only at h1 h2 h3
    obtain ⟨hkq, bb, hb1, hb2⟩ := hv.kb (q, .obj (mapO l)) (by simp)
    dsimp only at hkq hb1
    generalize hgx : a.eval x = vx at h1
    cases h1 with
    | @mp _ b' hb' =>
      rw [hb1] at hb'; injection hb' with hb'; subst hb'
      obtain ⟨kt, hu, hku⟩ := hm.out
      have hgo : (getObj bb).run P w = .ok (mapO l) w := MapKept.run_getObj_map hb2
      have hck : (Instr.checkKey false 10000 kt (.int .i64 k)).run P w = .ok () w := run_checkKey_int hku _ 9999 k
      have hset : (setObj bb (.map ((ents l 0).toArray.push { key := .int .i64 k, val := .bool b, born := l.length }) (l.length + 1))).run P w = .ok () { w with heap := w.heap.setIfInBounds bb (.map ((ents l 0).toArray.push { key := .int .i64 k, val := .bool b, born := l.length }) (l.length + 1)) } := MapKept.run_setObj_map _ hb2
      have hnew : (Obj.map ((ents l 0).toArray.push { key := .int .i64 k, val := .bool b, born := l.length }) (l.length + 1)) = mapO (l ++ [(k, b)]) := by
        simp [mapO, ents_append]
      rw [hnew] at hset
      simp only [Oper.wp, execOp, Instr.mapUpdate, hgx, h2, h3, Sem.run_bind, run_und hu, Result.andThen_ok, hgo, mapO]
      rw [hck]
      simp only [Result.andThen_ok, Instr.findKey, Sem.run_bind, run_und hku, findNow_ents, hf, Sem.run_pure, hnew, hset, Oper.upon_value]
      refine hK' σ _ _ ?_
      have hs := hv.sim
      rw [updH_one]
      have hlt : bb < w.heap.size := lt_of_heap hb2
      have hne : h q ≠ none := by rw [hkq]; simp
      have hot : ∀ c, c ≠ bb → (w.heap.setIfInBounds bb (mapO (l ++ [(k, b)])))[c]? = w.heap[c]? := fun c hc => by rw [Array.getElem?_setIfInBounds, if_neg (fun e => hc e.symm)]
      have hnc : ∀ (c : Nat) (vs : Array Value) (ty : TypeId) (fr : Nat × Nat), w.heap[c]? = some (Obj.cells vs ty fr) → c ≠ bb := by
        rintro c vs ty fr hc rfl
        rw [hb2] at hc; simp [mapO] at hc
      have hiff : ∀ k', hSet h q (some (.obj (mapO (l ++ [(k, b)])))) k' ≠ none ↔ h k' ≠ none := by
        intro k'
        by_cases e : k' = q
        · subst e; simp [hSet, hne]
        · simp [hSet, e]
      have hRS : ∀ c, RS E σ h c ↔ RS E σ (hSet h q (some (.obj (mapO (l ++ [(k, b)]))))) c := fun c => ⟨fun hc => ⟨hc.1, fun k' s hk' => hc.2 k' s ((hiff k').1 hk')⟩, fun hc => ⟨hc.1, fun k' s hk' => hc.2 k' s ((hiff k').2 hk')⟩⟩
      have he : Ev w { w with heap := w.heap.setIfInBounds bb (mapO (l ++ [(k, b)])) } (RS E σ h) (RS E σ (hSet h q (some (.obj (mapO (l ++ [(k, b)])))))) :=
        ⟨fun c hc => ⟨(hRS c).1 hc, hot c (fun e => hc.2 q 0 hne (e ▸ hb1))⟩, fun c vs ty fr hc => ⟨vs, (hot c (hnc c vs ty fr hc)).trans hc, rfl⟩⟩
      refine { sz := hs.sz, df := hs.df, tm := fun i => (hs.tm i).mono he fun _ _ => rfl, hp := fun k' B hB => ?_, inj := fun k1 k2 s1 s2 c e1 e2 => hs.inj k1 k2 s1 s2 c ((hiff k1).1 e1) ((hiff k2).1 e2), own := fun k' s c e1 e2 => ?_, fsh := fun k' hk' => ?_, fr := fun c hc hM => ?_, gr := by simpa using hs.gr, zz := fun c vs ty fr hc => ?_, kp := hs.kp, os := hs.os, tp := hs.tp, op := hs.op }
      · by_cases e : k' = q
        · subst e
          simp only [hSet, if_true, Option.some.injEq] at hB
          subst hB
          exact ⟨bb, hb1, by simp [Array.getElem?_setIfInBounds, hlt]⟩
        · have hB0 : h k' = some B := by simpa [hSet, e] using hB
          refine (hs.hp k' B hB0).mono he rfl (fun _ _ => rfl) fun s c hc => hot c ?_
          rintro rfl
          exact e (hs.inj k' q s 0 c (by rw [hB0]; simp) hne hc hb1).1
      · have := hs.own k' s c ((hiff k').1 e1) e2
        exact ⟨this.1, by simpa using this.2⟩
      · obtain ⟨g1, g2, g3⟩ := hs.fsh k' hk'
        have hkq' : k' ≠ q := by rintro rfl; exact hne g2
        refine ⟨g1, by simpa [hSet, hkq'] using g2, fun k2 B hB => ?_⟩
        by_cases e : k2 = q
        · subst e; simp only [hSet, if_true, Option.some.injEq] at hB; subst hB; rfl
        · exact g3 k2 B (by simpa [hSet, e] using hB)
      · refine (hot c ?_).trans (hs.fr c hc hM)
        rintro rfl
        rcases (hs.own q 0 c hne hb1).1 with h4 | h4
        · exact hM h4
        · omega
      · obtain ⟨vs', g1, g2⟩ := hs.zz c vs ty fr hc
        exact ⟨vs', (hot c (hnc c vs' ty fr g1)).trans g1, g2⟩

end
end Go.Eng

namespace Go.Eng

section
variable {P : Program} {E : Env} {N : Nat} {tm : List (Nat × AV)} {hp : List (Nat × Option Blk)} {us : List Nat} {d : Nat} {ty : TypeId} {pos : String} {af : Array Edge} {g : Option (Nat × Bool)} {t : TypeId} {x y z : Operand}

theorem exec_callV {o : Oper} {xs : Array Operand} {ats : Array TypeId} {c : Operand} {f : FuncId} {vs : List Value} (ho : o.op = .call { callee := .value c, args := xs, argTypes := ats }) (a : Act) (hc : a.eval c = .func (.func f) #[] vs.toArray) (hf : FnC P f) (w : World) : (execOp a.eval o).run P w = .ok (.enter f (xs.map a.eval ++ vs.toArray)) w := by
  simp [execOp, ho, resolve, hc, Deferred.ofValue, invoke, run_callFunc hf]

/-- A call of a function value. -/
theorem s_callV {c : Operand} {fid : FuncId} {caps : List AV} {xs : List Operand} {ats : Array TypeId} {avs cargs : List AV} {r : AV} [hf : FnC P fid] (K : List (Nat × Blk)) (ρ : List (Nat × Nat)) {chin chout : List (Nat × Blk)} (hc : Con P fid cargs chin r chout) (hcal : evO tm c = some (.fn fid caps)) (hx : EvArgs tm xs avs) (hk : NeedK hp (K ++ mkK (rnL ρ) chin)) (hv : AV.viewL K (avs ++ caps) = AV.renL (rnL ρ) cargs) (hok : AV.okVL K (avs ++ caps))
    (hh : hck (rnL ρ) K chin chout cargs r = true) (hF : frAll us (newK (rnL ρ) (keysB chin) chout) = true) (hN : Nat.blt d N = true) :
    Step P E N ⟨some d, .call { callee := .value c, args := xs.toArray, argTypes := ats }, ty, pos, af, g⟩ tm hp us ⟨needL ((c, .fn fid caps) :: zipO xs avs), K ++ mkK (rnL ρ) chin, newK (rnL ρ) (keysB chin) chout, some (d, r.ren (rnL ρ)), effO (rnL ρ) chout ++ effI (rnL ρ) (keysB chout) chin⟩ :=
  step_eff ((c, .fn fid caps) :: zipO xs avs) (K ++ mkK (rnL ρ) chin) ⟨hcal, hx.evl.1⟩ hk (frAll_out hF) fun σ τ h us a w Q K' hv' hF' hK' => by
    have hlen := hx.evl.2
    have hck := hck_spec hh
    have hKh : ∀ p ∈ K, h p.1 = some p.2 := fun p hp => (hv'.kb p (List.mem_append_left _ hp)).1
    have hin : ∀ q B, lkB chin q = some B → h (rnL ρ q) = some (B.ren (rnL ρ)) := fun q B hB => (hv'.kb _ (List.mem_append_right _ (mkK_mem hB))).1
    have hfn := hv'.ar (c, .fn fid caps) (List.mem_cons_self ..)
    dsimp only at hfn
    generalize hgx : a.eval c = vx at hfn
    cases hfn with
    | @fn _ _ vs hvl hvs =>
      refine wp_enter (exec_callV rfl a hgx hf w) (R := fun v w' => ∃ σc, CPost w (fun q => σ (rnL ρ q)) (fun b => RS E σ h b ∨ ∃ p ∈ K, σ p.1 0 = some b) chin w' σc r v chout) ?_ fun v w' ⟨σc, hpost⟩ => ?_
      · rw [show xs.toArray.map a.eval ++ vs.toArray = (xs.map a.eval ++ vs).toArray by simp]
        exact calls_H hc hv'.sim hKh hin hck hv hok (by simp [hlen, hvl]) fun i y u hy hu => by
          by_cases hi : i < xs.length
          · rw [List.getElem?_append_left (by simpa using hi), List.getElem?_map] at hu
            rw [List.getElem?_append_left (by omega)] at hy
            cases hj : xs[i]? with
            | none => rw [hj] at hu; cases hu
            | some x =>
              rw [hj] at hu
              injection hu with hu
              subst hu
              exact hv'.ar _ (List.mem_cons_of_mem _ (zipO_get hj hy))
          · rw [List.getElem?_append_right (by simpa using hi), List.length_map] at hu
            rw [List.getElem?_append_right (by omega), ← hlen] at hy
            exact hvs _ y u hy hu
      · obtain ⟨σ', h1⟩ := hv'.sim.callH (d := d) hck hin (fun k hk => (hF' k hk).1) (fun k hk => (hF' k hk).2) (fun b hb => hb) hpost (by simpa using hN)
        exact hK' σ' _ _ h1

/-- A function value, made here. -/
theorem s_makeFunc {fid : FuncId} {xs : List Operand} {avs : List AV} (hx : EvArgs tm xs avs) (hN : Nat.blt d N = true) :
    Step P E N ⟨some d, .makeFunc (.func fid) #[] xs.toArray, ty, pos, af, g⟩ tm hp us ⟨needL (zipO xs avs), [], [], some (d, .fn fid avs), []⟩ :=
  step_val (zipO xs avs) [] rfl hN hx.evl.1 trivial fun σ τ h us a w hv => by
    have hlen := hx.evl.2
    refine ⟨.func (.func fid) #[] (xs.map a.eval).toArray, by simp [execOp, Instr.makeFunc], .fn (by simp [hlen]) fun i y v hy hu => ?_, fun q hq => ?_⟩
    · rw [List.getElem?_map] at hu
      cases hj : xs[i]? with
      | none => rw [hj] at hu; cases hu
      | some x =>
        rw [hj] at hu
        injection hu with hu
        subst hu
        exact hv.ar _ (zipO_get hj hy)
    · simp only [AV.occ]
      refine occL_of_all fun i y hy => ?_
      have hi : i < xs.length := by have := (List.getElem?_eq_some_iff.1 hy).1; omega
      exact hv.oc _ (zipO_get (List.getElem?_eq_getElem hi) hy) q hq

/-! ### Bits -/
def orI (k : IntKind) (m n : Int) : Int := k.wrap (BitVec.ofInt k.bits m ||| BitVec.ofInt k.bits n).toNat
def andI (k : IntKind) (m n : Int) : Int := k.wrap (BitVec.ofInt k.bits m &&& BitVec.ofInt k.bits n).toNat
def xorI (k : IntKind) (m n : Int) : Int := k.wrap (BitVec.ofInt k.bits m ^^^ BitVec.ofInt k.bits n).toNat
def shlI (k : IntKind) (m n : Int) : Int := k.wrap (m * 2 ^ (min n.toNat k.bits))
def shrI (k : IntKind) (m n : Int) : Int := m / 2 ^ (min n.toNat k.bits)

theorem s_orB {t' : TypeId} {k : IntKind} {m n : Int} (hx : evO tm x = some (AI k m)) (hy : evO tm y = some (AI k n)) (hN : Nat.blt d N = true) :
    Step P E N ⟨some d, .binOp .or t x y t', ty, pos, af, g⟩ tm hp us ⟨needL [(x, AI k m), (y, AI k n)], [], [], some (d, AI k (orI k m n)), []⟩ :=
  step_bin hx hy hN fun h1 h2 _ _ => ⟨wrap_ok k _, fun w => by simp [binOp, Op.intBits, orI]⟩
theorem s_andB {t' : TypeId} {k : IntKind} {m n : Int} (hx : evO tm x = some (AI k m)) (hy : evO tm y = some (AI k n)) (hN : Nat.blt d N = true) :
    Step P E N ⟨some d, .binOp .and t x y t', ty, pos, af, g⟩ tm hp us ⟨needL [(x, AI k m), (y, AI k n)], [], [], some (d, AI k (andI k m n)), []⟩ :=
  step_bin hx hy hN fun h1 h2 _ _ => ⟨wrap_ok k _, fun w => by simp [binOp, Op.intBits, andI]⟩
theorem s_xorB {t' : TypeId} {k : IntKind} {m n : Int} (hx : evO tm x = some (AI k m)) (hy : evO tm y = some (AI k n)) (hN : Nat.blt d N = true) :
    Step P E N ⟨some d, .binOp .xor t x y t', ty, pos, af, g⟩ tm hp us ⟨needL [(x, AI k m), (y, AI k n)], [], [], some (d, AI k (xorI k m n)), []⟩ :=
  step_bin hx hy hN fun h1 h2 _ _ => ⟨wrap_ok k _, fun w => by simp [binOp, Op.intBits, xorI]⟩
theorem s_shlB {t' : TypeId} {k k' : IntKind} {m n : Int} (hx : evO tm x = some (AI k m)) (hy : evO tm y = some (AI k' n)) (hN : Nat.blt d N = true) (hn : 0 ≤ n) :
    Step P E N ⟨some d, .binOp .shl t x y t', ty, pos, af, g⟩ tm hp us ⟨needL [(x, AI k m), (y, AI k' n)], [], [], some (d, AI k (shlI k m n)), []⟩ :=
  step_bin hx hy hN fun h1 h2 _ _ => ⟨wrap_ok k _, fun w => by simp [binOp, Op.shift, shlI, show ¬ n < 0 by omega]⟩
theorem s_shrB {t' : TypeId} {k k' : IntKind} {m n : Int} (hx : evO tm x = some (AI k m)) (hy : evO tm y = some (AI k' n)) (hN : Nat.blt d N = true) (hm : 0 ≤ m) (hn : 0 ≤ n) :
    Step P E N ⟨some d, .binOp .shr t x y t', ty, pos, af, g⟩ tm hp us ⟨needL [(x, AI k m), (y, AI k' n)], [], [], some (d, AI k (shrI k m n)), []⟩ :=
  step_bin hx hy hN fun h1 h2 _ _ => by
    have hp2 : (0 : Int) < 2 ^ (min n.toNat k.bits) := Int.pow_pos (by omega)
    have h3 : 0 ≤ shrI k m n := Int.ediv_nonneg hm (by omega)
    have h4 : shrI k m n ≤ m := Int.ediv_le_self _ hm
    refine ⟨?_, fun w => ?_⟩
    · show k.min ≤ _ ∧ _ ≤ k.max
      rw [kMin_eq] at h1 ⊢
      rw [kMax_eq] at h2 ⊢
      omega
    · simp [binOp, Op.shift, shrI, show ¬ n < 0 by omega, Int.fdiv_eq_ediv_of_nonneg _ (Int.le_of_lt hp2)]

/-! ### Parts of slices -/
theorem run_bound {P : Program} {w : World} {k : IntKind} {i : Int} {m : Nat} {c : BoundsCode} (h0 : 0 ≤ i) (h1 : i ≤ m) : (Instr.sliceBound (.int k i) m c).run P w = .ok i.toNat w := by
  simp [Instr.sliceBound, asIntOf, h0, h1]


theorem run_bounds {P : Program} {w : World} {lo hi : Option Value} {len cap l h : Nat} (e1 : match lo with | some v => (Instr.sliceBound v h .sliceB).run P w = .ok l w | none => l = 0) (e2 : match hi with | some v => (Instr.sliceBound v cap .sliceAcap).run P w = .ok h w | none => h = len) :
    (Instr.sliceBounds true len cap lo hi none).run P w = .ok (l, h, cap) w := by
  cases lo <;> cases hi <;> simp only at e1 e2 <;> first | (simp [Instr.sliceBounds, e1, e2]; done) | (subst e2; simp [Instr.sliceBounds, e1])

theorem take_drop_get {α : Type} {l : List α} {a b i : Nat} {x : α} (h : ((l.take b).drop a)[i]? = some x) : l[a + i]? = some x := by
  rw [List.getElem?_drop, List.getElem?_take] at h
  split at h
  · exact h
  · cases h

theorem Rd.part {w : World} {S : Nat → Prop} {sz bt : Nat} {es : List (List T)} {A : Option Addr} {n cap : Nat} (hr : Rd w S (.sl sz bt es) (.slice A n cap)) {l h : Nat} (h1 : l ≤ h) (h2 : h ≤ n) :
    Rd w S (.sl sz bt ((es.take h).drop l)) (.slice (if cap = l then A else A.map (·.add (l * sz))) (h - l) (cap - l)) := by
  cases hr with
  | sl _ _ _ _ _ us hb hz hcap hc hr =>
    have hlen : ((es.take h).drop l).length = h - l := by simp; omega
    rw [← hlen]
    refine .sl sz bt _ _ _ (fun i j => us (l + i) j) ⟨hb.1, ?_⟩ ⟨hz.1, fun c hc' => ?_⟩ ⟨by omega, fun e => ?_⟩ (fun i c j t hi hj => ?_) (fun i c j t hi hj => hr _ c j t (take_drop_get hi) hj)
    · rw [hlen]
      exact Nat.le_trans (Nat.mul_le_mul_right bt (by omega)) hb.2
    · exact hz.2 c (List.mem_of_mem_take (List.mem_of_mem_drop hc'))
    · split at e
      · have := hcap.2 e; omega
      · cases A with
        | none => have := hcap.2 rfl; omega
        | some a => cases e
    · obtain ⟨a, rfl, hs, hcell⟩ := hc (l + i) c j t (take_drop_get hi) hj
      have hne : ¬ cap = l := by
        have : i < ((es.take h).drop l).length := (List.getElem?_eq_some_iff.1 hi).1
        omega
      refine ⟨a.add (l * sz), by rw [if_neg hne]; rfl, by rw [add_block]; exact hs, ?_⟩
      rw [add_add, show l * sz + (i * sz + j) = (l + i) * sz + j by rw [Nat.add_mul]; omega]
      exact hcell

def optI (tm : List (Nat × AV)) : Option Operand → Option (IntKind × Int) → Prop
  | none, none => True
  | some x, some (k, i) => evO tm x = some (AI k i)
  | _, _ => False
def optL : Option Operand → Option (IntKind × Int) → List (Operand × AV)
  | some x, some (k, i) => [(x, AI k i)]
  | _, _ => []
def optN (d : Nat) : Option (IntKind × Int) → Nat
  | none => d
  | some (_, i) => i.toNat

theorem EvL.app {tm : List (Nat × AV)} : ∀ {l m : List (Operand × AV)}, EvL tm l → EvL tm m → EvL tm (l ++ m)
  | [], _, _, h => h
  | _ :: _, _, h1, h => ⟨h1.1, EvL.app h1.2 h⟩

theorem optI.ev {x : Option Operand} {i : Option (IntKind × Int)} (h : optI tm x i) : EvL tm (optL x i) := by
  cases x <;> cases i <;> first | exact h.elim | trivial | exact ⟨h, trivial⟩

/-- A part of data. -/
theorem s_slice {e sz bt bt' : Nat} {es : List (List T)} {lo hi : Option Operand} (il ih : Option (IntKind × Int)) [hl : SliceC P t e sz bt'] (hx : evO tm x = some (.t (.sl sz bt es))) (h1 : optI tm lo il) (h2 : optI tm hi ih) (hN : Nat.blt d N = true)
    (b0 : ∀ p, il = some p → 0 ≤ p.2) (b1 : ∀ p, ih = some p → 0 ≤ p.2) (b2 : optN 0 il ≤ optN es.length ih ∧ optN es.length ih ≤ es.length) :
    Step P E N ⟨some d, .slice t x lo hi none, ty, pos, af, g⟩ tm hp us ⟨needL ((x, .t (.sl sz bt es)) :: (optL lo il ++ optL hi ih)), [], [], some (d, .t (.sl sz bt ((es.take (optN es.length ih)).drop (optN 0 il)))), []⟩ :=
  step_val ((x, .t (.sl sz bt es)) :: (optL lo il ++ optL hi ih)) [] rfl hN ⟨hx, EvL.app h1.ev h2.ev⟩ trivial fun σ τ h us a w hv => by
    have har := hv.ar (x, .t (.sl sz bt es)) (List.mem_cons_self ..)
    dsimp only at har
    generalize hgx : a.eval x = vx at har
    obtain ⟨i, hu1, hu2, hu3, hu4, hsz, hbt⟩ := hl.out
    cases har with
    | t hr =>
      have hr0 := hr
      cases hr with
      | sl _ _ _ A cap us hb hz hcap hc hr =>
        have hpart := hr0.part (l := optN 0 il) (h := optN es.length ih) b2.1 b2.2
        refine ⟨_, ?_, .t hpart, fun q hq => rfl⟩
        have hbs : (Instr.sliceBounds true es.length cap (lo.map a.eval) (hi.map a.eval) none).run P w = .ok (optN 0 il, optN es.length ih, cap) w := by
          refine run_bounds ?_ ?_
          · cases lo with
            | none => cases il with
              | none => rfl
              | some p => exact h1.elim
            | some xl => cases il with
              | none => exact h1.elim
              | some p =>
                obtain ⟨k, n⟩ := p
                have hv1 := (hv.ar (xl, AI k n) (by simp [optL])).int.1
                dsimp only at hv1
                simp only [Option.map_some, hv1]
                have h3 := b0 _ rfl
                have h4 := b2.1
                simp only [optN] at h3 h4 ⊢
                exact run_bound h3 (by omega)
          · cases hi with
            | none => cases ih with
              | none => rfl
              | some p => exact h2.elim
            | some xl => cases ih with
              | none => exact h2.elim
              | some p =>
                obtain ⟨k, n⟩ := p
                have hv1 := (hv.ar (xl, AI k n) (by simp [optL])).int.1
                dsimp only at hv1
                simp only [Option.map_some, hv1]
                have h3 := b1 _ rfl
                have h4 := b2.2
                simp only [optN] at h3 h4 ⊢
                exact run_bound h3 (by omega)
        simp only [execOp, Instr.sliceAt, Instr.slice, hgx, Sem.run_bind, run_und hu1, Result.andThen_ok, Option.map_none, hbs, run_size hu2, Sem.run_pure, hu3]

end
end Go.Eng

namespace Go.Eng

/-! ### Data that lie somewhere -/
def okT (x : T) : Prop := ∃ (w : World) (S : Nat → Prop) (v : Value), Rd w S x v

theorem okT.k {v : Value} (h : okT (.k v)) : okV v := by
  obtain ⟨w, S, u, h⟩ := h
  cases h with | k _ h => exact h
theorem okT.len {sz bt : Nat} {es : List (List T)} (h : okT (.sl sz bt es)) : es.length * bt ≤ 140737488355328 := by
  obtain ⟨w, S, u, h⟩ := h
  cases h with | sl _ _ _ _ _ _ hb => exact hb.2
theorem okT.cell {sz bt : Nat} {es : List (List T)} (h : okT (.sl sz bt es)) {c : List T} (hc : c ∈ es) {t : T} (ht : t ∈ c) : okT t := by
  obtain ⟨w, S, u, h⟩ := h
  cases h with
  | sl _ _ _ _ _ us _ _ _ _ hr =>
    obtain ⟨i, hi⟩ := List.mem_iff_getElem?.1 hc
    obtain ⟨j, hj⟩ := List.mem_iff_getElem?.1 ht
    exact ⟨w, S, _, hr i c j t hi hj⟩
theorem okT.bytes {l : List Int} (h : okT (bytesT l)) : ∀ z ∈ l, 0 ≤ z ∧ z ≤ 255 := by
  intro z hz
  have := (h.cell (List.mem_map_of_mem hz) (t := .k (.int .u8 z)) (by simp [byteC])).k
  simpa [okV, IntKind.min, IntKind.max, IntKind.signed, IntKind.bits] using this
theorem okT.ints {l : List Int} (h : okT (intsT l)) : ∀ z ∈ l, inI .i64 z := by
  intro z hz
  exact inI_iff.2 (h.cell (List.mem_map_of_mem hz) (t := .k (.int .i64 z)) (by simp [intC])).k
theorem okT.int {k : IntKind} {z : Int} (h : okT (.k (.int k z))) : inI k z := inI_iff.2 h.k
theorem okT.blen {l : List Int} (h : okT (bytesT l)) : l.length ≤ 140737488355328 := by have := h.len; simpa using this

theorem strOf_inj {a b : List Int} (ha : ∀ z ∈ a, 0 ≤ z ∧ z ≤ 255) (hb : ∀ z ∈ b, 0 ≤ z ∧ z ≤ 255) : strOfNums a = strOfNums b ↔ a = b := by
  constructor
  · intro h
    have h1 := congrArg (fun s => s.data.toList) h
    simp only [strOfNums_data] at h1
    induction a generalizing b with
    | nil => cases b with
      | nil => rfl
      | cons => simp at h1
    | cons x a ih => cases b with
      | nil => simp at h1
      | cons y b =>
        simp only [List.map_cons, List.cons.injEq] at h1
        have hx := ha x (List.mem_cons_self ..)
        have hy := hb y (List.mem_cons_self ..)
        have h2 := congrArg UInt8.toNat h1.1
        simp only [UInt8.toNat_ofNat'] at h2
        have e : x = y := by omega
        subst e
        rw [ih (fun z hz => ha z (List.mem_cons_of_mem _ hz)) (fun z hz => hb z (List.mem_cons_of_mem _ hz)) (by simp [strOfNums, h1.2]) h1.2]
  · rintro rfl; rfl

theorem evArgs_nil {tm : List (Nat × AV)} : EvArgs tm [] [] := trivial
theorem evArgs_cons {tm : List (Nat × AV)} {x : Operand} {a : AV} {xs : List Operand} {avs : List AV} (h : evO tm x = some a) (hl : EvArgs tm xs avs) : EvArgs tm (x :: xs) (a :: avs) := ⟨h, hl⟩

class BytesC (P : Program) (t : TypeId) : Prop where
  eq : (match P.underlying t with | some (.slice e) => (match P.underlying e with | some (.int .u8) => true | _ => false) | _ => false) = true
class StrC (P : Program) (t : TypeId) : Prop where
  eq : (match P.underlying t with | some .string => true | _ => false) = true

theorem BytesC.out {P : Program} {t : TypeId} (h : BytesC P t) : ∃ e, P.underlying t = some (.slice e) ∧ P.underlying e = some (.int .u8) := by
  have := h.eq
  split at this
  · rename_i e h1
    split at this
    · rename_i h2; exact ⟨e, h1, h2⟩
    · cases this
  · cases this
theorem StrC.out {P : Program} {t : TypeId} (h : StrC P t) : P.underlying t = some .string := by
  have := h.eq
  split at this
  · assumption
  · cases this

def AStr (l : List Int) : AV := .t (.k (.string (strOfNums l)))

section
variable {P : Program} {E : Env} {N : Nat} {tm : List (Nat × AV)} {hp : List (Nat × Option Blk)} {us : List Nat} {d : Nat} {ty : TypeId} {pos : String} {af : Array Edge} {g : Option (Nat × Bool)} {t : TypeId} {x y z : Operand} {Q : Exit → St → Prop}

theorem vc_okT {c : Code} {i : Nat} {a : T} (ht : lk tm i = some (.t a)) (h : okT a → VC P E N c ⟨tm, hp, us⟩ Q) : VC P E N c ⟨tm, hp, us⟩ Q := fun σ a' w hs => by
  have har := hs.tm i
  simp only [St.τ, ht, Option.getD_some] at har
  cases har with
  | t hr => exact h ⟨_, _, _, hr⟩ σ a' w hs

theorem vc_okA {c : Code} {i j : Nat} {l : List AV} {a : T} (ht : lk tm i = some (.agg l)) (hj : l[j]? = some (.t a)) (h : okT a → VC P E N c ⟨tm, hp, us⟩ Q) : VC P E N c ⟨tm, hp, us⟩ Q := fun σ a' w hs => by
  have har := hs.tm i
  simp only [St.τ, ht, Option.getD_some] at har
  generalize a'.tmps.getD i undef = vx at har
  cases har with
  | @agg _ vs hl hh =>
    have hlt : j < l.length := (List.getElem?_eq_some_iff.1 hj).1
    have hj' := hh j _ vs[j] hj (List.getElem?_eq_getElem (by omega))
    generalize vs[j] = vj at hj'
    cases hj' with
    | t hr => exact h ⟨_, _, _, hr⟩ σ a' w hs

theorem vc_le {c : Code} {st : St} (st' : St) (hl : LeE st st') (h : VC P E N c st' Q) : VC P E N c st Q := by
  obtain ⟨K, f, hl⟩ := hl
  exact vc_weak K f hl h

/-- Nil may be a row of one's own. -/
theorem vc_ownnil {c : Code} {i : Nat} (q sz bt : Nat) (ht : lk tm i = some (.t (.k (.slice none 0 0)))) (hq : frB q us = true) (hs : (Nat.blt 0 sz && Nat.blt 0 bt && Nat.blt i N) = true) (h : VC P E N c ⟨(i, .rows q sz 0 0) :: tm, (q, some (.row sz bt [])) :: hp, q :: us⟩ Q) : VC P E N c ⟨tm, hp, us⟩ Q := fun σ a w hsim => by
  simp only [Bool.and_eq_true, Nat.blt_eq] at hs
  obtain ⟨hq1, hq2⟩ := frB_spec hq
  have h1 := hsim.newNil hq1 hq2 hs.1.1 hs.1.2
  have har := hsim.tm i
  simp only [St.τ, ht, Option.getD_some] at har
  have hv := har.kv
  refine h (sgSet σ q none) a w ?_
  have h2 := h1.put (a := a) hs.2 (x := .rows q sz 0 0) (v := .slice none 0 0) (.rown (sgSet_eq _ _ _)) fun k hk => by
    simp only [AV.occ]
    cases hb : Nat.beq q k with
    | false => rfl
    | true => exact absurd (List.mem_cons.2 (.inl (Nat.eq_of_beq_eq_true hb).symm)) hk
  have e1 : a.put (some i) (.slice none 0 0) = a := by
    cases a with
    | mk tmps df =>
      simp only [Act.put] at hv ⊢
      congr 1
      apply Array.ext
      · simp
      · intro j h1 h2
        rw [Array.getElem_setIfInBounds]
        split
        · rename_i e; subst e
          simp only [Array.getD_eq_getD_getElem?, Array.getElem?_eq_getElem h2, Option.getD_some] at hv
          exact hv.symm
        · rfl
  rw [e1] at h2
  have e2 : St.τ ⟨(i, .rows q sz 0 0) :: tm, (q, some (.row sz bt [])) :: hp, q :: us⟩ = updT (St.τ ⟨tm, hp, us⟩) (some (i, .rows q sz 0 0)) := by
    funext j
    simp only [St.τ, updT, lk]
    by_cases e : j = i
    · subst e; simp
    · have : Nat.beq i j = false := beq_ne e
      simp [this, e]
  have e3 : St.h ⟨(i, .rows q sz 0 0) :: tm, (q, some (.row sz bt [])) :: hp, q :: us⟩ = hSet (St.h ⟨tm, hp, us⟩) q (some (.row sz bt [])) := by
    funext j
    simp only [St.h, hSet, lkH]
    by_cases e : j = q
    · subst e; simp
    · have : Nat.beq q j = false := beq_ne e
      simp [this, e]
  show Sim E N _ (St.τ _) (St.h _) _ a w
  rw [e2, e3]
  exact h2

theorem s_str {t' : TypeId} {l : List Int} [h0 : BytesC P t] [h1 : StrC P t'] (hx : evO tm x = some (.t (bytesT l))) (hN : Nat.blt d N = true) :
    Step P E N ⟨some d, .convert t t' x, ty, pos, af, g⟩ tm hp us ⟨needL [(x, .t (bytesT l))], [], [], some (d, AStr l), []⟩ :=
  step_val [(x, .t (bytesT l))] [] rfl hN ⟨hx, trivial⟩ trivial fun σ τ h us a w hv => by
    obtain ⟨e, he1, he2⟩ := h0.out
    have hd := h1.out
    have har := hv.ar (x, .t (bytesT l)) (by simp)
    dsimp only at har
    generalize hgx : a.eval x = vx at har
    cases har with
    | t hr =>
      unfold bytesT at hr
      cases hr with
      | sl _ _ _ A cap us hb hz hcap hc hr =>
        rw [List.length_map] at hb hcap hgx
        have hok : okV (.string (strOfNums l)) := by simp only [okV, strOfNums_size]; omega
        refine ⟨.string (strOfNums l), ?_, .t (.k _ hok), fun q hq => rfl⟩
        simp only [execOp, hgx, Sem.run_bind]
        cases A with
        | none =>
          have h0 := hcap.2 rfl
          have : l = [] := by cases l with | nil => rfl | cons => simp at hcap; omega
          subst this
          rw [run_convert_bytes_nil w t e he1 he2 _ _ t' hd]
          simp [Sem.run_pure, strOfNums]; rfl
        | some ad =>
          have hl : (loadCells ad l.length).run P w = .ok (l.map (Value.int .u8)).toArray w := by
            have := run_loadCells_list (P := P) w ad (l.map (Value.int .u8)) (fun j v hj => by
              rw [List.getElem?_map] at hj
              cases hi : l[j]? with
              | none => rw [hi] at hj; cases hj
              | some z =>
                rw [hi] at hj; injection hj with hj; subst hj
                obtain ⟨a', ha', _, hcell⟩ := hc j (byteC z) 0 (.k (.int .u8 z)) (by rw [List.getElem?_map, hi]; rfl) rfl
                injection ha' with ha'; subst ha'
                have hz := hr j (byteC z) 0 (.k (.int .u8 z)) (by rw [List.getElem?_map, hi]; rfl) rfl
                generalize us j 0 = uu at hcell hz
                cases hz with
                | k => simpa using hcell)
            simpa using this
          rw [run_convert_bytes_string w t t' e _ l.length cap he1 he2 hd, run_bytesToString w _ l.length cap l hl, foldl_push_bytes]
          simp [strOfNums, ByteArray.empty, ByteArray.emptyWithCapacity, Sem.run_pure]
          rfl

theorem s_strcmp {op : BinOp} {t' : TypeId} {a b : ByteArray} {r : Bool} (hop : ∀ w : World, (Op.stringOp op a b).run P w = .ok (.bool r) w) (hx : evO tm x = some (.t (.k (.string a)))) (hy : evO tm y = some (.t (.k (.string b)))) (hN : Nat.blt d N = true) :
    Step P E N ⟨some d, .binOp op t x y t', ty, pos, af, g⟩ tm hp us ⟨needL [(x, .t (.k (.string a))), (y, .t (.k (.string b)))], [], [], some (d, AB r), []⟩ :=
  step_val [(x, .t (.k (.string a))), (y, .t (.k (.string b)))] [] rfl hN ⟨hx, hy, trivial⟩ trivial fun σ τ h us c w hv => by
    have h1 := (hv.ar (x, .t (.k (.string a))) (by simp)).kv
    have h2 := (hv.ar (y, .t (.k (.string b))) (by simp)).kv
    dsimp only at h1 h2
    refine ⟨.bool r, ?_, .t (.k _ trivial), fun _ _ => rfl⟩
    have hg : ∀ w, (eqGuard op t x y (.string a) (.string b)).run P w = .ok () w := by
      intro w
      unfold eqGuard
      by_cases hb : (op matches .eql | .neq) = true <;> simp [hb]
    simp [execOp, h1, h2, hg, binOp, hop]

theorem toList_inj {a b : ByteArray} : a.toList = b.toList ↔ a = b := by
  constructor
  · intro h
    rw [ByteArray.toList_eq, ByteArray.toList_eq] at h
    cases a; cases b
    congr 1
    exact Array.toList_inj.1 h
  · rintro rfl; rfl

theorem s_eqlS {t' : TypeId} {a b : List Int} (hx : evO tm x = some (AStr a)) (hy : evO tm y = some (AStr b)) (ha : ∀ z ∈ a, 0 ≤ z ∧ z ≤ 255) (hb : ∀ z ∈ b, 0 ≤ z ∧ z ≤ 255) (hN : Nat.blt d N = true) :
    Step P E N ⟨some d, .binOp .eql t x y t', ty, pos, af, g⟩ tm hp us ⟨needL [(x, AStr a), (y, AStr b)], [], [], some (d, AB (decide (a = b))), []⟩ :=
  s_strcmp (fun w => by
    simp only [Op.stringOp, Sem.run_pure]
    rw [show ((strOfNums a).toList == (strOfNums b).toList) = decide (a = b) by rw [Bool.eq_iff_iff]; simp [toList_inj, strOf_inj ha hb]]) hx hy hN
theorem s_neqS {t' : TypeId} {a b : List Int} (hx : evO tm x = some (AStr a)) (hy : evO tm y = some (AStr b)) (ha : ∀ z ∈ a, 0 ≤ z ∧ z ≤ 255) (hb : ∀ z ∈ b, 0 ≤ z ∧ z ≤ 255) (hN : Nat.blt d N = true) :
    Step P E N ⟨some d, .binOp .neq t x y t', ty, pos, af, g⟩ tm hp us ⟨needL [(x, AStr a), (y, AStr b)], [], [], some (d, AB (decide (a ≠ b))), []⟩ :=
  s_strcmp (fun w => by
    simp only [Op.stringOp, Sem.run_pure]
    rw [show (!((strOfNums a).toList == (strOfNums b).toList)) = decide (a ≠ b) by rw [Bool.eq_iff_iff]; simp [toList_inj, strOf_inj ha hb]]) hx hy hN

theorem g_probe {ops : Array Oper} {dr : Bool} {C : St → Prop} {i : Nat} {l : List Oper} {acc : List Fp} {j : Nat} {b : Bool} (h : lk tm j = some (AB b)) (k : ∀ c, c = b → GRun P E N ops dr C i l acc ⟨tm, hp, us⟩) : GRun P E N ops dr C i l acc ⟨tm, hp, us⟩ := k b rfl

end
end Go.Eng

namespace Go.Eng

section
variable {P : Program} {E : Env} {N : Nat} {σ : Sg} {τ : Nat → AV} {us : List Nat} {a : Act} {w : World}

/-- A row of one's own is data from now on. -/
theorem Sim.freeze {h1 h2 : Nat → Option Blk} {d q sz bt off n : Nat} {es : List (List T)} (hs : Sim E N σ (updT τ (some (d, .rows q sz off n))) h1 us a w) (hq1 : h1 q = some (.row sz bt es)) (hn : off + n ≤ es.length) (hh : ∀ k, k ≠ q → h2 k = h1 k) (hq2 : h2 q = none) :
    Sim E N σ (updT τ (some (d, .t (.sl sz bt ((es.drop off).take n))))) h2 us a w := by
  have hne : ∀ k, h2 k ≠ none → k ≠ q := by rintro k hk rfl; exact hk hq2
  have h21 : ∀ k, h2 k ≠ none → h1 k ≠ none := fun k hk => by rw [← hh k (hne k hk)]; exact hk
  have hRS : ∀ b, RS E σ h1 b → RS E σ h2 b := fun b hb => ⟨hb.1, fun k s hk => hb.2 k s (h21 k hk)⟩
  have hRq : ∀ b, σ q 0 = some b → RS E σ h2 b := fun b hb => ⟨.inr (hs.own q 0 b (by rw [hq1]; simp) hb).1, fun k s hk e => hne k hk (hs.inj k q s 0 b (h21 k hk) (by rw [hq1]; simp) e hb).1⟩
  have he : Ev w w (RS E σ h1) (RS E σ h2) := ⟨fun b hb => ⟨hRS b hb, rfl⟩, fun b vs ty fr hb => ⟨vs, hb, rfl⟩⟩
  refine { sz := hs.sz, df := hs.df, tm := fun i => ?_, hp := fun k B hB => ?_, inj := fun k k' s s' b e1 e2 => hs.inj k k' s s' b (h21 k e1) (h21 k' e2), own := fun k s b e1 e2 => hs.own k s b (h21 k e1) e2, fsh := fun k hk => ?_, fr := hs.fr, gr := hs.gr, zz := hs.zz, kp := hs.kp, os := hs.os, tp := hs.tp, op := hs.op }
  · have hi := hs.tm i
    simp only [updT] at hi ⊢
    by_cases e : i = d
    · rw [if_pos e] at hi ⊢
      exact .t (rd_of_row hi (hs.hp q _ hq1) hn hRS hRq)
    · rw [if_neg e] at hi ⊢
      exact hi.mono he fun _ _ => rfl
  · have hkq := hne k (by rw [hB]; simp)
    rw [hh k hkq] at hB
    exact (hs.hp k B hB).mono he rfl (fun _ _ => rfl) fun _ _ _ => rfl
  · obtain ⟨g1, g2, g3⟩ := hs.fsh k hk
    refine ⟨fun i => ?_, ?_, fun k' B hB => ?_⟩
    · have := g1 i
      simp only [updT] at this ⊢
      by_cases e : i = d
      · rw [if_pos e]; rfl
      · rw [if_neg e] at this ⊢; exact this
    · by_cases e : k = q
      · subst e; exact hq2
      · rw [hh k e]; exact g2
    · have hkq := hne k' (by rw [hB]; simp)
      rw [hh k' hkq] at hB
      exact g3 k' B hB
end

section
variable {P : Program} {E : Env} {N : Nat} {tm : List (Nat × AV)} {hp : List (Nat × Option Blk)} {us : List Nat} {o : Oper}

theorem Step.freeze {R : List (Nat × AV)} {K : List (Nat × Blk)} {q d sz bt n : Nat} {es : List (List T)} (s : Step P E N o tm hp us ⟨R, K, [q], some (d, .rows q sz 0 n), [(q, some (.row sz bt es))]⟩) (hn : n ≤ es.length) : Step P E N o tm hp us ⟨R, K, [q], some (d, .t (.sl sz bt (es.take n))), []⟩ := by
  refine ⟨fun Q σ τ h us a w hs hR hK hF K' hK' => ?_, ⟨s.ok.R, s.ok.K, s.ok.F⟩⟩
  refine s.tri Q σ τ h us a w hs hR hK hF K' fun σ' a' w' hs' => hK' σ' a' w' ?_
  have hq := (hs.fsh q (hF q (by simp)).1).2.1
  rw [updH_one] at hs'
  have := Sim.freeze (d := d) (sz := sz) (bt := bt) (off := 0) (n := n) (es := es) hs' (q := q) (h2 := h) (by simp [hSet]) (by omega) (fun k hk => by simp [hSet, hk]) hq
  simpa [updH_nil] using this

theorem Step.freezeA {R : List (Nat × AV)} {K : List (Nat × Blk)} {q q' d sz bt n : Nat} {es : List (List T)} (s : Step P E N o tm hp us ⟨R, K, [q'], some (d, .rows q' sz 0 n), [(q', some (.row sz bt es)), (q, none)]⟩) (hn : n ≤ es.length) : Step P E N o tm hp us ⟨R, K, [q'], some (d, .t (.sl sz bt (es.take n))), [(q, none)]⟩ := by
  refine ⟨fun Q σ τ h us a w hs hR hK hF K' hK' => ?_, ⟨s.ok.R, s.ok.K, s.ok.F⟩⟩
  refine s.tri Q σ τ h us a w hs hR hK hF K' fun σ' a' w' hs' => hK' σ' a' w' ?_
  have hq := (hs.fsh q' (hF q' (by simp)).1).2.1
  have hq2 : updH h [(q, none)] q' = none := by
    rw [updH_one]
    simp only [hSet]
    split
    · rfl
    · exact hq
  have := Sim.freeze (d := d) (sz := sz) (bt := bt) (off := 0) (n := n) (es := es) hs' (q := q') (h2 := updH h [(q, none)]) (by simp [updH, lkW]) (by omega) (fun k hk => by
    simp only [updH, lkW]
    have : Nat.beq q' k = false := beq_ne hk
    simp [this]) hq2
  simpa using this

theorem Step.fz {R : List (Nat × AV)} {K : List (Nat × Blk)} {q d sz bt n : Nat} {es es' : List (List T)} (s : Step P E N o tm hp us ⟨R, K, [q], some (d, .rows q sz 0 n), [(q, some (.row sz bt es))]⟩) (hn : n ≤ es.length) (he : es.take n = es') : Step P E N o tm hp us ⟨R, K, [q], some (d, .t (.sl sz bt es')), []⟩ := he ▸ s.freeze hn
theorem Step.fzE {R : List (Nat × AV)} {K : List (Nat × Blk)} {q d sz bt n : Nat} {es : List (List T)} (s : Step P E N o tm hp us ⟨R, K, [q], some (d, .rows q sz 0 n), [(q, some (.row sz bt es))]⟩) (hn : n = es.length) : Step P E N o tm hp us ⟨R, K, [q], some (d, .t (.sl sz bt es)), []⟩ := s.fz (by omega) (List.take_of_length_le (by omega))
theorem Step.fzA {R : List (Nat × AV)} {K : List (Nat × Blk)} {q q' d sz bt n : Nat} {es es' : List (List T)} (s : Step P E N o tm hp us ⟨R, K, [q'], some (d, .rows q' sz 0 n), [(q', some (.row sz bt es)), (q, none)]⟩) (hn : n ≤ es.length) (he : es.take n = es') : Step P E N o tm hp us ⟨R, K, [q'], some (d, .t (.sl sz bt es')), [(q, none)]⟩ := he ▸ s.freezeA hn

variable {i : Nat} {l : List Oper} {ops : Array Oper} {C : St → Prop} {acc : List Fp}
/-- Steps that only use up a name. -/
theorem g_fz {R : List (Nat × AV)} {K : List (Nat × Blk)} {d q : Nat} {y : AV} (s : Step P E N o tm hp us ⟨R, K, [q], some (d, y), []⟩) (hg : o.guard = none) (h : GRun P E N ops false C (i + 1) l acc ⟨(d, y) :: tm, hp, q :: us⟩) : GRun P E N ops false C i (o :: l) acc ⟨tm, hp, us⟩ := g_any s hg h
theorem d_fz {R : List (Nat × AV)} {K : List (Nat × Blk)} {d q : Nat} {y : AV} (s : Step P E N o tm hp us ⟨R, K, [q], some (d, y), []⟩) (hg : o.guard = none) (h : GRun P E N ops true C (i + 1) l (⟨R, K, [q], some (d, y), []⟩ :: acc) ⟨(d, y) :: tm, hp, q :: us⟩) : GRun P E N ops true C i (o :: l) acc ⟨tm, hp, us⟩ := d_any s hg h
theorem g_fa {R : List (Nat × AV)} {K : List (Nat × Blk)} {d q q' : Nat} {y : AV} (s : Step P E N o tm hp us ⟨R, K, [q'], some (d, y), [(q, none)]⟩) (hg : o.guard = none) (h : GRun P E N ops false C (i + 1) l acc ⟨(d, y) :: tm, (q, none) :: hp, q' :: us⟩) : GRun P E N ops false C i (o :: l) acc ⟨tm, hp, us⟩ := g_any s hg h
theorem d_fa {R : List (Nat × AV)} {K : List (Nat × Blk)} {d q q' : Nat} {y : AV} (s : Step P E N o tm hp us ⟨R, K, [q'], some (d, y), [(q, none)]⟩) (hg : o.guard = none) (h : GRun P E N ops true C (i + 1) l (⟨R, K, [q'], some (d, y), [(q, none)]⟩ :: acc) ⟨(d, y) :: tm, (q, none) :: hp, q' :: us⟩) : GRun P E N ops true C i (o :: l) acc ⟨tm, hp, us⟩ := d_any s hg h
end

theorem leE_gen {tm tm' : List (Nat × AV)} {hp hp' : List (Nat × Option Blk)} {us us' : List Nat} (K : List (Nat × Blk)) (ρ : List (Nat × Nat)) (h1 : LeTm K (rnG ρ) tm tm') (h2 : LeHp K (rnG ρ) hp hp') (hK : NeedK hp K) (h3 : (nodupB (mapN (rnG ρ) (liveK hp')) && apartL (mapN (rnG ρ) (liveK hp')) (keysL K) && okUsT us' tm' && okUsH us' hp') = true) : LeE ⟨tm, hp, us⟩ ⟨tm', hp', us'⟩ :=
  ⟨K, ρ, ⟨h1, h2, hK, h3⟩⟩

theorem leB_obj {K : List (Nat × Blk)} {f : Nat → Nat} {o o' : Obj} (h : o = o') : LeB K f (.obj o) (.obj o') := h

end Go.Eng

namespace Go.Eng

theorem CPost.freeze {w w' : World} {σ σ' : Sg} {S0 : Nat → Prop} {hin : List (Nat × Blk)} {q sz bt n : Nat} {es : List (List T)} {v : Value} (h : CPost w σ S0 hin w' σ' (.rows q sz 0 n) v [(q, .row sz bt es)]) (hn : n = es.length) : CPost w σ S0 hin w' σ' (.t (.sl sz bt es)) v [] := by
  have hq : lkB [(q, Blk.row sz bt es)] q = some (.row sz bt es) := by simp [lkB]
  refine { ar := ?_, hb := fun _ _ h => (by cases h), inj := fun _ _ _ _ _ h => absurd rfl h, own := fun _ _ _ h => absurd rfl h, fr := h.fr, gr := h.gr, zz := h.zz, kp := h.kp, os := h.os, tp := h.tp, op := h.op }
  have := rd_of_row (S' := SR w σ S0 hin σ' []) h.ar (h.hb q _ hq) (by omega) (fun b hb => ⟨hb.1, fun k s hk => absurd rfl hk⟩) (fun b hb => ⟨.inr (h.own q 0 b (by rw [hq]; simp) hb).1, fun k s hk => absurd rfl hk⟩)
  rw [List.drop_zero, List.take_of_length_le (by omega)] at this
  exact .t this

theorem Con.freeze {P : Program} {f : FuncId} {args : List AV} {hin : List (Nat × Blk)} {q sz bt n : Nat} {es : List (List T)} (h : Con P f args hin (.rows q sz 0 n) [(q, .row sz bt es)]) (hn : n = es.length) : Con P f args hin (.t (.sl sz bt es)) [] :=
  ⟨fun w σ S0 vs h1 h2 h3 => (h.run w σ S0 vs h1 h2 h3).mono fun e w' ⟨v, σ', he, hp⟩ => ⟨v, σ', he, hp.freeze hn⟩⟩

section
variable {P : Program} {E : Env} {N : Nat} {tm : List (Nat × AV)} {hp : List (Nat × Option Blk)} {us : List Nat} {o : Oper} {i : Nat} {l : List Oper} {ops : Array Oper} {C : St → Prop} {acc : List Fp}
/-- A call that leaves a value and changes one block. -/
theorem g_cw {R : List (Nat × AV)} {K : List (Nat × Blk)} {d q : Nat} {y : AV} {B : Option Blk} (s : Step P E N o tm hp us ⟨R, K, [], some (d, y), [(q, B)]⟩) (hg : o.guard = none) (h : GRun P E N ops false C (i + 1) l acc ⟨(d, y) :: tm, (q, B) :: hp, us⟩) : GRun P E N ops false C i (o :: l) acc ⟨tm, hp, us⟩ := g_any s hg h
theorem d_cw {R : List (Nat × AV)} {K : List (Nat × Blk)} {d q : Nat} {y : AV} {B : Option Blk} (s : Step P E N o tm hp us ⟨R, K, [], some (d, y), [(q, B)]⟩) (hg : o.guard = none) (h : GRun P E N ops true C (i + 1) l (⟨R, K, [], some (d, y), [(q, B)]⟩ :: acc) ⟨(d, y) :: tm, (q, B) :: hp, us⟩) : GRun P E N ops true C i (o :: l) acc ⟨tm, hp, us⟩ := d_any s hg h
/-- A call that makes a block and changes one. -/
theorem g_nb {R : List (Nat × AV)} {K : List (Nat × Blk)} {d q q2 : Nat} {y : AV} {B B2 : Option Blk} (s : Step P E N o tm hp us ⟨R, K, [q], some (d, y), [(q, B), (q2, B2)]⟩) (hg : o.guard = none) (h : GRun P E N ops false C (i + 1) l acc ⟨(d, y) :: tm, (q, B) :: (q2, B2) :: hp, q :: us⟩) : GRun P E N ops false C i (o :: l) acc ⟨tm, hp, us⟩ := g_any s hg h
theorem d_nb {R : List (Nat × AV)} {K : List (Nat × Blk)} {d q q2 : Nat} {y : AV} {B B2 : Option Blk} (s : Step P E N o tm hp us ⟨R, K, [q], some (d, y), [(q, B), (q2, B2)]⟩) (hg : o.guard = none) (h : GRun P E N ops true C (i + 1) l (⟨R, K, [q], some (d, y), [(q, B), (q2, B2)]⟩ :: acc) ⟨(d, y) :: tm, (q, B) :: (q2, B2) :: hp, q :: us⟩) : GRun P E N ops true C i (o :: l) acc ⟨tm, hp, us⟩ := d_any s hg h
end

theorem LeV.row {K : List (Nat × Blk)} {q sz bt n : Nat} {es : List (List T)} (hq : lkB K q = some (.row sz bt es)) (hn : n = es.length) : LeV K (rnG []) (.rows q sz 0 n) (.t (.sl sz bt es)) := by
  refine .eq ?_ ?_
  · simp only [AV.okV, okR, hq]; omega
  · have : Nat.beq sz sz = true := by simp
    simp [AV.view, viewR, hq, AV.ren, hn]

end Go.Eng

namespace Go.Eng

section
variable {P : Program} {E : Env} {N : Nat} {tm : List (Nat × AV)} {hp : List (Nat × Option Blk)} {us : List Nat} {Q : Exit → St → Prop}

/-- A row of one's own is data from here on. -/
theorem vc_freeze {c : Code} (i : Nat) {q sz bt off n : Nat} {es : List (List T)} (ht : lk tm i = some (.rows q sz off n)) (hk : lkH hp q = some (.row sz bt es)) (hn : off + n ≤ es.length)
    (h : VC P E N c ⟨(i, .t (.sl sz bt ((es.drop off).take n))) :: tm, (q, none) :: hp, us⟩ Q) : VC P E N c ⟨tm, hp, us⟩ Q := fun σ a w hs => by
  refine h σ a w ?_
  have e0 : St.τ ⟨tm, hp, us⟩ = updT (St.τ ⟨tm, hp, us⟩) (some (i, .rows q sz off n)) := by
    funext j
    simp only [updT]
    by_cases e : j = i
    · subst e; simp [St.τ, ht]
    · rw [if_neg e]
  have hs' : Sim E N σ (updT (St.τ ⟨tm, hp, us⟩) (some (i, .rows q sz off n))) (St.h ⟨tm, hp, us⟩) us a w := e0 ▸ hs
  have hh := h_cons ((i, .t (.sl sz bt ((es.drop off).take n))) :: tm) tm hp us us q none
  have := Sim.freeze (d := i) (sz := sz) (bt := bt) (off := off) (n := n) (es := es) hs' (q := q) (h2 := hSet (St.h ⟨tm, hp, us⟩) q none) hk hn (fun k hk => by simp [hSet, hk]) (by simp [hSet])
  show Sim E N σ (St.τ _) (St.h _) us a w
  rw [hh, tau_cons _ _ us us hp]
  exact this

theorem vc_freezeE {c : Code} (i : Nat) {q sz bt n : Nat} {es : List (List T)} (ht : lk tm i = some (.rows q sz 0 n)) (hk : lkH hp q = some (.row sz bt es)) (hn : n = es.length)
    (h : VC P E N c ⟨(i, .t (.sl sz bt es)) :: tm, (q, none) :: hp, us⟩ Q) : VC P E N c ⟨tm, hp, us⟩ Q :=
  vc_freeze i ht hk (by omega) (by rw [List.drop_zero, List.take_of_length_le (by omega)]; exact h)
end

/-- Another reading of a block. -/
theorem Sim.reB {E : Env} {N : Nat} {σ : Sg} {τ : Nat → AV} {h : Nat → Option Blk} {us : List Nat} {a : Act} {w : World} (hs : Sim E N σ τ h us a w) {q : Nat} {B B' : Blk} (hq : h q = some B) (hB : HB w σ (RS E σ h) q B') (ho : ∀ k, k ∉ us → B'.occ k = false) : Sim E N σ τ (hSet h q (some B')) us a w := by
  have hR := RS_hSet E σ h (q := q) (B := B') (by rw [hq]; simp) B'
  have hn : ∀ k, hSet h q (some B') k ≠ none → h k ≠ none := by
    intro k hk
    by_cases e : k = q
    · subst e; rw [hq]; simp
    · simpa [hSet, e] using hk
  refine { hs with tm := by rw [hR]; exact hs.tm, hp := fun k C hC => ?_, inj := fun k k' s s' b e1 e2 => hs.inj k k' s s' b (hn k e1) (hn k' e2), own := fun k s b e1 => hs.own k s b (hn k e1), fsh := fun k hk => ?_ }
  · rw [hR]
    by_cases e : k = q
    · subst e
      have : C = B' := by simpa [hSet] using hC.symm
      subst this
      exact hB
    · exact hs.hp k C (by simpa [hSet, e] using hC)
  · obtain ⟨g1, g2, g3⟩ := hs.fsh k hk
    refine ⟨g1, ?_, fun k' C hC => ?_⟩
    · by_cases e : k = q
      · subst e; rw [hq] at g2; cases g2
      · simpa [hSet, e] using g2
    · by_cases e : k' = q
      · subst e
        have : C = B' := by simpa [hSet] using hC.symm
        subst this
        exact ho k hk
      · exact g3 k' C (by simpa [hSet, e] using hC)

section
variable {P : Program} {E : Env} {N : Nat} {tm : List (Nat × AV)} {hp : List (Nat × Option Blk)} {us : List Nat} {Q : Exit → St → Prop}
/-- Nil in a box may be a row of one's own. -/
theorem vc_ownnilB {c : Code} {q0 : Nat} (j q sz bt : Nat) {cs : List AV} (hk : lkH hp q0 = some (.box cs)) (hj : cs[j]? = some (.t (.k (.slice none 0 0)))) (hq : frB q us = true) (hs : (Nat.blt 0 sz && Nat.blt 0 bt) = true)
    (h : VC P E N c ⟨tm, (q0, some (.box (cs.set j (.rows q sz 0 0)))) :: (q, some (.row sz bt [])) :: hp, q :: us⟩ Q) : VC P E N c ⟨tm, hp, us⟩ Q := fun σ a w hsim => by
  simp only [Bool.and_eq_true, Nat.blt_eq] at hs
  obtain ⟨hq1, hq2⟩ := frB_spec hq
  have h1 := hsim.newNil hq1 hq2 hs.1 hs.2
  have hne : q0 ≠ q := by
    rintro rfl
    have := (hsim.fsh q0 hq1).2.1
    rw [show St.h ⟨tm, hp, us⟩ q0 = lkH hp q0 from rfl, hk] at this; cases this
  have h0 : hSet (St.h ⟨tm, hp, us⟩) q (some (.row sz bt [])) q0 = some (.box cs) := by simp [hSet, hne]; exact hk
  have hb := h1.hp q0 _ h0
  obtain ⟨b, vs, ty, g1, g2, g3, g4⟩ := hb
  have hjl : j < cs.length := (List.getElem?_eq_some_iff.1 hj).1
  have h2 := h1.reB (B' := .box (cs.set j (.rows q sz 0 0))) h0 ⟨b, vs, ty, g1, g2, by simpa using g3, fun i x hx => by
    rw [List.getElem?_set] at hx
    split at hx
    · rename_i e
      subst e
      injection hx with hx
      subst hx
      obtain ⟨v, hv, har⟩ := g4 j _ hj
      have := har.kv
      subst this
      exact ⟨_, hv, .rown (sgSet_eq _ _ _)⟩
    · exact g4 i x hx⟩ (fun k hk' => by
    refine occL_of_all fun i x hx => ?_
    rw [List.getElem?_set] at hx
    split at hx
    · rename_i e
      subst e
      injection hx with hx
      subst hx
      simp only [AV.occ]
      cases hbq : Nat.beq q k with
      | false => rfl
      | true => exact absurd (List.mem_cons.2 (.inl (Nat.eq_of_beq_eq_true hbq).symm)) hk'
    · exact AV.occL_get ((h1.fsh k hk').2.2 q0 _ h0) hx)
  refine h (sgSet σ q none) a w ?_
  have e3 : St.h ⟨tm, (q0, some (.box (cs.set j (.rows q sz 0 0)))) :: (q, some (.row sz bt [])) :: hp, q :: us⟩ = hSet (hSet (St.h ⟨tm, hp, us⟩) q (some (.row sz bt []))) q0 (some (.box (cs.set j (.rows q sz 0 0)))) := by
    rw [h_cons tm tm _ (q :: us) us, h_cons tm tm hp us us]
  show Sim E N _ (St.τ _) (St.h _) _ a w
  rw [e3]
  exact h2
end

section
variable {P : Program} {E : Env} {N : Nat} {tm : List (Nat × AV)} {hp : List (Nat × Option Blk)} {us : List Nat} {Q : Exit → St → Prop}
/-- A row in a box is data from here on. -/
theorem vc_freezeB {c : Code} {q0 : Nat} (j : Nat) {q sz bt n : Nat} {es : List (List T)} {cs : List AV} (hk0 : lkH hp q0 = some (.box cs)) (hj : nthL cs j = some (.rows q sz 0 n)) (hk : lkH hp q = some (.row sz bt es)) (hn : n = es.length)
    (h : VC P E N c ⟨tm, (q0, some (.box (cs.set j (.t (.sl sz bt es))))) :: (q, none) :: hp, us⟩ Q) : VC P E N c ⟨tm, hp, us⟩ Q := fun σ a w hs => by
  rw [nthL_eq] at hj
  have hne : q0 ≠ q := by rintro rfl; rw [hk0] at hk; cases hk
  have hq : St.h ⟨tm, hp, us⟩ q = some (.row sz bt es) := hk
  have hs1 := hs.drop q
  have h0 : hSet (St.h ⟨tm, hp, us⟩) q none q0 = some (.box cs) := by simp [hSet, hne]; exact hk0
  obtain ⟨b, vs, ty, g1, g2, g3, g4⟩ := hs.hp q0 _ (show St.h ⟨tm, hp, us⟩ q0 = _ from hk0)
  have hjl : j < cs.length := (List.getElem?_eq_some_iff.1 hj).1
  have hRS : ∀ b, RS E σ (St.h ⟨tm, hp, us⟩) b → RS E σ (hSet (St.h ⟨tm, hp, us⟩) q none) b := fun b hb => RS_drop hb
  have hRq : ∀ b, σ q 0 = some b → RS E σ (hSet (St.h ⟨tm, hp, us⟩) q none) b := fun b hb => by
    refine ⟨.inr (hs.own q 0 b (by rw [hq]; simp) hb).1, fun k s hk e => ?_⟩
    have hkq : k ≠ q := by rintro rfl; simp [hSet] at hk
    exact hkq (hs.inj k q s 0 b (by simpa [hSet, hkq] using hk) (by rw [hq]; simp) e hb).1
  have he : Ev w w (RS E σ (St.h ⟨tm, hp, us⟩)) (RS E σ (hSet (St.h ⟨tm, hp, us⟩) q none)) := ⟨fun b hb => ⟨hRS b hb, rfl⟩, fun b vs ty fr hb => ⟨vs, hb, rfl⟩⟩
  have h2 := hs1.reB (B' := .box (cs.set j (.t (.sl sz bt es)))) h0 ⟨b, vs, ty, g1, g2, by simpa using g3, fun i x hx => by
    rw [List.getElem?_set] at hx
    split at hx
    · rename_i e
      subst e
      obtain ⟨v, hv, har⟩ := g4 j _ hj
      have := rd_of_row har (hs.hp q _ hq) (by omega) hRS hRq
      rw [List.drop_zero, List.take_of_length_le (by omega)] at this
      injection hx with hx
      subst hx
      exact ⟨v, hv, .t this⟩
    · obtain ⟨v, hv, har⟩ := g4 i x hx
      exact ⟨v, hv, har.mono he fun _ _ => rfl⟩⟩ (fun k hk' => by
    refine occL_of_all fun i x hx => ?_
    rw [List.getElem?_set] at hx
    split at hx
    · injection hx with hx
      subst hx
      rfl
    · exact AV.occL_get ((hs.fsh k hk').2.2 q0 _ (show St.h ⟨tm, hp, us⟩ q0 = _ from hk0)) hx)
  refine h σ a w ?_
  have e3 : St.h ⟨tm, (q0, some (.box (cs.set j (.t (.sl sz bt es))))) :: (q, none) :: hp, us⟩ = hSet (hSet (St.h ⟨tm, hp, us⟩) q none) q0 (some (.box (cs.set j (.t (.sl sz bt es))))) := by
    rw [h_cons tm tm _ us us, h_cons tm tm hp us us]
  show Sim E N _ (St.τ _) (St.h _) _ a w
  rw [e3]
  exact h2
end

section
variable {P : Program} {E : Env} {N : Nat} {tm : List (Nat × AV)} {hp : List (Nat × Option Blk)} {us : List Nat} {o : Oper} {i : Nat} {l : List Oper} {ops : Array Oper} {C : St → Prop} {acc : List Fp}
/-- A call that leaves a value and changes two blocks. -/
theorem g_c2 {R : List (Nat × AV)} {K : List (Nat × Blk)} {d q q2 : Nat} {y : AV} {B B2 : Option Blk} (s : Step P E N o tm hp us ⟨R, K, [], some (d, y), [(q, B), (q2, B2)]⟩) (hg : o.guard = none) (h : GRun P E N ops false C (i + 1) l acc ⟨(d, y) :: tm, (q, B) :: (q2, B2) :: hp, us⟩) : GRun P E N ops false C i (o :: l) acc ⟨tm, hp, us⟩ := g_any s hg h
theorem d_c2 {R : List (Nat × AV)} {K : List (Nat × Blk)} {d q q2 : Nat} {y : AV} {B B2 : Option Blk} (s : Step P E N o tm hp us ⟨R, K, [], some (d, y), [(q, B), (q2, B2)]⟩) (hg : o.guard = none) (h : GRun P E N ops true C (i + 1) l (⟨R, K, [], some (d, y), [(q, B), (q2, B2)]⟩ :: acc) ⟨(d, y) :: tm, (q, B) :: (q2, B2) :: hp, us⟩) : GRun P E N ops true C i (o :: l) acc ⟨tm, hp, us⟩ := d_any s hg h
/-- A call that makes two blocks. -/
theorem g_n2 {R : List (Nat × AV)} {K : List (Nat × Blk)} {d q q2 : Nat} {y : AV} {B B2 : Option Blk} (s : Step P E N o tm hp us ⟨R, K, [q, q2], some (d, y), [(q, B), (q2, B2)]⟩) (hg : o.guard = none) (h : GRun P E N ops false C (i + 1) l acc ⟨(d, y) :: tm, (q, B) :: (q2, B2) :: hp, q :: q2 :: us⟩) : GRun P E N ops false C i (o :: l) acc ⟨tm, hp, us⟩ := g_any s hg h
theorem d_n2 {R : List (Nat × AV)} {K : List (Nat × Blk)} {d q q2 : Nat} {y : AV} {B B2 : Option Blk} (s : Step P E N o tm hp us ⟨R, K, [q, q2], some (d, y), [(q, B), (q2, B2)]⟩) (hg : o.guard = none) (h : GRun P E N ops true C (i + 1) l (⟨R, K, [q, q2], some (d, y), [(q, B), (q2, B2)]⟩ :: acc) ⟨(d, y) :: tm, (q, B) :: (q2, B2) :: hp, q :: q2 :: us⟩) : GRun P E N ops true C i (o :: l) acc ⟨tm, hp, us⟩ := d_any s hg h
end

theorem idx_map0 {α β : Type} {f : α → β} {l : List α} {i : Nat} {x : α} (h : l[i]? = some x) : (l.map f)[0 + i]? = some (f x) := by rw [Nat.zero_add]; exact idx_map h

end Go.Eng

namespace Go.Eng
open Go.Sort

def sortI (l : List Int) : List Int := l.mergeSort fun x y => decide (x ≤ y)
theorem sortI_len (l : List Int) : (sortI l).length = l.length := List.length_mergeSort ..
theorem sortI_mem {l : List Int} {x : Int} : x ∈ sortI l ↔ x ∈ l := List.mem_mergeSort

theorem con_sort {P : Program} {f : FuncId} (hsort : ∀ (blk off cap : Nat) (zs : List Int) (w : World), Holds (Value.int .i64) w blk off zs.toArray → blk < w.heap.size → zs.length < 4611686018427387904 →
    Calls P f #[.slice (some ⟨blk, off, none⟩) zs.length cap] w fun e w' => e = .returned (.tuple #[]) ∧ ∃ n os, w' = grow (putRow (Value.int .i64) (Sort.ahead w n) blk off (zs.mergeSort fun x y => decide (x ≤ y)).toArray) os)
    (l : List Int) (h0 : 0 < l.length) (hl : l.length ≤ 1000000000) :
    Con P f [.rows 1000 1 0 l.length] [(1000, .row 1 8 (l.map intC))] (.tup []) [(1000, .row 1 8 ((sortI l).map intC))] := by
  refine ⟨fun w σ S0 vs hvl hargs hpre => ?_⟩
  have hsl := sortI_len l
  match vs, hvl with
  | [v], _ =>
  have har := hargs 0 _ v rfl rfl
  have hB := hpre.hb 1000 (.row 1 8 (l.map intC)) (by simp [lkB])
  rcases har.rowsv with ⟨h1, _⟩ | ⟨b, cap, cs, ty, fr, h1, h2, h3, h4, h5⟩
  · omega
  subst h5
  obtain ⟨b', cs', ty', g1, g2, g3, g4⟩ := hB.rowv (by intro e; simp at e; subst e; simp at h0)
  have hbb : b' = b := by rw [h1] at g1; injection g1 with g1; exact g1.symm
  subst hbb
  rw [h2] at g2
  injection g2 with g2
  injection g2 with e1 e2 e3
  subst e1; subst e2; subst e3
  have hcell : ∀ j (hj : j < l.length), cs[j]? = some (.int .i64 l[j]) := by
    intro j hj
    obtain ⟨u, hu, hr⟩ := g4 j (intC l[j]) 0 (.k (.int .i64 l[j])) (by rw [List.getElem?_map, List.getElem?_eq_getElem hj]; rfl) rfl
    cases hr with
    | k v hv => simpa using hu
  have hin : ∀ z ∈ l, okV (.int .i64 z) := by
    intro z hz
    obtain ⟨j, hj⟩ := List.mem_iff_getElem?.1 hz
    obtain ⟨u, hu, hr⟩ := g4 j (intC z) 0 (.k (.int .i64 z)) (by rw [List.getElem?_map, hj]; rfl) rfl
    cases hr with
    | k v hv => exact hv
  have hlt : b' < w.heap.size := lt_of_heap h2
  have hH : Holds (Value.int .i64) w b' 0 l.toArray := by
    intro j hj
    have hj' : j < l.length := by simpa using hj
    refine ⟨?_, ?_⟩
    · rw [cell_of_block h2, Nat.zero_add, hcell j hj']
      simp [hj']
    · simp [World.frozen?, h2]
  have hz0 : 0 * 1 = 0 := rfl
  rw [hz0]
  refine (hsort b' 0 cap l w hH hlt (by omega)).mono ?_
  rintro e w' ⟨rfl, n, os, hw'⟩
  change w' = grow (putRow (Value.int .i64) (Sort.ahead w n) b' 0 (sortI l).toArray) os at hw'
  subst hw'
  have hS := holds_putRow (Value.int .i64) (Sort.ahead w n) b' 0 l.toArray (sortI l).toArray hH (by simp [hsl])
  have hheap : ∀ k, k < w.heap.size → (grow (putRow (Value.int .i64) (Sort.ahead w n) b' 0 (sortI l).toArray) os).heap[k]? = (putRow (Value.int .i64) (Sort.ahead w n) b' 0 (sortI l).toArray).heap[k]? := fun k hk => heap_grow_old _ _ (by rw [size_putRow]; exact hk)
  have hother : ∀ k, k ≠ b' → (putRow (Value.int .i64) (Sort.ahead w n) b' 0 (sortI l).toArray).heap[k]? = w.heap[k]? := by
    intro k hk
    simp only [putRow, mapBlock, Array.getElem?_modify]
    rw [if_neg (fun e : b' = k => hk e.symm)]
    rfl
  have hsame : (putRow (Value.int .i64) (Sort.ahead w n) b' 0 (sortI l).toArray).heap[b']? = some (.cells (putCells (Value.int .i64) 0 (sortI l).toArray cs) ty (0, 0)) := by
    have : (Sort.ahead w n).heap[b']? = some (.cells cs ty (0, 0)) := h2
    simp only [putRow, mapBlock, Array.getElem?_modify, if_true, this]
    rfl
  have hown : ∀ q (s b : Nat), lkB [(1000, Blk.row 1 8 ((sortI l).map intC))] q ≠ none → lkB [(1000, Blk.row 1 8 (l.map intC))] q ≠ none := by
    intro q s b h
    simp only [lkB] at h ⊢
    cases hq : Nat.beq 1000 q with
    | true => simp
    | false => simp [hq] at h
  have hq0 : lkB [(1000, Blk.row 1 8 (l.map intC))] 1000 ≠ none := by simp [lkB]
  refine ⟨_, σ, rfl, { ar := .tup rfl (by simp), hb := ?_, inj := fun q q' s s' b h h' => hpre.inj q q' s s' b (hown q s b h) (hown q' s' b h'), own := ?_, fr := ?_, gr := ?_, zz := ?_, kp := fun _ _ => rfl, os := rfl, tp := rfl, op := rfl }⟩
  · intro q B hq
    have hq1 : q = 1000 ∧ B = .row 1 8 ((sortI l).map intC) := by
      simp only [lkB] at hq
      cases hh : Nat.beq 1000 q with
      | true => simp only [hh, cond_true] at hq; injection hq with hq; exact ⟨(Nat.eq_of_beq_eq_true hh).symm, hq.symm⟩
      | false => simp [hh] at hq
    obtain ⟨rfl, rfl⟩ := hq1
    refine ⟨⟨by omega, by simp only [List.length_map, hsl]; omega, by omega, fun c hc => ?_⟩, .inr ⟨b', putCells (Value.int .i64) 0 (sortI l).toArray cs, ty, h1, by rw [hheap b' hlt, hsame], ?_, fun i c j t hi hj => ?_⟩⟩
    · obtain ⟨z, _, rfl⟩ := List.mem_map.1 hc; rfl
    · simp only [List.length_map, putCells, Array.size_mapIdx, hsl] at g3 ⊢; omega
    · rw [List.getElem?_map] at hi
      cases hz : (sortI l)[i]? with
      | none => rw [hz] at hi; cases hi
      | some z =>
        rw [hz] at hi
        injection hi with hi
        subst hi
        have hil : i < (sortI l).length := (List.getElem?_eq_some_iff.1 hz).1
        have hzz : (sortI l)[i] = z := (List.getElem?_eq_some_iff.1 hz).2
        cases j with
        | succ j => simp [intC] at hj
        | zero =>
          simp [intC] at hj
          subst hj
          have hc := (hS i (by simpa using hil)).1
          rw [cell_of_block hsame, Nat.zero_add] at hc
          refine ⟨.int .i64 z, ?_, .k _ (hin z (sortI_mem.1 (List.mem_of_getElem? hz)))⟩
          rw [Nat.mul_one, Nat.add_zero, hc]
          simp [hil, hzz]
  · intro q s b h e
    have hq1 := hown q s b h
    refine ⟨.inl ⟨q, s, hq1, e⟩, ?_⟩
    have := (hpre.own q s b hq1 e).1
    rw [size_grow, size_putRow]
    exact Nat.lt_of_lt_of_le this (Nat.le_add_right _ _)
  · intro k hk hn
    rw [hheap k hk]
    exact hother k (by rintro rfl; exact hn ⟨1000, 0, hq0, h1⟩)
  · rw [size_grow, size_putRow]; exact Nat.le_add_right _ _
  · intro k vs1 ty1 fr1 hk
    have hkl := lt_of_heap hk
    rw [hheap k hkl]
    by_cases e : k = b'
    · subst e
      rw [h2] at hk
      injection hk with hk
      injection hk with a1 a2 a3
      subst a1; subst a2; subst a3
      exact ⟨_, hsame, by simp [putCells]⟩
    · rw [hother k e]; exact ⟨vs1, hk, rfl⟩

end Go.Eng

namespace Go.Eng

theorem HBn.out {w : World} {S : Nat → Prop} {ob : Option Nat} {sz bt : Nat} {es : List (List T)} {v : Value} (h : HBn w S ob sz bt es v) :
    ∃ ob', (ob' = none ∨ ob' = ob) ∧ ∀ (σ : Sg) (k : Nat), σ k 0 = ob' → AR w σ S (.rows k sz 0 es.length) v ∧ HB w σ S k (.row sz bt es) := by
  rcases h.2 with ⟨rfl, A, rfl⟩ | ⟨b, vs, ty, cap, rfl, h2, rfl, h4, h5, h6⟩
  · exact ⟨none, .inl rfl, fun σ k hk => ⟨.rown hk, h.1, .inl ⟨hk, rfl⟩⟩⟩
  · refine ⟨some b, .inr rfl, fun σ k hk => ⟨?_, h.1, .inr ⟨b, vs, ty, hk, h2, Nat.le_trans (Nat.mul_le_mul_right _ h4) h5, h6⟩⟩⟩
    exact AR.rows0 hk h2 h5 h4

theorem HBn.into {w : World} {σ : Sg} {S : Nat → Prop} {k : Nat} {sz bt : Nat} {es : List (List T)} {v : Value} (h1 : AR w σ S (.rows k sz 0 es.length) v) (h2 : HB w σ S k (.row sz bt es)) :
    ∃ ob', (ob' = none ∨ ob' = σ k 0) ∧ HBn w S ob' sz bt es v := by
  rcases h1.rowsv with ⟨e1, A, cap, e2, e3, e4⟩ | ⟨b, cap, vs, ty, fr, e1, e2, e3, e4, e5⟩
  · obtain ⟨-, rfl⟩ := e4 rfl
    have : es = [] := List.eq_nil_of_length_eq_zero e1
    subst this
    exact ⟨none, .inl rfl, h2.1, .inl ⟨rfl, A, e2⟩⟩
  · rcases h2.2 with ⟨g1, g2⟩ | ⟨b', vs', ty', g1, g2, g3, g4⟩
    · rw [g1] at e1; cases e1
    · rw [e1] at g1
      injection g1 with g1
      subst g1
      rw [e2] at g2
      injection g2 with g2
      injection g2 with a1 a2 a3
      subst a1; subst a2; subst a3
      refine ⟨some b, .inr e1.symm, h2.1, .inr ⟨b, vs, ty, cap, rfl, e2, ?_, e4, by simpa using e3, g4⟩⟩
      rw [e5]; simp

theorem HBn.rd {w : World} {S S' : Nat → Prop} {ob : Option Nat} {sz bt : Nat} {es : List (List T)} {v : Value} (h : HBn w S ob sz bt es v) (hS : ∀ b, S b → S' b) (hb : ∀ b, ob = some b → S' b) : Rd w S' (.sl sz bt es) v := by
  obtain ⟨ob', ho, hh⟩ := h.out
  obtain ⟨h1, h2⟩ := hh (fun _ _ => ob') 0 rfl
  have := rd_of_row (S' := S') h1 h2 (by omega) hS (fun b e => by
    rcases ho with rfl | rfl
    · cases e
    · exact hb b e)
  rw [List.drop_zero, List.take_of_length_le (by omega)] at this
  exact this

theorem HB.mono0 {w w' : World} {S S' : Nat → Prop} (he : Ev w w' S S') {σ σ' : Sg} {q : Nat} {B : Blk} (h : HB w σ S q B)
    (hq : σ' q = σ q) (ho : ∀ q', B.occ q' = true → σ' q' 0 = σ q' 0) (hb : ∀ s b, σ q s = some b → w'.heap[b]? = w.heap[b]?) : HB w' σ' S' q B := by
  cases B with
  | box l =>
    obtain ⟨b, vs, ty, h1, h2, h3, h4⟩ := h
    refine ⟨b, vs, ty, by rw [hq]; exact h1, by rw [hb 0 b h1]; exact h2, h3, fun j x hx => ?_⟩
    obtain ⟨v, hv, ha⟩ := h4 j x hx
    exact ⟨v, hv, ha.mono0 he fun q' hq' => ho q' (AV.occL_of hx hq')⟩
  | row => exact h.mono he hq (fun q' hq' => by cases hq') hb
  | obj => exact h.mono he hq (fun q' hq' => by cases hq') hb
  | nest => exact h.mono he hq (fun q' hq' => by cases hq') hb

section
variable {E : Env} {N : Nat} {σ : Sg} {τ : Nat → AV} {h : Nat → Option Blk} {us : List Nat} {a : Act} {w : World}

/-- A row is taken out of a row of rows. -/
theorem Sim.takeIn (hs : Sim E N σ τ h us a w) {q q' bt isz ibt i : Nat} {ess : List (Option (List (List T)))} {es : List (List T)} (hq : h q = some (.nest bt isz ibt ess)) (hi : ess[i]? = some (some es)) (hq' : q' ∉ us) (hlo : q' < 1000) (hql : q < 1000) :
    ∃ σ' : Sg, Sim E N σ' τ (hSet (hSet h q (some (.nest bt isz ibt (ess.set i none)))) q' (some (.row isz ibt es))) (q' :: us) a w ∧
      ∀ (b : Nat) (vs : Array Value) (ty : TypeId) (fr : Nat × Nat), σ q 0 = some b → w.heap[b]? = some (.cells vs ty fr) → ∃ v, vs[i]? = some v ∧ AR w σ' (RS E σ' (hSet (hSet h q (some (.nest bt isz ibt (ess.set i none)))) q' (some (.row isz ibt es)))) (.rows q' isz 0 es.length) v := by
  obtain ⟨h0, b0, vs0, ty0, hb0, hw0, hl0, hcs⟩ := hs.hp q _ hq
  obtain ⟨v, hv, hn⟩ := hcs i es hi
  obtain ⟨ob', ho, hh⟩ := hn.out
  obtain ⟨f1, f2, f3⟩ := hs.fsh q' hq'
  have hqq : q' ≠ q := by rintro rfl; rw [hq] at f2; cases f2
  generalize hσ : (fun k s => if k = q' then (if s = 0 then ob' else none) else if k = q ∧ s = i + 1 then none else σ k s : Sg) = σ'
  generalize hH : hSet (hSet h q (some (.nest bt isz ibt (ess.set i none)))) q' (some (.row isz ibt es)) = h'
  have e1 : ∀ s, σ' q' s = if s = 0 then ob' else none := fun s => by rw [← hσ]; simp
  have e2 : ∀ k s, k ≠ q' → σ' k s = if k = q ∧ s = i + 1 then none else σ k s := fun k s hk => by rw [← hσ]; simp [hk]
  have e20 : ∀ k, k ≠ q' → σ' k 0 = σ k 0 := fun k hk => by rw [e2 k 0 hk, if_neg (by omega)]
  have e3 : ∀ k, k ≠ q' → k ≠ q → σ' k = σ k := fun k hk hk2 => by funext s; rw [e2 k s hk, if_neg (fun e => hk2 e.1)]
  have hn1 : ∀ k, h' k ≠ none → k ≠ q' → h k ≠ none := fun k hk hkq => by
    rw [← hH] at hk
    by_cases e : k = q
    · subst e; rw [hq]; simp
    · simpa [hSet, hkq, e] using hk
  have key : ∀ k s b, h' k ≠ none → σ' k s = some b → ∃ k0 s0, h k0 ≠ none ∧ σ k0 s0 = some b ∧ ((k = q' ∧ s = 0 ∧ k0 = q ∧ s0 = i + 1) ∨ (k ≠ q' ∧ k0 = k ∧ s0 = s ∧ ¬ (k = q ∧ s = i + 1))) := by
    intro k s b hk e
    by_cases ek : k = q'
    · subst ek
      rw [e1] at e
      split at e
      · rename_i es0
        subst es0
        refine ⟨q, i + 1, by rw [hq]; simp, ?_, .inl ⟨rfl, rfl, rfl, rfl⟩⟩
        rcases ho with ho | ho
        · rw [ho] at e; cases e
        · rw [← ho]; exact e
      · cases e
    · rw [e2 k s ek] at e
      split at e
      · cases e
      · rename_i hne
        exact ⟨k, s, hn1 k hk ek, e, .inr ⟨ek, rfl, rfl, hne⟩⟩
  have hRS : ∀ b, RS E σ h b → RS E σ' h' b := fun b hb => ⟨hb.1, fun k s hk e => by
    obtain ⟨k0, s0, g1, g2, _⟩ := key k s b hk e
    exact hb.2 k0 s0 g1 g2⟩
  have he : Ev w w (RS E σ h) (RS E σ' h') := ⟨fun b hb => ⟨hRS b hb, rfl⟩, fun b vs ty fr hb => ⟨vs, hb, rfl⟩⟩
  obtain ⟨r1, r2⟩ := hh σ' q' (by rw [e1]; simp)
  refine ⟨σ', { sz := hs.sz, df := hs.df, tm := fun i => (hs.tm i).mono0 he fun k hk => e20 k (by rintro rfl; rw [f1 i] at hk; cases hk), hp := fun k B hB => ?_, inj := ?_, own := ?_, fsh := ?_, fr := hs.fr, gr := hs.gr, zz := hs.zz, kp := fun k hk => (e3 k (by omega) (by omega)).trans (hs.kp k hk), os := hs.os, tp := hs.tp, op := hs.op }, fun b vs ty fr hb hw => ?_⟩
  · rw [← hH] at hB
    by_cases ek : k = q'
    · subst ek
      have : B = .row isz ibt es := by simpa [hSet] using hB.symm
      subst this
      exact r2.mono he rfl (fun _ hk => by cases hk) fun _ _ _ => rfl
    · by_cases ek2 : k = q
      · subst ek2
        have : B = .nest bt isz ibt (ess.set i none) := by simpa [hSet, ek] using hB.symm
        subst this
        refine ⟨by simpa using h0, b0, vs0, ty0, by rw [e20 k ek]; exact hb0, hw0, by simpa using hl0, fun i' es' hi' => ?_⟩
        rw [List.getElem?_set] at hi'
        split at hi'
        · split at hi' <;> cases hi'
        · rename_i hne
          obtain ⟨v', hv', hn'⟩ := hcs i' es' hi'
          exact ⟨v', hv', by rw [e2 k (i' + 1) ek, if_neg (by omega)]; exact hn'.mono he fun _ _ => rfl⟩
      · have hB0 : h k = some B := by simpa [hSet, ek, ek2] using hB
        exact (hs.hp k B hB0).mono0 he (e3 k ek ek2) (fun j hj => e20 j (by rintro rfl; rw [f3 k B hB0] at hj; cases hj)) fun _ _ _ => rfl
  · intro k k' s s' b g1 g2 g3 g4
    obtain ⟨k0, s0, a1, a2, a3⟩ := key k s b g1 g3
    obtain ⟨k1, s1, c1, c2, c3⟩ := key k' s' b g2 g4
    obtain ⟨d1, d2⟩ := hs.inj k0 k1 s0 s1 b a1 c1 a2 c2
    rcases a3 with ⟨p1, p2, p3, p4⟩ | ⟨p1, p2, p3, p4⟩ <;> rcases c3 with ⟨p5, p6, p7, p8⟩ | ⟨p5, p6, p7, p8⟩
    · exact ⟨by omega, by omega⟩
    · exact absurd ⟨by omega, by omega⟩ p8
    · exact absurd ⟨by omega, by omega⟩ p4
    · exact ⟨by omega, by omega⟩
  · intro k s b g1 g2
    obtain ⟨k0, s0, a1, a2, _⟩ := key k s b g1 g2
    exact hs.own k0 s0 b a1 a2
  · intro k hk
    simp only [List.mem_cons, not_or] at hk
    obtain ⟨g1, g2, g3⟩ := hs.fsh k hk.2
    have hkq : k ≠ q := by rintro rfl; rw [hq] at g2; cases g2
    refine ⟨g1, by rw [← hH]; simp [hSet, hk.1, hkq, g2], fun k' B hB => ?_⟩
    rw [← hH] at hB
    by_cases ek : k' = q'
    · subst ek
      have : B = .row isz ibt es := by simpa [hSet] using hB.symm
      subst this; rfl
    · by_cases ek2 : k' = q
      · subst ek2
        have : B = .nest bt isz ibt (ess.set i none) := by simpa [hSet, ek] using hB.symm
        subst this; rfl
      · exact g3 k' B (by simpa [hSet, ek, ek2] using hB)
  · rw [hb0] at hb
    injection hb with hb
    subst hb
    rw [hw0] at hw
    injection hw with hw
    injection hw with a1 a2 a3
    subst a1
    exact ⟨v, hv, r1.mono he fun _ _ => rfl⟩

/-- A row is put into a row of rows. -/
theorem Sim.putIn (hs : Sim E N σ τ h us a w) {q q2 bt isz ibt i : Nat} {ess : List (Option (List (List T)))} {es : List (List T)} (hq : h q = some (.nest bt isz ibt ess)) (hil : i < ess.length) (hq2 : h q2 = some (.row isz ibt es)) (hql : q < 1000) {v : Value}
    (hv : ∀ (b : Nat) (vs : Array Value) (ty : TypeId) (fr : Nat × Nat), σ q 0 = some b → w.heap[b]? = some (.cells vs ty fr) → vs[i]? = some v) (har : AR w σ (RS E σ h) (.rows q2 isz 0 es.length) v) :
    ∃ σ' : Sg, Sim E N σ' τ (hSet (hSet h q (some (.nest bt isz ibt (ess.set i (some es))))) q2 none) us a w := by
  obtain ⟨h0, b0, vs0, ty0, hb0, hw0, hl0, hcs⟩ := hs.hp q _ hq
  obtain ⟨ob', ho, hn⟩ := HBn.into har (hs.hp q2 _ hq2)
  have hqq : q2 ≠ q := by rintro rfl; rw [hq] at hq2; cases hq2
  generalize hσ : (fun k s => if k = q ∧ s = i + 1 then ob' else σ k s : Sg) = σ'
  generalize hH : hSet (hSet h q (some (.nest bt isz ibt (ess.set i (some es))))) q2 none = h'
  have e2 : ∀ k s, σ' k s = if k = q ∧ s = i + 1 then ob' else σ k s := fun k s => by rw [← hσ]
  have e20 : ∀ k, σ' k 0 = σ k 0 := fun k => by rw [e2 k 0, if_neg (by omega)]
  have e3 : ∀ k, k ≠ q → σ' k = σ k := fun k hk2 => by funext s; rw [e2 k s, if_neg (fun e => hk2 e.1)]
  have hn1 : ∀ k, h' k ≠ none → h k ≠ none ∧ k ≠ q2 := fun k hk => by
    rw [← hH] at hk
    by_cases e' : k = q2
    · subst e'; simp [hSet] at hk
    by_cases e : k = q
    · subst e; rw [hq]; exact ⟨by simp, e'⟩
    · exact ⟨by simpa [hSet, e', e] using hk, e'⟩
  have key : ∀ k s b, h' k ≠ none → σ' k s = some b → ∃ k0 s0, h k0 ≠ none ∧ σ k0 s0 = some b ∧ ((k = q ∧ s = i + 1 ∧ k0 = q2 ∧ s0 = 0) ∨ (k ≠ q2 ∧ k0 = k ∧ s0 = s)) := by
    intro k s b hk e
    rw [e2 k s] at e
    split at e
    · rename_i ek
      refine ⟨q2, 0, by rw [hq2]; simp, ?_, .inl ⟨ek.1, ek.2, rfl, rfl⟩⟩
      rcases ho with ho | ho
      · rw [ho] at e; cases e
      · rw [← ho]; exact e
    · exact ⟨k, s, (hn1 k hk).1, e, .inr ⟨(hn1 k hk).2, rfl, rfl⟩⟩
  have hRS : ∀ b, RS E σ h b → RS E σ' h' b := fun b hb => ⟨hb.1, fun k s hk e => by
    obtain ⟨k0, s0, g1, g2, _⟩ := key k s b hk e
    exact hb.2 k0 s0 g1 g2⟩
  have he : Ev w w (RS E σ h) (RS E σ' h') := ⟨fun b hb => ⟨hRS b hb, rfl⟩, fun b vs ty fr hb => ⟨vs, hb, rfl⟩⟩
  refine ⟨σ', { sz := hs.sz, df := hs.df, tm := fun i => (hs.tm i).mono0 he fun k hk => e20 k, hp := fun k B hB => ?_, inj := ?_, own := ?_, fsh := ?_, fr := hs.fr, gr := hs.gr, zz := hs.zz, kp := fun k hk => (e3 k (by omega)).trans (hs.kp k hk), os := hs.os, tp := hs.tp, op := hs.op }⟩
  · rw [← hH] at hB
    by_cases ek : k = q2
    · subst ek; simp [hSet] at hB
    · by_cases ek2 : k = q
      · subst ek2
        have : B = .nest bt isz ibt (ess.set i (some es)) := by simpa [hSet, ek] using hB.symm
        subst this
        refine ⟨by simpa using h0, b0, vs0, ty0, by rw [e20 k]; exact hb0, hw0, by simpa using hl0, fun i' es' hi' => ?_⟩
        rw [List.getElem?_set] at hi'
        split at hi'
        · rename_i e
          subst e
          first | rw [if_pos hil] at hi' | skip
          injection hi' with hi'
          injection hi' with hi'
          subst hi'
          exact ⟨v, hv b0 vs0 ty0 _ hb0 hw0, by rw [e2 k (i + 1), if_pos ⟨rfl, rfl⟩]; exact hn.mono he fun _ _ => rfl⟩
        · rename_i hne
          obtain ⟨v', hv', hn'⟩ := hcs i' es' hi'
          exact ⟨v', hv', by rw [e2 k (i' + 1), if_neg (by omega)]; exact hn'.mono he fun _ _ => rfl⟩
      · have hB0 : h k = some B := by simpa [hSet, ek, ek2] using hB
        exact (hs.hp k B hB0).mono0 he (e3 k ek2) (fun j hj => e20 j) fun _ _ _ => rfl
  · intro k k' s s' b g1 g2 g3 g4
    obtain ⟨k0, s0, a1, a2, a3⟩ := key k s b g1 g3
    obtain ⟨k1, s1, c1, c2, c3⟩ := key k' s' b g2 g4
    obtain ⟨d1, d2⟩ := hs.inj k0 k1 s0 s1 b a1 c1 a2 c2
    rcases a3 with ⟨p1, p2, p3, p4⟩ | ⟨p1, p2, p3⟩ <;> rcases c3 with ⟨p5, p6, p7, p8⟩ | ⟨p5, p6, p7⟩
    · exact ⟨by omega, by omega⟩
    · exact absurd (by omega) p5
    · exact absurd (by omega) p1
    · exact ⟨by omega, by omega⟩
  · intro k s b g1 g2
    obtain ⟨k0, s0, a1, a2, _⟩ := key k s b g1 g2
    exact hs.own k0 s0 b a1 a2
  · intro k hk
    obtain ⟨g1, g2, g3⟩ := hs.fsh k hk
    have hkq : k ≠ q := by rintro rfl; rw [hq] at g2; cases g2
    refine ⟨g1, by rw [← hH]; simp [hSet, hkq, g2], fun k' B hB => ?_⟩
    rw [← hH] at hB
    by_cases ek : k' = q2
    · subst ek; simp [hSet] at hB
    · by_cases ek2 : k' = q
      · subst ek2
        have : B = .nest bt isz ibt (ess.set i (some es)) := by simpa [hSet, ek] using hB.symm
        subst this; rfl
      · exact g3 k' B (by simpa [hSet, ek, ek2] using hB)

/-- A row of rows is data from now on. -/
theorem Sim.freezeN {h1 h2 : Nat → Option Blk} {d q bt isz ibt n : Nat} {L : List (List (List T))} (hs : Sim E N σ (updT τ (some (d, .rows q 1 0 n))) h1 us a w) (hq1 : h1 q = some (.nest bt isz ibt (L.map some))) (hn : n = L.length) (hh : ∀ k, k ≠ q → h2 k = h1 k) (hq2 : h2 q = none) :
    Sim E N σ (updT τ (some (d, .t (.sl 1 bt (L.map fun es => [.sl isz ibt es]))))) h2 us a w := by
  have hne : ∀ k, h2 k ≠ none → k ≠ q := by rintro k hk rfl; exact hk hq2
  have h21 : ∀ k, h2 k ≠ none → h1 k ≠ none := fun k hk => by rw [← hh k (hne k hk)]; exact hk
  have hRS : ∀ b, RS E σ h1 b → RS E σ h2 b := fun b hb => ⟨hb.1, fun k s hk => hb.2 k s (h21 k hk)⟩
  have hRq : ∀ s0 b, σ q s0 = some b → RS E σ h2 b := fun s0 b hb => ⟨.inr (hs.own q s0 b (by rw [hq1]; simp) hb).1, fun k s hk e => hne k hk (hs.inj k q s s0 b (h21 k hk) (by rw [hq1]; simp) e hb).1⟩
  have he : Ev w w (RS E σ h1) (RS E σ h2) := ⟨fun b hb => ⟨hRS b hb, rfl⟩, fun b vs ty fr hb => ⟨vs, hb, rfl⟩⟩
  refine { sz := hs.sz, df := hs.df, tm := fun i => ?_, hp := fun k B hB => ?_, inj := fun k k' s s' b e1 e2 => hs.inj k k' s s' b (h21 k e1) (h21 k' e2), own := fun k s b e1 e2 => hs.own k s b (h21 k e1) e2, fsh := fun k hk => ?_, fr := hs.fr, gr := hs.gr, zz := hs.zz, kp := hs.kp, os := hs.os, tp := hs.tp, op := hs.op }
  · have hi := hs.tm i
    simp only [updT] at hi ⊢
    by_cases e : i = d
    · rw [if_pos e] at hi ⊢
      subst hn
      obtain ⟨h0, b0, vs0, ty0, hb0, hw0, hl0, hcs⟩ := hs.hp q _ hq1
      refine .t ?_
      have hlen : (L.map fun es => [T.sl isz ibt es]).length = L.length := by simp
      have hcl : ∀ c ∈ (L.map fun es => [T.sl isz ibt es]), c.length = 1 := by
        intro c hc
        obtain ⟨es, _, rfl⟩ := List.mem_map.1 hc
        rfl
      have h0' : 0 < bt ∧ (L.map fun es => [T.sl isz ibt es]).length * bt ≤ 140737488355328 := by simpa using h0
      have hget : ∀ (i : Nat) (c : List T) (j : Nat) (t : T), (L.map fun es => [T.sl isz ibt es])[i]? = some c → c[j]? = some t → ∃ es, L[i]? = some es ∧ j = 0 ∧ t = .sl isz ibt es := by
        intro i c j t e1 e2
        rw [List.getElem?_map] at e1
        cases hL : L[i]? with
        | none => rw [hL] at e1; cases e1
        | some es =>
          rw [hL] at e1
          injection e1 with e1
          subst e1
          cases j with
          | zero => simp at e2; exact ⟨es, rfl, rfl, e2.symm⟩
          | succ j => simp at e2
      rcases hi.rowsv with ⟨e1, A, cap, e2, e3, e4⟩ | ⟨b, cap, vs, ty, fr, e1, e2, e3, e4, e5⟩
      · have : L = [] := List.eq_nil_of_length_eq_zero e1
        subst this
        rw [e2]
        exact .sl 1 bt [] A cap (fun _ _ => .bool false) ⟨h0'.1, by simp⟩ ⟨by omega, by simp⟩ ⟨Nat.zero_le _, e3⟩ (by simp) (by simp)
      · rw [hb0] at e1
        injection e1 with e1
        subst e1
        rw [hw0] at e2
        injection e2 with e2
        injection e2 with a1 a2 a3
        subst a1
        rw [e5]
        have kk : ∀ i es, L[i]? = some es → ∃ u, w.cell? ⟨b0, i, none⟩ = some u ∧ Rd w (RS E σ h2) (.sl isz ibt es) u := by
          intro i es hi
          obtain ⟨u, hu, hn⟩ := hcs i es (by rw [List.getElem?_map, hi]; rfl)
          exact ⟨u, by rw [cell_of_block hw0]; exact hu, hn.rd hRS fun b hb => hRq _ b hb⟩
        have := Rd.sl (w := w) (S := RS E σ h2) 1 bt (L.map fun es => [T.sl isz ibt es]) (some ⟨b0, 0 * 1, none⟩) cap (fun i j => (w.cell? ⟨b0, i, none⟩).getD (.bool false)) h0' ⟨by omega, hcl⟩ ⟨by rw [hlen]; exact e4, fun e => by cases e⟩
          (fun i c j t e1 e2 => by
            obtain ⟨es, g1, rfl, rfl⟩ := hget i c j t e1 e2
            obtain ⟨u, hu, _⟩ := kk i es g1
            refine ⟨_, rfl, hRq 0 b0 hb0, ?_⟩
            rw [add_plain, show 0 * 1 + (i * 1 + 0) = i by omega, hu]; rfl)
          (fun i c j t e1 e2 => by
            obtain ⟨es, g1, rfl, rfl⟩ := hget i c j t e1 e2
            obtain ⟨u, hu, hr⟩ := kk i es g1
            simp only [hu, Option.getD_some]
            exact hr)
        rw [hlen] at this
        exact this
    · rw [if_neg e] at hi ⊢
      exact hi.mono he fun _ _ => rfl
  · have hkq := hne k (by rw [hB]; simp)
    rw [hh k hkq] at hB
    exact (hs.hp k B hB).mono he rfl (fun _ _ => rfl) fun _ _ _ => rfl
  · obtain ⟨g1, g2, g3⟩ := hs.fsh k hk
    refine ⟨fun i => ?_, ?_, fun k' B hB => ?_⟩
    · have := g1 i
      simp only [updT] at this ⊢
      by_cases e : i = d
      · rw [if_pos e]; rfl
      · rw [if_neg e] at this ⊢; exact this
    · by_cases e : k = q
      · subst e; exact hq2
      · rw [hh k e]; exact g2
    · have hkq := hne k' (by rw [hB]; simp)
      rw [hh k' hkq] at hB
      exact g3 k' B hB
end

section
variable {P : Program} {E : Env} {N : Nat} {tm : List (Nat × AV)} {hp : List (Nat × Option Blk)} {us : List Nat} {Q : Exit → St → Prop}

/-- A row of nils may be a row of rows. -/
theorem vc_nest {c : Code} (q isz ibt : Nat) {bt n : Nat} (hk : lkH hp q = some (.row 1 bt (List.replicate n [.k (.slice none 0 0)]))) (hn : 0 < n) (hs : (Nat.blt 0 isz && Nat.blt 0 ibt) = true)
    (h : VC P E N c ⟨tm, (q, some (.nest bt isz ibt (List.replicate n (some [])))) :: hp, us⟩ Q) : VC P E N c ⟨tm, hp, us⟩ Q := fun σ a w hsim => by
  simp only [Bool.and_eq_true, Nat.blt_eq] at hs
  have hb := hsim.hp q _ (show St.h ⟨tm, hp, us⟩ q = _ from hk)
  obtain ⟨b, vs, ty, g1, g2, g3, g4⟩ := hb.rowv (by intro e; have := congrArg List.length e; simp at this; omega)
  have h2 := hsim.reB (B' := .nest bt isz ibt (List.replicate n (some []))) (show St.h ⟨tm, hp, us⟩ q = _ from hk) ⟨⟨hb.1.1, by simpa using hb.1.2.1⟩, b, vs, ty, g1, g2, by simpa using g3, fun i es hi => by
    rw [List.getElem?_replicate] at hi
    split at hi
    · rename_i hil
      injection hi with hi
      injection hi with hi
      subst hi
      obtain ⟨v, hv, hr⟩ := g4 i [.k (.slice none 0 0)] 0 (.k (.slice none 0 0)) (by rw [List.getElem?_replicate, if_pos hil]) rfl
      cases hr with
      | k v hv' => exact ⟨_, by simpa using hv, ⟨hs.2, by simp, hs.1, by simp⟩, .inl ⟨rfl, none, rfl⟩⟩
    · cases hi⟩ (fun k _ => rfl)
  refine h σ a w ?_
  show Sim E N _ (St.τ _) (St.h _) _ a w
  rw [h_cons tm tm hp us us]
  exact h2

theorem vc_freezeN {c : Code} (i : Nat) {q bt isz ibt n : Nat} (L : List (List (List T))) (ht : lk tm i = some (.rows q 1 0 n)) (hk : lkH hp q = some (.nest bt isz ibt (L.map some))) (hn : n = L.length)
    (h : VC P E N c ⟨(i, .t (.sl 1 bt (L.map fun es => [.sl isz ibt es]))) :: tm, (q, none) :: hp, us⟩ Q) : VC P E N c ⟨tm, hp, us⟩ Q := fun σ a w hs => by
  refine h σ a w ?_
  have e0 : St.τ ⟨tm, hp, us⟩ = updT (St.τ ⟨tm, hp, us⟩) (some (i, .rows q 1 0 n)) := by
    funext j
    simp only [updT]
    by_cases e : j = i
    · subst e; simp [St.τ, ht]
    · rw [if_neg e]
  have hs' : Sim E N σ (updT (St.τ ⟨tm, hp, us⟩) (some (i, .rows q 1 0 n))) (St.h ⟨tm, hp, us⟩) us a w := e0 ▸ hs
  have hh := h_cons ((i, .t (.sl 1 bt (L.map fun es => [.sl isz ibt es]))) :: tm) tm hp us us q none
  have := Sim.freezeN (d := i) hs' (q := q) (h2 := hSet (St.h ⟨tm, hp, us⟩) q none) hk hn (fun k hk => by simp [hSet, hk]) (by simp [hSet])
  show Sim E N σ (St.τ _) (St.h _) us a w
  rw [hh, tau_cons _ _ us us hp]
  exact this

end

section
variable {P : Program} {E : Env} {N : Nat} {tm : List (Nat × AV)} {hp : List (Nat × Option Blk)} {us : List Nat} {d : Nat} {x y : Operand} {t ty : TypeId} {pos : String} {af : Array Edge} {g : Option (Nat × Bool)}

theorem updH_two (h : Nat → Option Blk) (q q' : Nat) (B B' : Option Blk) : updH h [(q', B'), (q, B)] = hSet (hSet h q B) q' B' := by
  funext k
  simp only [updH, lkW, hSet]
  by_cases e : k = q'
  · subst e; simp
  · rw [beq_ne e]
    by_cases e2 : k = q
    · subst e2; simp [e]
    · simp [beq_ne e2, e, e2]

theorem s_lenNest {e sz' bt' q n bt isz ibt : Nat} {ess : List (Option (List (List T)))} [hl : SliceC P t e sz' bt'] (hx : evO tm x = some (.rows q 1 0 n)) (hk : lkH hp q = some (.nest bt isz ibt ess)) (hn : n ≤ ess.length) (hN : Nat.blt d N = true) :
    Step P E N ⟨some d, .call { callee := .builtin .len, args := #[x], argTypes := #[t] }, ty, pos, af, g⟩ tm hp us ⟨needL [(x, .rows q 1 0 n)], [(q, .nest bt isz ibt ess)], [], some (d, AI .i64 n), []⟩ :=
  step_val [(x, .rows q 1 0 n)] [(q, .nest bt isz ibt ess)] rfl hN ⟨hx, trivial⟩ ⟨hk, trivial⟩ fun σ τ h us b w hv => by
    obtain ⟨h0, -⟩ := (hv.kb (q, .nest bt isz ibt ess) (by simp)).2
    have hle : ess.length ≤ 140737488355328 := Nat.le_trans (Nat.le_mul_of_pos_right _ h0.1) h0.2
    have hok : okV (.int .i64 (n : Int)) := by
      constructor
      · rw [kMin_eq]; simp only [kMin]; omega
      · rw [kMax_eq]; simp only [kMax]; omega
    rcases (hv.ar (x, .rows q 1 0 n) (by simp)).rowsv with ⟨h1, A, cap, h2, _⟩ | ⟨b', cap, vs, t', fr, h1, h2, h3, h4, h5⟩
    · dsimp only at h2
      subst h1
      exact ⟨_, by simp [execOp, resolve, invoke, builtin, h2, run_len hl], .t (.k _ hok), fun _ _ => rfl⟩
    · dsimp only at h5
      exact ⟨_, by simp [execOp, resolve, invoke, builtin, h5, run_len hl], .t (.k _ hok), fun _ _ => rfl⟩

theorem s_loadN {q bt isz ibt i s : Nat} {ess : List (Option (List (List T)))} {es : List (List T)} [hl : LayC P t false s] (q' : Nat) (hx : evO tm x = some (.rp q 1 i 0)) (hk : lkH hp q = some (.nest bt isz ibt ess)) (he : ess[i]? = some (some es)) (hq' : frB q' us = true) (hq : Nat.blt q 1000 = true) (hN : Nat.blt d N = true) :
    Step P E N ⟨some d, .load t x, ty, pos, af, g⟩ tm hp us ⟨needL [(x, .rp q 1 i 0)], [(q, .nest bt isz ibt ess)], [q'], some (d, .rows q' isz 0 es.length), [(q', some (.row isz ibt es)), (q, some (.nest bt isz ibt (ess.set i none)))]⟩ :=
  step_eff [(x, .rp q 1 i 0)] [(q, .nest bt isz ibt ess)] ⟨hx, trivial⟩ ⟨hk, trivial⟩ (fun k hk => by simp at hk; subst hk; exact hq') fun σ τ h us a w Q K' hv hF hK' => by
    obtain ⟨b, hb, h1⟩ := (hv.ar (x, .rp q 1 i 0) (by simp)).rpv
    dsimp only at h1
    obtain ⟨hh, hHB⟩ := hv.kb (q, .nest bt isz ibt ess) (by simp)
    dsimp only at hh
    obtain ⟨h0, b', vs, t', hb', hw, hsz, hcs⟩ := hHB
    have : b' = b := by simpa [hb] using hb'.symm
    subst this
    obtain ⟨hf1, hf2⟩ := hF q' (by simp)
    obtain ⟨σ', hs', hget⟩ := hv.sim.takeIn hh he hf1 hf2 (by simpa using hq)
    obtain ⟨v, hvv, har⟩ := hget b' vs t' _ hb hw
    have hc : w.cell? ⟨b', i * 1 + 0, none⟩ = some v := by rw [cell_of_block hw]; simpa using hvv
    have hrun : (execOp a.eval ⟨some d, .load t x, ty, pos, af, g⟩).run P w = .ok (.value v) w := by
      simp only [execOp, h1, Instr.loadAt, Instr.sureAddr, Sem.run_bind, Sem.run_pure, Result.andThen_ok, run_loadVar_cell hl hc]
    simp only [Oper.wp, hrun, Oper.upon_value]
    refine hK' σ' _ _ ?_
    rw [updH_two]
    exact hs'.put (by simpa using hN) har fun k hk => by
      simp only [AV.occ]
      cases hbq : Nat.beq q' k with
      | false => rfl
      | true => exact absurd (List.mem_cons.2 (.inl (Nat.eq_of_beq_eq_true hbq).symm)) hk

theorem s_storeN {q q2 bt isz ibt i n s : Nat} {ess : List (Option (List (List T)))} {es : List (List T)} [hl : LayC P t false s] (hx : evO tm x = some (.rp q 1 i 0)) (hk : lkH hp q = some (.nest bt isz ibt ess)) (hy : evO tm y = some (.rows q2 isz 0 n)) (hk2 : lkH hp q2 = some (.row isz ibt es)) (hn : n = es.length) (hil : i < ess.length) (hq : Nat.blt q 1000 = true) (hs1 : s = 1) :
    Step P E N ⟨none, .store t x y, ty, pos, af, g⟩ tm hp us ⟨needL [(x, .rp q 1 i 0), (y, .rows q2 isz 0 n)], [(q, .nest bt isz ibt ess), (q2, .row isz ibt es)], [], none, [(q2, none), (q, some (.nest bt isz ibt (ess.set i (some es))))]⟩ :=
  step_eff [(x, .rp q 1 i 0), (y, .rows q2 isz 0 n)] [(q, .nest bt isz ibt ess), (q2, .row isz ibt es)] ⟨hx, hy, trivial⟩ ⟨hk, hk2, trivial⟩ (fun _ h => by cases h) fun σ τ h us a w Q K' hv _ hK' => by
    subst hs1
    subst hn
    obtain ⟨b, hb, h1⟩ := (hv.ar (x, .rp q 1 i 0) (by simp)).rpv
    dsimp only at h1
    obtain ⟨hh, hHB⟩ := hv.kb (q, .nest bt isz ibt ess) (by simp)
    obtain ⟨hh2, hHB2⟩ := hv.kb (q2, .row isz ibt es) (by simp)
    dsimp only at hh hh2
    obtain ⟨h0, b', vs, t', hb', hw, hsz, hcs⟩ := hHB
    have : b' = b := by simpa [hb] using hb'.symm
    subst this
    have har := hv.ar (y, .rows q2 isz 0 es.length) (by simp)
    dsimp only at har
    have hone := har.one rfl
    have hce := cells_one hone
    have hqq : q2 ≠ q := by rintro rfl; rw [hh] at hh2; cases hh2
    have hrun := run_storeVar hl (v := a.eval y) (off := i * 1 + 0) hw (by rw [hce]; rfl) (by omega) (by rw [hce]; intro u hu; simp at hu; subst hu; exact hone)
    simp only [Oper.wp, execOp, h1, Instr.storeAt, Instr.sureAddr, Sem.run_bind, Sem.run_pure, Result.andThen_ok, hrun, Oper.upon_skip, Act.put]
    generalize hvs' : (vs.toList.take (i * 1 + 0) ++ (a.eval y).cells.toList ++ vs.toList.drop (i * 1 + 0 + 1)).toArray = vs'
    have hsz' : vs'.size = vs.size := by rw [← hvs', hce]; simp; omega
    have hnew : vs'[i]? = some (a.eval y) := by
      rw [← hvs', hce, List.getElem?_toArray]
      rw [List.append_assoc, List.getElem?_append_right (by simp; omega)]
      have : i - (vs.toList.take (i * 1 + 0)).length = 0 := by simp; omega
      rw [this]
      simp
    have hold : ∀ k, k ≠ i → vs'[k]? = vs[k]? := by
      intro k hk
      rw [← hvs', hce, List.getElem?_toArray]
      have := splice_get vs.toList [a.eval y] (i * 1 + 0) k (by simp; omega)
      simp only [List.length_singleton] at this
      rw [this]
      by_cases h1 : k < i
      · rw [if_pos (by omega)]; simp
      · rw [if_neg (by omega), if_neg (by omega)]; simp
    -- first the store, the entry let go
    have hs2 := hv.sim.setOwn (B' := .nest bt isz ibt (ess.set i none)) hh hb hw hsz' (fun hev => ⟨by simpa using h0, b', _, t', hb, setRow_heap w b' vs _ t' (0, 0) hw, by rw [hsz']; simpa using hsz, fun i' es' hi' => by
      rw [List.getElem?_set] at hi'
      split at hi'
      · first | (split at hi' <;> cases hi') | cases hi'
      · rename_i hne
        obtain ⟨v', hv', hn'⟩ := hcs i' es' hi'
        refine ⟨v', by rw [hold i' (fun e => hne e.symm)]; exact hv', hn'.mono hev fun b1 hb1 => setRow_other w b' b1 _ ?_⟩
        rintro rfl
        have := (hv.sim.inj q q (i' + 1) 0 _ (by rw [hh]; simp) (by rw [hh]; simp) hb1 hb).2
        omega⟩) (fun _ _ => rfl)
    have har2 : AR (w.setRow b' vs') σ (RS E σ (hSet h q (some (.nest bt isz ibt (ess.set i none))))) (.rows q2 isz 0 es.length) (a.eval y) := by
      rw [RS_hSet E σ h (B := .box []) (by rw [hh]; simp)]
      refine har.mono ⟨fun b1 hb1 => ⟨hb1, setRow_other w b' b1 _ ?_⟩, fun b1 vs1 t1 fr1 hb1 => ?_⟩ fun _ _ => rfl
      · rintro rfl; exact hb1.2 q 0 (by rw [hh]; simp) hb
      · by_cases e : b1 = b'
        · subst e
          rw [hw] at hb1
          injection hb1 with hb1
          injection hb1 with a1 a2 a3
          subst a1; subst a2; subst a3
          exact ⟨vs', setRow_heap w b1 vs _ t' (0, 0) hw, hsz'⟩
        · exact ⟨vs1, by rw [setRow_other w b' b1 _ e]; exact hb1, rfl⟩
    obtain ⟨σ', hs3⟩ := hs2.putIn (q := q) (q2 := q2) (bt := bt) (isz := isz) (ibt := ibt) (i := i) (ess := ess.set i none) (es := es) (by simp [hSet]) (by simpa using hil) (by simp [hSet, hqq]; exact hh2) (by simpa using hq) (v := a.eval y) (fun b1 vs1 t1 fr1 g1 g2 => by
      rw [hb] at g1
      injection g1 with g1
      subst g1
      rw [setRow_heap w b' vs _ t' (0, 0) hw] at g2
      injection g2 with g2
      injection g2 with a1 a2 a3
      subst a1
      exact hnew) har2
    refine hK' σ' _ _ ?_
    rw [updH_two]
    have : hSet (hSet (hSet h q (some (.nest bt isz ibt (ess.set i none)))) q (some (.nest bt isz ibt ((ess.set i none).set i (some es))))) q2 none = hSet (hSet h q (some (.nest bt isz ibt (ess.set i (some es))))) q2 none := by
      funext k
      simp only [hSet]
      by_cases e : k = q <;> simp [e]
    rw [this] at hs3
    exact hs3
end

section
variable {P : Program} {E : Env} {N : Nat} {tm : List (Nat × AV)} {hp : List (Nat × Option Blk)} {us : List Nat} {o : Oper} {i : Nat} {l : List Oper} {ops : Array Oper} {C : St → Prop} {acc : List Fp}
/-- A store that changes two blocks. -/
theorem g_s2 {R : List (Nat × AV)} {K : List (Nat × Blk)} {q q2 : Nat} {B B2 : Option Blk} (s : Step P E N o tm hp us ⟨R, K, [], none, [(q, B), (q2, B2)]⟩) (hg : o.guard = none) (h : GRun P E N ops false C (i + 1) l acc ⟨tm, (q, B) :: (q2, B2) :: hp, us⟩) : GRun P E N ops false C i (o :: l) acc ⟨tm, hp, us⟩ := g_any s hg h
theorem d_s2 {R : List (Nat × AV)} {K : List (Nat × Blk)} {q q2 : Nat} {B B2 : Option Blk} (s : Step P E N o tm hp us ⟨R, K, [], none, [(q, B), (q2, B2)]⟩) (hg : o.guard = none) (h : GRun P E N ops true C (i + 1) l (⟨R, K, [], none, [(q, B), (q2, B2)]⟩ :: acc) ⟨tm, (q, B) :: (q2, B2) :: hp, us⟩) : GRun P E N ops true C i (o :: l) acc ⟨tm, hp, us⟩ := d_any s hg h
end

theorem leB_nest {K : List (Nat × Blk)} {f : Nat → Nat} {bt isz ibt : Nat} {ess ess' : List (Option (List (List T)))} (h : ess = ess') : LeB K f (.nest bt isz ibt ess) (.nest bt isz ibt ess') := ⟨rfl, rfl, rfl, h⟩

end Go.Eng

namespace Go.Eng

section
variable {P : Program} {E : Env} {N : Nat} {tm : List (Nat × AV)} {hp : List (Nat × Option Blk)} {us : List Nat} {d : Nat} {ty : TypeId} {pos : String} {af : Array Edge} {g : Option (Nat × Bool)} {t : TypeId} {x y : Operand}

theorem s_loadX {q s0 i0 j0 off : Nat} {cs : List AV} {y : AV} {sz : Nat} [hl : LayC P t false sz] (hx : evO tm x = some (.rp q s0 i0 j0)) (ho : i0 * s0 + j0 = off) (hk : lkH hp q = some (.box cs)) (hg : cs[off]? = some y) (hN : Nat.blt d N = true) :
    Step P E N ⟨some d, .load t x, ty, pos, af, g⟩ tm hp us ⟨needL [(x, .rp q s0 i0 j0)], [(q, .box cs)], [], some (d, y), []⟩ :=
  step_val [(x, .rp q s0 i0 j0)] [(q, .box cs)] rfl hN ⟨hx, trivial⟩ ⟨hk, trivial⟩ fun σ τ h us c w hv => by
    obtain ⟨b, hb, h1⟩ := (hv.ar (x, .rp q s0 i0 j0) (by simp)).rpv
    dsimp only at h1
    rw [ho] at h1
    obtain ⟨_, b', vs, t', hb', hw, hsz, hcs⟩ := hv.kb (q, .box cs) (by simp)
    have : b' = b := by simpa [hb] using hb'.symm
    subst this
    obtain ⟨v, hvv, har⟩ := hcs off y hg
    refine ⟨v, ?_, har, fun q' hq' => AV.occL_get (hv.ko (q, .box cs) (by simp) q' hq').1 hg⟩
    have hc : w.cell? ⟨b', off, none⟩ = some v := by rw [cell_of_block hw]; exact hvv
    simp [execOp, h1, Instr.loadAt, Instr.sureAddr, run_loadVar_cell hl hc]

theorem s_storeX {q s0 i0 j0 off : Nat} {cs cs' ys : List AV} {z : AV} {ag : Bool} {sz : Nat} [hl : LayC P t ag sz] (hx : evO tm x = some (.rp q s0 i0 j0)) (ho : i0 * s0 + j0 = off) (hk : lkH hp q = some (.box cs)) (hy : evO tm y = some z) (hc : cellsA z = some ys) (hn : Nat.beq ys.length sz = true) (hs : setO cs off ys = some cs') :
    Step P E N ⟨none, .store t x y, ty, pos, af, g⟩ tm hp us ⟨needL [(x, .rp q s0 i0 j0), (y, z)], [(q, .box cs)], [], none, [(q, some (.box cs'))]⟩ :=
  step_eff [(x, .rp q s0 i0 j0), (y, z)] [(q, .box cs)] ⟨hx, hy, trivial⟩ ⟨hk, trivial⟩ (fun _ h => by cases h) fun σ τ h us a w Q K' hv _ hK' => by
    obtain ⟨b, hb, h1⟩ := (hv.ar (x, .rp q s0 i0 j0) (by simp)).rpv
    dsimp only at h1
    rw [ho] at h1
    obtain ⟨hh, b', vs, t', hb', hw, hsz, hcs⟩ := hv.kb (q, .box cs) (by simp)
    have : b' = b := by simpa [hb] using hb'.symm
    subst this
    dsimp only at hh
    have har := hv.ar (y, z) (by simp)
    dsimp only at har
    obtain ⟨g1, g2, g3, g4⟩ := cellsA_spec har hc
    obtain ⟨k1, k2⟩ := setO_spec hs
    have hlen : ys.length = sz := Nat.eq_of_beq_eq_true hn
    subst hlen
    have hcz : (a.eval y).cells.size = ys.length := by simpa using g1
    have hl1 : (a.eval y).cells.toList.length = ys.length := g1
    have hsp : ∀ i, (vs.toList.take off ++ (a.eval y).cells.toList ++ vs.toList.drop (off + ys.length))[i]? = if i < off then vs.toList[i]? else if i < off + ys.length then (a.eval y).cells.toList[i - off]? else vs.toList[i]? := fun i => by
      have := splice_get vs.toList (a.eval y).cells.toList off i (by simp; omega)
      rwa [hl1] at this
    have hrun := run_storeVar hl (v := a.eval y) (off := off) hw hcz (by omega) g2
    simp only [Oper.wp, execOp, h1, Instr.storeAt, Instr.sureAddr, Sem.run_bind, Sem.run_pure, Result.andThen_ok, hrun, Oper.upon_skip, Act.put]
    refine hK' σ _ _ ?_
    rw [updH_one]
    refine hv.sim.setOwn hh hb hw ?_ (fun hev => ⟨b', _, t', hb, setRow_heap w b' vs _ t' (0, 0) hw, ?_, fun j z' hj => ?_⟩) (fun q' hq' => ?_)
    · simp; omega
    · rw [k2]; simp; omega
    · rw [k2, splice_get _ _ _ _ k1] at hj
      rw [List.getElem?_toArray, hsp]
      split
      · rename_i hlt
        rw [if_pos hlt] at hj
        obtain ⟨v', hv', ha'⟩ := hcs j z' hj
        exact ⟨v', by simpa using hv', ha'.mono hev fun _ _ => rfl⟩
      · rename_i hnlt
        rw [if_neg hnlt] at hj
        split
        · rename_i hlt2
          rw [if_pos hlt2] at hj
          have hlt3 : j - off < (a.eval y).cells.toList.length := by omega
          exact ⟨_, List.getElem?_eq_getElem hlt3, (g3 _ z' _ hj (List.getElem?_eq_getElem hlt3)).mono hev fun _ _ => rfl⟩
        · rename_i hnlt2
          rw [if_neg hnlt2] at hj
          obtain ⟨v', hv', ha'⟩ := hcs j z' hj
          exact ⟨v', by simpa using hv', ha'.mono hev fun _ _ => rfl⟩
    · exact occL_setO hs (hv.ko (q, .box cs) (by simp) q' hq').1 (g4 q' (hv.oc (y, z) (by simp) q' hq'))

end

theorem setO_set {α : Type} : ∀ {cs : List α} {off : Nat} {z : α}, off < cs.length → setO cs off [z] = some (cs.set off z)
  | [], _, _, h => by simp at h
  | c :: cs, 0, z, _ => by cases cs <;> rfl
  | c :: cs, n + 1, z, h => by
    have := setO_set (cs := cs) (off := n) (z := z) (by simpa using h)
    simp only [setO, this, List.set_cons_succ]

section
variable {P : Program} {E : Env} {N : Nat} {tm : List (Nat × AV)} {hp : List (Nat × Option Blk)} {us : List Nat} {Q : Exit → St → Prop}
/-- A row of single data may be a box; what lies behind it isn't known. -/
theorem vc_rowbox {c : Code} (q : Nat) {bt : Nat} {L : List T} (hk : lkH hp q = some (.row 1 bt (L.map fun t => [t]))) (hn : 0 < L.length)
    (h : ∀ m : Nat, (0 < bt ∧ L.length * bt ≤ 140737488355328) → VC P E N c ⟨tm, (q, some (.box (L.map .t ++ List.replicate m .any))) :: hp, us⟩ Q) : VC P E N c ⟨tm, hp, us⟩ Q := fun σ a w hsim => by
  have hb := hsim.hp q _ (show St.h ⟨tm, hp, us⟩ q = _ from hk)
  obtain ⟨b, vs, ty, g1, g2, g3, g4⟩ := hb.rowv (by intro e; simp only [List.map_eq_nil_iff] at e; subst e; simp at hn)
  have g3' : L.length ≤ vs.size := by simpa using g3
  have h2 := hsim.reB (B' := .box (L.map .t ++ List.replicate (vs.size - L.length) .any)) (show St.h ⟨tm, hp, us⟩ q = _ from hk) ⟨b, vs, ty, g1, g2, by simp; omega, fun i x hx => by
    by_cases hi : i < L.length
    · rw [List.getElem?_append_left (by simpa using hi), List.getElem?_map, List.getElem?_eq_getElem hi] at hx
      injection hx with hx
      subst hx
      obtain ⟨v, hv, hr⟩ := g4 i [L[i]] 0 L[i] (by rw [List.getElem?_map, List.getElem?_eq_getElem hi]; rfl) rfl
      exact ⟨v, by simpa using hv, .t hr⟩
    · rw [List.getElem?_append_right (by simpa using hi), List.getElem?_replicate] at hx
      split at hx
      · rename_i h3
        injection hx with hx
        subst hx
        simp only [List.length_map] at h3
        have hiv : i < vs.size := by omega
        exact ⟨vs[i], by simp [hiv], .any⟩
      · cases hx⟩ (fun k _ => occL_of_all fun i x hx => by
    rcases List.mem_append.1 (List.mem_of_getElem? hx) with h1 | h1
    · obtain ⟨t, _, rfl⟩ := List.mem_map.1 h1; rfl
    · rw [(List.mem_replicate.1 h1).2]; rfl)
  refine h (vs.size - L.length) ⟨hb.1.1, by simpa using hb.1.2.1⟩ σ a w ?_
  show Sim E N _ (St.τ _) (St.h _) _ a w
  rw [h_cons tm tm hp us us]
  exact h2

/-- A row of nils is a row of empty slices. -/
theorem vc_nilrow {c : Code} (q sz ibt : Nat) {bt n : Nat} (hk : lkH hp q = some (.row 1 bt (List.replicate n [.k (.slice none 0 0)]))) (hs : (Nat.blt 0 sz && Nat.blt 0 ibt) = true)
    (h : VC P E N c ⟨tm, (q, some (.row 1 bt (List.replicate n [.sl sz ibt []]))) :: hp, us⟩ Q) : VC P E N c ⟨tm, hp, us⟩ Q := fun σ a w hsim => by
  simp only [Bool.and_eq_true, Nat.blt_eq] at hs
  have hb := hsim.hp q _ (show St.h ⟨tm, hp, us⟩ q = _ from hk)
  have h2 := hsim.reB (B' := .row 1 bt (List.replicate n [.sl sz ibt []])) (show St.h ⟨tm, hp, us⟩ q = _ from hk) ⟨⟨hb.1.1, by simpa using hb.1.2.1, by omega, fun c hc => by rw [(List.mem_replicate.1 hc).2]; rfl⟩, by
    rcases hb.2 with ⟨g1, g2⟩ | ⟨b, vs, ty, g1, g2, g3, g4⟩
    · have hn : n = 0 := by simpa using congrArg List.length g2
      exact .inl ⟨g1, by rw [hn]; rfl⟩
    · refine .inr ⟨b, vs, ty, g1, g2, by simpa using g3, fun i c j t h1 h3 => ?_⟩
      rw [List.getElem?_replicate] at h1
      split at h1
      · rename_i hi
        injection h1 with h1
        subst h1
        cases j with
        | succ j => simp at h3
        | zero =>
          simp at h3
          subst h3
          obtain ⟨v, hv, hr⟩ := g4 i [.k (.slice none 0 0)] 0 (.k (.slice none 0 0)) (by rw [List.getElem?_replicate, if_pos hi]) rfl
          refine ⟨v, hv, ?_⟩
          cases hr with
          | k v hv' => exact .sl sz ibt [] none 0 (fun _ _ => .bool false) ⟨hs.2, by simp⟩ ⟨hs.1, by simp⟩ ⟨Nat.le_refl _, fun _ => rfl⟩ (by simp) (by simp)
      · cases h1⟩ (fun k _ => rfl)
  refine h σ a w ?_
  show Sim E N _ (St.τ _) (St.h _) _ a w
  rw [h_cons tm tm hp us us]
  exact h2

/-- And a row again. -/
theorem vc_boxrow {c : Code} (q bt m : Nat) (L : List T) {cs : List AV} (hk : lkH hp q = some (.box cs)) (hcs : cs = L.map .t ++ List.replicate m .any) (hb : 0 < bt ∧ L.length * bt ≤ 140737488355328)
    (h : VC P E N c ⟨tm, (q, some (.row 1 bt (L.map fun t => [t]))) :: hp, us⟩ Q) : VC P E N c ⟨tm, hp, us⟩ Q := fun σ a w hsim => by
  subst hcs
  obtain ⟨b, vs, ty, g1, g2, g3, g4⟩ := hsim.hp q _ (show St.h ⟨tm, hp, us⟩ q = _ from hk)
  have h2 := hsim.reB (B' := .row 1 bt (L.map fun t => [t])) (show St.h ⟨tm, hp, us⟩ q = _ from hk) ⟨⟨hb.1, by simpa using hb.2, by omega, fun c hc => by obtain ⟨t, _, rfl⟩ := List.mem_map.1 hc; rfl⟩, .inr ⟨b, vs, ty, g1, g2, by rw [List.length_map]; rw [List.length_append, List.length_map] at g3; omega, fun i c j t h1 h3 => by
    rw [List.getElem?_map] at h1
    cases hL : L[i]? with
    | none => rw [hL] at h1; cases h1
    | some t' =>
      rw [hL] at h1
      injection h1 with h1
      subst h1
      cases j with
      | succ j => simp at h3
      | zero =>
        simp at h3
        subst h3
        have hi := (List.getElem?_eq_some_iff.1 hL).1
        obtain ⟨v, hv, ha⟩ := g4 i (.t t') (by rw [List.getElem?_append_left (by simpa using hi), List.getElem?_map, hL]; rfl)
        cases ha with
        | t hr => exact ⟨v, by simpa using hv, hr⟩⟩⟩ (fun k _ => rfl)
  refine h σ a w ?_
  show Sim E N _ (St.τ _) (St.h _) _ a w
  rw [h_cons tm tm hp us us]
  exact h2
end

end Go.Eng

namespace Go.Eng

/-- As `Ev`, but a block's frozen part may change. -/
structure EvF (w w' : World) (S S' : Nat → Prop) : Prop where
  rd : ∀ b, S b → S' b ∧ w'.heap[b]? = w.heap[b]?
  sz : ∀ (b : Nat) (vs : Array Value) (ty : TypeId) (fr : Nat × Nat), w.heap[b]? = some (Obj.cells vs ty fr) → ∃ (vs' : Array Value) (fr' : Nat × Nat), w'.heap[b]? = some (.cells vs' ty fr') ∧ vs'.size = vs.size

theorem AR.monoF {w w' : World} {S S' : Nat → Prop} (he : EvF w w' S S') {σ : Sg} {x : AV} {v : Value} (h : AR w σ S x v) : AR w' σ S' x v := by
  induction h with
  | t h => exact .t (h.mono he.rd)
  | ref h => exact .ref h
  | rown h => exact .rown h
  | rowz h => exact .rowz h
  | rows h hw hs hn =>
    obtain ⟨vs', fr', hw', hz⟩ := he.sz _ _ _ _ hw
    exact .rows h hw' (by rw [hz]; exact hs) hn
  | ip hn h =>
    refine .ip hn fun j t hj => ?_
    obtain ⟨hs, u, hu, hr⟩ := h j t hj
    refine ⟨(he.rd _ hs).1, u, ?_, hr.mono he.rd⟩
    rw [cell_of_heap (w := w) (by rw [add_block]; exact (he.rd _ hs).2)]
    exact hu
  | rp h => exact .rp h
  | agg hl h ih => exact .agg hl ih
  | tup hl h ih => exact .tup hl ih
  | fn hl h ih => exact .fn hl ih
  | mp h => exact .mp h
  | nn h => exact .nn (h.mono he.rd)
  | any => exact .any

theorem HB.monoF {w w' : World} {S S' : Nat → Prop} (he : EvF w w' S S') {σ : Sg} {q : Nat} {B : Blk} (h : HB w σ S q B)
    (hb : ∀ s b, σ q s = some b → w'.heap[b]? = w.heap[b]?) : HB w' σ S' q B := by
  cases B with
  | box l =>
    obtain ⟨b, vs, ty, h1, h2, h3, h4⟩ := h
    refine ⟨b, vs, ty, h1, by rw [hb 0 b h1]; exact h2, h3, fun j x hx => ?_⟩
    obtain ⟨v, hv, ha⟩ := h4 j x hx
    exact ⟨v, hv, ha.monoF he⟩
  | row sz bt es =>
    refine ⟨h.1, ?_⟩
    rcases h.2 with ⟨h1, h2⟩ | ⟨b, vs, ty, h1, h2, h3, h4⟩
    · exact .inl ⟨h1, h2⟩
    · refine .inr ⟨b, vs, ty, h1, by rw [hb 0 b h1]; exact h2, h3, fun i c j t hi hj => ?_⟩
      obtain ⟨v, hv, hr⟩ := h4 i c j t hi hj
      exact ⟨v, hv, hr.mono he.rd⟩
  | obj o =>
    obtain ⟨b, h1, h2⟩ := h
    exact ⟨b, h1, by rw [hb 0 b h1]; exact h2⟩
  | nest bt sz ibt ess =>
    obtain ⟨h0, b, vs, ty, h1, h2, h3, h4⟩ := h
    refine ⟨h0, b, vs, ty, h1, by rw [hb 0 b h1]; exact h2, h3, fun i es hi => ?_⟩
    obtain ⟨v, hv, hn⟩ := h4 i es hi
    refine ⟨v, hv, hn.1, ?_⟩
    rcases hn.2 with g0 | ⟨b', vs', ty', cap, g1, g2, g3, g4, g5, g6⟩
    · exact .inl g0
    · exact .inr ⟨b', vs', ty', cap, g1, by rw [hb (i + 1) b' g1]; exact g2, g3, g4, g5, fun i c j t hi hj => let ⟨u, hu, hr⟩ := g6 i c j t hi hj; ⟨u, hu, hr.mono he.rd⟩⟩

section
variable {P : Program} {E : Env} {N : Nat} {tm : List (Nat × AV)} {hp : List (Nat × Option Blk)} {us : List Nat} {d : Nat} {x y : Operand} {t ty : TypeId} {pos : String} {af : Array Edge} {g : Option (Nat × Bool)}

/-- Bytes of a constant text: a new row, whose end is marked. -/
theorem s_mark {q n : Nat} {es : List (List T)} [hl : BytesC P t] (hM : ∀ b, ¬ E.M b) (hx : evO tm x = some (.rows q 1 0 n)) (hk : lkH hp q = some (.row 1 1 es)) (hn : n = es.length) (h0 : 0 < n) (hN : Nat.blt d N = true) :
    Step P E N ⟨some d, .convert t t x, ty, pos, af, g⟩ tm hp us ⟨needL [(x, .rows q 1 0 n)], [(q, .row 1 1 es)], [], some (d, .t (.sl 1 1 es)), [(q, none)]⟩ :=
  step_eff [(x, .rows q 1 0 n)] [(q, .row 1 1 es)] ⟨hx, trivial⟩ ⟨hk, trivial⟩ (fun k hk => by cases hk) fun σ τ h us a w Q K' hv hF hK' => by
    have har := hv.ar (x, .rows q 1 0 n) (by simp)
    dsimp only at har
    obtain ⟨hh, hHB⟩ := hv.kb (q, .row 1 1 es) (by simp)
    dsimp only at hh
    rcases har.rowsv with ⟨h1, _⟩ | ⟨b, cap, vs, ty', fr, h1, h2, h3, h4, h5⟩
    · omega
    obtain ⟨b', vs', ty'', g1, g2, g3, g4⟩ := hHB.rowv (by rintro rfl; simp at hn; omega)
    dsimp only at g1
    rw [h1] at g1
    injection g1 with g1
    subst g1
    rw [h2] at g2
    injection g2 with g2
    injection g2 with a1 a2 a3
    subst a1; subst a2; subst a3
    obtain ⟨e, hu, hue⟩ := hl.out
    have hsh : w.shape? b = some (ty', vs.size) := by simp [World.shape?, h2]
    have hrun : (execOp a.eval ⟨some d, .convert t t x, ty, pos, af, g⟩).run P w = .ok (.value (a.eval x)) (w.freeze ⟨b, vs.size, none⟩ 1) := by
      simp [execOp, h5, convert, run_und hu, run_und hue, markStringish, hsh]
    simp only [Oper.wp, hrun, Oper.upon_value]
    refine hK' σ _ _ ?_
    rw [updH_one]
    have hs := hv.sim
    have hown := hs.own q 0 b (by rw [hh]; simp) h1
    have hge : E.w0.heap.size ≤ b := hown.1.resolve_left (hM b)
    have hoth : ∀ k, k ≠ b → (w.freeze ⟨b, vs.size, none⟩ 1).heap[k]? = w.heap[k]? := by
      intro k hk
      simp only [World.freeze, if_neg (show ¬ (1 = 0) by omega), Array.getElem?_modify]
      rw [if_neg (fun e => hk e.symm)]
    have hsame : (w.freeze ⟨b, vs.size, none⟩ 1).heap[b]? = some (.cells vs ty' (vs.size, vs.size + 1)) := by
      simp only [World.freeze, if_neg (show ¬ (1 = 0) by omega), Array.getElem?_modify, if_true, h2]
      rfl
    have hsize : (w.freeze ⟨b, vs.size, none⟩ 1).heap.size = w.heap.size := by simp [World.freeze]
    generalize hw' : w.freeze ⟨b, vs.size, none⟩ 1 = w' at hoth hsame hsize
    have hos : w'.os = w.os ∧ w'.tape = w.tape ∧ w'.output = w.output := by rw [← hw']; exact ⟨rfl, rfl, rfl⟩
    have hne : ∀ k, hSet h q none k ≠ none → h k ≠ none ∧ k ≠ q := fun k hk => by
      by_cases e : k = q
      · subst e; simp [hSet] at hk
      · exact ⟨by simpa [hSet, e] using hk, e⟩
    have hRS : ∀ c, RS E σ h c → RS E σ (hSet h q none) c := fun c hc => RS_drop hc
    have hRb : ∀ c, RS E σ h c → c ≠ b := by
      rintro c hc rfl
      exact hc.2 q 0 (by rw [hh]; simp) h1
    have he : EvF w w' (RS E σ h) (RS E σ (hSet h q none)) := by
      refine ⟨fun c hc => ⟨hRS c hc, hoth c (hRb c hc)⟩, fun c vs0 t0 fr0 hc => ?_⟩
      by_cases e : c = b
      · subst e
        rw [h2] at hc
        injection hc with hc
        injection hc with a1 a2 a3
        subst a1; subst a2
        exact ⟨vs, _, hsame, rfl⟩
      · exact ⟨vs0, fr0, by rw [hoth c e]; exact hc, rfl⟩
    have hs' : Sim E N σ τ (hSet h q none) us a w' := by
      refine { sz := hs.sz, df := hs.df, tm := fun i => (hs.tm i).monoF he, hp := fun k B hB => ?_, inj := fun k k' s s' c e1 e2 => hs.inj k k' s s' c (hne k e1).1 (hne k' e2).1, own := fun k s c e1 e2 => ?_, fsh := fun k hk => ?_, fr := fun c hc hM' => ?_, gr := by rw [hsize]; exact hs.gr, zz := fun c vs0 t0 fr0 hc => ?_, kp := hs.kp, os := hos.1.trans hs.os, tp := hos.2.1.trans hs.tp, op := hos.2.2.trans hs.op }
      · have hkq := hne k (by rw [hB]; simp)
        have hB0 : h k = some B := by simpa [hSet, hkq.2] using hB
        refine (hs.hp k B hB0).monoF he fun s c hc => hoth c ?_
        rintro rfl
        exact hkq.2 (hs.inj k q s 0 c hkq.1 (by rw [hh]; simp) hc h1).1
      · have := hs.own k s c (hne k e1).1 e2
        exact ⟨this.1, by rw [hsize]; exact this.2⟩
      · obtain ⟨f1, f2, f3⟩ := hs.fsh k hk
        refine ⟨f1, by simp only [hSet]; split <;> simp_all, fun k' B hB => ?_⟩
        have hkq := hne k' (by rw [hB]; simp)
        exact f3 k' B (by simpa [hSet, hkq.2] using hB)
      · rw [hoth c (by omega)]; exact hs.fr c hc hM'
      · obtain ⟨vs1, e1, e2⟩ := hs.zz c vs0 t0 fr0 hc
        have hcl := lt_of_heap hc
        exact ⟨vs1, by rw [hoth c (by omega)]; exact e1, e2⟩
    refine hs'.put (by simpa using hN) ?_ (fun _ _ => rfl)
    refine .t ?_
    have hrd := rd_of_row (S' := RS E σ (hSet h q none)) har hHB (by omega) hRS (fun c hc => by
      try dsimp only at hc
      rw [h1] at hc
      injection hc with hc
      subst hc
      refine ⟨.inr hown.1, fun k s hk e => (hne k hk).2 (hs.inj k q s 0 b (hne k hk).1 (by rw [hh]; simp) e h1).1⟩)
    rw [List.drop_zero, List.take_of_length_le (by omega)] at hrd
    -- the same cells later
    rw [h5] at hrd ⊢
    cases hrd with
    | sl _ _ _ _ _ us hb hz hcap hc hr =>
      have hcell : ∀ ad : Addr, w'.cell? ad = w.cell? ad := by
        intro ad
        by_cases e : ad.block = b
        · simp only [World.cell?, e, hsame, h2]
        · simp only [World.cell?, hoth _ e]
      have hmono : ∀ {z : T} {u : Value}, Rd w (RS E σ (hSet h q none)) z u → Rd w' (RS E σ (hSet h q none)) z u := by
        intro z u hz
        induction hz with
        | k v h => exact .k v h
        | sl sz bt es A cap us hb hz hcap hc hr ih =>
          refine .sl sz bt es A cap us hb hz hcap (fun i c j t h1 h2 => ?_) ih
          obtain ⟨ad, e1, e2, e3⟩ := hc i c j t h1 h2
          exact ⟨ad, e1, e2, by rw [hcell]; exact e3⟩
      exact .sl 1 1 es _ cap us hb hz hcap (fun i c j t h1 h2 => let ⟨ad, e1, e2, e3⟩ := hc i c j t h1 h2; ⟨ad, e1, e2, by rw [hcell]; exact e3⟩) (fun i c j t h1 h2 => hmono (hr i c j t h1 h2))
end

section
variable {P : Program} {E : Env} {N : Nat} {tm : List (Nat × AV)} {hp : List (Nat × Option Blk)} {us : List Nat} {o : Oper} {i : Nat} {l : List Oper} {ops : Array Oper} {C : St → Prop} {acc : List Fp}
/-- A value that takes a block's place. -/
theorem g_vd {R : List (Nat × AV)} {K : List (Nat × Blk)} {d q : Nat} {y : AV} {B : Option Blk} (s : Step P E N o tm hp us ⟨R, K, [], some (d, y), [(q, B)]⟩) (hg : o.guard = none) (h : GRun P E N ops false C (i + 1) l acc ⟨(d, y) :: tm, (q, B) :: hp, us⟩) : GRun P E N ops false C i (o :: l) acc ⟨tm, hp, us⟩ := g_any s hg h
end

end Go.Eng

namespace Go.Eng

theorem LeV.ar {w : World} {σ : Sg} {S : Nat → Prop} {y x : AV} {v : Value} (hle : LeV [] (rnG []) y x) (hy : AR w σ S y v) : AR w σ S x v := by
  generalize hK : ([] : List (Nat × Blk)) = K at hle
  generalize hf : rnG [] = f at hle
  induction hle generalizing v with
  | @eq y x ho he =>
    subst hK; subst hf
    rw [AV.view_nil, rnG_nil, AV.ren_id] at he
    subst he
    exact hy
  | nl h1 h2 =>
    have := hy.kv
    subst this
    exact .t (.sl _ _ [] none 0 (fun _ _ => .bool false) ⟨h2, by simp⟩ ⟨h1, by simp⟩ ⟨Nat.le_refl _, fun _ => rfl⟩ (by simp) (by simp))
  | nn => cases hy with | nn h =>
    have hh := h
    cases h with
    | sl => exact .t hh
  | any => exact .any
  | @agg l m hl h ih =>
    cases hy with
    | @agg _ vs hvl hv =>
      refine .agg (by omega) fun i x v hi hvi => ?_
      have hil : i < l.length := by have := (List.getElem?_eq_some_iff.1 hi).1; omega
      exact ih i _ x (List.getElem?_eq_getElem hil) hi (hv i _ v (List.getElem?_eq_getElem hil) hvi)
  | @tup l m hl h ih =>
    cases hy with
    | @tup _ vs hvl hv =>
      refine .tup (by omega) fun i x v hi hvi => ?_
      have hil : i < l.length := by have := (List.getElem?_eq_some_iff.1 hi).1; omega
      exact ih i _ x (List.getElem?_eq_getElem hil) hi (hv i _ v (List.getElem?_eq_getElem hil) hvi)

/-- A contract for arguments that read as its own do. -/
theorem Con.args {P : Program} {f : FuncId} {cargs avs : List AV} {hin hout : List (Nat × Blk)} {r : AV} (h : Con P f cargs hin r hout) (hl : LeL [] (rnG []) avs cargs) : Con P f avs hin r hout := by
  refine ⟨fun w σ S0 vs hvl hargs hpre => h.run w σ S0 vs (by rw [hvl, hl.out.1]) (fun i a v hi hv => ?_) hpre⟩
  have hil : i < avs.length := by have := (List.getElem?_eq_some_iff.1 hi).1; have := hl.out.1; omega
  exact (hl.out.2 i _ a (List.getElem?_eq_getElem hil) hi).ar (hargs i _ v (List.getElem?_eq_getElem hil) hv)

class BoolC (P : Program) (t : TypeId) : Prop where eq : P.underlying t = some .bool

section
variable {P : Program} {E : Env} {N : Nat} {tm : List (Nat × AV)} {hp : List (Nat × Option Blk)} {us : List Nat} {d : Nat} {x y : Operand} {t ty : TypeId} {pos : String} {af : Array Edge} {g : Option (Nat × Bool)}
theorem s_boolcmp {op : BinOp} {t' : TypeId} {a b : Bool} {r : Bool} (hop : ∀ w : World, (binOp op t (.bool a) (.bool b)).run P w = .ok (.bool r) w) (hx : evO tm x = some (AB a)) (hy : evO tm y = some (AB b)) (hN : Nat.blt d N = true) :
    Step P E N ⟨some d, .binOp op t x y t', ty, pos, af, g⟩ tm hp us ⟨needL [(x, AB a), (y, AB b)], [], [], some (d, AB r), []⟩ :=
  step_val [(x, AB a), (y, AB b)] [] rfl hN ⟨hx, hy, trivial⟩ trivial fun σ τ h us c w hv => by
    have h1 := (hv.ar (x, AB a) (by simp)).kv
    have h2 := (hv.ar (y, AB b) (by simp)).kv
    dsimp only at h1 h2
    refine ⟨.bool r, ?_, .t (.k _ trivial), fun _ _ => rfl⟩
    have hg : ∀ w, (eqGuard op t x y (.bool a) (.bool b)).run P w = .ok () w := by
      intro w
      unfold eqGuard
      by_cases hb : (op matches .eql | .neq) = true <;> simp [hb]
    simp [execOp, h1, h2, hg, hop]
theorem s_eqlB {t' : TypeId} {a b : Bool} [hl : BoolC P t] (hx : evO tm x = some (AB a)) (hy : evO tm y = some (AB b)) (hN : Nat.blt d N = true) :
    Step P E N ⟨some d, .binOp .eql t x y t', ty, pos, af, g⟩ tm hp us ⟨needL [(x, AB a), (y, AB b)], [], [], some (d, AB (a == b)), []⟩ :=
  s_boolcmp (fun w => run_eql_bool w t a b hl.eq) hx hy hN
theorem s_neqB {t' : TypeId} {a b : Bool} [hl : BoolC P t] (hx : evO tm x = some (AB a)) (hy : evO tm y = some (AB b)) (hN : Nat.blt d N = true) :
    Step P E N ⟨some d, .binOp .neq t x y t', ty, pos, af, g⟩ tm hp us ⟨needL [(x, AB a), (y, AB b)], [], [], some (d, AB (!(a == b))), []⟩ :=
  s_boolcmp (fun w => run_neq_bool w t a b hl.eq) hx hy hN
end

end Go.Eng

namespace Go.Eng
open Go.ChangeShapes Go.WideShapes Go.ChangeAt Go.RowKit

/-- A contract without blocks, at a world. -/
theorem Con.calls {P : Program} {f : FuncId} {args : List AV} {r : AV} (h : Con P f args [] r []) (W : World) (vs : List Value) (hl : vs.length = args.length)
    (ha : ∀ (i : Nat) (a : AV) (v : Value), args[i]? = some a → vs[i]? = some v → AR W (fun _ _ => none) (fun b => b < W.heap.size) a v) :
    Calls P f vs.toArray W fun e W' => ∃ v σ' S', e = .returned v ∧ Below W.heap.size W W' ∧ AR W' σ' S' r v :=
  (h.run W (fun _ _ => none) (fun b => b < W.heap.size) vs hl ha ⟨fun _ _ h => (by cases h), fun _ _ _ _ _ h => absurd rfl h, fun _ _ _ h => absurd rfl h⟩).mono fun e W' ⟨v, σ', he, hp⟩ =>
    ⟨v, σ', _, he, ⟨hp.os, hp.tp, hp.op, hp.gr, fun k hk => hp.fr k hk fun ⟨q, s, hq, _⟩ => hq rfl⟩, hp.ar⟩

theorem Below.trodAll {H : Type} {enc : TypeId × Value → H} {P : Program} (hl : laidOutB P = true) {W W' : World} (hb : Below W.heap.size W W') :
    ∀ {ts : List TypeId} {vs : List Value} {ds : List (DataW H)} {ps : List MemPlace}, (∀ t ∈ ts, P.readableRec t = true ∧ t < P.types.size) → DataW.TrodAll enc P W 0 (fun _ => true) true ts vs ds ps → (∀ x ∈ ps, x.block < W.heap.size) →
      DataW.TrodAll enc P W' 0 (fun b => decide (b < W.heap.size)) true ts vs ds ps
  | [], vs, ds, ps, ht, h, hlt => by
    cases vs <;> cases ds <;> simp [DataW.TrodAll] at h ⊢
    exact h
  | t :: ts, vs, ds, ps, ht, h, hlt => by
    cases vs <;> cases ds <;> simp [DataW.TrodAll] at h ⊢
    obtain ⟨p, hp, q, hq, rfl⟩ := h
    obtain ⟨h1, h2⟩ := ht t (List.mem_cons_self ..)
    exact ⟨p, Below.trod hl h1 h2 hp hb fun x hx => hlt x (List.mem_append_left _ hx), q, Below.trodAll hl hb (fun t ht' => ht t (List.mem_cons_of_mem _ ht')) hq fun x hx => hlt x (List.mem_append_right _ hx), rfl⟩

theorem ar_int {W : World} {σ : Sg} {S : Nat → Prop} {k : IntKind} {n : Int} (h : (Lit.int k n).wf = true) : AR W σ S (AI k n) (.int k n) := by
  refine .t (.k _ ?_)
  simp only [Lit.wf, Bool.and_eq_true, decide_eq_true_eq] at h
  exact h

/-- A slice of bytes that came in. -/
theorem ar_bytes {H : Type} {enc : TypeId × Value → H} {P : Program} {W : World} {σ : Sg} {t e : TypeId} {v : Value} {d : DataW H} {ps : List MemPlace} {r : Reach} {b0 : Nat} (ht : P.underlying t = some (.slice e)) (he : P.underlying e = some (.int .u8)) (hc : P.cellsOf e = 1)
    (hval : Value.okWide P W r b0 t v) (h : DataW.Trod enc P W 0 (fun _ => true) true t v d ps) (hsz : ∀ elems spare, d = .slice elems spare → elems.length + spare.length ≤ reachBytes) : ∃ l : List Int, AR W σ (fun b => b < W.heap.size) (.t (bytesT l)) v := by
  obtain ⟨a0, len, cap, rfl⟩ := okWide_slice ht hval
  obtain ⟨fuel, hf⟩ := h
  rcases open_ints ht he hc hf with ⟨hcs, hx⟩ | ⟨a, len', cap', zs, hcs, _, hl, hm, hz, hx, hcell, hwz⟩
  · simp [Value.cells] at hcs
    obtain ⟨rfl, rfl, rfl⟩ := hcs
    exact ⟨[], .t (.sl 1 1 [] none 0 (fun _ _ => .bool false) (by simp) (by simp) (by simp) (by simp) (by simp))⟩
  · simp [Value.cells] at hcs
    obtain ⟨rfl, rfl, rfl⟩ := hcs
    simp only [if_true] at hz
    simp only [Prod.mk.injEq] at hx
    have hreach := hsz _ _ hx.1
    simp only [lits, List.length_map, List.length_take, List.length_drop] at hreach
    have hrl := reachBytes_lt
    have hlen : (zs.take len).length = len := by simp; omega
    have hlm : ((zs.take len).map byteC).length = len := by simp; omega
    refine ⟨zs.take len, .t ?_⟩
    have key : ∀ i c j t, ((zs.take len).map byteC)[i]? = some c → c[j]? = some t → j = 0 ∧ i < len ∧ t = .k (.int .u8 (zs.getD i 0)) := by
      intro i c j t h1 h2
      rw [List.getElem?_map] at h1
      cases hi : (zs.take len)[i]? with
      | none => rw [hi] at h1; cases h1
      | some z =>
        rw [hi] at h1
        injection h1 with h1
        subst h1
        have hil := (List.getElem?_eq_some_iff.1 hi).1
        rw [hlen] at hil
        rw [List.getElem?_take, if_pos hil] at hi
        cases j with
        | zero => simp [byteC] at h2; exact ⟨rfl, hil, by rw [← h2, List.getD_eq_getElem?_getD, hi]; rfl⟩
        | succ j => simp [byteC] at h2
    have := Rd.sl (w := W) (S := fun b => b < W.heap.size) 1 1 ((zs.take len).map byteC) (some a) cap (fun i _ => .int .u8 (zs.getD i 0)) ⟨by omega, by rw [hlm]; omega⟩ ⟨by omega, fun c hc => by obtain ⟨z, _, rfl⟩ := List.mem_map.1 hc; rfl⟩ ⟨by rw [hlm]; exact hl, fun e => by cases e⟩
      (fun i c j t h1 h2 => by
        obtain ⟨rfl, hil, rfl⟩ := key i c j t h1 h2
        have hce := hcell i (by omega)
        refine ⟨a, rfl, ?_, by rw [show i * 1 + 0 = i by omega]; exact hce⟩
        have := World.block_lt_of_cell? W _ hce
        rwa [add_block] at this)
      (fun i c j t h1 h2 => by
        obtain ⟨rfl, hil, rfl⟩ := key i c j t h1 h2
        refine .k _ ?_
        have := hwz (zs.getD i 0) (by
          rw [List.getD_eq_getElem?_getD, List.getElem?_eq_getElem (by omega)]
          exact List.getElem_mem _)
        simp only [Lit.wf, Bool.and_eq_true, decide_eq_true_eq] at this
        exact this)
    rw [hlm] at this
    exact this

end Go.Eng

namespace Go.Eng
open Go.Proofs

-- 2: int64
instance : LayC Tryz.prog 2 false 1 := ⟨by kernel_rfl⟩
instance : ZeroC Tryz.prog 2 [.t (.k (.int .i64 0))] := ⟨by kernel_rfl⟩
instance : ZeroTC Tryz.prog 2 [(.k (.int .i64 0))] := ⟨by kernel_rfl⟩
instance : IntC Tryz.prog 2 .i64 := ⟨by kernel_rfl⟩
-- 3: int
instance : LayC Tryz.prog 3 false 1 := ⟨by kernel_rfl⟩
instance : ZeroC Tryz.prog 3 [.t (.k (.int .i64 0))] := ⟨by kernel_rfl⟩
instance : ZeroTC Tryz.prog 3 [(.k (.int .i64 0))] := ⟨by kernel_rfl⟩
instance : IntC Tryz.prog 3 .i64 := ⟨by kernel_rfl⟩
-- 4: bool
instance : LayC Tryz.prog 4 false 1 := ⟨by kernel_rfl⟩
instance : ZeroC Tryz.prog 4 [.t (.k (.bool false))] := ⟨by kernel_rfl⟩
instance : ZeroTC Tryz.prog 4 [(.k (.bool false))] := ⟨by kernel_rfl⟩
-- 5: uint8
instance : LayC Tryz.prog 5 false 1 := ⟨by kernel_rfl⟩
instance : ZeroC Tryz.prog 5 [.t (.k (.int .u8 0))] := ⟨by kernel_rfl⟩
instance : ZeroTC Tryz.prog 5 [(.k (.int .u8 0))] := ⟨by kernel_rfl⟩
instance : IntC Tryz.prog 5 .u8 := ⟨by kernel_rfl⟩
-- 9: string
instance : LayC Tryz.prog 9 false 1 := ⟨by kernel_rfl⟩
instance : ZeroC Tryz.prog 9 [.t (.k (.string ByteArray.empty))] := ⟨by kernel_rfl⟩
instance : ZeroTC Tryz.prog 9 [(.k (.string ByteArray.empty))] := ⟨by kernel_rfl⟩
instance : StrC Tryz.prog 9 := ⟨by kernel_rfl⟩
-- 12: uintptr
instance : LayC Tryz.prog 12 false 1 := ⟨by kernel_rfl⟩
instance : ZeroC Tryz.prog 12 [.t (.k (.int .u64 0))] := ⟨by kernel_rfl⟩
instance : ZeroTC Tryz.prog 12 [(.k (.int .u64 0))] := ⟨by kernel_rfl⟩
instance : IntC Tryz.prog 12 .u64 := ⟨by kernel_rfl⟩
-- 13: struct { msg string; addr uintptr }
instance : LayC Tryz.prog 13 true 2 := ⟨by kernel_rfl⟩
instance : ZeroC Tryz.prog 13 [.t (.k (.string ByteArray.empty)), .t (.k (.int .u64 0))] := ⟨by kernel_rfl⟩
instance : StructC Tryz.prog 13 [(0, 1), (1, 1)] := ⟨by kernel_rfl⟩
instance : ZeroTC Tryz.prog 13 [(.k (.string ByteArray.empty)), (.k (.int .u64 0))] := ⟨by kernel_rfl⟩
-- 19: maps.unhashableTypeError
instance : LayC Tryz.prog 19 true 1 := ⟨by kernel_rfl⟩
instance : ZeroC Tryz.prog 19 [.t (.k (.pointer none))] := ⟨by kernel_rfl⟩
instance : StructC Tryz.prog 19 [(0, 1)] := ⟨by kernel_rfl⟩
instance : ZeroTC Tryz.prog 19 [(.k (.pointer none))] := ⟨by kernel_rfl⟩
-- 20: interface {}
instance : LayC Tryz.prog 20 false 1 := ⟨by kernel_rfl⟩
instance : ZeroC Tryz.prog 20 [.t (.k .nilIface)] := ⟨by kernel_rfl⟩
instance : ZeroTC Tryz.prog 20 [(.k .nilIface)] := ⟨by kernel_rfl⟩
-- 21: int32
instance : LayC Tryz.prog 21 false 1 := ⟨by kernel_rfl⟩
instance : ZeroC Tryz.prog 21 [.t (.k (.int .i32 0))] := ⟨by kernel_rfl⟩
instance : ZeroTC Tryz.prog 21 [(.k (.int .i32 0))] := ⟨by kernel_rfl⟩
instance : IntC Tryz.prog 21 .i32 := ⟨by kernel_rfl⟩
-- 22: []uint8
instance : LayC Tryz.prog 22 false 1 := ⟨by kernel_rfl⟩
instance : ZeroC Tryz.prog 22 [.t (.k (.slice none 0 0))] := ⟨by kernel_rfl⟩
instance : SliceC Tryz.prog 22 5 1 1 := ⟨by kernel_rfl, by kernel_rfl, by kernel_rfl⟩
instance : ZeroTC Tryz.prog 22 [(.k (.slice none 0 0))] := ⟨by kernel_rfl⟩
instance : BytesC Tryz.prog 22 := ⟨by kernel_rfl⟩
-- 24: []int
instance : LayC Tryz.prog 24 false 1 := ⟨by kernel_rfl⟩
instance : ZeroC Tryz.prog 24 [.t (.k (.slice none 0 0))] := ⟨by kernel_rfl⟩
instance : SliceC Tryz.prog 24 3 1 8 := ⟨by kernel_rfl, by kernel_rfl, by kernel_rfl⟩
instance : ZeroTC Tryz.prog 24 [(.k (.slice none 0 0))] := ⟨by kernel_rfl⟩
-- 25: []int64
instance : LayC Tryz.prog 25 false 1 := ⟨by kernel_rfl⟩
instance : ZeroC Tryz.prog 25 [.t (.k (.slice none 0 0))] := ⟨by kernel_rfl⟩
instance : SliceC Tryz.prog 25 2 1 8 := ⟨by kernel_rfl, by kernel_rfl, by kernel_rfl⟩
instance : ZeroTC Tryz.prog 25 [(.k (.slice none 0 0))] := ⟨by kernel_rfl⟩
-- 26: []api.Write
instance : LayC Tryz.prog 26 false 1 := ⟨by kernel_rfl⟩
instance : ZeroC Tryz.prog 26 [.t (.k (.slice none 0 0))] := ⟨by kernel_rfl⟩
instance : SliceC Tryz.prog 26 99 2 32 := ⟨by kernel_rfl, by kernel_rfl, by kernel_rfl⟩
instance : ZeroTC Tryz.prog 26 [(.k (.slice none 0 0))] := ⟨by kernel_rfl⟩
-- 27: struct { Id int; Blocks int; Size int; Per int; Place []int; Total int; Next int; Hidden bool; Floor int64; Pins []int64; Writes []api.Write }
instance : LayC Tryz.prog 27 true 11 := ⟨by kernel_rfl⟩
instance : ZeroC Tryz.prog 27 [.t (.k (.int .i64 0)), .t (.k (.int .i64 0)), .t (.k (.int .i64 0)), .t (.k (.int .i64 0)), .t (.k (.slice none 0 0)), .t (.k (.int .i64 0)), .t (.k (.int .i64 0)), .t (.k (.bool false)), .t (.k (.int .i64 0)), .t (.k (.slice none 0 0)), .t (.k (.slice none 0 0))] := ⟨by kernel_rfl⟩
instance : StructC Tryz.prog 27 [(0, 1), (1, 1), (2, 1), (3, 1), (4, 1), (5, 1), (6, 1), (7, 1), (8, 1), (9, 1), (10, 1)] := ⟨by kernel_rfl⟩
instance : ZeroTC Tryz.prog 27 [(.k (.int .i64 0)), (.k (.int .i64 0)), (.k (.int .i64 0)), (.k (.int .i64 0)), (.k (.slice none 0 0)), (.k (.int .i64 0)), (.k (.int .i64 0)), (.k (.bool false)), (.k (.int .i64 0)), (.k (.slice none 0 0)), (.k (.slice none 0 0))] := ⟨by kernel_rfl⟩
-- 28: api.Volume
instance : LayC Tryz.prog 28 true 11 := ⟨by kernel_rfl⟩
instance : ZeroC Tryz.prog 28 [.t (.k (.int .i64 0)), .t (.k (.int .i64 0)), .t (.k (.int .i64 0)), .t (.k (.int .i64 0)), .t (.k (.slice none 0 0)), .t (.k (.int .i64 0)), .t (.k (.int .i64 0)), .t (.k (.bool false)), .t (.k (.int .i64 0)), .t (.k (.slice none 0 0)), .t (.k (.slice none 0 0))] := ⟨by kernel_rfl⟩
instance : StructC Tryz.prog 28 [(0, 1), (1, 1), (2, 1), (3, 1), (4, 1), (5, 1), (6, 1), (7, 1), (8, 1), (9, 1), (10, 1)] := ⟨by kernel_rfl⟩
instance : ZeroTC Tryz.prog 28 [(.k (.int .i64 0)), (.k (.int .i64 0)), (.k (.int .i64 0)), (.k (.int .i64 0)), (.k (.slice none 0 0)), (.k (.int .i64 0)), (.k (.int .i64 0)), (.k (.bool false)), (.k (.int .i64 0)), (.k (.slice none 0 0)), (.k (.slice none 0 0))] := ⟨by kernel_rfl⟩
-- 31: []api.Chunk
instance : LayC Tryz.prog 31 false 1 := ⟨by kernel_rfl⟩
instance : ZeroC Tryz.prog 31 [.t (.k (.slice none 0 0))] := ⟨by kernel_rfl⟩
instance : SliceC Tryz.prog 31 35 7 72 := ⟨by kernel_rfl, by kernel_rfl, by kernel_rfl⟩
instance : ZeroTC Tryz.prog 31 [(.k (.slice none 0 0))] := ⟨by kernel_rfl⟩
-- 33: [][]api.Version
instance : LayC Tryz.prog 33 false 1 := ⟨by kernel_rfl⟩
instance : ZeroC Tryz.prog 33 [.t (.k (.slice none 0 0))] := ⟨by kernel_rfl⟩
instance : SliceC Tryz.prog 33 100 1 24 := ⟨by kernel_rfl, by kernel_rfl, by kernel_rfl⟩
instance : ZeroTC Tryz.prog 33 [(.k (.slice none 0 0))] := ⟨by kernel_rfl⟩
-- 34: struct { Vol int; Chunk int; Count int; Size int; Mark int64; Floor int64; Hist [][]api.Version }
instance : LayC Tryz.prog 34 true 7 := ⟨by kernel_rfl⟩
instance : ZeroC Tryz.prog 34 [.t (.k (.int .i64 0)), .t (.k (.int .i64 0)), .t (.k (.int .i64 0)), .t (.k (.int .i64 0)), .t (.k (.int .i64 0)), .t (.k (.int .i64 0)), .t (.k (.slice none 0 0))] := ⟨by kernel_rfl⟩
instance : StructC Tryz.prog 34 [(0, 1), (1, 1), (2, 1), (3, 1), (4, 1), (5, 1), (6, 1)] := ⟨by kernel_rfl⟩
instance : ZeroTC Tryz.prog 34 [(.k (.int .i64 0)), (.k (.int .i64 0)), (.k (.int .i64 0)), (.k (.int .i64 0)), (.k (.int .i64 0)), (.k (.int .i64 0)), (.k (.slice none 0 0))] := ⟨by kernel_rfl⟩
-- 35: api.Chunk
instance : LayC Tryz.prog 35 true 7 := ⟨by kernel_rfl⟩
instance : ZeroC Tryz.prog 35 [.t (.k (.int .i64 0)), .t (.k (.int .i64 0)), .t (.k (.int .i64 0)), .t (.k (.int .i64 0)), .t (.k (.int .i64 0)), .t (.k (.int .i64 0)), .t (.k (.slice none 0 0))] := ⟨by kernel_rfl⟩
instance : StructC Tryz.prog 35 [(0, 1), (1, 1), (2, 1), (3, 1), (4, 1), (5, 1), (6, 1)] := ⟨by kernel_rfl⟩
instance : ZeroTC Tryz.prog 35 [(.k (.int .i64 0)), (.k (.int .i64 0)), (.k (.int .i64 0)), (.k (.int .i64 0)), (.k (.int .i64 0)), (.k (.int .i64 0)), (.k (.slice none 0 0))] := ⟨by kernel_rfl⟩
-- 37: []api.Item
instance : LayC Tryz.prog 37 false 1 := ⟨by kernel_rfl⟩
instance : ZeroC Tryz.prog 37 [.t (.k (.slice none 0 0))] := ⟨by kernel_rfl⟩
instance : SliceC Tryz.prog 37 96 2 32 := ⟨by kernel_rfl, by kernel_rfl, by kernel_rfl⟩
instance : ZeroTC Tryz.prog 37 [(.k (.slice none 0 0))] := ⟨by kernel_rfl⟩
-- 38: struct { Blocks int; Size int; From int64; To int64; Items []api.Item }
instance : LayC Tryz.prog 38 true 5 := ⟨by kernel_rfl⟩
instance : ZeroC Tryz.prog 38 [.t (.k (.int .i64 0)), .t (.k (.int .i64 0)), .t (.k (.int .i64 0)), .t (.k (.int .i64 0)), .t (.k (.slice none 0 0))] := ⟨by kernel_rfl⟩
instance : StructC Tryz.prog 38 [(0, 1), (1, 1), (2, 1), (3, 1), (4, 1)] := ⟨by kernel_rfl⟩
instance : ZeroTC Tryz.prog 38 [(.k (.int .i64 0)), (.k (.int .i64 0)), (.k (.int .i64 0)), (.k (.int .i64 0)), (.k (.slice none 0 0))] := ⟨by kernel_rfl⟩
-- 39: api.Stream
instance : LayC Tryz.prog 39 true 5 := ⟨by kernel_rfl⟩
instance : ZeroC Tryz.prog 39 [.t (.k (.int .i64 0)), .t (.k (.int .i64 0)), .t (.k (.int .i64 0)), .t (.k (.int .i64 0)), .t (.k (.slice none 0 0))] := ⟨by kernel_rfl⟩
instance : StructC Tryz.prog 39 [(0, 1), (1, 1), (2, 1), (3, 1), (4, 1)] := ⟨by kernel_rfl⟩
instance : ZeroTC Tryz.prog 39 [(.k (.int .i64 0)), (.k (.int .i64 0)), (.k (.int .i64 0)), (.k (.int .i64 0)), (.k (.slice none 0 0))] := ⟨by kernel_rfl⟩
-- 40: api.Errno
instance : LayC Tryz.prog 40 false 1 := ⟨by kernel_rfl⟩
instance : ZeroC Tryz.prog 40 [.t (.k (.int .i64 0))] := ⟨by kernel_rfl⟩
instance : ZeroTC Tryz.prog 40 [(.k (.int .i64 0))] := ⟨by kernel_rfl⟩
instance : IntC Tryz.prog 40 .i64 := ⟨by kernel_rfl⟩
-- 43: [][]uint8
instance : LayC Tryz.prog 43 false 1 := ⟨by kernel_rfl⟩
instance : ZeroC Tryz.prog 43 [.t (.k (.slice none 0 0))] := ⟨by kernel_rfl⟩
instance : SliceC Tryz.prog 43 22 1 24 := ⟨by kernel_rfl, by kernel_rfl, by kernel_rfl⟩
instance : ZeroTC Tryz.prog 43 [(.k (.slice none 0 0))] := ⟨by kernel_rfl⟩
-- 50: [2]int64
instance : LayC Tryz.prog 50 true 2 := ⟨by kernel_rfl⟩
instance : ZeroC Tryz.prog 50 [.t (.k (.int .i64 0)), .t (.k (.int .i64 0))] := ⟨by kernel_rfl⟩
instance : ZeroTC Tryz.prog 50 [(.k (.int .i64 0)), (.k (.int .i64 0))] := ⟨by kernel_rfl⟩
-- 51: [][2]int64
instance : LayC Tryz.prog 51 false 1 := ⟨by kernel_rfl⟩
instance : ZeroC Tryz.prog 51 [.t (.k (.slice none 0 0))] := ⟨by kernel_rfl⟩
instance : SliceC Tryz.prog 51 50 2 16 := ⟨by kernel_rfl, by kernel_rfl, by kernel_rfl⟩
instance : ZeroTC Tryz.prog 51 [(.k (.slice none 0 0))] := ⟨by kernel_rfl⟩
-- 61: []api.Stream
instance : LayC Tryz.prog 61 false 1 := ⟨by kernel_rfl⟩
instance : ZeroC Tryz.prog 61 [.t (.k (.slice none 0 0))] := ⟨by kernel_rfl⟩
instance : SliceC Tryz.prog 61 39 5 56 := ⟨by kernel_rfl, by kernel_rfl, by kernel_rfl⟩
instance : ZeroTC Tryz.prog 61 [(.k (.slice none 0 0))] := ⟨by kernel_rfl⟩
-- 69: *mementoref16.Machine
instance : LayC Tryz.prog 69 false 1 := ⟨by kernel_rfl⟩
instance : ZeroC Tryz.prog 69 [.t (.k (.pointer none))] := ⟨by kernel_rfl⟩
instance : ZeroTC Tryz.prog 69 [(.k (.pointer none))] := ⟨by kernel_rfl⟩
-- 70: []api.Volume
instance : LayC Tryz.prog 70 false 1 := ⟨by kernel_rfl⟩
instance : ZeroC Tryz.prog 70 [.t (.k (.slice none 0 0))] := ⟨by kernel_rfl⟩
instance : SliceC Tryz.prog 70 28 11 136 := ⟨by kernel_rfl, by kernel_rfl, by kernel_rfl⟩
instance : ZeroTC Tryz.prog 70 [(.k (.slice none 0 0))] := ⟨by kernel_rfl⟩
-- 71: struct { L []api.Volume }
instance : LayC Tryz.prog 71 true 1 := ⟨by kernel_rfl⟩
instance : ZeroC Tryz.prog 71 [.t (.k (.slice none 0 0))] := ⟨by kernel_rfl⟩
instance : StructC Tryz.prog 71 [(0, 1)] := ⟨by kernel_rfl⟩
instance : ZeroTC Tryz.prog 71 [(.k (.slice none 0 0))] := ⟨by kernel_rfl⟩
-- 72: mementoref16.Machine
instance : LayC Tryz.prog 72 true 1 := ⟨by kernel_rfl⟩
instance : ZeroC Tryz.prog 72 [.t (.k (.slice none 0 0))] := ⟨by kernel_rfl⟩
instance : StructC Tryz.prog 72 [(0, 1)] := ⟨by kernel_rfl⟩
instance : ZeroTC Tryz.prog 72 [(.k (.slice none 0 0))] := ⟨by kernel_rfl⟩
-- 77: struct { Kind int; Vol int; Blocks int; Size int; Per int; Place []int; Total int; At int64; Index int; Items []api.Item }
instance : LayC Tryz.prog 77 true 10 := ⟨by kernel_rfl⟩
instance : ZeroC Tryz.prog 77 [.t (.k (.int .i64 0)), .t (.k (.int .i64 0)), .t (.k (.int .i64 0)), .t (.k (.int .i64 0)), .t (.k (.int .i64 0)), .t (.k (.slice none 0 0)), .t (.k (.int .i64 0)), .t (.k (.int .i64 0)), .t (.k (.int .i64 0)), .t (.k (.slice none 0 0))] := ⟨by kernel_rfl⟩
instance : StructC Tryz.prog 77 [(0, 1), (1, 1), (2, 1), (3, 1), (4, 1), (5, 1), (6, 1), (7, 1), (8, 1), (9, 1)] := ⟨by kernel_rfl⟩
instance : ZeroTC Tryz.prog 77 [(.k (.int .i64 0)), (.k (.int .i64 0)), (.k (.int .i64 0)), (.k (.int .i64 0)), (.k (.int .i64 0)), (.k (.slice none 0 0)), (.k (.int .i64 0)), (.k (.int .i64 0)), (.k (.int .i64 0)), (.k (.slice none 0 0))] := ⟨by kernel_rfl⟩
-- 78: api.VolCmd
instance : LayC Tryz.prog 78 true 10 := ⟨by kernel_rfl⟩
instance : ZeroC Tryz.prog 78 [.t (.k (.int .i64 0)), .t (.k (.int .i64 0)), .t (.k (.int .i64 0)), .t (.k (.int .i64 0)), .t (.k (.int .i64 0)), .t (.k (.slice none 0 0)), .t (.k (.int .i64 0)), .t (.k (.int .i64 0)), .t (.k (.int .i64 0)), .t (.k (.slice none 0 0))] := ⟨by kernel_rfl⟩
instance : StructC Tryz.prog 78 [(0, 1), (1, 1), (2, 1), (3, 1), (4, 1), (5, 1), (6, 1), (7, 1), (8, 1), (9, 1)] := ⟨by kernel_rfl⟩
instance : ZeroTC Tryz.prog 78 [(.k (.int .i64 0)), (.k (.int .i64 0)), (.k (.int .i64 0)), (.k (.int .i64 0)), (.k (.int .i64 0)), (.k (.slice none 0 0)), (.k (.int .i64 0)), (.k (.int .i64 0)), (.k (.int .i64 0)), (.k (.slice none 0 0))] := ⟨by kernel_rfl⟩
-- 80: struct { Code api.Errno; Len int64; Floor int64; Next int; Data []uint8 }
instance : LayC Tryz.prog 80 true 5 := ⟨by kernel_rfl⟩
instance : ZeroC Tryz.prog 80 [.t (.k (.int .i64 0)), .t (.k (.int .i64 0)), .t (.k (.int .i64 0)), .t (.k (.int .i64 0)), .t (.k (.slice none 0 0))] := ⟨by kernel_rfl⟩
instance : StructC Tryz.prog 80 [(0, 1), (1, 1), (2, 1), (3, 1), (4, 1)] := ⟨by kernel_rfl⟩
instance : ZeroTC Tryz.prog 80 [(.k (.int .i64 0)), (.k (.int .i64 0)), (.k (.int .i64 0)), (.k (.int .i64 0)), (.k (.slice none 0 0))] := ⟨by kernel_rfl⟩
-- 81: api.Reply
instance : LayC Tryz.prog 81 true 5 := ⟨by kernel_rfl⟩
instance : ZeroC Tryz.prog 81 [.t (.k (.int .i64 0)), .t (.k (.int .i64 0)), .t (.k (.int .i64 0)), .t (.k (.int .i64 0)), .t (.k (.slice none 0 0))] := ⟨by kernel_rfl⟩
instance : StructC Tryz.prog 81 [(0, 1), (1, 1), (2, 1), (3, 1), (4, 1)] := ⟨by kernel_rfl⟩
instance : ZeroTC Tryz.prog 81 [(.k (.int .i64 0)), (.k (.int .i64 0)), (.k (.int .i64 0)), (.k (.int .i64 0)), (.k (.slice none 0 0))] := ⟨by kernel_rfl⟩
-- 86: struct { Vol int; Chunk int; Count int; Size int; From int64; To int64; Floor int64; Writes []api.Write }
instance : LayC Tryz.prog 86 true 8 := ⟨by kernel_rfl⟩
instance : ZeroC Tryz.prog 86 [.t (.k (.int .i64 0)), .t (.k (.int .i64 0)), .t (.k (.int .i64 0)), .t (.k (.int .i64 0)), .t (.k (.int .i64 0)), .t (.k (.int .i64 0)), .t (.k (.int .i64 0)), .t (.k (.slice none 0 0))] := ⟨by kernel_rfl⟩
instance : StructC Tryz.prog 86 [(0, 1), (1, 1), (2, 1), (3, 1), (4, 1), (5, 1), (6, 1), (7, 1)] := ⟨by kernel_rfl⟩
instance : ZeroTC Tryz.prog 86 [(.k (.int .i64 0)), (.k (.int .i64 0)), (.k (.int .i64 0)), (.k (.int .i64 0)), (.k (.int .i64 0)), (.k (.int .i64 0)), (.k (.int .i64 0)), (.k (.slice none 0 0))] := ⟨by kernel_rfl⟩
-- 87: api.PushCmd
instance : LayC Tryz.prog 87 true 8 := ⟨by kernel_rfl⟩
instance : ZeroC Tryz.prog 87 [.t (.k (.int .i64 0)), .t (.k (.int .i64 0)), .t (.k (.int .i64 0)), .t (.k (.int .i64 0)), .t (.k (.int .i64 0)), .t (.k (.int .i64 0)), .t (.k (.int .i64 0)), .t (.k (.slice none 0 0))] := ⟨by kernel_rfl⟩
instance : StructC Tryz.prog 87 [(0, 1), (1, 1), (2, 1), (3, 1), (4, 1), (5, 1), (6, 1), (7, 1)] := ⟨by kernel_rfl⟩
instance : ZeroTC Tryz.prog 87 [(.k (.int .i64 0)), (.k (.int .i64 0)), (.k (.int .i64 0)), (.k (.int .i64 0)), (.k (.int .i64 0)), (.k (.int .i64 0)), (.k (.int .i64 0)), (.k (.slice none 0 0))] := ⟨by kernel_rfl⟩
-- 95: struct { Block int; Data []uint8 }
instance : LayC Tryz.prog 95 true 2 := ⟨by kernel_rfl⟩
instance : ZeroC Tryz.prog 95 [.t (.k (.int .i64 0)), .t (.k (.slice none 0 0))] := ⟨by kernel_rfl⟩
instance : StructC Tryz.prog 95 [(0, 1), (1, 1)] := ⟨by kernel_rfl⟩
instance : ZeroTC Tryz.prog 95 [(.k (.int .i64 0)), (.k (.slice none 0 0))] := ⟨by kernel_rfl⟩
-- 96: api.Item
instance : LayC Tryz.prog 96 true 2 := ⟨by kernel_rfl⟩
instance : ZeroC Tryz.prog 96 [.t (.k (.int .i64 0)), .t (.k (.slice none 0 0))] := ⟨by kernel_rfl⟩
instance : StructC Tryz.prog 96 [(0, 1), (1, 1)] := ⟨by kernel_rfl⟩
instance : ZeroTC Tryz.prog 96 [(.k (.int .i64 0)), (.k (.slice none 0 0))] := ⟨by kernel_rfl⟩
-- 98: struct { Seq int64; Items []api.Item }
instance : LayC Tryz.prog 98 true 2 := ⟨by kernel_rfl⟩
instance : ZeroC Tryz.prog 98 [.t (.k (.int .i64 0)), .t (.k (.slice none 0 0))] := ⟨by kernel_rfl⟩
instance : StructC Tryz.prog 98 [(0, 1), (1, 1)] := ⟨by kernel_rfl⟩
instance : ZeroTC Tryz.prog 98 [(.k (.int .i64 0)), (.k (.slice none 0 0))] := ⟨by kernel_rfl⟩
-- 99: api.Write
instance : LayC Tryz.prog 99 true 2 := ⟨by kernel_rfl⟩
instance : ZeroC Tryz.prog 99 [.t (.k (.int .i64 0)), .t (.k (.slice none 0 0))] := ⟨by kernel_rfl⟩
instance : StructC Tryz.prog 99 [(0, 1), (1, 1)] := ⟨by kernel_rfl⟩
instance : ZeroTC Tryz.prog 99 [(.k (.int .i64 0)), (.k (.slice none 0 0))] := ⟨by kernel_rfl⟩
-- 100: []api.Version
instance : LayC Tryz.prog 100 false 1 := ⟨by kernel_rfl⟩
instance : ZeroC Tryz.prog 100 [.t (.k (.slice none 0 0))] := ⟨by kernel_rfl⟩
instance : SliceC Tryz.prog 100 102 2 32 := ⟨by kernel_rfl, by kernel_rfl, by kernel_rfl⟩
instance : ZeroTC Tryz.prog 100 [(.k (.slice none 0 0))] := ⟨by kernel_rfl⟩
-- 101: struct { Seq int64; Data []uint8 }
instance : LayC Tryz.prog 101 true 2 := ⟨by kernel_rfl⟩
instance : ZeroC Tryz.prog 101 [.t (.k (.int .i64 0)), .t (.k (.slice none 0 0))] := ⟨by kernel_rfl⟩
instance : StructC Tryz.prog 101 [(0, 1), (1, 1)] := ⟨by kernel_rfl⟩
instance : ZeroTC Tryz.prog 101 [(.k (.int .i64 0)), (.k (.slice none 0 0))] := ⟨by kernel_rfl⟩
-- 102: api.Version
instance : LayC Tryz.prog 102 true 2 := ⟨by kernel_rfl⟩
instance : ZeroC Tryz.prog 102 [.t (.k (.int .i64 0)), .t (.k (.slice none 0 0))] := ⟨by kernel_rfl⟩
instance : StructC Tryz.prog 102 [(0, 1), (1, 1)] := ⟨by kernel_rfl⟩
instance : ZeroTC Tryz.prog 102 [(.k (.int .i64 0)), (.k (.slice none 0 0))] := ⟨by kernel_rfl⟩
-- 150: uint64
instance : LayC Tryz.prog 150 false 1 := ⟨by kernel_rfl⟩
instance : ZeroC Tryz.prog 150 [.t (.k (.int .u64 0))] := ⟨by kernel_rfl⟩
instance : ZeroTC Tryz.prog 150 [(.k (.int .u64 0))] := ⟨by kernel_rfl⟩
instance : IntC Tryz.prog 150 .u64 := ⟨by kernel_rfl⟩
-- 163: *mementoref1.Reader
instance : LayC Tryz.prog 163 false 1 := ⟨by kernel_rfl⟩
instance : ZeroC Tryz.prog 163 [.t (.k (.pointer none))] := ⟨by kernel_rfl⟩
instance : ZeroTC Tryz.prog 163 [(.k (.pointer none))] := ⟨by kernel_rfl⟩
-- 164: struct { B []uint8; E int }
instance : LayC Tryz.prog 164 true 2 := ⟨by kernel_rfl⟩
instance : ZeroC Tryz.prog 164 [.t (.k (.slice none 0 0)), .t (.k (.int .i64 0))] := ⟨by kernel_rfl⟩
instance : StructC Tryz.prog 164 [(0, 1), (1, 1)] := ⟨by kernel_rfl⟩
instance : ZeroTC Tryz.prog 164 [(.k (.slice none 0 0)), (.k (.int .i64 0))] := ⟨by kernel_rfl⟩
-- 165: mementoref1.Reader
instance : LayC Tryz.prog 165 true 2 := ⟨by kernel_rfl⟩
instance : ZeroC Tryz.prog 165 [.t (.k (.slice none 0 0)), .t (.k (.int .i64 0))] := ⟨by kernel_rfl⟩
instance : StructC Tryz.prog 165 [(0, 1), (1, 1)] := ⟨by kernel_rfl⟩
instance : ZeroTC Tryz.prog 165 [(.k (.slice none 0 0)), (.k (.int .i64 0))] := ⟨by kernel_rfl⟩
-- 175: map[int]api.Volume
instance : LayC Tryz.prog 175 false 1 := ⟨by kernel_rfl⟩
instance : ZeroC Tryz.prog 175 [.t (.k (.map none))] := ⟨by kernel_rfl⟩
instance : ZeroTC Tryz.prog 175 [(.k (.map none))] := ⟨by kernel_rfl⟩
-- 176: struct { l map[int]api.Volume }
instance : LayC Tryz.prog 176 true 1 := ⟨by kernel_rfl⟩
instance : ZeroC Tryz.prog 176 [.t (.k (.map none))] := ⟨by kernel_rfl⟩
instance : StructC Tryz.prog 176 [(0, 1)] := ⟨by kernel_rfl⟩
instance : ZeroTC Tryz.prog 176 [(.k (.map none))] := ⟨by kernel_rfl⟩
-- 181: uint
instance : LayC Tryz.prog 181 false 1 := ⟨by kernel_rfl⟩
instance : ZeroC Tryz.prog 181 [.t (.k (.int .u64 0))] := ⟨by kernel_rfl⟩
instance : ZeroTC Tryz.prog 181 [(.k (.int .u64 0))] := ⟨by kernel_rfl⟩
instance : IntC Tryz.prog 181 .u64 := ⟨by kernel_rfl⟩
-- 184: []uint64
instance : LayC Tryz.prog 184 false 1 := ⟨by kernel_rfl⟩
instance : ZeroC Tryz.prog 184 [.t (.k (.slice none 0 0))] := ⟨by kernel_rfl⟩
instance : SliceC Tryz.prog 184 150 1 8 := ⟨by kernel_rfl, by kernel_rfl, by kernel_rfl⟩
instance : ZeroTC Tryz.prog 184 [(.k (.slice none 0 0))] := ⟨by kernel_rfl⟩
-- 203: uint32
instance : LayC Tryz.prog 203 false 1 := ⟨by kernel_rfl⟩
instance : ZeroC Tryz.prog 203 [.t (.k (.int .u32 0))] := ⟨by kernel_rfl⟩
instance : ZeroTC Tryz.prog 203 [(.k (.int .u32 0))] := ⟨by kernel_rfl⟩
instance : IntC Tryz.prog 203 .u32 := ⟨by kernel_rfl⟩
-- 208: struct { vol int; chunk int }
instance : LayC Tryz.prog 208 true 2 := ⟨by kernel_rfl⟩
instance : ZeroC Tryz.prog 208 [.t (.k (.int .i64 0)), .t (.k (.int .i64 0))] := ⟨by kernel_rfl⟩
instance : StructC Tryz.prog 208 [(0, 1), (1, 1)] := ⟨by kernel_rfl⟩
instance : ZeroTC Tryz.prog 208 [(.k (.int .i64 0)), (.k (.int .i64 0))] := ⟨by kernel_rfl⟩
-- 210: map[int]bool
instance : LayC Tryz.prog 210 false 1 := ⟨by kernel_rfl⟩
instance : ZeroC Tryz.prog 210 [.t (.k (.map none))] := ⟨by kernel_rfl⟩
instance : ZeroTC Tryz.prog 210 [(.k (.map none))] := ⟨by kernel_rfl⟩
instance : MapC Tryz.prog 210 4 := ⟨by kernel_rfl, by kernel_rfl⟩
-- 218: *int
instance : LayC Tryz.prog 218 false 1 := ⟨by kernel_rfl⟩
instance : ZeroC Tryz.prog 218 [.t (.k (.pointer none))] := ⟨by kernel_rfl⟩
instance : ZeroTC Tryz.prog 218 [(.k (.pointer none))] := ⟨by kernel_rfl⟩
-- 254: struct { Count uint64; Gen uint64; Area int }
instance : LayC Tryz.prog 254 true 3 := ⟨by kernel_rfl⟩
instance : ZeroC Tryz.prog 254 [.t (.k (.int .u64 0)), .t (.k (.int .u64 0)), .t (.k (.int .i64 0))] := ⟨by kernel_rfl⟩
instance : StructC Tryz.prog 254 [(0, 1), (1, 1), (2, 1)] := ⟨by kernel_rfl⟩
instance : ZeroTC Tryz.prog 254 [(.k (.int .u64 0)), (.k (.int .u64 0)), (.k (.int .i64 0))] := ⟨by kernel_rfl⟩
-- 264: struct { group int; vol int; chunk int }
instance : LayC Tryz.prog 264 true 3 := ⟨by kernel_rfl⟩
instance : ZeroC Tryz.prog 264 [.t (.k (.int .i64 0)), .t (.k (.int .i64 0)), .t (.k (.int .i64 0))] := ⟨by kernel_rfl⟩
instance : StructC Tryz.prog 264 [(0, 1), (1, 1), (2, 1)] := ⟨by kernel_rfl⟩
instance : ZeroTC Tryz.prog 264 [(.k (.int .i64 0)), (.k (.int .i64 0)), (.k (.int .i64 0))] := ⟨by kernel_rfl⟩
-- 266: struct { mark int64; floor int64 }
instance : LayC Tryz.prog 266 true 2 := ⟨by kernel_rfl⟩
instance : ZeroC Tryz.prog 266 [.t (.k (.int .i64 0)), .t (.k (.int .i64 0))] := ⟨by kernel_rfl⟩
instance : StructC Tryz.prog 266 [(0, 1), (1, 1)] := ⟨by kernel_rfl⟩
instance : ZeroTC Tryz.prog 266 [(.k (.int .i64 0)), (.k (.int .i64 0))] := ⟨by kernel_rfl⟩
-- 272: map[int][]uint8
instance : LayC Tryz.prog 272 false 1 := ⟨by kernel_rfl⟩
instance : ZeroC Tryz.prog 272 [.t (.k (.map none))] := ⟨by kernel_rfl⟩
instance : ZeroTC Tryz.prog 272 [(.k (.map none))] := ⟨by kernel_rfl⟩
-- 279: struct { Term int; Vote int }
instance : LayC Tryz.prog 279 true 2 := ⟨by kernel_rfl⟩
instance : ZeroC Tryz.prog 279 [.t (.k (.int .i64 0)), .t (.k (.int .i64 0))] := ⟨by kernel_rfl⟩
instance : StructC Tryz.prog 279 [(0, 1), (1, 1)] := ⟨by kernel_rfl⟩
instance : ZeroTC Tryz.prog 279 [(.k (.int .i64 0)), (.k (.int .i64 0))] := ⟨by kernel_rfl⟩
-- 281: struct { Index int; Term int; Conf []int; Data []uint8 }
instance : LayC Tryz.prog 281 true 4 := ⟨by kernel_rfl⟩
instance : ZeroC Tryz.prog 281 [.t (.k (.int .i64 0)), .t (.k (.int .i64 0)), .t (.k (.slice none 0 0)), .t (.k (.slice none 0 0))] := ⟨by kernel_rfl⟩
instance : StructC Tryz.prog 281 [(0, 1), (1, 1), (2, 1), (3, 1)] := ⟨by kernel_rfl⟩
instance : ZeroTC Tryz.prog 281 [(.k (.int .i64 0)), (.k (.int .i64 0)), (.k (.slice none 0 0)), (.k (.slice none 0 0))] := ⟨by kernel_rfl⟩
-- 292: struct { id int; term int }
instance : LayC Tryz.prog 292 true 2 := ⟨by kernel_rfl⟩
instance : ZeroC Tryz.prog 292 [.t (.k (.int .i64 0)), .t (.k (.int .i64 0))] := ⟨by kernel_rfl⟩
instance : StructC Tryz.prog 292 [(0, 1), (1, 1)] := ⟨by kernel_rfl⟩
instance : ZeroTC Tryz.prog 292 [(.k (.int .i64 0)), (.k (.int .i64 0))] := ⟨by kernel_rfl⟩
-- 296: struct { From int; To int; Bytes []uint8 }
instance : LayC Tryz.prog 296 true 3 := ⟨by kernel_rfl⟩
instance : ZeroC Tryz.prog 296 [.t (.k (.int .i64 0)), .t (.k (.int .i64 0)), .t (.k (.slice none 0 0))] := ⟨by kernel_rfl⟩
instance : StructC Tryz.prog 296 [(0, 1), (1, 1), (2, 1)] := ⟨by kernel_rfl⟩
instance : ZeroTC Tryz.prog 296 [(.k (.int .i64 0)), (.k (.int .i64 0)), (.k (.slice none 0 0))] := ⟨by kernel_rfl⟩
-- 298: struct { i int; b []uint8 }
instance : LayC Tryz.prog 298 true 2 := ⟨by kernel_rfl⟩
instance : ZeroC Tryz.prog 298 [.t (.k (.int .i64 0)), .t (.k (.slice none 0 0))] := ⟨by kernel_rfl⟩
instance : StructC Tryz.prog 298 [(0, 1), (1, 1)] := ⟨by kernel_rfl⟩
instance : ZeroTC Tryz.prog 298 [(.k (.int .i64 0)), (.k (.slice none 0 0))] := ⟨by kernel_rfl⟩
-- 300: struct { Index int; Term int; Kind int; Data []uint8 }
instance : LayC Tryz.prog 300 true 4 := ⟨by kernel_rfl⟩
instance : ZeroC Tryz.prog 300 [.t (.k (.int .i64 0)), .t (.k (.int .i64 0)), .t (.k (.int .i64 0)), .t (.k (.slice none 0 0))] := ⟨by kernel_rfl⟩
instance : StructC Tryz.prog 300 [(0, 1), (1, 1), (2, 1), (3, 1)] := ⟨by kernel_rfl⟩
instance : ZeroTC Tryz.prog 300 [(.k (.int .i64 0)), (.k (.int .i64 0)), (.k (.int .i64 0)), (.k (.slice none 0 0))] := ⟨by kernel_rfl⟩

-- memento/mementolaw23.ExportWhich
instance : FnC Tryz.prog 3 := ⟨by kernel_rfl⟩
-- memento/mementolaw23.ExportTells
instance : FnC Tryz.prog 4 := ⟨by kernel_rfl⟩
-- memento/mementolaw23.ExportStates
instance : FnC Tryz.prog 5 := ⟨by kernel_rfl⟩
-- memento/mementolaw23.ExportErrors
instance : FnC Tryz.prog 6 := ⟨by kernel_rfl⟩
-- memento/mementolaw23.ExportNothing
instance : FnC Tryz.prog 7 := ⟨by kernel_rfl⟩
-- memento/mementolaw23.known
instance : FnC Tryz.prog 8 := ⟨by kernel_rfl⟩
-- memento/mementoseat.Volume
instance : FnC Tryz.prog 9 := ⟨by kernel_rfl⟩
-- memento/mementoref16.Len
instance : FnC Tryz.prog 10 := ⟨by kernel_rfl⟩
-- memento/mementolaw23.chunks
instance : FnC Tryz.prog 11 := ⟨by kernel_rfl⟩
-- memento/mementoseat.Chunk
instance : FnC Tryz.prog 12 := ⟨by kernel_rfl⟩
-- memento/export.Full
instance : FnC Tryz.prog 13 := ⟨by kernel_rfl⟩
-- memento/mementoref16.State
instance : FnC Tryz.prog 14 := ⟨by kernel_rfl⟩
-- memento/mementohelp.Bodies
instance : FnC Tryz.prog 15 := ⟨by kernel_rfl⟩
-- memento/mementoref21.Blocks
instance : FnC Tryz.prog 16 := ⟨by kernel_rfl⟩
-- memento/mementoseat.SmallChunk
instance : FnC Tryz.prog 17 := ⟨by kernel_rfl⟩
-- memento/mementoref23.Full
instance : FnC Tryz.prog 18 := ⟨by kernel_rfl⟩
-- memento/mementohelp.Streams
instance : FnC Tryz.prog 19 := ⟨by kernel_rfl⟩
-- memento/export.Since
instance : FnC Tryz.prog 20 := ⟨by kernel_rfl⟩
-- memento/mementoref23.Since
instance : FnC Tryz.prog 21 := ⟨by kernel_rfl⟩
-- memento/export.Pick
instance : FnC Tryz.prog 22 := ⟨by kernel_rfl⟩
-- memento/mementoref23.Pick
instance : FnC Tryz.prog 23 := ⟨by kernel_rfl⟩
-- memento/mementohelp.Chunks
instance : FnC Tryz.prog 24 := ⟨by kernel_rfl⟩
-- memento/mementoref21.All
instance : FnC Tryz.prog 25 := ⟨by kernel_rfl⟩
-- memento/mementoref21.Right
instance : FnC Tryz.prog 26 := ⟨by kernel_rfl⟩
-- memento/export.Gather
instance : FnC Tryz.prog 27 := ⟨by kernel_rfl⟩
-- (*memento/mementoref16.Machine).Volume
instance : FnC Tryz.prog 28 := ⟨by kernel_rfl⟩
-- memento/mementoref16.PutCmd
instance : FnC Tryz.prog 29 := ⟨by kernel_rfl⟩
-- memento/mementoseat.Cmd
instance : FnC Tryz.prog 30 := ⟨by kernel_rfl⟩
-- (*memento/mementoref16.Machine).Apply
instance : FnC Tryz.prog 31 := ⟨by kernel_rfl⟩
-- memento/mementoref16.New
instance : FnC Tryz.prog 32 := ⟨by kernel_rfl⟩
-- memento/mementoseat.Create
instance : FnC Tryz.prog 33 := ⟨by kernel_rfl⟩
-- memento/mementoref16.Push
instance : FnC Tryz.prog 34 := ⟨by kernel_rfl⟩
-- memento/mementoref13.New
instance : FnC Tryz.prog 35 := ⟨by kernel_rfl⟩
-- memento/mementoref13.Apply
instance : FnC Tryz.prog 36 := ⟨by kernel_rfl⟩
-- memento/export.may
instance : FnC Tryz.prog 37 := ⟨by kernel_rfl⟩
-- memento/export.picks
instance : FnC Tryz.prog 38 := ⟨by kernel_rfl⟩
-- memento/export.item
instance : FnC Tryz.prog 39 := ⟨by kernel_rfl⟩
-- memento/mementoref23.taken
instance : FnC Tryz.prog 40 := ⟨by kernel_rfl⟩
-- memento/mementoref13.SameItems
instance : FnC Tryz.prog 41 := ⟨by kernel_rfl⟩
-- memento/chunk.Changed
instance : FnC Tryz.prog 42 := ⟨by kernel_rfl⟩
-- memento/volume.Push
instance : FnC Tryz.prog 43 := ⟨by kernel_rfl⟩
-- memento/export.copied
instance : FnC Tryz.prog 44 := ⟨by kernel_rfl⟩
-- memento/mementoref16.Count
instance : FnC Tryz.prog 45 := ⟨by kernel_rfl⟩
-- memento/mementoref13.Same
instance : FnC Tryz.prog 46 := ⟨by kernel_rfl⟩
-- memento/mementoref21.bad
instance : FnC Tryz.prog 47 := ⟨by kernel_rfl⟩
-- memento/mementoref21.merged
instance : FnC Tryz.prog 48 := ⟨by kernel_rfl⟩
-- memento/volume.Len
instance : FnC Tryz.prog 53 := ⟨by kernel_rfl⟩
-- (*memento/mementoref16.Machine).find
instance : FnC Tryz.prog 55 := ⟨by kernel_rfl⟩
-- memento/mementoref16.CmdRight
instance : FnC Tryz.prog 56 := ⟨by kernel_rfl⟩
-- memento/mementoref16.nums
instance : FnC Tryz.prog 57 := ⟨by kernel_rfl⟩
-- memento/mementoref16.place
instance : FnC Tryz.prog 58 := ⟨by kernel_rfl⟩
-- memento/mementoref13.PutItems
instance : FnC Tryz.prog 59 := ⟨by kernel_rfl⟩
-- memento/mementoseat.Items
instance : FnC Tryz.prog 60 := ⟨by kernel_rfl⟩
-- memento/mementoref16.ReadCmd
instance : FnC Tryz.prog 61 := ⟨by kernel_rfl⟩
-- memento/mementoref16.Do
instance : FnC Tryz.prog 62 := ⟨by kernel_rfl⟩
-- memento/mementoref16.shape
instance : FnC Tryz.prog 63 := ⟨by kernel_rfl⟩
-- memento/mementoref16.Chunks
instance : FnC Tryz.prog 64 := ⟨by kernel_rfl⟩
-- memento/mementoref13.PushRight
instance : FnC Tryz.prog 65 := ⟨by kernel_rfl⟩
-- memento/mementoref13.Add
instance : FnC Tryz.prog 66 := ⟨by kernel_rfl⟩
-- memento/mementoref13.Prune
instance : FnC Tryz.prog 67 := ⟨by kernel_rfl⟩
-- memento/chunk.Read
instance : FnC Tryz.prog 68 := ⟨by kernel_rfl⟩
-- memento/mementoref13.Changed
instance : FnC Tryz.prog 69 := ⟨by kernel_rfl⟩
-- memento/mementoref13.Read
instance : FnC Tryz.prog 70 := ⟨by kernel_rfl⟩
-- memento/hist.Changed
instance : FnC Tryz.prog 71 := ⟨by kernel_rfl⟩
-- memento/volume.items
instance : FnC Tryz.prog 72 := ⟨by kernel_rfl⟩
-- memento/chunk.Apply
instance : FnC Tryz.prog 73 := ⟨by kernel_rfl⟩
-- memento/mementoref13.SameHist
instance : FnC Tryz.prog 74 := ⟨by kernel_rfl⟩
-- memento/mementoref21.Follows
instance : FnC Tryz.prog 75 := ⟨by kernel_rfl⟩
-- slices.Clone[[]int,int]
instance : FnC Tryz.prog 78 := ⟨by kernel_rfl⟩
-- memento/mementoref16.within
instance : FnC Tryz.prog 82 := ⟨by kernel_rfl⟩
-- memento/mementoref1.Put
instance : FnC Tryz.prog 83 := ⟨by kernel_rfl⟩
-- memento/mementoref13.nums
instance : FnC Tryz.prog 84 := ⟨by kernel_rfl⟩
-- memento/mementoref1.Lump
instance : FnC Tryz.prog 85 := ⟨by kernel_rfl⟩
-- memento/mementoseat.Data
instance : FnC Tryz.prog 86 := ⟨by kernel_rfl⟩
-- (*memento/mementoref1.Reader).Num
instance : FnC Tryz.prog 87 := ⟨by kernel_rfl⟩
-- memento/mementoref16.takePlace
instance : FnC Tryz.prog 88 := ⟨by kernel_rfl⟩
-- memento/mementoref13.TakeItems
instance : FnC Tryz.prog 89 := ⟨by kernel_rfl⟩
-- memento/mementoref16.done
instance : FnC Tryz.prog 90 := ⟨by kernel_rfl⟩
-- memento/mementoref13.shape
instance : FnC Tryz.prog 91 := ⟨by kernel_rfl⟩
-- memento/mementoref13.ItemsRight
instance : FnC Tryz.prog 92 := ⟨by kernel_rfl⟩
-- memento/hist.At
instance : FnC Tryz.prog 93 := ⟨by kernel_rfl⟩
-- memento/mementoref13.At
instance : FnC Tryz.prog 94 := ⟨by kernel_rfl⟩
-- memento/hist.behind
instance : FnC Tryz.prog 95 := ⟨by kernel_rfl⟩
-- slices.Clone[[]memento/api.Item,memento/api.Item]
instance : FnC Tryz.prog 96 := ⟨by kernel_rfl⟩
-- slices.Clone[[]byte,byte]
instance : FnC Tryz.prog 97 := ⟨by kernel_rfl⟩
-- memento/chunk.copied
instance : FnC Tryz.prog 98 := ⟨by kernel_rfl⟩
-- memento/chunk.PushRight
instance : FnC Tryz.prog 99 := ⟨by kernel_rfl⟩
-- memento/hist.Add
instance : FnC Tryz.prog 100 := ⟨by kernel_rfl⟩
-- memento/hist.Prune
instance : FnC Tryz.prog 101 := ⟨by kernel_rfl⟩
-- (*memento/mementoref1.Reader).fail
instance : FnC Tryz.prog 106 := ⟨by kernel_rfl⟩
-- (*memento/mementoref1.Reader).Lump
instance : FnC Tryz.prog 107 := ⟨by kernel_rfl⟩
-- memento/mementoref16.write
instance : FnC Tryz.prog 108 := ⟨by kernel_rfl⟩
-- memento/mementoref16.Low
instance : FnC Tryz.prog 109 := ⟨by kernel_rfl⟩
-- sort.Search
instance : FnC Tryz.prog 110 := ⟨by kernel_rfl⟩
-- memento/hist.behind$1
instance : FnC Tryz.prog 111 := ⟨by kernel_rfl⟩
-- slices.Clone[[][]memento/api.Version,[]memento/api.Version]
instance : FnC Tryz.prog 112 := ⟨by kernel_rfl⟩
-- slices.Clone[[]memento/api.Version,memento/api.Version]
instance : FnC Tryz.prog 113 := ⟨by kernel_rfl⟩
-- memento/chunk.shape
instance : FnC Tryz.prog 114 := ⟨by kernel_rfl⟩
-- memento/chunk.within
instance : FnC Tryz.prog 115 := ⟨by kernel_rfl⟩
-- memento/chunk.items
instance : FnC Tryz.prog 116 := ⟨by kernel_rfl⟩
-- memento/hist.copied
instance : FnC Tryz.prog 117 := ⟨by kernel_rfl⟩
-- memento/mementoref16.own
instance : FnC Tryz.prog 131 := ⟨by kernel_rfl⟩
-- slices.Clone[[]int64,int64]
instance : FnC Tryz.prog 142 := ⟨by kernel_rfl⟩
-- slices.Clone[[]memento/api.Write,memento/api.Write]
instance : FnC Tryz.prog 143 := ⟨by kernel_rfl⟩
theorem mixed : Tryz.prog.follows .mixedOrders = true := by kernel_rfl
end Go.Eng

set_option maxHeartbeats 1000000
namespace Go.Eng
open Go.Proofs

theorem item_eq {x y : Item} (h1 : x.block = y.block) (h2 : x.data = y.data) : x = y := by cases x; cases y; simp_all
theorem write_eq {x y : Write} (h1 : x.seq = y.seq) (h2 : x.items = y.items) : x = y := by cases x; cases y; simp_all
theorem okT.item {l : List Item} (h : okT (itemsT l)) {i : Nat} {x : Item} (hx : l[i]? = some x) : okT (bytesT x.data) ∧ inI .i64 x.block :=
  ⟨h.cell (List.mem_map_of_mem (List.mem_of_getElem? hx)) (by simp [itemC]), (h.cell (List.mem_map_of_mem (List.mem_of_getElem? hx)) (t := i64 x.block) (by simp [itemC])).int⟩
theorem okT.write {l : List Write} (h : okT (writesT l)) {i : Nat} {x : Write} (hx : l[i]? = some x) : okT (itemsT x.items) ∧ inI .i64 x.seq :=
  ⟨h.cell (List.mem_map_of_mem (List.mem_of_getElem? hx)) (by simp [writeC]), (h.cell (List.mem_map_of_mem (List.mem_of_getElem? hx)) (t := i64 x.seq) (by simp [writeC])).int⟩

def bodyC (l : List Int) : List T := [bytesT l]
def bodiesT (l : List (List Int)) : T := .sl 1 24 (l.map bodyC)
theorem okT.body {l : List (List Int)} (h : okT (bodiesT l)) {i : Nat} {x : List Int} (hx : l[i]? = some x) : okT (bytesT x) :=
  h.cell (List.mem_map_of_mem (List.mem_of_getElem? hx)) (by simp [bodyC])

theorem c_mementoref16_within (n : Int) : Con Tryz.prog 82 [AI .i64 n] [] (AB (decide (0 ≤ n ∧ n ≤ 1099511627776))) [] := by
  refine con_intro [] [] Tryz.func82 rfl Tryz.ntmps82 Tryz.results82 rfl rfl ?_
  intro E
  refine vc_rseq mixed ?_
  refine g_val (s_assign rfl rfl) rfl ?_
  refine g_nil ?_
  refine vc_rseq mixed ?_
  refine g_val (s_move rfl rfl) rfl ?_
  refine g_val (s_geq rfl rfl rfl) rfl ?_
  refine g_val (s_move rfl rfl) rfl ?_
  refine g_probe (j := 5) rfl (fun c hg5 => ?_)
  cases c
  rw [← hg5]; replace hg5 := hg5.symm; replace hg5 := of_decide_eq_false hg5
  simp only [Int.not_le] at hg5
  refine gn_val rfl rfl rfl rfl rfl rfl (by decide) ?_
  refine gn_val rfl rfl rfl rfl rfl rfl (by decide) ?_
  refine g_val (s_pickF rfl rfl rfl) rfl ?_
  refine g_val (s_assign rfl rfl) rfl ?_
  refine g_nil ?_
  exact vc_ret (ret_of _ (.cons (.tmp rfl) .nil) (by simp [single]; omega) rfl)
  rw [← hg5]; replace hg5 := hg5.symm; replace hg5 := of_decide_eq_true hg5
  refine gq_val (s_move rfl rfl) rfl rfl rfl rfl ?_
  refine gq_val (s_leq rfl rfl rfl) rfl rfl rfl rfl ?_
  refine g_val (s_pickT rfl rfl rfl) rfl ?_
  refine g_val (s_assign rfl rfl) rfl ?_
  refine g_nil ?_
  exact vc_ret (ret_of _ (.cons (.tmp rfl) .nil) (by simp [single]; omega) rfl)

theorem c_volume_Len (v : Volume) : Con Tryz.prog 53 [sC (volC v)] [] (AI .i64 v.writes.length) [] := by
  refine con_intro [] [] Tryz.func53 rfl Tryz.ntmps53 Tryz.results53 rfl rfl ?_
  intro E
  refine vc_rseq mixed ?_
  refine g_new (s_box 1 rfl rfl rfl rfl) rfl ?_
  refine g_val (s_assign rfl rfl) rfl ?_
  refine g_nil ?_
  refine vc_rseq mixed ?_
  refine g_val (s_field rfl rfl rfl rfl) rfl ?_
  refine g_val (s_load rfl rfl rfl rfl) rfl ?_
  refine g_val (s_len rfl rfl) rfl ?_
  refine g_val (s_assign rfl rfl) rfl ?_
  refine g_nil ?_
  exact vc_ret (ret_of _ (.cons (.tmp rfl) .nil) (by simp [single]) rfl)

theorem c_mementoref16_Len (v : Volume) : Con Tryz.prog 10 [sC (volC v)] [] (AI .i64 v.writes.length) [] := by
  refine con_intro [] [] Tryz.func10 rfl Tryz.ntmps10 Tryz.results10 rfl rfl ?_
  intro E
  refine vc_rseq mixed ?_
  refine g_new (s_box 1 rfl rfl rfl rfl) rfl ?_
  refine g_val (s_assign rfl rfl) rfl ?_
  refine g_nil ?_
  refine vc_rseq mixed ?_
  refine g_val (s_field rfl rfl rfl rfl) rfl ?_
  refine g_val (s_load rfl rfl rfl rfl) rfl ?_
  refine g_val (s_len rfl rfl) rfl ?_
  refine g_val (s_assign rfl rfl) rfl ?_
  refine g_nil ?_
  exact vc_ret (ret_of _ (.cons (.tmp rfl) .nil) (by simp [single]) rfl)

theorem c_mementohelp_Bodies (a b : List (List Int)) : Con Tryz.prog 15 [.t (bodiesT a), .t (bodiesT b)] [] (AB (decide (a = b))) [] := by
  refine con_intro [] [] Tryz.func15 rfl Tryz.ntmps15 Tryz.results15 rfl rfl ?_
  intro E
  refine vc_okT (i := 0) rfl fun ok0 => ?_
  refine vc_okT (i := 1) rfl fun ok1 => ?_
  have hla := ok0.len
  rw [List.length_map] at hla
  refine vc_rseq mixed ?_
  refine g_val (s_assign rfl rfl) rfl ?_
  refine g_nil ?_
  refine vc_seq ?_
  refine vc_rseq mixed ?_
  refine g_val (s_move rfl rfl) rfl ?_
  refine g_val (s_len rfl rfl) rfl ?_
  refine g_val (s_move rfl rfl) rfl ?_
  refine g_val (s_len rfl rfl) rfl ?_
  refine g_val (s_neq rfl rfl rfl) rfl ?_
  refine g_nil ?_
  refine vc_cond rfl (fun hc10 => ?_) (fun hc10 => ?_)
  replace hc10 := of_decide_eq_true hc10
  simp only [List.length_map, ne_eq] at hc10
  refine vc_rseq mixed ?_
  refine g_val (s_assign rfl rfl) rfl ?_
  refine g_nil ?_
  exact vc_ret (ret_of _ (.cons (.tmp rfl) .nil) (by simp only [single]; rw [decide_eq_false]; rintro rfl; exact hc10 rfl) rfl)
  replace hc10 := of_decide_eq_false hc10
  simp only [List.length_map, ne_eq, Decidable.not_not] at hc10
  refine vc_skip ?_
  refine vc_seq ?_
  refine vc_rseq mixed ?_
  refine g_val (s_assign rfl rfl) rfl ?_
  refine g_nil ?_
  refine vc_block ?_
  refine vc_up a.length (fun i => ⟨[(0, .t (bodiesT a)), (1, .t (bodiesT b)), (5, AI .i64 i)], [], []⟩) (fun i => ∀ j : Nat, j < i → a[j]? = b[j]?) (leE_same (by repeat (first | exact letm_nil _ _ | refine letm_cons rfl ?_ ?_ | exact .same _ | exact .nl (by decide) (by decide) | exact .nn | exact .id' rfl | exact .id' (by simp; done))) (by repeat (first | exact lehp_nil _ _ | refine lehp_cons rfl ?_ ?_ | exact leB_same _ | exact leB_row (by first | rfl | (simp; done)) | exact leB_obj (by simp; done) | exact leB_nest (by first | rfl | (simp; done)) | refine leB_box ?_ | exact leL_nil | refine leL_cons ?_ ?_ | exact .same _ | exact .nl (by decide) (by decide) | exact .nn | exact .id' rfl | exact .id' (by simp; done))) rfl) (fun j h => by omega) (fun i hi hJ => ?_)
  refine vc_seq ?_
  refine vc_rseq mixed ?_
  refine g_val (s_move rfl rfl) rfl ?_
  refine g_val (s_move rfl rfl) rfl ?_
  refine g_val (s_len rfl rfl) rfl ?_
  refine g_val (s_lss rfl rfl rfl) rfl ?_
  refine g_nil ?_
  refine vc_cond rfl (fun hc14 => ?_) (fun hc14 => ?_)
  replace hc14 := of_decide_eq_true hc14
  simp only [List.length_map] at hc14
  obtain ⟨x, hx⟩ := get_of_lt (l := a) (i := i) (by omega)
  obtain ⟨y, hy⟩ := get_of_lt (l := b) (i := i) (by omega)
  have hxb := ok0.body hx; have hyb := ok1.body hy
  refine vc_skip ?_
  refine vc_seq ?_
  refine vc_block ?_
  refine vc_rseq mixed ?_
  refine d_val (s_move rfl rfl) rfl ?_
  refine d_val (s_move rfl rfl) rfl ?_
  refine d_val (s_index rfl rfl rfl (by omega) (idx_map hx)) rfl ?_
  refine d_val (s_loadT rfl rfl rfl) rfl ?_
  refine d_val (s_str rfl rfl) rfl ?_
  refine d_val (s_move rfl rfl) rfl ?_
  refine d_val (s_move rfl rfl) rfl ?_
  refine d_val (s_index rfl rfl rfl (by omega) (idx_map hy)) rfl ?_
  refine d_val (s_loadT rfl rfl rfl) rfl ?_
  refine d_val (s_str rfl rfl) rfl ?_
  refine d_val (s_neqS rfl rfl (by first | assumption | exact okT.bytes (by assumption)) (by first | assumption | exact okT.bytes (by assumption)) rfl) rfl ?_
  refine d_nil rfl ?_
  refine vc_cond rfl (fun hc27 => ?_) (fun hc27 => ?_)
  replace hc27 := of_decide_eq_true hc27
  simp only [ne_eq] at hc27
  refine vc_rseq mixed ?_
  refine g_val (s_assign rfl rfl) rfl ?_
  refine g_nil ?_
  exact vc_ret (ret_of _ (.cons (.tmp rfl) .nil) (by simp only [single]; rw [decide_eq_false]; rintro rfl; rw [hx] at hy; injection hy with hy; subst hy; exact hc27 rfl) rfl)
  replace hc27 := of_decide_eq_false hc27
  simp only [ne_eq, Decidable.not_not] at hc27
  refine vc_skip ?_
  refine vc_region mixed ?_
  refine g_val (s_move rfl rfl) rfl ?_
  refine g_val (s_add rfl rfl rfl (by simp only [inI, kMin, kMax]; omega)) rfl ?_
  refine g_val (s_assign rfl rfl) rfl ?_
  refine g_nil ?_
  exact ⟨by omega, fun j hj => by rcases Nat.lt_succ_iff_lt_or_eq.1 hj with h | rfl; exact hJ j h; rw [hx, hy]; rw [hc27], (leE_same (by repeat (first | exact letm_nil _ _ | refine letm_cons rfl ?_ ?_ | exact .same _ | exact .nl (by decide) (by decide) | exact .nn | exact .id' rfl | exact .id' (by simp; done))) (by repeat (first | exact lehp_nil _ _ | refine lehp_cons rfl ?_ ?_ | exact leB_same _ | exact leB_row (by first | rfl | (simp; done)) | exact leB_obj (by simp; done) | exact leB_nest (by first | rfl | (simp; done)) | refine leB_box ?_ | exact leL_nil | refine leL_cons ?_ ?_ | exact .same _ | exact .nl (by decide) (by decide) | exact .nn | exact .id' rfl | exact .id' (by simp; done))) rfl)⟩
  replace hc14 := of_decide_eq_false hc14
  simp only [List.length_map, Int.not_lt] at hc14
  refine vc_exit ?_
  refine vc_rseq mixed ?_
  refine g_val (s_assign rfl rfl) rfl ?_
  refine g_nil ?_
  exact vc_ret (ret_of _ (.cons (.tmp rfl) .nil) (by simp only [single]; rw [decide_eq_true]; refine List.ext_getElem? fun j => ?_; by_cases hj : j < i; exact hJ j hj; rw [List.getElem?_eq_none (by omega), List.getElem?_eq_none (by omega)]) rfl)

theorem c_mementoref13_SameItems (a b : List Item) : Con Tryz.prog 41 [.t (itemsT a), .t (itemsT b)] [] (AB (decide (a = b))) [] := by
  refine con_intro [] [] Tryz.func41 rfl Tryz.ntmps41 Tryz.results41 rfl rfl ?_
  intro E
  refine vc_okT (i := 0) rfl fun ok0 => ?_
  refine vc_okT (i := 1) rfl fun ok1 => ?_
  have hla := ok0.len
  rw [List.length_map] at hla
  refine vc_rseq mixed ?_
  refine g_val (s_assign rfl rfl) rfl ?_
  refine g_nil ?_
  refine vc_seq ?_
  refine vc_rseq mixed ?_
  refine g_val (s_move rfl rfl) rfl ?_
  refine g_val (s_len rfl rfl) rfl ?_
  refine g_val (s_move rfl rfl) rfl ?_
  refine g_val (s_len rfl rfl) rfl ?_
  refine g_val (s_neq rfl rfl rfl) rfl ?_
  refine g_nil ?_
  refine vc_cond rfl (fun hc10 => ?_) (fun hc10 => ?_)
  replace hc10 := of_decide_eq_true hc10
  simp only [List.length_map, ne_eq] at hc10
  refine vc_rseq mixed ?_
  refine g_val (s_assign rfl rfl) rfl ?_
  refine g_nil ?_
  exact vc_ret (ret_of _ (.cons (.tmp rfl) .nil) (by simp only [single]; rw [decide_eq_false]; rintro rfl; exact hc10 rfl) rfl)
  replace hc10 := of_decide_eq_false hc10
  simp only [List.length_map, ne_eq, Decidable.not_not] at hc10
  refine vc_skip ?_
  refine vc_seq ?_
  refine vc_rseq mixed ?_
  refine g_val (s_assign rfl rfl) rfl ?_
  refine g_nil ?_
  refine vc_block ?_
  refine vc_up a.length (fun i => ⟨[(0, .t (itemsT a)), (1, .t (itemsT b)), (5, AI .i64 i)], [], []⟩) (fun i => ∀ j : Nat, j < i → a[j]? = b[j]?) (leE_same (by repeat (first | exact letm_nil _ _ | refine letm_cons rfl ?_ ?_ | exact .same _ | exact .nl (by decide) (by decide) | exact .nn | exact .id' rfl | exact .id' (by simp; done))) (by repeat (first | exact lehp_nil _ _ | refine lehp_cons rfl ?_ ?_ | exact leB_same _ | exact leB_row (by first | rfl | (simp; done)) | exact leB_obj (by simp; done) | exact leB_nest (by first | rfl | (simp; done)) | refine leB_box ?_ | exact leL_nil | refine leL_cons ?_ ?_ | exact .same _ | exact .nl (by decide) (by decide) | exact .nn | exact .id' rfl | exact .id' (by simp; done))) rfl) (fun j h => by omega) (fun i hi hJ => ?_)
  refine vc_seq ?_
  refine vc_rseq mixed ?_
  refine g_val (s_move rfl rfl) rfl ?_
  refine g_val (s_move rfl rfl) rfl ?_
  refine g_val (s_len rfl rfl) rfl ?_
  refine g_val (s_lss rfl rfl rfl) rfl ?_
  refine g_nil ?_
  refine vc_cond rfl (fun hc14 => ?_) (fun hc14 => ?_)
  replace hc14 := of_decide_eq_true hc14
  simp only [List.length_map] at hc14
  obtain ⟨x, hx⟩ := get_of_lt (l := a) (i := i) (by omega)
  obtain ⟨y, hy⟩ := get_of_lt (l := b) (i := i) (by omega)
  have hxb := (ok0.item hx).1; have hyb := (ok1.item hy).1
  refine vc_skip ?_
  refine vc_seq ?_
  refine vc_block ?_
  refine vc_rseq mixed ?_
  refine d_val (s_move rfl rfl) rfl ?_
  refine d_val (s_move rfl rfl) rfl ?_
  refine d_val (s_index rfl rfl rfl (by omega) (idx_map hx)) rfl ?_
  refine d_val (s_fieldT rfl rfl rfl rfl rfl) rfl ?_
  refine d_val (s_loadT rfl rfl rfl) rfl ?_
  refine d_val (s_move rfl rfl) rfl ?_
  refine d_val (s_move rfl rfl) rfl ?_
  refine d_val (s_index rfl rfl rfl (by omega) (idx_map hy)) rfl ?_
  refine d_val (s_fieldT rfl rfl rfl rfl rfl) rfl ?_
  refine d_val (s_loadT rfl rfl rfl) rfl ?_
  refine d_val (s_neq rfl rfl rfl) rfl ?_
  refine d_val (s_move rfl rfl) rfl ?_
  refine g_probe (j := 28) rfl (fun c hg28 => ?_)
  cases c
  rw [← hg28]; replace hg28 := hg28.symm; replace hg28 := of_decide_eq_false hg28
  simp only [ne_eq, Decidable.not_not] at hg28
  refine dq_val (s_move rfl rfl) rfl rfl rfl rfl ?_
  refine dq_val (s_move rfl rfl) rfl rfl rfl rfl ?_
  refine dq_val (s_index rfl rfl rfl (by omega) (idx_map hx)) rfl rfl rfl rfl ?_
  refine dq_val (s_fieldT rfl rfl rfl rfl rfl) rfl rfl rfl rfl ?_
  refine dq_val (s_loadT rfl rfl rfl) rfl rfl rfl rfl ?_
  refine dq_val (s_str rfl rfl) rfl rfl rfl rfl ?_
  refine dq_val (s_move rfl rfl) rfl rfl rfl rfl ?_
  refine dq_val (s_move rfl rfl) rfl rfl rfl rfl ?_
  refine dq_val (s_index rfl rfl rfl (by omega) (idx_map hy)) rfl rfl rfl rfl ?_
  refine dq_val (s_fieldT rfl rfl rfl rfl rfl) rfl rfl rfl rfl ?_
  refine dq_val (s_loadT rfl rfl rfl) rfl rfl rfl rfl ?_
  refine dq_val (s_str rfl rfl) rfl rfl rfl rfl ?_
  refine dq_val (s_neqS rfl rfl (by first | assumption | exact okT.bytes (by assumption)) (by first | assumption | exact okT.bytes (by assumption)) rfl) rfl rfl rfl rfl ?_
  refine d_val (s_pickF rfl rfl rfl) rfl ?_
  refine d_nil rfl ?_
  refine vc_cond rfl (fun hc42 => ?_) (fun hc42 => ?_)
  replace hc42 := of_decide_eq_true hc42
  simp only [ne_eq] at hc42
  refine vc_rseq mixed ?_
  refine g_val (s_assign rfl rfl) rfl ?_
  refine g_nil ?_
  exact vc_ret (ret_of _ (.cons (.tmp rfl) .nil) (by simp only [single]; rw [decide_eq_false]; rintro rfl; rw [hx] at hy; injection hy with hy; subst hy; first | exact hg28 rfl | exact hc42 rfl) rfl)
  replace hc42 := of_decide_eq_false hc42
  simp only [ne_eq, Decidable.not_not] at hc42
  refine vc_skip ?_
  refine vc_region mixed ?_
  refine g_val (s_move rfl rfl) rfl ?_
  refine g_val (s_add rfl rfl rfl (by simp only [inI, kMin, kMax]; omega)) rfl ?_
  refine g_val (s_assign rfl rfl) rfl ?_
  refine g_nil ?_
  exact ⟨by omega, fun j hj => by rcases Nat.lt_succ_iff_lt_or_eq.1 hj with h | rfl; exact hJ j h; rw [hx, hy]; exact congrArg some (item_eq hg28 hc42), (leE_same (by repeat (first | exact letm_nil _ _ | refine letm_cons rfl ?_ ?_ | exact .same _ | exact .nl (by decide) (by decide) | exact .nn | exact .id' rfl | exact .id' (by simp; done))) (by repeat (first | exact lehp_nil _ _ | refine lehp_cons rfl ?_ ?_ | exact leB_same _ | exact leB_row (by first | rfl | (simp; done)) | exact leB_obj (by simp; done) | exact leB_nest (by first | rfl | (simp; done)) | refine leB_box ?_ | exact leL_nil | refine leL_cons ?_ ?_ | exact .same _ | exact .nl (by decide) (by decide) | exact .nn | exact .id' rfl | exact .id' (by simp; done))) rfl)⟩
  rw [← hg28]; replace hg28 := hg28.symm; replace hg28 := of_decide_eq_true hg28
  simp only [ne_eq] at hg28
  refine dn_val rfl rfl rfl rfl rfl rfl (by decide) ?_
  refine dn_val rfl rfl rfl rfl rfl rfl (by decide) ?_
  refine dn_val rfl rfl rfl rfl rfl rfl (by decide) ?_
  refine dn_val rfl rfl rfl rfl rfl rfl (by decide) ?_
  refine dn_val rfl rfl rfl rfl rfl rfl (by decide) ?_
  refine dn_val rfl rfl rfl rfl rfl rfl (by decide) ?_
  refine dn_val rfl rfl rfl rfl rfl rfl (by decide) ?_
  refine dn_val rfl rfl rfl rfl rfl rfl (by decide) ?_
  refine dn_val rfl rfl rfl rfl rfl rfl (by decide) ?_
  refine dn_val rfl rfl rfl rfl rfl rfl (by decide) ?_
  refine dn_val rfl rfl rfl rfl rfl rfl (by decide) ?_
  refine dn_val rfl rfl rfl rfl rfl rfl (by decide) ?_
  refine dn_val rfl rfl rfl rfl rfl rfl (by decide) ?_
  refine d_val (s_pickT rfl rfl rfl) rfl ?_
  refine d_nil rfl ?_
  refine vc_cond rfl (fun _ => ?_) (fun h => by cases h)
  refine vc_rseq mixed ?_
  refine g_val (s_assign rfl rfl) rfl ?_
  refine g_nil ?_
  exact vc_ret (ret_of _ (.cons (.tmp rfl) .nil) (by simp only [single]; rw [decide_eq_false]; rintro rfl; rw [hx] at hy; injection hy with hy; subst hy; first | exact hg28 rfl | exact hc42 rfl) rfl)
  replace hc14 := of_decide_eq_false hc14
  simp only [List.length_map, Int.not_lt] at hc14
  refine vc_exit ?_
  refine vc_rseq mixed ?_
  refine g_val (s_assign rfl rfl) rfl ?_
  refine g_nil ?_
  exact vc_ret (ret_of _ (.cons (.tmp rfl) .nil) (by simp only [single]; rw [decide_eq_true]; refine List.ext_getElem? fun j => ?_; by_cases hj : j < i; exact hJ j hj; rw [List.getElem?_eq_none (by omega), List.getElem?_eq_none (by omega)]) rfl)

end Go.Eng
