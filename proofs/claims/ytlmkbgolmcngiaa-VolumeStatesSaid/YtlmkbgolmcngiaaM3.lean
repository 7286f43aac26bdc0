/- The law mementolaw16.VolumeStates returns true for every input and leaves its arguments as they were; no condition beyond the row's own. Part 3. -/
import Derived.Test.YtlmkbgolmcngiaaM2
set_option linter.unusedVariables false
set_option linter.unusedSimpArgs false
set_option maxHeartbeats 1000000
namespace Go.Eng
open Go.Proofs

theorem item_eq {x y : Item} (h1 : x.block = y.block) (h2 : x.data = y.data) : x = y := by cases x; cases y; simp_all
theorem write_eq {x y : Write} (h1 : x.seq = y.seq) (h2 : x.items = y.items) : x = y := by cases x; cases y; simp_all
theorem okT.item {l : List Item} (h : okT (itemsT l)) {i : Nat} {x : Item} (hx : l[i]? = some x) : okT (bytesT x.data) ∧ inI .i64 x.block :=
  ⟨h.cell (List.mem_map_of_mem (List.mem_of_getElem? hx)) (by simp [itemC]), (h.cell (List.mem_map_of_mem (List.mem_of_getElem? hx)) (t := i64 x.block) (by simp [itemC])).int⟩
theorem okT.write {l : List Write} (h : okT (writesT l)) {i : Nat} {x : Write} (hx : l[i]? = some x) : okT (itemsT x.items) ∧ inI .i64 x.seq :=
  ⟨h.cell (List.mem_map_of_mem (List.mem_of_getElem? hx)) (by simp [writeC]), (h.cell (List.mem_map_of_mem (List.mem_of_getElem? hx)) (t := i64 x.seq) (by simp [writeC])).int⟩

def bodyC (l : List Int) : List T := [bytesT l]
def bodiesT (l : List (List Int)) : T := .sl 1 24 (l.map bodyC)
theorem okT.body {l : List (List Int)} (h : okT (bodiesT l)) {i : Nat} {x : List Int} (hx : l[i]? = some x) : okT (bytesT x) :=
  h.cell (List.mem_map_of_mem (List.mem_of_getElem? hx)) (by simp [bodyC])

theorem c_volume_within (n a b : Int) : Con Try.prog 37 [AI .i64 n, AI .i64 a, AI .i64 b] [] (AB (decide (a ≤ n ∧ n ≤ b))) [] := by
  refine con_intro [] [] Try.func37 rfl Try.ntmps37 Try.results37 rfl rfl ?_
  intro E
  refine vc_rseq mixed ?_
  refine g_val (s_assign rfl rfl) rfl ?_
  refine g_nil ?_
  refine vc_rseq mixed ?_
  refine g_val (s_move rfl rfl) rfl ?_
  refine g_val (s_move rfl rfl) rfl ?_
  refine g_val (s_geq rfl rfl rfl) rfl ?_
  refine g_val (s_move rfl rfl) rfl ?_
  refine g_probe (j := 10) rfl (fun c hg10 => ?_)
  cases c
  rw [← hg10]; replace hg10 := hg10.symm; replace hg10 := of_decide_eq_false hg10
  simp only [Int.not_le] at hg10
  refine gn_val rfl rfl rfl rfl rfl rfl (by decide) ?_
  refine gn_val rfl rfl rfl rfl rfl rfl (by decide) ?_
  refine gn_val rfl rfl rfl rfl rfl rfl (by decide) ?_
  refine g_val (s_pickF rfl rfl rfl) rfl ?_
  refine g_val (s_assign rfl rfl) rfl ?_
  refine g_nil ?_
  exact vc_ret (ret_of _ (.cons (.tmp rfl) .nil) (by simp [single]; omega) rfl)
  rw [← hg10]; replace hg10 := hg10.symm; replace hg10 := of_decide_eq_true hg10
  refine gq_val (s_move rfl rfl) rfl rfl rfl rfl ?_
  refine gq_val (s_move rfl rfl) rfl rfl rfl rfl ?_
  refine gq_val (s_leq rfl rfl rfl) rfl rfl rfl rfl ?_
  refine g_val (s_pickT rfl rfl rfl) rfl ?_
  refine g_val (s_assign rfl rfl) rfl ?_
  refine g_nil ?_
  exact vc_ret (ret_of _ (.cons (.tmp rfl) .nil) (by simp [single]; omega) rfl)

theorem c_mementoref16_within (n : Int) : Con Try.prog 60 [AI .i64 n] [] (AB (decide (0 ≤ n ∧ n ≤ 1099511627776))) [] := by
  refine con_intro [] [] Try.func60 rfl Try.ntmps60 Try.results60 rfl rfl ?_
  intro E
  refine vc_rseq mixed ?_
  refine g_val (s_assign rfl rfl) rfl ?_
  refine g_nil ?_
  refine vc_rseq mixed ?_
  refine g_val (s_move rfl rfl) rfl ?_
  refine g_val (s_geq rfl rfl rfl) rfl ?_
  refine g_val (s_move rfl rfl) rfl ?_
  refine g_probe (j := 5) rfl (fun c hg5 => ?_)
  cases c
  rw [← hg5]; replace hg5 := hg5.symm; replace hg5 := of_decide_eq_false hg5
  simp only [Int.not_le] at hg5
  refine gn_val rfl rfl rfl rfl rfl rfl (by decide) ?_
  refine gn_val rfl rfl rfl rfl rfl rfl (by decide) ?_
  refine g_val (s_pickF rfl rfl rfl) rfl ?_
  refine g_val (s_assign rfl rfl) rfl ?_
  refine g_nil ?_
  exact vc_ret (ret_of _ (.cons (.tmp rfl) .nil) (by simp [single]; omega) rfl)
  rw [← hg5]; replace hg5 := hg5.symm; replace hg5 := of_decide_eq_true hg5
  refine gq_val (s_move rfl rfl) rfl rfl rfl rfl ?_
  refine gq_val (s_leq rfl rfl rfl) rfl rfl rfl rfl ?_
  refine g_val (s_pickT rfl rfl rfl) rfl ?_
  refine g_val (s_assign rfl rfl) rfl ?_
  refine g_nil ?_
  exact vc_ret (ret_of _ (.cons (.tmp rfl) .nil) (by simp [single]; omega) rfl)

theorem c_volume_Len (v : Volume) : Con Try.prog 16 [sC (volC v)] [] (AI .i64 v.writes.length) [] := by
  refine con_intro [] [] Try.func16 rfl Try.ntmps16 Try.results16 rfl rfl ?_
  intro E
  refine vc_rseq mixed ?_
  refine g_new (s_box 1 rfl rfl rfl rfl) rfl ?_
  refine g_val (s_assign rfl rfl) rfl ?_
  refine g_nil ?_
  refine vc_rseq mixed ?_
  refine g_val (s_field rfl rfl rfl rfl) rfl ?_
  refine g_val (s_load rfl rfl rfl rfl) rfl ?_
  refine g_val (s_len rfl rfl) rfl ?_
  refine g_val (s_assign rfl rfl) rfl ?_
  refine g_nil ?_
  exact vc_ret (ret_of _ (.cons (.tmp rfl) .nil) (by simp [single]) rfl)

theorem c_mementoref16_Len (v : Volume) : Con Try.prog 7 [sC (volC v)] [] (AI .i64 v.writes.length) [] := by
  refine con_intro [] [] Try.func7 rfl Try.ntmps7 Try.results7 rfl rfl ?_
  intro E
  refine vc_rseq mixed ?_
  refine g_new (s_box 1 rfl rfl rfl rfl) rfl ?_
  refine g_val (s_assign rfl rfl) rfl ?_
  refine g_nil ?_
  refine vc_rseq mixed ?_
  refine g_val (s_field rfl rfl rfl rfl) rfl ?_
  refine g_val (s_load rfl rfl rfl rfl) rfl ?_
  refine g_val (s_len rfl rfl) rfl ?_
  refine g_val (s_assign rfl rfl) rfl ?_
  refine g_nil ?_
  exact vc_ret (ret_of _ (.cons (.tmp rfl) .nil) (by simp [single]) rfl)

theorem c_volume_time (v : Volume) (t most : Int) : Con Try.prog 31 [sC (volC v), AI .i64 t, AI .i64 most] [] (AI .i64 (if t < v.floor then 30 else if most < t then 31 else 0)) [] := by
  refine con_intro [] [] Try.func31 rfl Try.ntmps31 Try.results31 rfl rfl ?_
  intro E
  refine vc_rseq mixed ?_
  refine g_new (s_box 3 rfl rfl rfl rfl) rfl ?_
  refine g_val (s_assign rfl rfl) rfl ?_
  refine g_nil ?_
  refine vc_seq ?_
  refine vc_block ?_
  refine vc_rseq mixed ?_
  refine g_val (s_move rfl rfl) rfl ?_
  refine g_val (s_field rfl rfl rfl rfl) rfl ?_
  refine g_val (s_load rfl rfl rfl rfl) rfl ?_
  refine g_val (s_lss rfl rfl rfl) rfl ?_
  refine g_val (s_assign rfl rfl) rfl ?_
  refine g_nil ?_
  refine vc_cond rfl (fun hc7 => ?_) (fun hc7 => ?_)
  replace hc7 := of_decide_eq_true hc7
  refine vc_rseq mixed ?_
  refine g_val (s_assign rfl rfl) rfl ?_
  refine g_nil ?_
  exact vc_ret (ret_of _ (.cons (.tmp rfl) .nil) (by simp [single, hc7]) rfl)
  replace hc7 := of_decide_eq_false hc7
  simp only [Int.not_lt] at hc7
  refine vc_rseq mixed ?_
  refine g_val (s_move rfl rfl) rfl ?_
  refine g_val (s_move rfl rfl) rfl ?_
  refine g_val (s_gtr rfl rfl rfl) rfl ?_
  refine g_val (s_assign rfl rfl) rfl ?_
  refine g_nil ?_
  refine vc_cond rfl (fun hc12 => ?_) (fun hc12 => ?_)
  replace hc12 := of_decide_eq_true hc12
  refine vc_rseq mixed ?_
  refine g_val (s_assign rfl rfl) rfl ?_
  refine g_nil ?_
  exact vc_ret (ret_of _ (.cons (.tmp rfl) .nil) (by simp [single, hc7, hc12, Int.not_lt.2 hc7]) rfl)
  replace hc12 := of_decide_eq_false hc12
  simp only [Int.not_lt] at hc12
  refine vc_skip ?_
  refine vc_rseq mixed ?_
  refine g_val (s_assign rfl rfl) rfl ?_
  refine g_nil ?_
  exact vc_ret (ret_of _ (.cons (.tmp rfl) .nil) (by simp [single, hc7, hc12, Int.not_lt.2 hc7, Int.not_lt.2 hc12]) rfl)

theorem c_mementoref16_sameInts (a b : List Int) : Con Try.prog 53 [.t (intsT a), .t (intsT b)] [] (AB (decide (a = b))) [] := by
  refine con_intro [] [] Try.func53 rfl Try.ntmps53 Try.results53 rfl rfl ?_
  intro E
  refine vc_okT (i := 0) rfl fun ok0 => ?_
  refine vc_okT (i := 1) rfl fun ok1 => ?_
  have hla := ok0.len
  rw [List.length_map] at hla
  refine vc_rseq mixed ?_
  refine g_val (s_assign rfl rfl) rfl ?_
  refine g_nil ?_
  refine vc_seq ?_
  refine vc_rseq mixed ?_
  refine g_val (s_move rfl rfl) rfl ?_
  refine g_val (s_len rfl rfl) rfl ?_
  refine g_val (s_move rfl rfl) rfl ?_
  refine g_val (s_len rfl rfl) rfl ?_
  refine g_val (s_neq rfl rfl rfl) rfl ?_
  refine g_nil ?_
  refine vc_cond rfl (fun hc10 => ?_) (fun hc10 => ?_)
  replace hc10 := of_decide_eq_true hc10
  simp only [List.length_map, ne_eq] at hc10
  refine vc_rseq mixed ?_
  refine g_val (s_assign rfl rfl) rfl ?_
  refine g_nil ?_
  exact vc_ret (ret_of _ (.cons (.tmp rfl) .nil) (by simp only [single]; rw [decide_eq_false]; rintro rfl; exact hc10 rfl) rfl)
  replace hc10 := of_decide_eq_false hc10
  simp only [List.length_map, ne_eq, Decidable.not_not] at hc10
  refine vc_skip ?_
  refine vc_seq ?_
  refine vc_rseq mixed ?_
  refine g_val (s_assign rfl rfl) rfl ?_
  refine g_nil ?_
  refine vc_block ?_
  refine vc_up a.length (fun i => ⟨[(0, .t (intsT a)), (1, .t (intsT b)), (5, AI .i64 i)], [], []⟩) (fun i => ∀ j : Nat, j < i → a[j]? = b[j]?) (leE_same (by repeat (first | exact letm_nil _ _ | refine letm_cons rfl ?_ ?_ | exact .same _ | exact .id' rfl | exact .id' (by simp; done))) (by repeat (first | exact lehp_nil _ _ | refine lehp_cons rfl ?_ ?_ | exact .same _ | exact .id' rfl | exact .id' (by simp; done))) rfl) (fun j h => by omega) (fun i hi hJ => ?_)
  refine vc_seq ?_
  refine vc_rseq mixed ?_
  refine g_val (s_move rfl rfl) rfl ?_
  refine g_val (s_move rfl rfl) rfl ?_
  refine g_val (s_len rfl rfl) rfl ?_
  refine g_val (s_lss rfl rfl rfl) rfl ?_
  refine g_nil ?_
  refine vc_cond rfl (fun hc14 => ?_) (fun hc14 => ?_)
  replace hc14 := of_decide_eq_true hc14
  simp only [List.length_map] at hc14
  obtain ⟨x, hx⟩ := get_of_lt (l := a) (i := i) (by omega)
  obtain ⟨y, hy⟩ := get_of_lt (l := b) (i := i) (by omega)
  skip
  refine vc_skip ?_
  refine vc_seq ?_
  refine vc_block ?_
  refine vc_rseq mixed ?_
  refine d_val (s_move rfl rfl) rfl ?_
  refine d_val (s_move rfl rfl) rfl ?_
  refine d_val (s_index rfl rfl rfl (by omega) (idx_map hx)) rfl ?_
  refine d_val (s_loadT rfl rfl rfl) rfl ?_
  refine d_val (s_move rfl rfl) rfl ?_
  refine d_val (s_move rfl rfl) rfl ?_
  refine d_val (s_index rfl rfl rfl (by omega) (idx_map hy)) rfl ?_
  refine d_val (s_loadT rfl rfl rfl) rfl ?_
  refine d_val (s_neq rfl rfl rfl) rfl ?_
  refine d_nil rfl ?_
  refine vc_cond rfl (fun hc25 => ?_) (fun hc25 => ?_)
  replace hc25 := of_decide_eq_true hc25
  simp only [ne_eq] at hc25
  refine vc_rseq mixed ?_
  refine g_val (s_assign rfl rfl) rfl ?_
  refine g_nil ?_
  exact vc_ret (ret_of _ (.cons (.tmp rfl) .nil) (by simp only [single]; rw [decide_eq_false]; rintro rfl; rw [hx] at hy; injection hy with hy; subst hy; exact hc25 rfl) rfl)
  replace hc25 := of_decide_eq_false hc25
  simp only [ne_eq, Decidable.not_not] at hc25
  refine vc_skip ?_
  refine vc_region mixed ?_
  refine g_val (s_move rfl rfl) rfl ?_
  refine g_val (s_add rfl rfl rfl (by simp only [inI, kMin, kMax]; omega)) rfl ?_
  refine g_val (s_assign rfl rfl) rfl ?_
  refine g_nil ?_
  exact ⟨by omega, fun j hj => by rcases Nat.lt_succ_iff_lt_or_eq.1 hj with h | rfl; exact hJ j h; rw [hx, hy]; rw [hc25], (leE_same (by repeat (first | exact letm_nil _ _ | refine letm_cons rfl ?_ ?_ | exact .same _ | exact .id' rfl | exact .id' (by simp; done))) (by repeat (first | exact lehp_nil _ _ | refine lehp_cons rfl ?_ ?_ | exact .same _ | exact .id' rfl | exact .id' (by simp; done))) rfl)⟩
  replace hc14 := of_decide_eq_false hc14
  simp only [List.length_map, Int.not_lt] at hc14
  refine vc_exit ?_
  refine vc_rseq mixed ?_
  refine g_val (s_assign rfl rfl) rfl ?_
  refine g_nil ?_
  exact vc_ret (ret_of _ (.cons (.tmp rfl) .nil) (by simp only [single]; rw [decide_eq_true]; refine List.ext_getElem? fun j => ?_; by_cases hj : j < i; exact hJ j hj; rw [List.getElem?_eq_none (by omega), List.getElem?_eq_none (by omega)]) rfl)

theorem c_mementoref16_samePins (a b : List Int) : Con Try.prog 29 [.t (intsT a), .t (intsT b)] [] (AB (decide (a = b))) [] := by
  refine con_intro [] [] Try.func29 rfl Try.ntmps29 Try.results29 rfl rfl ?_
  intro E
  refine vc_okT (i := 0) rfl fun ok0 => ?_
  refine vc_okT (i := 1) rfl fun ok1 => ?_
  have hla := ok0.len
  rw [List.length_map] at hla
  refine vc_rseq mixed ?_
  refine g_val (s_assign rfl rfl) rfl ?_
  refine g_nil ?_
  refine vc_seq ?_
  refine vc_rseq mixed ?_
  refine g_val (s_move rfl rfl) rfl ?_
  refine g_val (s_len rfl rfl) rfl ?_
  refine g_val (s_move rfl rfl) rfl ?_
  refine g_val (s_len rfl rfl) rfl ?_
  refine g_val (s_neq rfl rfl rfl) rfl ?_
  refine g_nil ?_
  refine vc_cond rfl (fun hc10 => ?_) (fun hc10 => ?_)
  replace hc10 := of_decide_eq_true hc10
  simp only [List.length_map, ne_eq] at hc10
  refine vc_rseq mixed ?_
  refine g_val (s_assign rfl rfl) rfl ?_
  refine g_nil ?_
  exact vc_ret (ret_of _ (.cons (.tmp rfl) .nil) (by simp only [single]; rw [decide_eq_false]; rintro rfl; exact hc10 rfl) rfl)
  replace hc10 := of_decide_eq_false hc10
  simp only [List.length_map, ne_eq, Decidable.not_not] at hc10
  refine vc_skip ?_
  refine vc_seq ?_
  refine vc_rseq mixed ?_
  refine g_val (s_assign rfl rfl) rfl ?_
  refine g_nil ?_
  refine vc_block ?_
  refine vc_up a.length (fun i => ⟨[(0, .t (intsT a)), (1, .t (intsT b)), (5, AI .i64 i)], [], []⟩) (fun i => ∀ j : Nat, j < i → a[j]? = b[j]?) (leE_same (by repeat (first | exact letm_nil _ _ | refine letm_cons rfl ?_ ?_ | exact .same _ | exact .id' rfl | exact .id' (by simp; done))) (by repeat (first | exact lehp_nil _ _ | refine lehp_cons rfl ?_ ?_ | exact .same _ | exact .id' rfl | exact .id' (by simp; done))) rfl) (fun j h => by omega) (fun i hi hJ => ?_)
  refine vc_seq ?_
  refine vc_rseq mixed ?_
  refine g_val (s_move rfl rfl) rfl ?_
  refine g_val (s_move rfl rfl) rfl ?_
  refine g_val (s_len rfl rfl) rfl ?_
  refine g_val (s_lss rfl rfl rfl) rfl ?_
  refine g_nil ?_
  refine vc_cond rfl (fun hc14 => ?_) (fun hc14 => ?_)
  replace hc14 := of_decide_eq_true hc14
  simp only [List.length_map] at hc14
  obtain ⟨x, hx⟩ := get_of_lt (l := a) (i := i) (by omega)
  obtain ⟨y, hy⟩ := get_of_lt (l := b) (i := i) (by omega)
  skip
  refine vc_skip ?_
  refine vc_seq ?_
  refine vc_block ?_
  refine vc_rseq mixed ?_
  refine d_val (s_move rfl rfl) rfl ?_
  refine d_val (s_move rfl rfl) rfl ?_
  refine d_val (s_index rfl rfl rfl (by omega) (idx_map hx)) rfl ?_
  refine d_val (s_loadT rfl rfl rfl) rfl ?_
  refine d_val (s_move rfl rfl) rfl ?_
  refine d_val (s_move rfl rfl) rfl ?_
  refine d_val (s_index rfl rfl rfl (by omega) (idx_map hy)) rfl ?_
  refine d_val (s_loadT rfl rfl rfl) rfl ?_
  refine d_val (s_neq rfl rfl rfl) rfl ?_
  refine d_nil rfl ?_
  refine vc_cond rfl (fun hc25 => ?_) (fun hc25 => ?_)
  replace hc25 := of_decide_eq_true hc25
  simp only [ne_eq] at hc25
  refine vc_rseq mixed ?_
  refine g_val (s_assign rfl rfl) rfl ?_
  refine g_nil ?_
  exact vc_ret (ret_of _ (.cons (.tmp rfl) .nil) (by simp only [single]; rw [decide_eq_false]; rintro rfl; rw [hx] at hy; injection hy with hy; subst hy; exact hc25 rfl) rfl)
  replace hc25 := of_decide_eq_false hc25
  simp only [ne_eq, Decidable.not_not] at hc25
  refine vc_skip ?_
  refine vc_region mixed ?_
  refine g_val (s_move rfl rfl) rfl ?_
  refine g_val (s_add rfl rfl rfl (by simp only [inI, kMin, kMax]; omega)) rfl ?_
  refine g_val (s_assign rfl rfl) rfl ?_
  refine g_nil ?_
  exact ⟨by omega, fun j hj => by rcases Nat.lt_succ_iff_lt_or_eq.1 hj with h | rfl; exact hJ j h; rw [hx, hy]; rw [hc25], (leE_same (by repeat (first | exact letm_nil _ _ | refine letm_cons rfl ?_ ?_ | exact .same _ | exact .id' rfl | exact .id' (by simp; done))) (by repeat (first | exact lehp_nil _ _ | refine lehp_cons rfl ?_ ?_ | exact .same _ | exact .id' rfl | exact .id' (by simp; done))) rfl)⟩
  replace hc14 := of_decide_eq_false hc14
  simp only [List.length_map, Int.not_lt] at hc14
  refine vc_exit ?_
  refine vc_rseq mixed ?_
  refine g_val (s_assign rfl rfl) rfl ?_
  refine g_nil ?_
  exact vc_ret (ret_of _ (.cons (.tmp rfl) .nil) (by simp only [single]; rw [decide_eq_true]; refine List.ext_getElem? fun j => ?_; by_cases hj : j < i; exact hJ j hj; rw [List.getElem?_eq_none (by omega), List.getElem?_eq_none (by omega)]) rfl)

theorem c_mementohelp_Bodies (a b : List (List Int)) : Con Try.prog 12 [.t (bodiesT a), .t (bodiesT b)] [] (AB (decide (a = b))) [] := by
  refine con_intro [] [] Try.func12 rfl Try.ntmps12 Try.results12 rfl rfl ?_
  intro E
  refine vc_okT (i := 0) rfl fun ok0 => ?_
  refine vc_okT (i := 1) rfl fun ok1 => ?_
  have hla := ok0.len
  rw [List.length_map] at hla
  refine vc_rseq mixed ?_
  refine g_val (s_assign rfl rfl) rfl ?_
  refine g_nil ?_
  refine vc_seq ?_
  refine vc_rseq mixed ?_
  refine g_val (s_move rfl rfl) rfl ?_
  refine g_val (s_len rfl rfl) rfl ?_
  refine g_val (s_move rfl rfl) rfl ?_
  refine g_val (s_len rfl rfl) rfl ?_
  refine g_val (s_neq rfl rfl rfl) rfl ?_
  refine g_nil ?_
  refine vc_cond rfl (fun hc10 => ?_) (fun hc10 => ?_)
  replace hc10 := of_decide_eq_true hc10
  simp only [List.length_map, ne_eq] at hc10
  refine vc_rseq mixed ?_
  refine g_val (s_assign rfl rfl) rfl ?_
  refine g_nil ?_
  exact vc_ret (ret_of _ (.cons (.tmp rfl) .nil) (by simp only [single]; rw [decide_eq_false]; rintro rfl; exact hc10 rfl) rfl)
  replace hc10 := of_decide_eq_false hc10
  simp only [List.length_map, ne_eq, Decidable.not_not] at hc10
  refine vc_skip ?_
  refine vc_seq ?_
  refine vc_rseq mixed ?_
  refine g_val (s_assign rfl rfl) rfl ?_
  refine g_nil ?_
  refine vc_block ?_
  refine vc_up a.length (fun i => ⟨[(0, .t (bodiesT a)), (1, .t (bodiesT b)), (5, AI .i64 i)], [], []⟩) (fun i => ∀ j : Nat, j < i → a[j]? = b[j]?) (leE_same (by repeat (first | exact letm_nil _ _ | refine letm_cons rfl ?_ ?_ | exact .same _ | exact .id' rfl | exact .id' (by simp; done))) (by repeat (first | exact lehp_nil _ _ | refine lehp_cons rfl ?_ ?_ | exact .same _ | exact .id' rfl | exact .id' (by simp; done))) rfl) (fun j h => by omega) (fun i hi hJ => ?_)
  refine vc_seq ?_
  refine vc_rseq mixed ?_
  refine g_val (s_move rfl rfl) rfl ?_
  refine g_val (s_move rfl rfl) rfl ?_
  refine g_val (s_len rfl rfl) rfl ?_
  refine g_val (s_lss rfl rfl rfl) rfl ?_
  refine g_nil ?_
  refine vc_cond rfl (fun hc14 => ?_) (fun hc14 => ?_)
  replace hc14 := of_decide_eq_true hc14
  simp only [List.length_map] at hc14
  obtain ⟨x, hx⟩ := get_of_lt (l := a) (i := i) (by omega)
  obtain ⟨y, hy⟩ := get_of_lt (l := b) (i := i) (by omega)
  have hxb := ok0.body hx; have hyb := ok1.body hy
  refine vc_skip ?_
  refine vc_seq ?_
  refine vc_block ?_
  refine vc_rseq mixed ?_
  refine d_val (s_move rfl rfl) rfl ?_
  refine d_val (s_move rfl rfl) rfl ?_
  refine d_val (s_index rfl rfl rfl (by omega) (idx_map hx)) rfl ?_
  refine d_val (s_loadT rfl rfl rfl) rfl ?_
  refine d_val (s_str rfl rfl) rfl ?_
  refine d_val (s_move rfl rfl) rfl ?_
  refine d_val (s_move rfl rfl) rfl ?_
  refine d_val (s_index rfl rfl rfl (by omega) (idx_map hy)) rfl ?_
  refine d_val (s_loadT rfl rfl rfl) rfl ?_
  refine d_val (s_str rfl rfl) rfl ?_
  refine d_val (s_neqS rfl rfl (by first | assumption | exact okT.bytes (by assumption)) (by first | assumption | exact okT.bytes (by assumption)) rfl) rfl ?_
  refine d_nil rfl ?_
  refine vc_cond rfl (fun hc27 => ?_) (fun hc27 => ?_)
  replace hc27 := of_decide_eq_true hc27
  simp only [ne_eq] at hc27
  refine vc_rseq mixed ?_
  refine g_val (s_assign rfl rfl) rfl ?_
  refine g_nil ?_
  exact vc_ret (ret_of _ (.cons (.tmp rfl) .nil) (by simp only [single]; rw [decide_eq_false]; rintro rfl; rw [hx] at hy; injection hy with hy; subst hy; exact hc27 rfl) rfl)
  replace hc27 := of_decide_eq_false hc27
  simp only [ne_eq, Decidable.not_not] at hc27
  refine vc_skip ?_
  refine vc_region mixed ?_
  refine g_val (s_move rfl rfl) rfl ?_
  refine g_val (s_add rfl rfl rfl (by simp only [inI, kMin, kMax]; omega)) rfl ?_
  refine g_val (s_assign rfl rfl) rfl ?_
  refine g_nil ?_
  exact ⟨by omega, fun j hj => by rcases Nat.lt_succ_iff_lt_or_eq.1 hj with h | rfl; exact hJ j h; rw [hx, hy]; rw [hc27], (leE_same (by repeat (first | exact letm_nil _ _ | refine letm_cons rfl ?_ ?_ | exact .same _ | exact .id' rfl | exact .id' (by simp; done))) (by repeat (first | exact lehp_nil _ _ | refine lehp_cons rfl ?_ ?_ | exact .same _ | exact .id' rfl | exact .id' (by simp; done))) rfl)⟩
  replace hc14 := of_decide_eq_false hc14
  simp only [List.length_map, Int.not_lt] at hc14
  refine vc_exit ?_
  refine vc_rseq mixed ?_
  refine g_val (s_assign rfl rfl) rfl ?_
  refine g_nil ?_
  exact vc_ret (ret_of _ (.cons (.tmp rfl) .nil) (by simp only [single]; rw [decide_eq_true]; refine List.ext_getElem? fun j => ?_; by_cases hj : j < i; exact hJ j hj; rw [List.getElem?_eq_none (by omega), List.getElem?_eq_none (by omega)]) rfl)

theorem c_mementoref13_SameItems (a b : List Item) : Con Try.prog 54 [.t (itemsT a), .t (itemsT b)] [] (AB (decide (a = b))) [] := by
  refine con_intro [] [] Try.func54 rfl Try.ntmps54 Try.results54 rfl rfl ?_
  intro E
  refine vc_okT (i := 0) rfl fun ok0 => ?_
  refine vc_okT (i := 1) rfl fun ok1 => ?_
  have hla := ok0.len
  rw [List.length_map] at hla
  refine vc_rseq mixed ?_
  refine g_val (s_assign rfl rfl) rfl ?_
  refine g_nil ?_
  refine vc_seq ?_
  refine vc_rseq mixed ?_
  refine g_val (s_move rfl rfl) rfl ?_
  refine g_val (s_len rfl rfl) rfl ?_
  refine g_val (s_move rfl rfl) rfl ?_
  refine g_val (s_len rfl rfl) rfl ?_
  refine g_val (s_neq rfl rfl rfl) rfl ?_
  refine g_nil ?_
  refine vc_cond rfl (fun hc10 => ?_) (fun hc10 => ?_)
  replace hc10 := of_decide_eq_true hc10
  simp only [List.length_map, ne_eq] at hc10
  refine vc_rseq mixed ?_
  refine g_val (s_assign rfl rfl) rfl ?_
  refine g_nil ?_
  exact vc_ret (ret_of _ (.cons (.tmp rfl) .nil) (by simp only [single]; rw [decide_eq_false]; rintro rfl; exact hc10 rfl) rfl)
  replace hc10 := of_decide_eq_false hc10
  simp only [List.length_map, ne_eq, Decidable.not_not] at hc10
  refine vc_skip ?_
  refine vc_seq ?_
  refine vc_rseq mixed ?_
  refine g_val (s_assign rfl rfl) rfl ?_
  refine g_nil ?_
  refine vc_block ?_
  refine vc_up a.length (fun i => ⟨[(0, .t (itemsT a)), (1, .t (itemsT b)), (5, AI .i64 i)], [], []⟩) (fun i => ∀ j : Nat, j < i → a[j]? = b[j]?) (leE_same (by repeat (first | exact letm_nil _ _ | refine letm_cons rfl ?_ ?_ | exact .same _ | exact .id' rfl | exact .id' (by simp; done))) (by repeat (first | exact lehp_nil _ _ | refine lehp_cons rfl ?_ ?_ | exact .same _ | exact .id' rfl | exact .id' (by simp; done))) rfl) (fun j h => by omega) (fun i hi hJ => ?_)
  refine vc_seq ?_
  refine vc_rseq mixed ?_
  refine g_val (s_move rfl rfl) rfl ?_
  refine g_val (s_move rfl rfl) rfl ?_
  refine g_val (s_len rfl rfl) rfl ?_
  refine g_val (s_lss rfl rfl rfl) rfl ?_
  refine g_nil ?_
  refine vc_cond rfl (fun hc14 => ?_) (fun hc14 => ?_)
  replace hc14 := of_decide_eq_true hc14
  simp only [List.length_map] at hc14
  obtain ⟨x, hx⟩ := get_of_lt (l := a) (i := i) (by omega)
  obtain ⟨y, hy⟩ := get_of_lt (l := b) (i := i) (by omega)
  have hxb := (ok0.item hx).1; have hyb := (ok1.item hy).1
  refine vc_skip ?_
  refine vc_seq ?_
  refine vc_block ?_
  refine vc_rseq mixed ?_
  refine d_val (s_move rfl rfl) rfl ?_
  refine d_val (s_move rfl rfl) rfl ?_
  refine d_val (s_index rfl rfl rfl (by omega) (idx_map hx)) rfl ?_
  refine d_val (s_fieldT rfl rfl rfl rfl rfl) rfl ?_
  refine d_val (s_loadT rfl rfl rfl) rfl ?_
  refine d_val (s_move rfl rfl) rfl ?_
  refine d_val (s_move rfl rfl) rfl ?_
  refine d_val (s_index rfl rfl rfl (by omega) (idx_map hy)) rfl ?_
  refine d_val (s_fieldT rfl rfl rfl rfl rfl) rfl ?_
  refine d_val (s_loadT rfl rfl rfl) rfl ?_
  refine d_val (s_neq rfl rfl rfl) rfl ?_
  refine d_val (s_move rfl rfl) rfl ?_
  refine g_probe (j := 28) rfl (fun c hg28 => ?_)
  cases c
  rw [← hg28]; replace hg28 := hg28.symm; replace hg28 := of_decide_eq_false hg28
  simp only [ne_eq, Decidable.not_not] at hg28
  refine dq_val (s_move rfl rfl) rfl rfl rfl rfl ?_
  refine dq_val (s_move rfl rfl) rfl rfl rfl rfl ?_
  refine dq_val (s_index rfl rfl rfl (by omega) (idx_map hx)) rfl rfl rfl rfl ?_
  refine dq_val (s_fieldT rfl rfl rfl rfl rfl) rfl rfl rfl rfl ?_
  refine dq_val (s_loadT rfl rfl rfl) rfl rfl rfl rfl ?_
  refine dq_val (s_str rfl rfl) rfl rfl rfl rfl ?_
  refine dq_val (s_move rfl rfl) rfl rfl rfl rfl ?_
  refine dq_val (s_move rfl rfl) rfl rfl rfl rfl ?_
  refine dq_val (s_index rfl rfl rfl (by omega) (idx_map hy)) rfl rfl rfl rfl ?_
  refine dq_val (s_fieldT rfl rfl rfl rfl rfl) rfl rfl rfl rfl ?_
  refine dq_val (s_loadT rfl rfl rfl) rfl rfl rfl rfl ?_
  refine dq_val (s_str rfl rfl) rfl rfl rfl rfl ?_
  refine dq_val (s_neqS rfl rfl (by first | assumption | exact okT.bytes (by assumption)) (by first | assumption | exact okT.bytes (by assumption)) rfl) rfl rfl rfl rfl ?_
  refine d_val (s_pickF rfl rfl rfl) rfl ?_
  refine d_nil rfl ?_
  refine vc_cond rfl (fun hc42 => ?_) (fun hc42 => ?_)
  replace hc42 := of_decide_eq_true hc42
  simp only [ne_eq] at hc42
  refine vc_rseq mixed ?_
  refine g_val (s_assign rfl rfl) rfl ?_
  refine g_nil ?_
  exact vc_ret (ret_of _ (.cons (.tmp rfl) .nil) (by simp only [single]; rw [decide_eq_false]; rintro rfl; rw [hx] at hy; injection hy with hy; subst hy; first | exact hg28 rfl | exact hc42 rfl) rfl)
  replace hc42 := of_decide_eq_false hc42
  simp only [ne_eq, Decidable.not_not] at hc42
  refine vc_skip ?_
  refine vc_region mixed ?_
  refine g_val (s_move rfl rfl) rfl ?_
  refine g_val (s_add rfl rfl rfl (by simp only [inI, kMin, kMax]; omega)) rfl ?_
  refine g_val (s_assign rfl rfl) rfl ?_
  refine g_nil ?_
  exact ⟨by omega, fun j hj => by rcases Nat.lt_succ_iff_lt_or_eq.1 hj with h | rfl; exact hJ j h; rw [hx, hy]; exact congrArg some (item_eq hg28 hc42), (leE_same (by repeat (first | exact letm_nil _ _ | refine letm_cons rfl ?_ ?_ | exact .same _ | exact .id' rfl | exact .id' (by simp; done))) (by repeat (first | exact lehp_nil _ _ | refine lehp_cons rfl ?_ ?_ | exact .same _ | exact .id' rfl | exact .id' (by simp; done))) rfl)⟩
  rw [← hg28]; replace hg28 := hg28.symm; replace hg28 := of_decide_eq_true hg28
  simp only [ne_eq] at hg28
  refine dn_val rfl rfl rfl rfl rfl rfl (by decide) ?_
  refine dn_val rfl rfl rfl rfl rfl rfl (by decide) ?_
  refine dn_val rfl rfl rfl rfl rfl rfl (by decide) ?_
  refine dn_val rfl rfl rfl rfl rfl rfl (by decide) ?_
  refine dn_val rfl rfl rfl rfl rfl rfl (by decide) ?_
  refine dn_val rfl rfl rfl rfl rfl rfl (by decide) ?_
  refine dn_val rfl rfl rfl rfl rfl rfl (by decide) ?_
  refine dn_val rfl rfl rfl rfl rfl rfl (by decide) ?_
  refine dn_val rfl rfl rfl rfl rfl rfl (by decide) ?_
  refine dn_val rfl rfl rfl rfl rfl rfl (by decide) ?_
  refine dn_val rfl rfl rfl rfl rfl rfl (by decide) ?_
  refine dn_val rfl rfl rfl rfl rfl rfl (by decide) ?_
  refine dn_val rfl rfl rfl rfl rfl rfl (by decide) ?_
  refine d_val (s_pickT rfl rfl rfl) rfl ?_
  refine d_nil rfl ?_
  refine vc_cond rfl (fun _ => ?_) (fun h => by cases h)
  refine vc_rseq mixed ?_
  refine g_val (s_assign rfl rfl) rfl ?_
  refine g_nil ?_
  exact vc_ret (ret_of _ (.cons (.tmp rfl) .nil) (by simp only [single]; rw [decide_eq_false]; rintro rfl; rw [hx] at hy; injection hy with hy; subst hy; first | exact hg28 rfl | exact hc42 rfl) rfl)
  replace hc14 := of_decide_eq_false hc14
  simp only [List.length_map, Int.not_lt] at hc14
  refine vc_exit ?_
  refine vc_rseq mixed ?_
  refine g_val (s_assign rfl rfl) rfl ?_
  refine g_nil ?_
  exact vc_ret (ret_of _ (.cons (.tmp rfl) .nil) (by simp only [single]; rw [decide_eq_true]; refine List.ext_getElem? fun j => ?_; by_cases hj : j < i; exact hJ j hj; rw [List.getElem?_eq_none (by omega), List.getElem?_eq_none (by omega)]) rfl)

theorem c_mementoref13_SameWrites (a b : List Write) : Con Try.prog 30 [.t (writesT a), .t (writesT b)] [] (AB (decide (a = b))) [] := by
  refine con_intro [] [] Try.func30 rfl Try.ntmps30 Try.results30 rfl rfl ?_
  intro E
  refine vc_okT (i := 0) rfl fun ok0 => ?_
  refine vc_okT (i := 1) rfl fun ok1 => ?_
  have hla := ok0.len
  rw [List.length_map] at hla
  refine vc_rseq mixed ?_
  refine g_val (s_assign rfl rfl) rfl ?_
  refine g_nil ?_
  refine vc_seq ?_
  refine vc_rseq mixed ?_
  refine g_val (s_move rfl rfl) rfl ?_
  refine g_val (s_len rfl rfl) rfl ?_
  refine g_val (s_move rfl rfl) rfl ?_
  refine g_val (s_len rfl rfl) rfl ?_
  refine g_val (s_neq rfl rfl rfl) rfl ?_
  refine g_nil ?_
  refine vc_cond rfl (fun hc10 => ?_) (fun hc10 => ?_)
  replace hc10 := of_decide_eq_true hc10
  simp only [List.length_map, ne_eq] at hc10
  refine vc_rseq mixed ?_
  refine g_val (s_assign rfl rfl) rfl ?_
  refine g_nil ?_
  exact vc_ret (ret_of _ (.cons (.tmp rfl) .nil) (by simp only [single]; rw [decide_eq_false]; rintro rfl; exact hc10 rfl) rfl)
  replace hc10 := of_decide_eq_false hc10
  simp only [List.length_map, ne_eq, Decidable.not_not] at hc10
  refine vc_skip ?_
  refine vc_seq ?_
  refine vc_rseq mixed ?_
  refine g_val (s_assign rfl rfl) rfl ?_
  refine g_nil ?_
  refine vc_block ?_
  refine vc_up a.length (fun i => ⟨[(0, .t (writesT a)), (1, .t (writesT b)), (5, AI .i64 i)], [], []⟩) (fun i => ∀ j : Nat, j < i → a[j]? = b[j]?) (leE_same (by repeat (first | exact letm_nil _ _ | refine letm_cons rfl ?_ ?_ | exact .same _ | exact .id' rfl | exact .id' (by simp; done))) (by repeat (first | exact lehp_nil _ _ | refine lehp_cons rfl ?_ ?_ | exact .same _ | exact .id' rfl | exact .id' (by simp; done))) rfl) (fun j h => by omega) (fun i hi hJ => ?_)
  refine vc_seq ?_
  refine vc_rseq mixed ?_
  refine g_val (s_move rfl rfl) rfl ?_
  refine g_val (s_move rfl rfl) rfl ?_
  refine g_val (s_len rfl rfl) rfl ?_
  refine g_val (s_lss rfl rfl rfl) rfl ?_
  refine g_nil ?_
  refine vc_cond rfl (fun hc14 => ?_) (fun hc14 => ?_)
  replace hc14 := of_decide_eq_true hc14
  simp only [List.length_map] at hc14
  obtain ⟨x, hx⟩ := get_of_lt (l := a) (i := i) (by omega)
  obtain ⟨y, hy⟩ := get_of_lt (l := b) (i := i) (by omega)
  skip
  refine vc_skip ?_
  refine vc_seq ?_
  refine vc_block ?_
  refine vc_rseq mixed ?_
  refine d_val (s_move rfl rfl) rfl ?_
  refine d_val (s_move rfl rfl) rfl ?_
  refine d_val (s_index rfl rfl rfl (by omega) (idx_map hx)) rfl ?_
  refine d_val (s_fieldT rfl rfl rfl rfl rfl) rfl ?_
  refine d_val (s_loadT rfl rfl rfl) rfl ?_
  refine d_val (s_move rfl rfl) rfl ?_
  refine d_val (s_move rfl rfl) rfl ?_
  refine d_val (s_index rfl rfl rfl (by omega) (idx_map hy)) rfl ?_
  refine d_val (s_fieldT rfl rfl rfl rfl rfl) rfl ?_
  refine d_val (s_loadT rfl rfl rfl) rfl ?_
  refine d_val (s_neq rfl rfl rfl) rfl ?_
  refine d_val (s_move rfl rfl) rfl ?_
  refine g_probe (j := 28) rfl (fun c hg28 => ?_)
  cases c
  rw [← hg28]; replace hg28 := hg28.symm; replace hg28 := of_decide_eq_false hg28
  simp only [ne_eq, Decidable.not_not] at hg28
  refine dq_val (s_move rfl rfl) rfl rfl rfl rfl ?_
  refine dq_val (s_move rfl rfl) rfl rfl rfl rfl ?_
  refine dq_val (s_index rfl rfl rfl (by omega) (idx_map hx)) rfl rfl rfl rfl ?_
  refine dq_val (s_fieldT rfl rfl rfl rfl rfl) rfl rfl rfl rfl ?_
  refine dq_val (s_loadT rfl rfl rfl) rfl rfl rfl rfl ?_
  refine dq_val (s_move rfl rfl) rfl rfl rfl rfl ?_
  refine dq_val (s_move rfl rfl) rfl rfl rfl rfl ?_
  refine dq_val (s_index rfl rfl rfl (by omega) (idx_map hy)) rfl rfl rfl rfl ?_
  refine dq_val (s_fieldT rfl rfl rfl rfl rfl) rfl rfl rfl rfl ?_
  refine dq_val (s_loadT rfl rfl rfl) rfl rfl rfl rfl ?_
  refine dq_val (s_call [] (c_mementoref13_SameItems ..) (evArgs_cons rfl (evArgs_cons rfl evArgs_nil)) trivial rfl (okVL_nil _) rfl (.inl rfl) rfl) rfl rfl rfl rfl ?_
  refine dq_val (s_not rfl rfl) rfl rfl rfl rfl ?_
  refine d_val (s_pickF rfl rfl rfl) rfl ?_
  refine d_nil rfl ?_
  refine vc_cond rfl (fun hc41 => ?_) (fun hc41 => ?_)
  refine vc_rseq mixed ?_
  refine g_val (s_assign rfl rfl) rfl ?_
  refine g_nil ?_
  exact vc_ret (ret_of _ (.cons (.tmp rfl) .nil) (by simp only [single]; rw [decide_eq_false]; rintro rfl; rw [hx] at hy; injection hy with hy; subst hy; first | exact hg28 rfl | (simp at hc41)) rfl)
  refine vc_skip ?_
  refine vc_region mixed ?_
  refine g_val (s_move rfl rfl) rfl ?_
  refine g_val (s_add rfl rfl rfl (by simp only [inI, kMin, kMax]; omega)) rfl ?_
  refine g_val (s_assign rfl rfl) rfl ?_
  refine g_nil ?_
  exact ⟨by omega, fun j hj => by rcases Nat.lt_succ_iff_lt_or_eq.1 hj with h | rfl; exact hJ j h; rw [hx, hy]; exact congrArg some (write_eq hg28 (of_decide_eq_true (by simpa using hc41))), (leE_same (by repeat (first | exact letm_nil _ _ | refine letm_cons rfl ?_ ?_ | exact .same _ | exact .id' rfl | exact .id' (by simp; done))) (by repeat (first | exact lehp_nil _ _ | refine lehp_cons rfl ?_ ?_ | exact .same _ | exact .id' rfl | exact .id' (by simp; done))) rfl)⟩
  rw [← hg28]; replace hg28 := hg28.symm; replace hg28 := of_decide_eq_true hg28
  simp only [ne_eq] at hg28
  refine dn_val rfl rfl rfl rfl rfl rfl (by decide) ?_
  refine dn_val rfl rfl rfl rfl rfl rfl (by decide) ?_
  refine dn_val rfl rfl rfl rfl rfl rfl (by decide) ?_
  refine dn_val rfl rfl rfl rfl rfl rfl (by decide) ?_
  refine dn_val rfl rfl rfl rfl rfl rfl (by decide) ?_
  refine dn_val rfl rfl rfl rfl rfl rfl (by decide) ?_
  refine dn_val rfl rfl rfl rfl rfl rfl (by decide) ?_
  refine dn_val rfl rfl rfl rfl rfl rfl (by decide) ?_
  refine dn_val rfl rfl rfl rfl rfl rfl (by decide) ?_
  refine dn_val rfl rfl rfl rfl rfl rfl (by decide) ?_
  refine dn_val rfl rfl rfl rfl rfl rfl (by decide) ?_
  refine dn_val rfl rfl rfl rfl rfl rfl (by decide) ?_
  refine d_val (s_pickT rfl rfl rfl) rfl ?_
  refine d_nil rfl ?_
  refine vc_cond rfl (fun _ => ?_) (fun h => by cases h)
  refine vc_rseq mixed ?_
  refine g_val (s_assign rfl rfl) rfl ?_
  refine g_nil ?_
  exact vc_ret (ret_of _ (.cons (.tmp rfl) .nil) (by simp only [single]; rw [decide_eq_false]; rintro rfl; rw [hx] at hy; injection hy with hy; subst hy; first | exact hg28 rfl | (simp at hc41)) rfl)
  replace hc14 := of_decide_eq_false hc14
  simp only [List.length_map, Int.not_lt] at hc14
  refine vc_exit ?_
  refine vc_rseq mixed ?_
  refine g_val (s_assign rfl rfl) rfl ?_
  refine g_nil ?_
  exact vc_ret (ret_of _ (.cons (.tmp rfl) .nil) (by simp only [single]; rw [decide_eq_true]; refine List.ext_getElem? fun j => ?_; by_cases hj : j < i; exact hJ j hj; rw [List.getElem?_eq_none (by omega), List.getElem?_eq_none (by omega)]) rfl)

end Go.Eng

set_option maxHeartbeats 1000000
namespace Go.Eng
open Go.Proofs

def lowV (v : Volume) : Int := v.pins.foldl min v.writes.length

theorem c_mementoref16_Low (v : Volume) : Con Try.prog 77 [sC (volC v)] [] (AI .i64 (lowV v)) [] := by
  refine con_intro [] [] Try.func77 rfl Try.ntmps77 Try.results77 rfl rfl ?_
  intro E
  refine vc_okA (i := 0) (j := 9) rfl rfl fun okp => ?_
  have hlp := okp.len
  rw [List.length_map] at hlp
  refine vc_rseq mixed ?_
  refine g_new (s_box 1 rfl rfl rfl rfl) rfl ?_
  refine g_val (s_assign rfl rfl) rfl ?_
  refine g_nil ?_
  refine vc_rseq mixed ?_
  refine g_val (s_loadA rfl rfl rfl rfl rfl) rfl ?_
  refine g_val (s_call [] (c_mementoref16_Len v) (evArgs_cons rfl evArgs_nil) trivial rfl (okVL_nil _) rfl (.inl rfl) rfl) rfl ?_
  refine g_val (s_assign rfl rfl) rfl ?_
  refine g_nil ?_
  refine vc_seq ?_
  refine vc_rseq mixed ?_
  refine g_val (s_assign rfl rfl) rfl ?_
  refine g_nil ?_
  refine vc_block ?_
  refine vc_up v.pins.length (fun i => ⟨[(1, .ref 1 0), (3, AI .i64 ((v.pins.take i).foldl min v.writes.length)), (4, AI .i64 i)], [(1, some (.box ((volC v).map .t)))], [1]⟩) (fun i => True) (leE_same (by repeat (first | exact letm_nil _ _ | refine letm_cons rfl ?_ ?_ | exact .same _ | exact .id' rfl | exact .id' (by simp; done))) (by repeat (first | exact lehp_nil _ _ | refine lehp_cons rfl ?_ ?_ | exact leB_same _ | exact leB_row (by first | rfl | (simp; done)) | refine leB_box ?_ | exact leL_nil | refine leL_cons ?_ ?_ | exact .same _ | exact .id' rfl | exact .id' (by simp; done))) rfl) trivial (fun i hi _ => ?_)
  refine vc_seq ?_
  refine vc_rseq mixed ?_
  refine g_val (s_move rfl rfl) rfl ?_
  refine g_val (s_field rfl rfl rfl rfl) rfl ?_
  refine g_val (s_load rfl rfl rfl rfl) rfl ?_
  refine g_val (s_len rfl rfl) rfl ?_
  refine g_val (s_lss rfl rfl rfl) rfl ?_
  refine g_nil ?_
  refine vc_cond rfl (fun hc11 => ?_) (fun hc11 => ?_)
  replace hc11 := of_decide_eq_true hc11
  simp only [List.length_map] at hc11
  obtain ⟨x, hx⟩ := get_of_lt (l := v.pins) (i := i) (by omega)
  refine vc_skip ?_
  refine vc_seq ?_
  refine vc_block ?_
  refine vc_region mixed ?_
  refine g_val (s_move rfl rfl) rfl ?_
  refine g_val (s_field rfl rfl rfl rfl) rfl ?_
  refine g_val (s_load rfl rfl rfl rfl) rfl ?_
  refine g_val (s_move rfl rfl) rfl ?_
  refine g_val (s_index rfl rfl rfl (by omega) (idx_map hx)) rfl ?_
  refine g_val (s_loadT rfl rfl rfl) rfl ?_
  refine g_val (s_min rfl rfl rfl) rfl ?_
  refine g_val (s_assign rfl rfl) rfl ?_
  refine g_nil ?_
  refine vc_region mixed ?_
  refine g_val (s_move rfl rfl) rfl ?_
  refine g_val (s_add rfl rfl rfl (by simp only [inI, kMin, kMax]; omega)) rfl ?_
  refine g_val (s_assign rfl rfl) rfl ?_
  refine g_nil ?_
  exact ⟨by omega, trivial, (leE_same (by repeat (first | exact letm_nil _ _ | refine letm_cons rfl ?_ ?_ | exact .same _ | exact .id' rfl | exact .id' (by simp only [foldl_take hx]; done))) (by repeat (first | exact lehp_nil _ _ | refine lehp_cons rfl ?_ ?_ | exact leB_same _ | exact leB_row (by first | rfl | (simp only [foldl_take hx]; done)) | refine leB_box ?_ | exact leL_nil | refine leL_cons ?_ ?_ | exact .same _ | exact .id' rfl | exact .id' (by simp only [foldl_take hx]; done))) rfl)⟩
  replace hc11 := of_decide_eq_false hc11
  simp only [List.length_map, Int.not_lt] at hc11
  refine vc_exit ?_
  refine vc_rseq mixed ?_
  refine g_val (s_move rfl rfl) rfl ?_
  refine g_val (s_assign rfl rfl) rfl ?_
  refine g_nil ?_
  exact vc_ret (ret_of _ (.cons (.tmp rfl) .nil) (by simp only [single, lowV]; rw [List.take_of_length_le (by omega)]) rfl)

theorem c_volume_Low (v : Volume) : Con Try.prog 9 [sC (volC v)] [] (AI .i64 (lowV v)) [] := by
  refine con_intro [] [] Try.func9 rfl Try.ntmps9 Try.results9 rfl rfl ?_
  intro E
  refine vc_okA (i := 0) (j := 9) rfl rfl fun okp => ?_
  have hlp := okp.len
  rw [List.length_map] at hlp
  refine vc_rseq mixed ?_
  refine g_new (s_box 1 rfl rfl rfl rfl) rfl ?_
  refine g_val (s_assign rfl rfl) rfl ?_
  refine g_nil ?_
  refine vc_rseq mixed ?_
  refine g_val (s_loadA rfl rfl rfl rfl rfl) rfl ?_
  refine g_val (s_call [] (c_volume_Len v) (evArgs_cons rfl evArgs_nil) trivial rfl (okVL_nil _) rfl (.inl rfl) rfl) rfl ?_
  refine g_val (s_assign rfl rfl) rfl ?_
  refine g_nil ?_
  refine vc_seq ?_
  refine vc_rseq mixed ?_
  refine g_val (s_field rfl rfl rfl rfl) rfl ?_
  refine g_val (s_load rfl rfl rfl rfl) rfl ?_
  refine g_val (s_len rfl rfl) rfl ?_
  refine g_val (s_move rfl rfl) rfl ?_
  refine g_nil ?_
  refine vc_block ?_
  refine vc_up v.pins.length (fun i => ⟨[(3, AI .i64 ((v.pins.take i).foldl min v.writes.length)), (9, .t (intsT v.pins)), (10, AI .i64 v.pins.length), (11, AI .i64 i)], [], []⟩) (fun i => True) (leE_same (by repeat (first | exact letm_nil _ _ | refine letm_cons rfl ?_ ?_ | exact .same _ | exact .id' rfl | exact .id' (by simp only [List.length_map]; done))) (by repeat (first | exact lehp_nil _ _ | refine lehp_cons rfl ?_ ?_ | exact leB_same _ | exact leB_row (by first | rfl | (simp only [List.length_map]; done)) | refine leB_box ?_ | exact leL_nil | refine leL_cons ?_ ?_ | exact .same _ | exact .id' rfl | exact .id' (by simp only [List.length_map]; done))) rfl) trivial (fun i hi _ => ?_)
  refine vc_rseq mixed ?_
  refine g_val (s_lss rfl rfl rfl) rfl ?_
  refine g_nil ?_
  refine vc_seq ?_
  refine vc_cond rfl (fun hc12 => ?_) (fun hc12 => ?_)
  replace hc12 := of_decide_eq_true hc12
  obtain ⟨x, hx⟩ := get_of_lt (l := v.pins) (i := i) (by omega)
  refine vc_skip ?_
  refine vc_seq ?_
  refine vc_block ?_
  refine vc_rseq mixed ?_
  refine g_val (s_index rfl rfl rfl (by omega) (idx_map hx)) rfl ?_
  refine g_val (s_loadT rfl rfl rfl) rfl ?_
  refine g_val (s_assign rfl rfl) rfl ?_
  refine g_nil ?_
  refine vc_region mixed ?_
  refine g_val (s_move rfl rfl) rfl ?_
  refine g_val (s_move rfl rfl) rfl ?_
  refine g_val (s_min rfl rfl rfl) rfl ?_
  refine g_val (s_assign rfl rfl) rfl ?_
  refine g_nil ?_
  refine vc_region mixed ?_
  refine g_val (s_add rfl rfl rfl (by simp only [inI, kMin, kMax]; omega)) rfl ?_
  refine g_val (s_move rfl rfl) rfl ?_
  refine g_nil ?_
  exact ⟨by omega, trivial, (leE_same (by repeat (first | exact letm_nil _ _ | refine letm_cons rfl ?_ ?_ | exact .same _ | exact .id' rfl | exact .id' (by simp only [foldl_take hx]; done))) (by repeat (first | exact lehp_nil _ _ | refine lehp_cons rfl ?_ ?_ | exact leB_same _ | exact leB_row (by first | rfl | (simp only [foldl_take hx]; done)) | refine leB_box ?_ | exact leL_nil | refine leL_cons ?_ ?_ | exact .same _ | exact .id' rfl | exact .id' (by simp only [foldl_take hx]; done))) rfl)⟩
  replace hc12 := of_decide_eq_false hc12
  simp only [Int.not_lt] at hc12
  refine vc_exit ?_
  refine vc_rseq mixed ?_
  refine g_val (s_move rfl rfl) rfl ?_
  refine g_val (s_assign rfl rfl) rfl ?_
  refine g_nil ?_
  exact vc_ret (ret_of _ (.cons (.tmp rfl) .nil) (by simp only [single, lowV]; rw [List.take_of_length_le (by omega)]) rfl)

def shapeEq (a b : Volume) : Prop := a.id = b.id ∧ a.blocks = b.blocks ∧ a.size = b.size ∧ a.per = b.per ∧ a.place = b.place ∧ a.total = b.total
instance (a b : Volume) : Decidable (shapeEq a b) := by unfold shapeEq; infer_instance

theorem c_mementoref16_Shape (a b : Volume) : Con Try.prog 28 [sC (volC a), sC (volC b)] [] (AB (decide (shapeEq a b))) [] := by
  refine con_intro [] [] Try.func28 rfl Try.ntmps28 Try.results28 rfl rfl ?_
  intro E
  refine vc_rseq mixed ?_
  refine g_new (s_box 2 rfl rfl rfl rfl) rfl ?_
  refine g_new (s_box 3 rfl rfl rfl rfl) rfl ?_
  refine g_val (s_assign rfl rfl) rfl ?_
  refine g_nil ?_
  refine vc_rseq mixed ?_
  refine g_val (s_field rfl rfl rfl rfl) rfl ?_
  refine g_val (s_load rfl rfl rfl rfl) rfl ?_
  refine g_val (s_field rfl rfl rfl rfl) rfl ?_
  refine g_val (s_load rfl rfl rfl rfl) rfl ?_
  refine g_val (s_eql rfl rfl rfl) rfl ?_
  refine g_val (s_move rfl rfl) rfl ?_
  refine g_probe (j := 10) rfl (fun c hg10 => ?_)
  cases c
  rw [← hg10]; replace hg10 := hg10.symm; replace hg10 := of_decide_eq_false hg10
  refine gn_val rfl rfl rfl rfl rfl rfl (by decide) ?_
  refine gn_val rfl rfl rfl rfl rfl rfl (by decide) ?_
  refine gn_val rfl rfl rfl rfl rfl rfl (by decide) ?_
  refine gn_val rfl rfl rfl rfl rfl rfl (by decide) ?_
  refine gn_val rfl rfl rfl rfl rfl rfl (by decide) ?_
  refine g_val (s_pickF rfl rfl rfl) rfl ?_
  refine g_val (s_move rfl rfl) rfl ?_
  refine gn_val rfl rfl rfl rfl rfl rfl (by decide) ?_
  refine gn_val rfl rfl rfl rfl rfl rfl (by decide) ?_
  refine gn_val rfl rfl rfl rfl rfl rfl (by decide) ?_
  refine gn_val rfl rfl rfl rfl rfl rfl (by decide) ?_
  refine gn_val rfl rfl rfl rfl rfl rfl (by decide) ?_
  refine g_val (s_pickF rfl rfl rfl) rfl ?_
  refine g_val (s_move rfl rfl) rfl ?_
  refine gn_val rfl rfl rfl rfl rfl rfl (by decide) ?_
  refine gn_val rfl rfl rfl rfl rfl rfl (by decide) ?_
  refine gn_val rfl rfl rfl rfl rfl rfl (by decide) ?_
  refine gn_val rfl rfl rfl rfl rfl rfl (by decide) ?_
  refine gn_val rfl rfl rfl rfl rfl rfl (by decide) ?_
  refine g_val (s_pickF rfl rfl rfl) rfl ?_
  refine g_val (s_move rfl rfl) rfl ?_
  refine gn_val rfl rfl rfl rfl rfl rfl (by decide) ?_
  refine gn_val rfl rfl rfl rfl rfl rfl (by decide) ?_
  refine gn_val rfl rfl rfl rfl rfl rfl (by decide) ?_
  refine gn_val rfl rfl rfl rfl rfl rfl (by decide) ?_
  refine gn_val rfl rfl rfl rfl rfl rfl (by decide) ?_
  refine g_val (s_pickF rfl rfl rfl) rfl ?_
  refine g_val (s_move rfl rfl) rfl ?_
  refine gn_val rfl rfl rfl rfl rfl rfl (by decide) ?_
  refine gn_val rfl rfl rfl rfl rfl rfl (by decide) ?_
  refine gn_val rfl rfl rfl rfl rfl rfl (by decide) ?_
  refine gn_val rfl rfl rfl rfl rfl rfl (by decide) ?_
  refine gn_val rfl rfl rfl rfl rfl rfl (by decide) ?_
  refine g_val (s_pickF rfl rfl rfl) rfl ?_
  refine g_val (s_assign rfl rfl) rfl ?_
  refine g_nil ?_
  exact vc_ret (ret_of _ (.cons (.tmp rfl) .nil) (by simp_all [single, shapeEq]; done) rfl)
  rw [← hg10]; replace hg10 := hg10.symm; replace hg10 := of_decide_eq_true hg10
  refine gq_val (s_field rfl rfl rfl rfl) rfl rfl rfl rfl ?_
  refine gq_val (s_load rfl rfl rfl rfl) rfl rfl rfl rfl ?_
  refine gq_val (s_field rfl rfl rfl rfl) rfl rfl rfl rfl ?_
  refine gq_val (s_load rfl rfl rfl rfl) rfl rfl rfl rfl ?_
  refine gq_val (s_eql rfl rfl rfl) rfl rfl rfl rfl ?_
  refine g_val (s_pickT rfl rfl rfl) rfl ?_
  refine g_val (s_move rfl rfl) rfl ?_
  refine g_probe (j := 17) rfl (fun c hg17 => ?_)
  cases c
  rw [← hg17]; replace hg17 := hg17.symm; replace hg17 := of_decide_eq_false hg17
  refine gn_val rfl rfl rfl rfl rfl rfl (by decide) ?_
  refine gn_val rfl rfl rfl rfl rfl rfl (by decide) ?_
  refine gn_val rfl rfl rfl rfl rfl rfl (by decide) ?_
  refine gn_val rfl rfl rfl rfl rfl rfl (by decide) ?_
  refine gn_val rfl rfl rfl rfl rfl rfl (by decide) ?_
  refine g_val (s_pickF rfl rfl rfl) rfl ?_
  refine g_val (s_move rfl rfl) rfl ?_
  refine gn_val rfl rfl rfl rfl rfl rfl (by decide) ?_
  refine gn_val rfl rfl rfl rfl rfl rfl (by decide) ?_
  refine gn_val rfl rfl rfl rfl rfl rfl (by decide) ?_
  refine gn_val rfl rfl rfl rfl rfl rfl (by decide) ?_
  refine gn_val rfl rfl rfl rfl rfl rfl (by decide) ?_
  refine g_val (s_pickF rfl rfl rfl) rfl ?_
  refine g_val (s_move rfl rfl) rfl ?_
  refine gn_val rfl rfl rfl rfl rfl rfl (by decide) ?_
  refine gn_val rfl rfl rfl rfl rfl rfl (by decide) ?_
  refine gn_val rfl rfl rfl rfl rfl rfl (by decide) ?_
  refine gn_val rfl rfl rfl rfl rfl rfl (by decide) ?_
  refine gn_val rfl rfl rfl rfl rfl rfl (by decide) ?_
  refine g_val (s_pickF rfl rfl rfl) rfl ?_
  refine g_val (s_move rfl rfl) rfl ?_
  refine gn_val rfl rfl rfl rfl rfl rfl (by decide) ?_
  refine gn_val rfl rfl rfl rfl rfl rfl (by decide) ?_
  refine gn_val rfl rfl rfl rfl rfl rfl (by decide) ?_
  refine gn_val rfl rfl rfl rfl rfl rfl (by decide) ?_
  refine gn_val rfl rfl rfl rfl rfl rfl (by decide) ?_
  refine g_val (s_pickF rfl rfl rfl) rfl ?_
  refine g_val (s_assign rfl rfl) rfl ?_
  refine g_nil ?_
  exact vc_ret (ret_of _ (.cons (.tmp rfl) .nil) (by simp_all [single, shapeEq]; done) rfl)
  rw [← hg17]; replace hg17 := hg17.symm; replace hg17 := of_decide_eq_true hg17
  refine gq_val (s_field rfl rfl rfl rfl) rfl rfl rfl rfl ?_
  refine gq_val (s_load rfl rfl rfl rfl) rfl rfl rfl rfl ?_
  refine gq_val (s_field rfl rfl rfl rfl) rfl rfl rfl rfl ?_
  refine gq_val (s_load rfl rfl rfl rfl) rfl rfl rfl rfl ?_
  refine gq_val (s_eql rfl rfl rfl) rfl rfl rfl rfl ?_
  refine g_val (s_pickT rfl rfl rfl) rfl ?_
  refine g_val (s_move rfl rfl) rfl ?_
  refine g_probe (j := 24) rfl (fun c hg24 => ?_)
  cases c
  rw [← hg24]; replace hg24 := hg24.symm; replace hg24 := of_decide_eq_false hg24
  refine gn_val rfl rfl rfl rfl rfl rfl (by decide) ?_
  refine gn_val rfl rfl rfl rfl rfl rfl (by decide) ?_
  refine gn_val rfl rfl rfl rfl rfl rfl (by decide) ?_
  refine gn_val rfl rfl rfl rfl rfl rfl (by decide) ?_
  refine gn_val rfl rfl rfl rfl rfl rfl (by decide) ?_
  refine g_val (s_pickF rfl rfl rfl) rfl ?_
  refine g_val (s_move rfl rfl) rfl ?_
  refine gn_val rfl rfl rfl rfl rfl rfl (by decide) ?_
  refine gn_val rfl rfl rfl rfl rfl rfl (by decide) ?_
  refine gn_val rfl rfl rfl rfl rfl rfl (by decide) ?_
  refine gn_val rfl rfl rfl rfl rfl rfl (by decide) ?_
  refine gn_val rfl rfl rfl rfl rfl rfl (by decide) ?_
  refine g_val (s_pickF rfl rfl rfl) rfl ?_
  refine g_val (s_move rfl rfl) rfl ?_
  refine gn_val rfl rfl rfl rfl rfl rfl (by decide) ?_
  refine gn_val rfl rfl rfl rfl rfl rfl (by decide) ?_
  refine gn_val rfl rfl rfl rfl rfl rfl (by decide) ?_
  refine gn_val rfl rfl rfl rfl rfl rfl (by decide) ?_
  refine gn_val rfl rfl rfl rfl rfl rfl (by decide) ?_
  refine g_val (s_pickF rfl rfl rfl) rfl ?_
  refine g_val (s_assign rfl rfl) rfl ?_
  refine g_nil ?_
  exact vc_ret (ret_of _ (.cons (.tmp rfl) .nil) (by simp_all [single, shapeEq]; done) rfl)
  rw [← hg24]; replace hg24 := hg24.symm; replace hg24 := of_decide_eq_true hg24
  refine gq_val (s_field rfl rfl rfl rfl) rfl rfl rfl rfl ?_
  refine gq_val (s_load rfl rfl rfl rfl) rfl rfl rfl rfl ?_
  refine gq_val (s_field rfl rfl rfl rfl) rfl rfl rfl rfl ?_
  refine gq_val (s_load rfl rfl rfl rfl) rfl rfl rfl rfl ?_
  refine gq_val (s_eql rfl rfl rfl) rfl rfl rfl rfl ?_
  refine g_val (s_pickT rfl rfl rfl) rfl ?_
  refine g_val (s_move rfl rfl) rfl ?_
  refine g_probe (j := 31) rfl (fun c hg31 => ?_)
  cases c
  rw [← hg31]; replace hg31 := hg31.symm; replace hg31 := of_decide_eq_false hg31
  refine gn_val rfl rfl rfl rfl rfl rfl (by decide) ?_
  refine gn_val rfl rfl rfl rfl rfl rfl (by decide) ?_
  refine gn_val rfl rfl rfl rfl rfl rfl (by decide) ?_
  refine gn_val rfl rfl rfl rfl rfl rfl (by decide) ?_
  refine gn_val rfl rfl rfl rfl rfl rfl (by decide) ?_
  refine g_val (s_pickF rfl rfl rfl) rfl ?_
  refine g_val (s_move rfl rfl) rfl ?_
  refine gn_val rfl rfl rfl rfl rfl rfl (by decide) ?_
  refine gn_val rfl rfl rfl rfl rfl rfl (by decide) ?_
  refine gn_val rfl rfl rfl rfl rfl rfl (by decide) ?_
  refine gn_val rfl rfl rfl rfl rfl rfl (by decide) ?_
  refine gn_val rfl rfl rfl rfl rfl rfl (by decide) ?_
  refine g_val (s_pickF rfl rfl rfl) rfl ?_
  refine g_val (s_assign rfl rfl) rfl ?_
  refine g_nil ?_
  exact vc_ret (ret_of _ (.cons (.tmp rfl) .nil) (by simp_all [single, shapeEq]; done) rfl)
  rw [← hg31]; replace hg31 := hg31.symm; replace hg31 := of_decide_eq_true hg31
  refine gq_val (s_field rfl rfl rfl rfl) rfl rfl rfl rfl ?_
  refine gq_val (s_load rfl rfl rfl rfl) rfl rfl rfl rfl ?_
  refine gq_val (s_field rfl rfl rfl rfl) rfl rfl rfl rfl ?_
  refine gq_val (s_load rfl rfl rfl rfl) rfl rfl rfl rfl ?_
  refine gq_val (s_call [] (c_mementoref16_sameInts a.place b.place) (evArgs_cons rfl (evArgs_cons rfl evArgs_nil)) trivial rfl (okVL_nil _) rfl (.inl rfl) rfl) rfl rfl rfl rfl ?_
  refine g_val (s_pickT rfl rfl rfl) rfl ?_
  refine g_val (s_move rfl rfl) rfl ?_
  refine g_probe (j := 38) rfl (fun c hg38 => ?_)
  cases c
  rw [← hg38]; replace hg38 := hg38.symm; replace hg38 := of_decide_eq_false hg38
  refine gn_val rfl rfl rfl rfl rfl rfl (by decide) ?_
  refine gn_val rfl rfl rfl rfl rfl rfl (by decide) ?_
  refine gn_val rfl rfl rfl rfl rfl rfl (by decide) ?_
  refine gn_val rfl rfl rfl rfl rfl rfl (by decide) ?_
  refine gn_val rfl rfl rfl rfl rfl rfl (by decide) ?_
  refine g_val (s_pickF rfl rfl rfl) rfl ?_
  refine g_val (s_assign rfl rfl) rfl ?_
  refine g_nil ?_
  exact vc_ret (ret_of _ (.cons (.tmp rfl) .nil) (by simp_all [single, shapeEq]; done) rfl)
  rw [← hg38]; replace hg38 := hg38.symm; replace hg38 := of_decide_eq_true hg38
  refine gq_val (s_field rfl rfl rfl rfl) rfl rfl rfl rfl ?_
  refine gq_val (s_load rfl rfl rfl rfl) rfl rfl rfl rfl ?_
  refine gq_val (s_field rfl rfl rfl rfl) rfl rfl rfl rfl ?_
  refine gq_val (s_load rfl rfl rfl rfl) rfl rfl rfl rfl ?_
  refine gq_val (s_eql rfl rfl rfl) rfl rfl rfl rfl ?_
  refine g_val (s_pickT rfl rfl rfl) rfl ?_
  refine g_val (s_assign rfl rfl) rfl ?_
  refine g_nil ?_
  exact vc_ret (ret_of _ (.cons (.tmp rfl) .nil) (by simp_all [single, shapeEq]; done) rfl)

def chunksN (blocks per : Int) : Int := (blocks + per - 1) / per

theorem c_mementoref16_Chunks (blocks per : Int) (h1 : 1 ≤ blocks) (h2 : blocks ≤ 256) (h3 : 1 ≤ per) (h4 : per ≤ 256) : Con Try.prog 47 [AI .i64 blocks, AI .i64 per] [] (AI .i64 (chunksN blocks per)) [] := by
  refine con_intro [] [] Try.func47 rfl Try.ntmps47 Try.results47 rfl rfl ?_
  intro E
  refine vc_rseq mixed ?_
  refine g_val (s_assign rfl rfl) rfl ?_
  refine g_nil ?_
  refine vc_rseq mixed ?_
  refine g_val (s_move rfl rfl) rfl ?_
  refine g_val (s_move rfl rfl) rfl ?_
  refine g_val (s_add rfl rfl rfl (by simp only [inI, kMin, kMax]; omega)) rfl ?_
  refine g_val (s_sub rfl rfl rfl (by simp only [inI, kMin, kMax]; omega)) rfl ?_
  refine g_val (s_move rfl rfl) rfl ?_
  refine g_val (s_quo rfl rfl rfl (by omega) (by omega)) rfl ?_
  refine g_val (s_assign rfl rfl) rfl ?_
  refine g_nil ?_
  exact vc_ret (ret_of _ (.cons (.tmp rfl) .nil) (by simp [single, chunksN]) rfl)

def shapeOK (vol blocks size per : Int) (place : List Int) (total : Int) : Prop := 0 ≤ vol ∧ vol < 8 ∧ 1 ≤ blocks ∧ blocks ≤ 256 ∧ 1 ≤ size ∧ size ≤ 32 ∧ 1 ≤ per ∧ per ≤ blocks ∧ (place.length : Int) = chunksN blocks per ∧ 0 ≤ total ∧ total ≤ 1099511627776 ∧ ∀ z ∈ place, 1 ≤ z ∧ z ≤ 7
instance (vol blocks size per : Int) (place : List Int) (total : Int) : Decidable (shapeOK vol blocks size per place total) := by unfold shapeOK; infer_instance

theorem c_mementoref16_shape (c : VolCmd) : Con Try.prog 46 [sC (cmdC c)] [] (AB (decide (shapeOK c.vol c.blocks c.size c.per c.place c.total))) [] := by
  refine con_intro [] [] Try.func46 rfl Try.ntmps46 Try.results46 rfl rfl ?_
  intro E
  refine vc_okA (i := 0) (j := 5) rfl rfl fun okp => ?_
  have hlp := okp.len
  rw [List.length_map] at hlp
  refine vc_rseq mixed ?_
  refine g_new (s_box 1 rfl rfl rfl rfl) rfl ?_
  refine g_val (s_assign rfl rfl) rfl ?_
  refine g_nil ?_
  refine vc_seq ?_
  refine vc_rseq mixed ?_
  refine d_val (s_field rfl rfl rfl rfl) rfl ?_
  refine d_val (s_load rfl rfl rfl rfl) rfl ?_
  refine d_val (s_lss rfl rfl rfl) rfl ?_
  refine d_val (s_move rfl rfl) rfl ?_
  refine g_probe (j := 7) rfl (fun c hg7 => ?_)
  cases c
  rw [← hg7]; replace hg7 := hg7.symm; replace hg7 := of_decide_eq_false hg7
  simp only [Int.not_lt] at hg7
  refine dq_val (s_field rfl rfl rfl rfl) rfl rfl rfl rfl ?_
  refine dq_val (s_load rfl rfl rfl rfl) rfl rfl rfl rfl ?_
  refine dq_val (s_geq rfl rfl rfl) rfl rfl rfl rfl ?_
  refine d_val (s_pickF rfl rfl rfl) rfl ?_
  refine d_val (s_move rfl rfl) rfl ?_
  refine g_probe (j := 12) rfl (fun c hg12 => ?_)
  cases c
  rw [← hg12]; replace hg12 := hg12.symm; replace hg12 := of_decide_eq_false hg12
  simp only [Int.not_le] at hg12
  refine dq_val (s_field rfl rfl rfl rfl) rfl rfl rfl rfl ?_
  refine dq_val (s_load rfl rfl rfl rfl) rfl rfl rfl rfl ?_
  refine dq_val (s_lss rfl rfl rfl) rfl rfl rfl rfl ?_
  refine d_val (s_pickF rfl rfl rfl) rfl ?_
  refine d_val (s_move rfl rfl) rfl ?_
  refine g_probe (j := 17) rfl (fun c hg17 => ?_)
  cases c
  rw [← hg17]; replace hg17 := hg17.symm; replace hg17 := of_decide_eq_false hg17
  simp only [Int.not_lt] at hg17
  refine dq_val (s_field rfl rfl rfl rfl) rfl rfl rfl rfl ?_
  refine dq_val (s_load rfl rfl rfl rfl) rfl rfl rfl rfl ?_
  refine dq_val (s_gtr rfl rfl rfl) rfl rfl rfl rfl ?_
  refine d_val (s_pickF rfl rfl rfl) rfl ?_
  refine d_val (s_move rfl rfl) rfl ?_
  refine g_probe (j := 22) rfl (fun c hg22 => ?_)
  cases c
  rw [← hg22]; replace hg22 := hg22.symm; replace hg22 := of_decide_eq_false hg22
  simp only [Int.not_lt] at hg22
  refine dq_val (s_field rfl rfl rfl rfl) rfl rfl rfl rfl ?_
  refine dq_val (s_load rfl rfl rfl rfl) rfl rfl rfl rfl ?_
  refine dq_val (s_lss rfl rfl rfl) rfl rfl rfl rfl ?_
  refine d_val (s_pickF rfl rfl rfl) rfl ?_
  refine d_val (s_move rfl rfl) rfl ?_
  refine g_probe (j := 27) rfl (fun c hg27 => ?_)
  cases c
  rw [← hg27]; replace hg27 := hg27.symm; replace hg27 := of_decide_eq_false hg27
  simp only [Int.not_lt] at hg27
  refine dq_val (s_field rfl rfl rfl rfl) rfl rfl rfl rfl ?_
  refine dq_val (s_load rfl rfl rfl rfl) rfl rfl rfl rfl ?_
  refine dq_val (s_gtr rfl rfl rfl) rfl rfl rfl rfl ?_
  refine d_val (s_pickF rfl rfl rfl) rfl ?_
  refine d_val (s_move rfl rfl) rfl ?_
  refine g_probe (j := 32) rfl (fun c hg32 => ?_)
  cases c
  rw [← hg32]; replace hg32 := hg32.symm; replace hg32 := of_decide_eq_false hg32
  simp only [Int.not_lt] at hg32
  refine dq_val (s_field rfl rfl rfl rfl) rfl rfl rfl rfl ?_
  refine dq_val (s_load rfl rfl rfl rfl) rfl rfl rfl rfl ?_
  refine dq_val (s_lss rfl rfl rfl) rfl rfl rfl rfl ?_
  refine d_val (s_pickF rfl rfl rfl) rfl ?_
  refine d_val (s_move rfl rfl) rfl ?_
  refine g_probe (j := 37) rfl (fun c hg37 => ?_)
  cases c
  rw [← hg37]; replace hg37 := hg37.symm; replace hg37 := of_decide_eq_false hg37
  simp only [Int.not_lt] at hg37
  refine dq_val (s_field rfl rfl rfl rfl) rfl rfl rfl rfl ?_
  refine dq_val (s_load rfl rfl rfl rfl) rfl rfl rfl rfl ?_
  refine dq_val (s_field rfl rfl rfl rfl) rfl rfl rfl rfl ?_
  refine dq_val (s_load rfl rfl rfl rfl) rfl rfl rfl rfl ?_
  refine dq_val (s_gtr rfl rfl rfl) rfl rfl rfl rfl ?_
  refine d_val (s_pickF rfl rfl rfl) rfl ?_
  refine d_val (s_move rfl rfl) rfl ?_
  refine g_probe (j := 44) rfl (fun c hg44 => ?_)
  cases c
  rw [← hg44]; replace hg44 := hg44.symm; replace hg44 := of_decide_eq_false hg44
  simp only [Int.not_lt] at hg44
  refine dq_val (s_field rfl rfl rfl rfl) rfl rfl rfl rfl ?_
  refine dq_val (s_load rfl rfl rfl rfl) rfl rfl rfl rfl ?_
  refine dq_val (s_len rfl rfl) rfl rfl rfl rfl ?_
  refine dq_val (s_field rfl rfl rfl rfl) rfl rfl rfl rfl ?_
  refine dq_val (s_load rfl rfl rfl rfl) rfl rfl rfl rfl ?_
  refine dq_val (s_field rfl rfl rfl rfl) rfl rfl rfl rfl ?_
  refine dq_val (s_load rfl rfl rfl rfl) rfl rfl rfl rfl ?_
  refine dq_val (s_call [] (c_mementoref16_Chunks c.blocks c.per (by omega) (by omega) (by omega) (by omega)) (evArgs_cons rfl (evArgs_cons rfl evArgs_nil)) trivial rfl (okVL_nil _) rfl (.inl rfl) rfl) rfl rfl rfl rfl ?_
  refine dq_val (s_neq rfl rfl rfl) rfl rfl rfl rfl ?_
  refine d_val (s_pickF rfl rfl rfl) rfl ?_
  refine d_val (s_move rfl rfl) rfl ?_
  refine g_probe (j := 55) rfl (fun c hg55 => ?_)
  cases c
  rw [← hg55]; replace hg55 := hg55.symm; replace hg55 := of_decide_eq_false hg55
  simp only [List.length_map, ne_eq, Decidable.not_not] at hg55
  refine dq_val (s_field rfl rfl rfl rfl) rfl rfl rfl rfl ?_
  refine dq_val (s_load rfl rfl rfl rfl) rfl rfl rfl rfl ?_
  refine dq_val (s_lss rfl rfl rfl) rfl rfl rfl rfl ?_
  refine d_val (s_pickF rfl rfl rfl) rfl ?_
  refine d_val (s_move rfl rfl) rfl ?_
  refine g_probe (j := 60) rfl (fun c hg60 => ?_)
  cases c
  rw [← hg60]; replace hg60 := hg60.symm; replace hg60 := of_decide_eq_false hg60
  simp only [Int.not_lt] at hg60
  refine dq_val (s_field rfl rfl rfl rfl) rfl rfl rfl rfl ?_
  refine dq_val (s_load rfl rfl rfl rfl) rfl rfl rfl rfl ?_
  refine dq_val (s_gtr rfl rfl rfl) rfl rfl rfl rfl ?_
  refine d_val (s_pickF rfl rfl rfl) rfl ?_
  refine d_nil rfl ?_
  refine vc_cond rfl (fun hc64 => ?_) (fun hc64 => ?_)
  replace hc64 := of_decide_eq_true hc64
  refine vc_rseq mixed ?_
  refine g_val (s_assign rfl rfl) rfl ?_
  refine g_nil ?_
  exact vc_ret (ret_of _ (.cons (.tmp rfl) .nil) (by simp only [single]; rw [decide_eq_false]; rintro ⟨h1, h2, h3, h4, h5, h6, h7, h8, h9, h10, h11, h12⟩; omega) rfl)
  replace hc64 := of_decide_eq_false hc64
  simp only [Int.not_lt] at hc64
  refine vc_skip ?_
  refine vc_seq ?_
  refine vc_rseq mixed ?_
  refine g_val (s_assign rfl rfl) rfl ?_
  refine g_nil ?_
  refine vc_block ?_
  refine vc_up c.place.length (fun i => ⟨[(1, .ref 1 0), (3, AI .i64 i)], [(1, some (.box ((cmdC c).map .t)))], [1]⟩) (fun i => ∀ j : Nat, j < i → ∀ z, c.place[j]? = some z → 1 ≤ z ∧ z ≤ 7) (leE_same (by repeat (first | exact letm_nil _ _ | refine letm_cons rfl ?_ ?_ | exact .same _ | exact .id' rfl | exact .id' (by simp; done))) (by repeat (first | exact lehp_nil _ _ | refine lehp_cons rfl ?_ ?_ | exact leB_same _ | exact leB_row (by first | rfl | (simp; done)) | refine leB_box ?_ | exact leL_nil | refine leL_cons ?_ ?_ | exact .same _ | exact .id' rfl | exact .id' (by simp; done))) rfl) (fun j h => by omega) (fun i hi hJ => ?_)
  refine vc_seq ?_
  refine vc_rseq mixed ?_
  refine g_val (s_move rfl rfl) rfl ?_
  refine g_val (s_field rfl rfl rfl rfl) rfl ?_
  refine g_val (s_load rfl rfl rfl rfl) rfl ?_
  refine g_val (s_len rfl rfl) rfl ?_
  refine g_val (s_lss rfl rfl rfl) rfl ?_
  refine g_nil ?_
  refine vc_cond rfl (fun hc69 => ?_) (fun hc69 => ?_)
  replace hc69 := of_decide_eq_true hc69
  simp only [List.length_map] at hc69
  obtain ⟨x, hx⟩ := get_of_lt (l := c.place) (i := i) (by omega)
  refine vc_skip ?_
  refine vc_seq ?_
  refine vc_block ?_
  refine vc_rseq mixed ?_
  refine g_val (s_field rfl rfl rfl rfl) rfl ?_
  refine g_val (s_load rfl rfl rfl rfl) rfl ?_
  refine g_val (s_move rfl rfl) rfl ?_
  refine g_val (s_index rfl rfl rfl (by omega) (idx_map hx)) rfl ?_
  refine g_val (s_loadT rfl rfl rfl) rfl ?_
  refine g_val (s_lss rfl rfl rfl) rfl ?_
  refine g_val (s_move rfl rfl) rfl ?_
  refine g_probe (j := 78) rfl (fun c hg78 => ?_)
  cases c
  rw [← hg78]; replace hg78 := hg78.symm; replace hg78 := of_decide_eq_false hg78
  simp only [Int.not_lt] at hg78
  refine gq_val (s_field rfl rfl rfl rfl) rfl rfl rfl rfl ?_
  refine gq_val (s_load rfl rfl rfl rfl) rfl rfl rfl rfl ?_
  refine gq_val (s_move rfl rfl) rfl rfl rfl rfl ?_
  refine gq_val (s_index rfl rfl rfl (by omega) (idx_map hx)) rfl rfl rfl rfl ?_
  refine gq_val (s_loadT rfl rfl rfl) rfl rfl rfl rfl ?_
  refine gq_val (s_geq rfl rfl rfl) rfl rfl rfl rfl ?_
  refine g_val (s_pickF rfl rfl rfl) rfl ?_
  refine g_nil ?_
  refine vc_cond rfl (fun hc85 => ?_) (fun hc85 => ?_)
  replace hc85 := of_decide_eq_true hc85
  refine vc_rseq mixed ?_
  refine g_val (s_assign rfl rfl) rfl ?_
  refine g_nil ?_
  exact vc_ret (ret_of _ (.cons (.tmp rfl) .nil) (by simp only [single]; rw [decide_eq_false]; rintro ⟨h1, h2, h3, h4, h5, h6, h7, h8, h9, h10, h11, h12⟩; have := h12 x (List.mem_of_getElem? hx); omega) rfl)
  replace hc85 := of_decide_eq_false hc85
  simp only [Int.not_le] at hc85
  refine vc_skip ?_
  refine vc_region mixed ?_
  refine g_val (s_move rfl rfl) rfl ?_
  refine g_val (s_add rfl rfl rfl (by simp only [inI, kMin, kMax]; omega)) rfl ?_
  refine g_val (s_assign rfl rfl) rfl ?_
  refine g_nil ?_
  exact ⟨by omega, fun j hj z hz => by rcases Nat.lt_succ_iff_lt_or_eq.1 hj with h | rfl; exact hJ j h z hz; rw [hx] at hz; injection hz with hz; omega, (leE_same (by repeat (first | exact letm_nil _ _ | refine letm_cons rfl ?_ ?_ | exact .same _ | exact .id' rfl | exact .id' (by simp; done))) (by repeat (first | exact lehp_nil _ _ | refine lehp_cons rfl ?_ ?_ | exact leB_same _ | exact leB_row (by first | rfl | (simp; done)) | refine leB_box ?_ | exact leL_nil | refine leL_cons ?_ ?_ | exact .same _ | exact .id' rfl | exact .id' (by simp; done))) rfl)⟩
  rw [← hg78]; replace hg78 := hg78.symm; replace hg78 := of_decide_eq_true hg78
  refine gn_val rfl rfl rfl rfl rfl rfl (by decide) ?_
  refine gn_val rfl rfl rfl rfl rfl rfl (by decide) ?_
  refine gn_val rfl rfl rfl rfl rfl rfl (by decide) ?_
  refine gn_val rfl rfl rfl rfl rfl rfl (by decide) ?_
  refine gn_val rfl rfl rfl rfl rfl rfl (by decide) ?_
  refine gn_val rfl rfl rfl rfl rfl rfl (by decide) ?_
  refine g_val (s_pickT rfl rfl rfl) rfl ?_
  refine g_nil ?_
  refine vc_cond rfl (fun _ => ?_) (fun h => by cases h)
  refine vc_rseq mixed ?_
  refine g_val (s_assign rfl rfl) rfl ?_
  refine g_nil ?_
  exact vc_ret (ret_of _ (.cons (.tmp rfl) .nil) (by simp only [single]; rw [decide_eq_false]; rintro ⟨h1, h2, h3, h4, h5, h6, h7, h8, h9, h10, h11, h12⟩; have := h12 x (List.mem_of_getElem? hx); omega) rfl)
  replace hc69 := of_decide_eq_false hc69
  simp only [List.length_map, Int.not_lt] at hc69
  refine vc_exit ?_
  refine vc_rseq mixed ?_
  refine g_val (s_assign rfl rfl) rfl ?_
  refine g_nil ?_
  exact vc_ret (ret_of _ (.cons (.tmp rfl) .nil) (by simp only [single]; rw [decide_eq_true]; refine ⟨by omega, by omega, by omega, by omega, by omega, by omega, by omega, by omega, by omega, by omega, by omega, fun z hz => ?_⟩; obtain ⟨j, hj⟩ := List.mem_iff_getElem?.1 hz; exact hJ j (by have := (List.getElem?_eq_some_iff.1 hj).1; omega) z hj) rfl)
  rw [← hg60]; replace hg60 := hg60.symm; replace hg60 := of_decide_eq_true hg60
  refine dn_val rfl rfl rfl rfl rfl rfl (by decide) ?_
  refine dn_val rfl rfl rfl rfl rfl rfl (by decide) ?_
  refine dn_val rfl rfl rfl rfl rfl rfl (by decide) ?_
  refine d_val (s_pickT rfl rfl rfl) rfl ?_
  refine d_nil rfl ?_
  refine vc_cond rfl (fun _ => ?_) (fun h => by cases h)
  refine vc_rseq mixed ?_
  refine g_val (s_assign rfl rfl) rfl ?_
  refine g_nil ?_
  exact vc_ret (ret_of _ (.cons (.tmp rfl) .nil) (by simp only [single]; rw [decide_eq_false]; rintro ⟨h1, h2, h3, h4, h5, h6, h7, h8, h9, h10, h11, h12⟩; omega) rfl)
  rw [← hg55]; replace hg55 := hg55.symm; replace hg55 := of_decide_eq_true hg55
  simp only [List.length_map, ne_eq] at hg55
  refine dn_val rfl rfl rfl rfl rfl rfl (by decide) ?_
  refine dn_val rfl rfl rfl rfl rfl rfl (by decide) ?_
  refine dn_val rfl rfl rfl rfl rfl rfl (by decide) ?_
  refine d_val (s_pickT rfl rfl rfl) rfl ?_
  refine d_val (s_move rfl rfl) rfl ?_
  refine dn_val rfl rfl rfl rfl rfl rfl (by decide) ?_
  refine dn_val rfl rfl rfl rfl rfl rfl (by decide) ?_
  refine dn_val rfl rfl rfl rfl rfl rfl (by decide) ?_
  refine d_val (s_pickT rfl rfl rfl) rfl ?_
  refine d_nil rfl ?_
  refine vc_cond rfl (fun _ => ?_) (fun h => by cases h)
  refine vc_rseq mixed ?_
  refine g_val (s_assign rfl rfl) rfl ?_
  refine g_nil ?_
  exact vc_ret (ret_of _ (.cons (.tmp rfl) .nil) (by simp only [single]; rw [decide_eq_false]; rintro ⟨h1, h2, h3, h4, h5, h6, h7, h8, h9, h10, h11, h12⟩; omega) rfl)
  rw [← hg44]; replace hg44 := hg44.symm; replace hg44 := of_decide_eq_true hg44
  refine dn_val rfl rfl rfl rfl rfl rfl (by decide) ?_
  refine dn_val rfl rfl rfl rfl rfl rfl (by decide) ?_
  refine dn_val rfl rfl rfl rfl rfl rfl (by decide) ?_
  refine dn_val rfl rfl rfl rfl rfl rfl (by decide) ?_
  refine dn_val rfl rfl rfl rfl rfl rfl (by decide) ?_
  refine dn_val rfl rfl rfl rfl rfl rfl (by decide) ?_
  refine dn_val rfl rfl rfl rfl rfl rfl (by decide) ?_
  refine dn_val rfl rfl rfl rfl rfl rfl (by decide) ?_
  refine dn_val rfl rfl rfl rfl rfl rfl (by decide) ?_
  refine d_val (s_pickT rfl rfl rfl) rfl ?_
  refine d_val (s_move rfl rfl) rfl ?_
  refine dn_val rfl rfl rfl rfl rfl rfl (by decide) ?_
  refine dn_val rfl rfl rfl rfl rfl rfl (by decide) ?_
  refine dn_val rfl rfl rfl rfl rfl rfl (by decide) ?_
  refine d_val (s_pickT rfl rfl rfl) rfl ?_
  refine d_val (s_move rfl rfl) rfl ?_
  refine dn_val rfl rfl rfl rfl rfl rfl (by decide) ?_
  refine dn_val rfl rfl rfl rfl rfl rfl (by decide) ?_
  refine dn_val rfl rfl rfl rfl rfl rfl (by decide) ?_
  refine d_val (s_pickT rfl rfl rfl) rfl ?_
  refine d_nil rfl ?_
  refine vc_cond rfl (fun _ => ?_) (fun h => by cases h)
  refine vc_rseq mixed ?_
  refine g_val (s_assign rfl rfl) rfl ?_
  refine g_nil ?_
  exact vc_ret (ret_of _ (.cons (.tmp rfl) .nil) (by simp only [single]; rw [decide_eq_false]; rintro ⟨h1, h2, h3, h4, h5, h6, h7, h8, h9, h10, h11, h12⟩; omega) rfl)
  rw [← hg37]; replace hg37 := hg37.symm; replace hg37 := of_decide_eq_true hg37
  refine dn_val rfl rfl rfl rfl rfl rfl (by decide) ?_
  refine dn_val rfl rfl rfl rfl rfl rfl (by decide) ?_
  refine dn_val rfl rfl rfl rfl rfl rfl (by decide) ?_
  refine dn_val rfl rfl rfl rfl rfl rfl (by decide) ?_
  refine dn_val rfl rfl rfl rfl rfl rfl (by decide) ?_
  refine d_val (s_pickT rfl rfl rfl) rfl ?_
  refine d_val (s_move rfl rfl) rfl ?_
  refine dn_val rfl rfl rfl rfl rfl rfl (by decide) ?_
  refine dn_val rfl rfl rfl rfl rfl rfl (by decide) ?_
  refine dn_val rfl rfl rfl rfl rfl rfl (by decide) ?_
  refine dn_val rfl rfl rfl rfl rfl rfl (by decide) ?_
  refine dn_val rfl rfl rfl rfl rfl rfl (by decide) ?_
  refine dn_val rfl rfl rfl rfl rfl rfl (by decide) ?_
  refine dn_val rfl rfl rfl rfl rfl rfl (by decide) ?_
  refine dn_val rfl rfl rfl rfl rfl rfl (by decide) ?_
  refine dn_val rfl rfl rfl rfl rfl rfl (by decide) ?_
  refine d_val (s_pickT rfl rfl rfl) rfl ?_
  refine d_val (s_move rfl rfl) rfl ?_
  refine dn_val rfl rfl rfl rfl rfl rfl (by decide) ?_
  refine dn_val rfl rfl rfl rfl rfl rfl (by decide) ?_
  refine dn_val rfl rfl rfl rfl rfl rfl (by decide) ?_
  refine d_val (s_pickT rfl rfl rfl) rfl ?_
  refine d_val (s_move rfl rfl) rfl ?_
  refine dn_val rfl rfl rfl rfl rfl rfl (by decide) ?_
  refine dn_val rfl rfl rfl rfl rfl rfl (by decide) ?_
  refine dn_val rfl rfl rfl rfl rfl rfl (by decide) ?_
  refine d_val (s_pickT rfl rfl rfl) rfl ?_
  refine d_nil rfl ?_
  refine vc_cond rfl (fun _ => ?_) (fun h => by cases h)
  refine vc_rseq mixed ?_
  refine g_val (s_assign rfl rfl) rfl ?_
  refine g_nil ?_
  exact vc_ret (ret_of _ (.cons (.tmp rfl) .nil) (by simp only [single]; rw [decide_eq_false]; rintro ⟨h1, h2, h3, h4, h5, h6, h7, h8, h9, h10, h11, h12⟩; omega) rfl)
  rw [← hg32]; replace hg32 := hg32.symm; replace hg32 := of_decide_eq_true hg32
  refine dn_val rfl rfl rfl rfl rfl rfl (by decide) ?_
  refine dn_val rfl rfl rfl rfl rfl rfl (by decide) ?_
  refine dn_val rfl rfl rfl rfl rfl rfl (by decide) ?_
  refine d_val (s_pickT rfl rfl rfl) rfl ?_
  refine d_val (s_move rfl rfl) rfl ?_
  refine dn_val rfl rfl rfl rfl rfl rfl (by decide) ?_
  refine dn_val rfl rfl rfl rfl rfl rfl (by decide) ?_
  refine dn_val rfl rfl rfl rfl rfl rfl (by decide) ?_
  refine dn_val rfl rfl rfl rfl rfl rfl (by decide) ?_
  refine dn_val rfl rfl rfl rfl rfl rfl (by decide) ?_
  refine d_val (s_pickT rfl rfl rfl) rfl ?_
  refine d_val (s_move rfl rfl) rfl ?_
  refine dn_val rfl rfl rfl rfl rfl rfl (by decide) ?_
  refine dn_val rfl rfl rfl rfl rfl rfl (by decide) ?_
  refine dn_val rfl rfl rfl rfl rfl rfl (by decide) ?_
  refine dn_val rfl rfl rfl rfl rfl rfl (by decide) ?_
  refine dn_val rfl rfl rfl rfl rfl rfl (by decide) ?_
  refine dn_val rfl rfl rfl rfl rfl rfl (by decide) ?_
  refine dn_val rfl rfl rfl rfl rfl rfl (by decide) ?_
  refine dn_val rfl rfl rfl rfl rfl rfl (by decide) ?_
  refine dn_val rfl rfl rfl rfl rfl rfl (by decide) ?_
  refine d_val (s_pickT rfl rfl rfl) rfl ?_
  refine d_val (s_move rfl rfl) rfl ?_
  refine dn_val rfl rfl rfl rfl rfl rfl (by decide) ?_
  refine dn_val rfl rfl rfl rfl rfl rfl (by decide) ?_
  refine dn_val rfl rfl rfl rfl rfl rfl (by decide) ?_
  refine d_val (s_pickT rfl rfl rfl) rfl ?_
  refine d_val (s_move rfl rfl) rfl ?_
  refine dn_val rfl rfl rfl rfl rfl rfl (by decide) ?_
  refine dn_val rfl rfl rfl rfl rfl rfl (by decide) ?_
  refine dn_val rfl rfl rfl rfl rfl rfl (by decide) ?_
  refine d_val (s_pickT rfl rfl rfl) rfl ?_
  refine d_nil rfl ?_
  refine vc_cond rfl (fun _ => ?_) (fun h => by cases h)
  refine vc_rseq mixed ?_
  refine g_val (s_assign rfl rfl) rfl ?_
  refine g_nil ?_
  exact vc_ret (ret_of _ (.cons (.tmp rfl) .nil) (by simp only [single]; rw [decide_eq_false]; rintro ⟨h1, h2, h3, h4, h5, h6, h7, h8, h9, h10, h11, h12⟩; omega) rfl)
  rw [← hg27]; replace hg27 := hg27.symm; replace hg27 := of_decide_eq_true hg27
  refine dn_val rfl rfl rfl rfl rfl rfl (by decide) ?_
  refine dn_val rfl rfl rfl rfl rfl rfl (by decide) ?_
  refine dn_val rfl rfl rfl rfl rfl rfl (by decide) ?_
  refine d_val (s_pickT rfl rfl rfl) rfl ?_
  refine d_val (s_move rfl rfl) rfl ?_
  refine dn_val rfl rfl rfl rfl rfl rfl (by decide) ?_
  refine dn_val rfl rfl rfl rfl rfl rfl (by decide) ?_
  refine dn_val rfl rfl rfl rfl rfl rfl (by decide) ?_
  refine d_val (s_pickT rfl rfl rfl) rfl ?_
  refine d_val (s_move rfl rfl) rfl ?_
  refine dn_val rfl rfl rfl rfl rfl rfl (by decide) ?_
  refine dn_val rfl rfl rfl rfl rfl rfl (by decide) ?_
  refine dn_val rfl rfl rfl rfl rfl rfl (by decide) ?_
  refine dn_val rfl rfl rfl rfl rfl rfl (by decide) ?_
  refine dn_val rfl rfl rfl rfl rfl rfl (by decide) ?_
  refine d_val (s_pickT rfl rfl rfl) rfl ?_
  refine d_val (s_move rfl rfl) rfl ?_
  refine dn_val rfl rfl rfl rfl rfl rfl (by decide) ?_
  refine dn_val rfl rfl rfl rfl rfl rfl (by decide) ?_
  refine dn_val rfl rfl rfl rfl rfl rfl (by decide) ?_
  refine dn_val rfl rfl rfl rfl rfl rfl (by decide) ?_
  refine dn_val rfl rfl rfl rfl rfl rfl (by decide) ?_
  refine dn_val rfl rfl rfl rfl rfl rfl (by decide) ?_
  refine dn_val rfl rfl rfl rfl rfl rfl (by decide) ?_
  refine dn_val rfl rfl rfl rfl rfl rfl (by decide) ?_
  refine dn_val rfl rfl rfl rfl rfl rfl (by decide) ?_
  refine d_val (s_pickT rfl rfl rfl) rfl ?_
  refine d_val (s_move rfl rfl) rfl ?_
  refine dn_val rfl rfl rfl rfl rfl rfl (by decide) ?_
  refine dn_val rfl rfl rfl rfl rfl rfl (by decide) ?_
  refine dn_val rfl rfl rfl rfl rfl rfl (by decide) ?_
  refine d_val (s_pickT rfl rfl rfl) rfl ?_
  refine d_val (s_move rfl rfl) rfl ?_
  refine dn_val rfl rfl rfl rfl rfl rfl (by decide) ?_
  refine dn_val rfl rfl rfl rfl rfl rfl (by decide) ?_
  refine dn_val rfl rfl rfl rfl rfl rfl (by decide) ?_
  refine d_val (s_pickT rfl rfl rfl) rfl ?_
  refine d_nil rfl ?_
  refine vc_cond rfl (fun _ => ?_) (fun h => by cases h)
  refine vc_rseq mixed ?_
  refine g_val (s_assign rfl rfl) rfl ?_
  refine g_nil ?_
  exact vc_ret (ret_of _ (.cons (.tmp rfl) .nil) (by simp only [single]; rw [decide_eq_false]; rintro ⟨h1, h2, h3, h4, h5, h6, h7, h8, h9, h10, h11, h12⟩; omega) rfl)
  rw [← hg22]; replace hg22 := hg22.symm; replace hg22 := of_decide_eq_true hg22
  refine dn_val rfl rfl rfl rfl rfl rfl (by decide) ?_
  refine dn_val rfl rfl rfl rfl rfl rfl (by decide) ?_
  refine dn_val rfl rfl rfl rfl rfl rfl (by decide) ?_
  refine d_val (s_pickT rfl rfl rfl) rfl ?_
  refine d_val (s_move rfl rfl) rfl ?_
  refine dn_val rfl rfl rfl rfl rfl rfl (by decide) ?_
  refine dn_val rfl rfl rfl rfl rfl rfl (by decide) ?_
  refine dn_val rfl rfl rfl rfl rfl rfl (by decide) ?_
  refine d_val (s_pickT rfl rfl rfl) rfl ?_
  refine d_val (s_move rfl rfl) rfl ?_
  refine dn_val rfl rfl rfl rfl rfl rfl (by decide) ?_
  refine dn_val rfl rfl rfl rfl rfl rfl (by decide) ?_
  refine dn_val rfl rfl rfl rfl rfl rfl (by decide) ?_
  refine d_val (s_pickT rfl rfl rfl) rfl ?_
  refine d_val (s_move rfl rfl) rfl ?_
  refine dn_val rfl rfl rfl rfl rfl rfl (by decide) ?_
  refine dn_val rfl rfl rfl rfl rfl rfl (by decide) ?_
  refine dn_val rfl rfl rfl rfl rfl rfl (by decide) ?_
  refine dn_val rfl rfl rfl rfl rfl rfl (by decide) ?_
  refine dn_val rfl rfl rfl rfl rfl rfl (by decide) ?_
  refine d_val (s_pickT rfl rfl rfl) rfl ?_
  refine d_val (s_move rfl rfl) rfl ?_
  refine dn_val rfl rfl rfl rfl rfl rfl (by decide) ?_
  refine dn_val rfl rfl rfl rfl rfl rfl (by decide) ?_
  refine dn_val rfl rfl rfl rfl rfl rfl (by decide) ?_
  refine dn_val rfl rfl rfl rfl rfl rfl (by decide) ?_
  refine dn_val rfl rfl rfl rfl rfl rfl (by decide) ?_
  refine dn_val rfl rfl rfl rfl rfl rfl (by decide) ?_
  refine dn_val rfl rfl rfl rfl rfl rfl (by decide) ?_
  refine dn_val rfl rfl rfl rfl rfl rfl (by decide) ?_
  refine dn_val rfl rfl rfl rfl rfl rfl (by decide) ?_
  refine d_val (s_pickT rfl rfl rfl) rfl ?_
  refine d_val (s_move rfl rfl) rfl ?_
  refine dn_val rfl rfl rfl rfl rfl rfl (by decide) ?_
  refine dn_val rfl rfl rfl rfl rfl rfl (by decide) ?_
  refine dn_val rfl rfl rfl rfl rfl rfl (by decide) ?_
  refine d_val (s_pickT rfl rfl rfl) rfl ?_
  refine d_val (s_move rfl rfl) rfl ?_
  refine dn_val rfl rfl rfl rfl rfl rfl (by decide) ?_
  refine dn_val rfl rfl rfl rfl rfl rfl (by decide) ?_
  refine dn_val rfl rfl rfl rfl rfl rfl (by decide) ?_
  refine d_val (s_pickT rfl rfl rfl) rfl ?_
  refine d_nil rfl ?_
  refine vc_cond rfl (fun _ => ?_) (fun h => by cases h)
  refine vc_rseq mixed ?_
  refine g_val (s_assign rfl rfl) rfl ?_
  refine g_nil ?_
  exact vc_ret (ret_of _ (.cons (.tmp rfl) .nil) (by simp only [single]; rw [decide_eq_false]; rintro ⟨h1, h2, h3, h4, h5, h6, h7, h8, h9, h10, h11, h12⟩; omega) rfl)
  rw [← hg17]; replace hg17 := hg17.symm; replace hg17 := of_decide_eq_true hg17
  refine dn_val rfl rfl rfl rfl rfl rfl (by decide) ?_
  refine dn_val rfl rfl rfl rfl rfl rfl (by decide) ?_
  refine dn_val rfl rfl rfl rfl rfl rfl (by decide) ?_
  refine d_val (s_pickT rfl rfl rfl) rfl ?_
  refine d_val (s_move rfl rfl) rfl ?_
  refine dn_val rfl rfl rfl rfl rfl rfl (by decide) ?_
  refine dn_val rfl rfl rfl rfl rfl rfl (by decide) ?_
  refine dn_val rfl rfl rfl rfl rfl rfl (by decide) ?_
  refine d_val (s_pickT rfl rfl rfl) rfl ?_
  refine d_val (s_move rfl rfl) rfl ?_
  refine dn_val rfl rfl rfl rfl rfl rfl (by decide) ?_
  refine dn_val rfl rfl rfl rfl rfl rfl (by decide) ?_
  refine dn_val rfl rfl rfl rfl rfl rfl (by decide) ?_
  refine d_val (s_pickT rfl rfl rfl) rfl ?_
  refine d_val (s_move rfl rfl) rfl ?_
  refine dn_val rfl rfl rfl rfl rfl rfl (by decide) ?_
  refine dn_val rfl rfl rfl rfl rfl rfl (by decide) ?_
  refine dn_val rfl rfl rfl rfl rfl rfl (by decide) ?_
  refine d_val (s_pickT rfl rfl rfl) rfl ?_
  refine d_val (s_move rfl rfl) rfl ?_
  refine dn_val rfl rfl rfl rfl rfl rfl (by decide) ?_
  refine dn_val rfl rfl rfl rfl rfl rfl (by decide) ?_
  refine dn_val rfl rfl rfl rfl rfl rfl (by decide) ?_
  refine dn_val rfl rfl rfl rfl rfl rfl (by decide) ?_
  refine dn_val rfl rfl rfl rfl rfl rfl (by decide) ?_
  refine d_val (s_pickT rfl rfl rfl) rfl ?_
  refine d_val (s_move rfl rfl) rfl ?_
  refine dn_val rfl rfl rfl rfl rfl rfl (by decide) ?_
  refine dn_val rfl rfl rfl rfl rfl rfl (by decide) ?_
  refine dn_val rfl rfl rfl rfl rfl rfl (by decide) ?_
  refine dn_val rfl rfl rfl rfl rfl rfl (by decide) ?_
  refine dn_val rfl rfl rfl rfl rfl rfl (by decide) ?_
  refine dn_val rfl rfl rfl rfl rfl rfl (by decide) ?_
  refine dn_val rfl rfl rfl rfl rfl rfl (by decide) ?_
  refine dn_val rfl rfl rfl rfl rfl rfl (by decide) ?_
  refine dn_val rfl rfl rfl rfl rfl rfl (by decide) ?_
  refine d_val (s_pickT rfl rfl rfl) rfl ?_
  refine d_val (s_move rfl rfl) rfl ?_
  refine dn_val rfl rfl rfl rfl rfl rfl (by decide) ?_
  refine dn_val rfl rfl rfl rfl rfl rfl (by decide) ?_
  refine dn_val rfl rfl rfl rfl rfl rfl (by decide) ?_
  refine d_val (s_pickT rfl rfl rfl) rfl ?_
  refine d_val (s_move rfl rfl) rfl ?_
  refine dn_val rfl rfl rfl rfl rfl rfl (by decide) ?_
  refine dn_val rfl rfl rfl rfl rfl rfl (by decide) ?_
  refine dn_val rfl rfl rfl rfl rfl rfl (by decide) ?_
  refine d_val (s_pickT rfl rfl rfl) rfl ?_
  refine d_nil rfl ?_
  refine vc_cond rfl (fun _ => ?_) (fun h => by cases h)
  refine vc_rseq mixed ?_
  refine g_val (s_assign rfl rfl) rfl ?_
  refine g_nil ?_
  exact vc_ret (ret_of _ (.cons (.tmp rfl) .nil) (by simp only [single]; rw [decide_eq_false]; rintro ⟨h1, h2, h3, h4, h5, h6, h7, h8, h9, h10, h11, h12⟩; omega) rfl)
  rw [← hg12]; replace hg12 := hg12.symm; replace hg12 := of_decide_eq_true hg12
  refine dn_val rfl rfl rfl rfl rfl rfl (by decide) ?_
  refine dn_val rfl rfl rfl rfl rfl rfl (by decide) ?_
  refine dn_val rfl rfl rfl rfl rfl rfl (by decide) ?_
  refine d_val (s_pickT rfl rfl rfl) rfl ?_
  refine d_val (s_move rfl rfl) rfl ?_
  refine dn_val rfl rfl rfl rfl rfl rfl (by decide) ?_
  refine dn_val rfl rfl rfl rfl rfl rfl (by decide) ?_
  refine dn_val rfl rfl rfl rfl rfl rfl (by decide) ?_
  refine d_val (s_pickT rfl rfl rfl) rfl ?_
  refine d_val (s_move rfl rfl) rfl ?_
  refine dn_val rfl rfl rfl rfl rfl rfl (by decide) ?_
  refine dn_val rfl rfl rfl rfl rfl rfl (by decide) ?_
  refine dn_val rfl rfl rfl rfl rfl rfl (by decide) ?_
  refine d_val (s_pickT rfl rfl rfl) rfl ?_
  refine d_val (s_move rfl rfl) rfl ?_
  refine dn_val rfl rfl rfl rfl rfl rfl (by decide) ?_
  refine dn_val rfl rfl rfl rfl rfl rfl (by decide) ?_
  refine dn_val rfl rfl rfl rfl rfl rfl (by decide) ?_
  refine d_val (s_pickT rfl rfl rfl) rfl ?_
  refine d_val (s_move rfl rfl) rfl ?_
  refine dn_val rfl rfl rfl rfl rfl rfl (by decide) ?_
  refine dn_val rfl rfl rfl rfl rfl rfl (by decide) ?_
  refine dn_val rfl rfl rfl rfl rfl rfl (by decide) ?_
  refine d_val (s_pickT rfl rfl rfl) rfl ?_
  refine d_val (s_move rfl rfl) rfl ?_
  refine dn_val rfl rfl rfl rfl rfl rfl (by decide) ?_
  refine dn_val rfl rfl rfl rfl rfl rfl (by decide) ?_
  refine dn_val rfl rfl rfl rfl rfl rfl (by decide) ?_
  refine dn_val rfl rfl rfl rfl rfl rfl (by decide) ?_
  refine dn_val rfl rfl rfl rfl rfl rfl (by decide) ?_
  refine d_val (s_pickT rfl rfl rfl) rfl ?_
  refine d_val (s_move rfl rfl) rfl ?_
  refine dn_val rfl rfl rfl rfl rfl rfl (by decide) ?_
  refine dn_val rfl rfl rfl rfl rfl rfl (by decide) ?_
  refine dn_val rfl rfl rfl rfl rfl rfl (by decide) ?_
  refine dn_val rfl rfl rfl rfl rfl rfl (by decide) ?_
  refine dn_val rfl rfl rfl rfl rfl rfl (by decide) ?_
  refine dn_val rfl rfl rfl rfl rfl rfl (by decide) ?_
  refine dn_val rfl rfl rfl rfl rfl rfl (by decide) ?_
  refine dn_val rfl rfl rfl rfl rfl rfl (by decide) ?_
  refine dn_val rfl rfl rfl rfl rfl rfl (by decide) ?_
  refine d_val (s_pickT rfl rfl rfl) rfl ?_
  refine d_val (s_move rfl rfl) rfl ?_
  refine dn_val rfl rfl rfl rfl rfl rfl (by decide) ?_
  refine dn_val rfl rfl rfl rfl rfl rfl (by decide) ?_
  refine dn_val rfl rfl rfl rfl rfl rfl (by decide) ?_
  refine d_val (s_pickT rfl rfl rfl) rfl ?_
  refine d_val (s_move rfl rfl) rfl ?_
  refine dn_val rfl rfl rfl rfl rfl rfl (by decide) ?_
  refine dn_val rfl rfl rfl rfl rfl rfl (by decide) ?_
  refine dn_val rfl rfl rfl rfl rfl rfl (by decide) ?_
  refine d_val (s_pickT rfl rfl rfl) rfl ?_
  refine d_nil rfl ?_
  refine vc_cond rfl (fun _ => ?_) (fun h => by cases h)
  refine vc_rseq mixed ?_
  refine g_val (s_assign rfl rfl) rfl ?_
  refine g_nil ?_
  exact vc_ret (ret_of _ (.cons (.tmp rfl) .nil) (by simp only [single]; rw [decide_eq_false]; rintro ⟨h1, h2, h3, h4, h5, h6, h7, h8, h9, h10, h11, h12⟩; omega) rfl)
  rw [← hg7]; replace hg7 := hg7.symm; replace hg7 := of_decide_eq_true hg7
  refine dn_val rfl rfl rfl rfl rfl rfl (by decide) ?_
  refine dn_val rfl rfl rfl rfl rfl rfl (by decide) ?_
  refine dn_val rfl rfl rfl rfl rfl rfl (by decide) ?_
  refine d_val (s_pickT rfl rfl rfl) rfl ?_
  refine d_val (s_move rfl rfl) rfl ?_
  refine dn_val rfl rfl rfl rfl rfl rfl (by decide) ?_
  refine dn_val rfl rfl rfl rfl rfl rfl (by decide) ?_
  refine dn_val rfl rfl rfl rfl rfl rfl (by decide) ?_
  refine d_val (s_pickT rfl rfl rfl) rfl ?_
  refine d_val (s_move rfl rfl) rfl ?_
  refine dn_val rfl rfl rfl rfl rfl rfl (by decide) ?_
  refine dn_val rfl rfl rfl rfl rfl rfl (by decide) ?_
  refine dn_val rfl rfl rfl rfl rfl rfl (by decide) ?_
  refine d_val (s_pickT rfl rfl rfl) rfl ?_
  refine d_val (s_move rfl rfl) rfl ?_
  refine dn_val rfl rfl rfl rfl rfl rfl (by decide) ?_
  refine dn_val rfl rfl rfl rfl rfl rfl (by decide) ?_
  refine dn_val rfl rfl rfl rfl rfl rfl (by decide) ?_
  refine d_val (s_pickT rfl rfl rfl) rfl ?_
  refine d_val (s_move rfl rfl) rfl ?_
  refine dn_val rfl rfl rfl rfl rfl rfl (by decide) ?_
  refine dn_val rfl rfl rfl rfl rfl rfl (by decide) ?_
  refine dn_val rfl rfl rfl rfl rfl rfl (by decide) ?_
  refine d_val (s_pickT rfl rfl rfl) rfl ?_
  refine d_val (s_move rfl rfl) rfl ?_
  refine dn_val rfl rfl rfl rfl rfl rfl (by decide) ?_
  refine dn_val rfl rfl rfl rfl rfl rfl (by decide) ?_
  refine dn_val rfl rfl rfl rfl rfl rfl (by decide) ?_
  refine d_val (s_pickT rfl rfl rfl) rfl ?_
  refine d_val (s_move rfl rfl) rfl ?_
  refine dn_val rfl rfl rfl rfl rfl rfl (by decide) ?_
  refine dn_val rfl rfl rfl rfl rfl rfl (by decide) ?_
  refine dn_val rfl rfl rfl rfl rfl rfl (by decide) ?_
  refine dn_val rfl rfl rfl rfl rfl rfl (by decide) ?_
  refine dn_val rfl rfl rfl rfl rfl rfl (by decide) ?_
  refine d_val (s_pickT rfl rfl rfl) rfl ?_
  refine d_val (s_move rfl rfl) rfl ?_
  refine dn_val rfl rfl rfl rfl rfl rfl (by decide) ?_
  refine dn_val rfl rfl rfl rfl rfl rfl (by decide) ?_
  refine dn_val rfl rfl rfl rfl rfl rfl (by decide) ?_
  refine dn_val rfl rfl rfl rfl rfl rfl (by decide) ?_
  refine dn_val rfl rfl rfl rfl rfl rfl (by decide) ?_
  refine dn_val rfl rfl rfl rfl rfl rfl (by decide) ?_
  refine dn_val rfl rfl rfl rfl rfl rfl (by decide) ?_
  refine dn_val rfl rfl rfl rfl rfl rfl (by decide) ?_
  refine dn_val rfl rfl rfl rfl rfl rfl (by decide) ?_
  refine d_val (s_pickT rfl rfl rfl) rfl ?_
  refine d_val (s_move rfl rfl) rfl ?_
  refine dn_val rfl rfl rfl rfl rfl rfl (by decide) ?_
  refine dn_val rfl rfl rfl rfl rfl rfl (by decide) ?_
  refine dn_val rfl rfl rfl rfl rfl rfl (by decide) ?_
  refine d_val (s_pickT rfl rfl rfl) rfl ?_
  refine d_val (s_move rfl rfl) rfl ?_
  refine dn_val rfl rfl rfl rfl rfl rfl (by decide) ?_
  refine dn_val rfl rfl rfl rfl rfl rfl (by decide) ?_
  refine dn_val rfl rfl rfl rfl rfl rfl (by decide) ?_
  refine d_val (s_pickT rfl rfl rfl) rfl ?_
  refine d_nil rfl ?_
  refine vc_cond rfl (fun _ => ?_) (fun h => by cases h)
  refine vc_rseq mixed ?_
  refine g_val (s_assign rfl rfl) rfl ?_
  refine g_nil ?_
  exact vc_ret (ret_of _ (.cons (.tmp rfl) .nil) (by simp only [single]; rw [decide_eq_false]; rintro ⟨h1, h2, h3, h4, h5, h6, h7, h8, h9, h10, h11, h12⟩; omega) rfl)

end Go.Eng

set_option maxHeartbeats 1000000
namespace Go.Eng
open Go.Proofs

theorem c_volume_shape_1 (g : Int) : Con Try.prog 58 [AI .i64 g] [] (AB (!decide (1 ≤ g ∧ g ≤ 7))) [] := by
  refine con_intro [] [] Try.func58 rfl Try.ntmps58 Try.results58 rfl rfl ?_
  intro E
  refine vc_rseq mixed ?_
  refine g_val (s_assign rfl rfl) rfl ?_
  refine g_nil ?_
  refine vc_rseq mixed ?_
  refine g_val (s_move rfl rfl) rfl ?_
  refine g_val (s_call [] (c_volume_within ..) (evArgs_cons rfl (evArgs_cons rfl (evArgs_cons rfl evArgs_nil))) trivial rfl (okVL_nil _) rfl (.inl rfl) rfl) rfl ?_
  refine g_val (s_not rfl rfl) rfl ?_
  refine g_val (s_assign rfl rfl) rfl ?_
  refine g_nil ?_
  exact vc_ret (ret_of _ (.cons (.tmp rfl) .nil) (by simp [single]) rfl)

def idxF (p : Int → Bool) (l : List Int) : Int := match l.findIdx? p with | some i => i | none => -1

theorem findIdx_none {α : Type} {p : α → Bool} {l : List α} (h : ∀ j : Nat, j < l.length → ∀ z, l[j]? = some z → p z = false) : l.findIdx? p = none := by
  rw [List.findIdx?_eq_none_iff]
  intro z hz
  obtain ⟨j, hj⟩ := List.mem_iff_getElem?.1 hz
  exact h j (List.getElem?_eq_some_iff.1 hj).1 z hj
theorem findIdx_some {α : Type} {p : α → Bool} {l : List α} {i : Nat} {x : α} (hx : l[i]? = some x) (hp : p x = true) (h : ∀ j : Nat, j < i → ∀ z, l[j]? = some z → p z = false) : l.findIdx? p = some i := by
  obtain ⟨hi, he⟩ := List.getElem?_eq_some_iff.1 hx
  rw [List.findIdx?_eq_some_iff_getElem]
  refine ⟨hi, by rw [he]; exact hp, fun j hj => ?_⟩
  have := h j hj _ (List.getElem?_eq_getElem (by omega))
  simp [this]

theorem c_IndexFunc_int (l : List Int) (g : Nat) [FnC Try.prog g] (p : Int → Bool) (hp : ∀ z, Con Try.prog g [AI .i64 z] [] (AB (p z)) []) : Con Try.prog 72 [.t (intsT l), .fn g []] [] (AI .i64 (idxF p l)) [] := by
  refine con_intro [] [] Try.func72 rfl Try.ntmps72 Try.results72 rfl rfl ?_
  intro E
  refine vc_okT (i := 0) rfl fun ok0 => ?_
  have hla := ok0.len
  rw [List.length_map] at hla
  refine vc_rseq mixed ?_
  refine g_val (s_assign rfl rfl) rfl ?_
  refine g_nil ?_
  refine vc_seq ?_
  refine vc_rseq mixed ?_
  refine g_val (s_move rfl rfl) rfl ?_
  refine g_val (s_len rfl rfl) rfl ?_
  refine g_val (s_move rfl rfl) rfl ?_
  refine g_nil ?_
  refine vc_block ?_
  refine vc_up l.length (fun i => ⟨[(0, .t (intsT l)), (1, .fn g []), (7, AI .i64 l.length), (8, AI .i64 i)], [], []⟩) (fun i => ∀ j : Nat, j < i → ∀ z, l[j]? = some z → p z = false) (leE_same (by repeat (first | exact letm_nil _ _ | refine letm_cons rfl ?_ ?_ | exact .same _ | exact .id' rfl | exact .id' (by simp only [List.length_map]; done))) (by repeat (first | exact lehp_nil _ _ | refine lehp_cons rfl ?_ ?_ | exact leB_same _ | exact leB_row (by first | rfl | (simp only [List.length_map]; done)) | refine leB_box ?_ | exact leL_nil | refine leL_cons ?_ ?_ | exact .same _ | exact .id' rfl | exact .id' (by simp only [List.length_map]; done))) rfl) (fun j h => by omega) (fun i hi hJ => ?_)
  refine vc_rseq mixed ?_
  refine g_val (s_lss rfl rfl rfl) rfl ?_
  refine g_nil ?_
  refine vc_seq ?_
  refine vc_cond rfl (fun hc9 => ?_) (fun hc9 => ?_)
  replace hc9 := of_decide_eq_true hc9
  obtain ⟨x, hx⟩ := get_of_lt (l := l) (i := i) (by omega)
  refine vc_skip ?_
  refine vc_seq ?_
  refine vc_block ?_
  refine vc_rseq mixed ?_
  refine g_val (s_move rfl rfl) rfl ?_
  refine g_val (s_assign rfl rfl) rfl ?_
  refine g_nil ?_
  refine vc_rseq mixed ?_
  refine g_val (s_move rfl rfl) rfl ?_
  refine g_val (s_move rfl rfl) rfl ?_
  refine g_val (s_move rfl rfl) rfl ?_
  refine g_val (s_index rfl rfl rfl (by omega) (idx_map hx)) rfl ?_
  refine g_val (s_loadT rfl rfl rfl) rfl ?_
  refine g_val (s_callV [] [] (hp x) rfl (evArgs_cons rfl evArgs_nil) trivial rfl (okVL_nil _) rfl rfl rfl) rfl ?_
  refine g_nil ?_
  refine vc_cond rfl (fun hc16 => ?_) (fun hc16 => ?_)
  refine vc_rseq mixed ?_
  refine g_val (s_move rfl rfl) rfl ?_
  refine g_val (s_assign rfl rfl) rfl ?_
  refine g_nil ?_
  exact vc_ret (ret_of _ (.cons (.tmp rfl) .nil) (by simp only [single, idxF]; rw [findIdx_some hx hc16 hJ]) rfl)
  refine vc_skip ?_
  refine vc_region mixed ?_
  refine g_val (s_add rfl rfl rfl (by simp only [inI, kMin, kMax]; omega)) rfl ?_
  refine g_val (s_move rfl rfl) rfl ?_
  refine g_nil ?_
  exact ⟨by omega, fun j hj z hz => by rcases Nat.lt_succ_iff_lt_or_eq.1 hj with h | rfl; exact hJ j h z hz; rw [hx] at hz; injection hz with hz; subst hz; exact hc16, (leE_same (by repeat (first | exact letm_nil _ _ | refine letm_cons rfl ?_ ?_ | exact .same _ | exact .id' rfl | exact .id' (by simp; done))) (by repeat (first | exact lehp_nil _ _ | refine lehp_cons rfl ?_ ?_ | exact leB_same _ | exact leB_row (by first | rfl | (simp; done)) | refine leB_box ?_ | exact leL_nil | refine leL_cons ?_ ?_ | exact .same _ | exact .id' rfl | exact .id' (by simp; done))) rfl)⟩
  replace hc9 := of_decide_eq_false hc9
  simp only [Int.not_lt] at hc9
  refine vc_exit ?_
  refine vc_rseq mixed ?_
  refine g_val (s_assign rfl rfl) rfl ?_
  refine g_nil ?_
  exact vc_ret (ret_of _ (.cons (.tmp rfl) .nil) (by simp only [single, idxF]; rw [findIdx_none fun j hj => hJ j (by omega)]; done) rfl)

theorem c_ContainsFunc_int (l : List Int) (g : Nat) [FnC Try.prog g] (p : Int → Bool) (hp : ∀ z, Con Try.prog g [AI .i64 z] [] (AB (p z)) []) : Con Try.prog 57 [.t (intsT l), .fn g []] [] (AB (decide (0 ≤ idxF p l))) [] := by
  refine con_intro [] [] Try.func57 rfl Try.ntmps57 Try.results57 rfl rfl ?_
  intro E
  refine vc_rseq mixed ?_
  refine g_val (s_assign rfl rfl) rfl ?_
  refine g_nil ?_
  refine vc_rseq mixed ?_
  refine g_val (s_move rfl rfl) rfl ?_
  refine g_val (s_move rfl rfl) rfl ?_
  refine g_val (s_call [] (c_IndexFunc_int l g p hp) (evArgs_cons rfl (evArgs_cons rfl evArgs_nil)) trivial rfl (okVL_nil _) rfl (.inl rfl) rfl) rfl ?_
  refine g_val (s_geq rfl rfl rfl) rfl ?_
  refine g_val (s_assign rfl rfl) rfl ?_
  refine g_nil ?_
  exact vc_ret (ret_of _ (.cons (.tmp rfl) .nil) (by simp [single]) rfl)

theorem idxF_neg {p : Int → Bool} {l : List Int} : ¬ (0 ≤ idxF p l) ↔ ∀ z ∈ l, p z = false := by
  unfold idxF
  cases h : l.findIdx? p with
  | none => simpa using h
  | some i =>
    have := List.findIdx?_eq_some_iff_getElem.1 h
    obtain ⟨hi, h1, _⟩ := this
    constructor
    intro h2; exfalso; apply h2; simp
    intro h2; have := h2 _ (List.getElem_mem hi); rw [this] at h1; cases h1

theorem c_volume_shape (v : Volume) : Con Try.prog 35 [sC (volC v)] [] (AB (decide (shapeOK v.id v.blocks v.size v.per v.place v.total))) [] := by
  refine con_intro [] [] Try.func35 rfl Try.ntmps35 Try.results35 rfl rfl ?_
  intro E
  refine vc_rseq mixed ?_
  refine g_new (s_box 1 rfl rfl rfl rfl) rfl ?_
  refine g_val (s_assign rfl rfl) rfl ?_
  refine g_nil ?_
  refine vc_seq ?_
  refine vc_rseq mixed ?_
  refine d_val (s_field rfl rfl rfl rfl) rfl ?_
  refine d_val (s_load rfl rfl rfl rfl) rfl ?_
  refine d_val (s_call [] (c_volume_within ..) (evArgs_cons rfl (evArgs_cons rfl (evArgs_cons rfl evArgs_nil))) trivial rfl (okVL_nil _) rfl (.inl rfl) rfl) rfl ?_
  refine d_val (s_not rfl rfl) rfl ?_
  refine d_val (s_move rfl rfl) rfl ?_
  refine g_probe (j := 7) rfl (fun c hg7 => ?_)
  cases c
  rw [← hg7]; replace hg7 := hg7.symm
  simp only [Bool.not_eq_false', decide_eq_true_eq] at hg7
  refine dq_val (s_field rfl rfl rfl rfl) rfl rfl rfl rfl ?_
  refine dq_val (s_load rfl rfl rfl rfl) rfl rfl rfl rfl ?_
  refine dq_val (s_call [] (c_volume_within ..) (evArgs_cons rfl (evArgs_cons rfl (evArgs_cons rfl evArgs_nil))) trivial rfl (okVL_nil _) rfl (.inl rfl) rfl) rfl rfl rfl rfl ?_
  refine dq_val (s_not rfl rfl) rfl rfl rfl rfl ?_
  refine d_val (s_pickF rfl rfl rfl) rfl ?_
  refine d_val (s_move rfl rfl) rfl ?_
  refine g_probe (j := 13) rfl (fun c hg13 => ?_)
  cases c
  rw [← hg13]; replace hg13 := hg13.symm
  simp only [Bool.not_eq_false', decide_eq_true_eq] at hg13
  refine dq_val (s_field rfl rfl rfl rfl) rfl rfl rfl rfl ?_
  refine dq_val (s_load rfl rfl rfl rfl) rfl rfl rfl rfl ?_
  refine dq_val (s_call [] (c_volume_within ..) (evArgs_cons rfl (evArgs_cons rfl (evArgs_cons rfl evArgs_nil))) trivial rfl (okVL_nil _) rfl (.inl rfl) rfl) rfl rfl rfl rfl ?_
  refine dq_val (s_not rfl rfl) rfl rfl rfl rfl ?_
  refine d_val (s_pickF rfl rfl rfl) rfl ?_
  refine d_val (s_move rfl rfl) rfl ?_
  refine g_probe (j := 19) rfl (fun c hg19 => ?_)
  cases c
  rw [← hg19]; replace hg19 := hg19.symm
  simp only [Bool.not_eq_false', decide_eq_true_eq] at hg19
  refine dq_val (s_field rfl rfl rfl rfl) rfl rfl rfl rfl ?_
  refine dq_val (s_load rfl rfl rfl rfl) rfl rfl rfl rfl ?_
  refine dq_val (s_field rfl rfl rfl rfl) rfl rfl rfl rfl ?_
  refine dq_val (s_load rfl rfl rfl rfl) rfl rfl rfl rfl ?_
  refine dq_val (s_call [] (c_volume_within ..) (evArgs_cons rfl (evArgs_cons rfl (evArgs_cons rfl evArgs_nil))) trivial rfl (okVL_nil _) rfl (.inl rfl) rfl) rfl rfl rfl rfl ?_
  refine dq_val (s_not rfl rfl) rfl rfl rfl rfl ?_
  refine d_val (s_pickF rfl rfl rfl) rfl ?_
  refine d_val (s_move rfl rfl) rfl ?_
  refine g_probe (j := 27) rfl (fun c hg27 => ?_)
  cases c
  rw [← hg27]; replace hg27 := hg27.symm
  simp only [Bool.not_eq_false', decide_eq_true_eq] at hg27
  refine dq_val (s_field rfl rfl rfl rfl) rfl rfl rfl rfl ?_
  refine dq_val (s_load rfl rfl rfl rfl) rfl rfl rfl rfl ?_
  refine dq_val (s_len rfl rfl) rfl rfl rfl rfl ?_
  refine dq_val (s_field rfl rfl rfl rfl) rfl rfl rfl rfl ?_
  refine dq_val (s_load rfl rfl rfl rfl) rfl rfl rfl rfl ?_
  refine dq_val (s_field rfl rfl rfl rfl) rfl rfl rfl rfl ?_
  refine dq_val (s_load rfl rfl rfl rfl) rfl rfl rfl rfl ?_
  refine dq_val (s_add rfl rfl rfl (by simp only [inI, kMin, kMax]; omega)) rfl rfl rfl rfl ?_
  refine dq_val (s_sub rfl rfl rfl (by simp only [inI, kMin, kMax]; omega)) rfl rfl rfl rfl ?_
  refine dq_val (s_field rfl rfl rfl rfl) rfl rfl rfl rfl ?_
  refine dq_val (s_load rfl rfl rfl rfl) rfl rfl rfl rfl ?_
  refine dq_val (s_quo rfl rfl rfl (by omega) (by omega)) rfl rfl rfl rfl ?_
  refine dq_val (s_neq rfl rfl rfl) rfl rfl rfl rfl ?_
  refine d_val (s_pickF rfl rfl rfl) rfl ?_
  refine d_val (s_move rfl rfl) rfl ?_
  refine g_probe (j := 42) rfl (fun c hg42 => ?_)
  cases c
  rw [← hg42]; replace hg42 := hg42.symm; replace hg42 := of_decide_eq_false hg42
  simp only [List.length_map, ne_eq, Decidable.not_not] at hg42
  refine dq_val (s_field rfl rfl rfl rfl) rfl rfl rfl rfl ?_
  refine dq_val (s_load rfl rfl rfl rfl) rfl rfl rfl rfl ?_
  refine dq_val (s_call [] (c_volume_within ..) (evArgs_cons rfl (evArgs_cons rfl (evArgs_cons rfl evArgs_nil))) trivial rfl (okVL_nil _) rfl (.inl rfl) rfl) rfl rfl rfl rfl ?_
  refine dq_val (s_not rfl rfl) rfl rfl rfl rfl ?_
  refine d_val (s_pickF rfl rfl rfl) rfl ?_
  refine d_nil rfl ?_
  refine vc_cond rfl (fun hc47 => ?_) (fun hc47 => ?_)
  simp only [Bool.not_eq_true', decide_eq_false_iff_not] at hc47
  refine vc_rseq mixed ?_
  refine g_val (s_assign rfl rfl) rfl ?_
  refine g_nil ?_
  exact vc_ret (ret_of _ (.cons (.tmp rfl) .nil) (by simp only [single]; rw [decide_eq_false]; rintro ⟨h1, h2, h3, h4, h5, h6, h7, h8, h9, h10, h11, h12⟩; simp only [chunksN] at h9; omega) rfl)
  simp only [Bool.not_eq_false', decide_eq_true_eq] at hc47
  refine vc_skip ?_
  refine vc_rseq mixed ?_
  refine g_val (s_field rfl rfl rfl rfl) rfl ?_
  refine g_val (s_load rfl rfl rfl rfl) rfl ?_
  refine g_val (s_call [] (c_ContainsFunc_int v.place 58 (fun g => !decide (1 ≤ g ∧ g ≤ 7)) (fun g => c_volume_shape_1 g)) (evArgs_cons rfl (evArgs_cons rfl evArgs_nil)) trivial rfl (okVL_nil _) rfl (.inl rfl) rfl) rfl ?_
  refine g_val (s_not rfl rfl) rfl ?_
  refine g_val (s_assign rfl rfl) rfl ?_
  refine g_nil ?_
  exact vc_ret (ret_of _ (.cons (.tmp rfl) .nil) (by simp only [single]; refine congrArg (fun b => AV.t (T.k (Value.bool b))) ?_; rw [Bool.eq_iff_iff]; simp only [Bool.not_eq_true', decide_eq_false_iff_not, decide_eq_true_eq, idxF_neg, Bool.not_eq_false']; exact ⟨fun h => ⟨by omega, by omega, by omega, by omega, by omega, by omega, by omega, by omega, by simp only [chunksN]; omega, by omega, by omega, fun z hz => by simpa using h z hz⟩, fun h z hz => by simpa using h.2.2.2.2.2.2.2.2.2.2.2 z hz⟩) rfl)
  rw [← hg42]; replace hg42 := hg42.symm; replace hg42 := of_decide_eq_true hg42
  simp only [List.length_map, ne_eq] at hg42
  refine dn_val rfl rfl rfl rfl rfl rfl (by decide) ?_
  refine dn_val rfl rfl rfl rfl rfl rfl (by decide) ?_
  refine dn_val rfl rfl rfl rfl rfl rfl (by decide) ?_
  refine dn_val rfl rfl rfl rfl rfl rfl (by decide) ?_
  refine d_val (s_pickT rfl rfl rfl) rfl ?_
  refine d_nil rfl ?_
  refine vc_cond rfl (fun _ => ?_) (fun h => by cases h)
  refine vc_rseq mixed ?_
  refine g_val (s_assign rfl rfl) rfl ?_
  refine g_nil ?_
  exact vc_ret (ret_of _ (.cons (.tmp rfl) .nil) (by simp only [single]; rw [decide_eq_false]; rintro ⟨h1, h2, h3, h4, h5, h6, h7, h8, h9, h10, h11, h12⟩; simp only [chunksN] at h9; omega) rfl)
  rw [← hg27]; replace hg27 := hg27.symm
  simp only [Bool.not_eq_true', decide_eq_false_iff_not] at hg27
  refine dn_val rfl rfl rfl rfl rfl rfl (by decide) ?_
  refine dn_val rfl rfl rfl rfl rfl rfl (by decide) ?_
  refine dn_val rfl rfl rfl rfl rfl rfl (by decide) ?_
  refine dn_val rfl rfl rfl rfl rfl rfl (by decide) ?_
  refine dn_val rfl rfl rfl rfl rfl rfl (by decide) ?_
  refine dn_val rfl rfl rfl rfl rfl rfl (by decide) ?_
  refine dn_val rfl rfl rfl rfl rfl rfl (by decide) ?_
  refine dn_val rfl rfl rfl rfl rfl rfl (by decide) ?_
  refine dn_val rfl rfl rfl rfl rfl rfl (by decide) ?_
  refine dn_val rfl rfl rfl rfl rfl rfl (by decide) ?_
  refine dn_val rfl rfl rfl rfl rfl rfl (by decide) ?_
  refine dn_val rfl rfl rfl rfl rfl rfl (by decide) ?_
  refine dn_val rfl rfl rfl rfl rfl rfl (by decide) ?_
  refine d_val (s_pickT rfl rfl rfl) rfl ?_
  refine d_val (s_move rfl rfl) rfl ?_
  refine dn_val rfl rfl rfl rfl rfl rfl (by decide) ?_
  refine dn_val rfl rfl rfl rfl rfl rfl (by decide) ?_
  refine dn_val rfl rfl rfl rfl rfl rfl (by decide) ?_
  refine dn_val rfl rfl rfl rfl rfl rfl (by decide) ?_
  refine d_val (s_pickT rfl rfl rfl) rfl ?_
  refine d_nil rfl ?_
  refine vc_cond rfl (fun _ => ?_) (fun h => by cases h)
  refine vc_rseq mixed ?_
  refine g_val (s_assign rfl rfl) rfl ?_
  refine g_nil ?_
  exact vc_ret (ret_of _ (.cons (.tmp rfl) .nil) (by simp only [single]; rw [decide_eq_false]; rintro ⟨h1, h2, h3, h4, h5, h6, h7, h8, h9, h10, h11, h12⟩; simp only [chunksN] at h9; omega) rfl)
  rw [← hg19]; replace hg19 := hg19.symm
  simp only [Bool.not_eq_true', decide_eq_false_iff_not] at hg19
  refine dn_val rfl rfl rfl rfl rfl rfl (by decide) ?_
  refine dn_val rfl rfl rfl rfl rfl rfl (by decide) ?_
  refine dn_val rfl rfl rfl rfl rfl rfl (by decide) ?_
  refine dn_val rfl rfl rfl rfl rfl rfl (by decide) ?_
  refine dn_val rfl rfl rfl rfl rfl rfl (by decide) ?_
  refine dn_val rfl rfl rfl rfl rfl rfl (by decide) ?_
  refine d_val (s_pickT rfl rfl rfl) rfl ?_
  refine d_val (s_move rfl rfl) rfl ?_
  refine dn_val rfl rfl rfl rfl rfl rfl (by decide) ?_
  refine dn_val rfl rfl rfl rfl rfl rfl (by decide) ?_
  refine dn_val rfl rfl rfl rfl rfl rfl (by decide) ?_
  refine dn_val rfl rfl rfl rfl rfl rfl (by decide) ?_
  refine dn_val rfl rfl rfl rfl rfl rfl (by decide) ?_
  refine dn_val rfl rfl rfl rfl rfl rfl (by decide) ?_
  refine dn_val rfl rfl rfl rfl rfl rfl (by decide) ?_
  refine dn_val rfl rfl rfl rfl rfl rfl (by decide) ?_
  refine dn_val rfl rfl rfl rfl rfl rfl (by decide) ?_
  refine dn_val rfl rfl rfl rfl rfl rfl (by decide) ?_
  refine dn_val rfl rfl rfl rfl rfl rfl (by decide) ?_
  refine dn_val rfl rfl rfl rfl rfl rfl (by decide) ?_
  refine dn_val rfl rfl rfl rfl rfl rfl (by decide) ?_
  refine d_val (s_pickT rfl rfl rfl) rfl ?_
  refine d_val (s_move rfl rfl) rfl ?_
  refine dn_val rfl rfl rfl rfl rfl rfl (by decide) ?_
  refine dn_val rfl rfl rfl rfl rfl rfl (by decide) ?_
  refine dn_val rfl rfl rfl rfl rfl rfl (by decide) ?_
  refine dn_val rfl rfl rfl rfl rfl rfl (by decide) ?_
  refine d_val (s_pickT rfl rfl rfl) rfl ?_
  refine d_nil rfl ?_
  refine vc_cond rfl (fun _ => ?_) (fun h => by cases h)
  refine vc_rseq mixed ?_
  refine g_val (s_assign rfl rfl) rfl ?_
  refine g_nil ?_
  exact vc_ret (ret_of _ (.cons (.tmp rfl) .nil) (by simp only [single]; rw [decide_eq_false]; rintro ⟨h1, h2, h3, h4, h5, h6, h7, h8, h9, h10, h11, h12⟩; simp only [chunksN] at h9; omega) rfl)
  rw [← hg13]; replace hg13 := hg13.symm
  simp only [Bool.not_eq_true', decide_eq_false_iff_not] at hg13
  refine dn_val rfl rfl rfl rfl rfl rfl (by decide) ?_
  refine dn_val rfl rfl rfl rfl rfl rfl (by decide) ?_
  refine dn_val rfl rfl rfl rfl rfl rfl (by decide) ?_
  refine dn_val rfl rfl rfl rfl rfl rfl (by decide) ?_
  refine d_val (s_pickT rfl rfl rfl) rfl ?_
  refine d_val (s_move rfl rfl) rfl ?_
  refine dn_val rfl rfl rfl rfl rfl rfl (by decide) ?_
  refine dn_val rfl rfl rfl rfl rfl rfl (by decide) ?_
  refine dn_val rfl rfl rfl rfl rfl rfl (by decide) ?_
  refine dn_val rfl rfl rfl rfl rfl rfl (by decide) ?_
  refine dn_val rfl rfl rfl rfl rfl rfl (by decide) ?_
  refine dn_val rfl rfl rfl rfl rfl rfl (by decide) ?_
  refine d_val (s_pickT rfl rfl rfl) rfl ?_
  refine d_val (s_move rfl rfl) rfl ?_
  refine dn_val rfl rfl rfl rfl rfl rfl (by decide) ?_
  refine dn_val rfl rfl rfl rfl rfl rfl (by decide) ?_
  refine dn_val rfl rfl rfl rfl rfl rfl (by decide) ?_
  refine dn_val rfl rfl rfl rfl rfl rfl (by decide) ?_
  refine dn_val rfl rfl rfl rfl rfl rfl (by decide) ?_
  refine dn_val rfl rfl rfl rfl rfl rfl (by decide) ?_
  refine dn_val rfl rfl rfl rfl rfl rfl (by decide) ?_
  refine dn_val rfl rfl rfl rfl rfl rfl (by decide) ?_
  refine dn_val rfl rfl rfl rfl rfl rfl (by decide) ?_
  refine dn_val rfl rfl rfl rfl rfl rfl (by decide) ?_
  refine dn_val rfl rfl rfl rfl rfl rfl (by decide) ?_
  refine dn_val rfl rfl rfl rfl rfl rfl (by decide) ?_
  refine dn_val rfl rfl rfl rfl rfl rfl (by decide) ?_
  refine d_val (s_pickT rfl rfl rfl) rfl ?_
  refine d_val (s_move rfl rfl) rfl ?_
  refine dn_val rfl rfl rfl rfl rfl rfl (by decide) ?_
  refine dn_val rfl rfl rfl rfl rfl rfl (by decide) ?_
  refine dn_val rfl rfl rfl rfl rfl rfl (by decide) ?_
  refine dn_val rfl rfl rfl rfl rfl rfl (by decide) ?_
  refine d_val (s_pickT rfl rfl rfl) rfl ?_
  refine d_nil rfl ?_
  refine vc_cond rfl (fun _ => ?_) (fun h => by cases h)
  refine vc_rseq mixed ?_
  refine g_val (s_assign rfl rfl) rfl ?_
  refine g_nil ?_
  exact vc_ret (ret_of _ (.cons (.tmp rfl) .nil) (by simp only [single]; rw [decide_eq_false]; rintro ⟨h1, h2, h3, h4, h5, h6, h7, h8, h9, h10, h11, h12⟩; simp only [chunksN] at h9; omega) rfl)
  rw [← hg7]; replace hg7 := hg7.symm
  simp only [Bool.not_eq_true', decide_eq_false_iff_not] at hg7
  refine dn_val rfl rfl rfl rfl rfl rfl (by decide) ?_
  refine dn_val rfl rfl rfl rfl rfl rfl (by decide) ?_
  refine dn_val rfl rfl rfl rfl rfl rfl (by decide) ?_
  refine dn_val rfl rfl rfl rfl rfl rfl (by decide) ?_
  refine d_val (s_pickT rfl rfl rfl) rfl ?_
  refine d_val (s_move rfl rfl) rfl ?_
  refine dn_val rfl rfl rfl rfl rfl rfl (by decide) ?_
  refine dn_val rfl rfl rfl rfl rfl rfl (by decide) ?_
  refine dn_val rfl rfl rfl rfl rfl rfl (by decide) ?_
  refine dn_val rfl rfl rfl rfl rfl rfl (by decide) ?_
  refine d_val (s_pickT rfl rfl rfl) rfl ?_
  refine d_val (s_move rfl rfl) rfl ?_
  refine dn_val rfl rfl rfl rfl rfl rfl (by decide) ?_
  refine dn_val rfl rfl rfl rfl rfl rfl (by decide) ?_
  refine dn_val rfl rfl rfl rfl rfl rfl (by decide) ?_
  refine dn_val rfl rfl rfl rfl rfl rfl (by decide) ?_
  refine dn_val rfl rfl rfl rfl rfl rfl (by decide) ?_
  refine dn_val rfl rfl rfl rfl rfl rfl (by decide) ?_
  refine d_val (s_pickT rfl rfl rfl) rfl ?_
  refine d_val (s_move rfl rfl) rfl ?_
  refine dn_val rfl rfl rfl rfl rfl rfl (by decide) ?_
  refine dn_val rfl rfl rfl rfl rfl rfl (by decide) ?_
  refine dn_val rfl rfl rfl rfl rfl rfl (by decide) ?_
  refine dn_val rfl rfl rfl rfl rfl rfl (by decide) ?_
  refine dn_val rfl rfl rfl rfl rfl rfl (by decide) ?_
  refine dn_val rfl rfl rfl rfl rfl rfl (by decide) ?_
  refine dn_val rfl rfl rfl rfl rfl rfl (by decide) ?_
  refine dn_val rfl rfl rfl rfl rfl rfl (by decide) ?_
  refine dn_val rfl rfl rfl rfl rfl rfl (by decide) ?_
  refine dn_val rfl rfl rfl rfl rfl rfl (by decide) ?_
  refine dn_val rfl rfl rfl rfl rfl rfl (by decide) ?_
  refine dn_val rfl rfl rfl rfl rfl rfl (by decide) ?_
  refine dn_val rfl rfl rfl rfl rfl rfl (by decide) ?_
  refine d_val (s_pickT rfl rfl rfl) rfl ?_
  refine d_val (s_move rfl rfl) rfl ?_
  refine dn_val rfl rfl rfl rfl rfl rfl (by decide) ?_
  refine dn_val rfl rfl rfl rfl rfl rfl (by decide) ?_
  refine dn_val rfl rfl rfl rfl rfl rfl (by decide) ?_
  refine dn_val rfl rfl rfl rfl rfl rfl (by decide) ?_
  refine d_val (s_pickT rfl rfl rfl) rfl ?_
  refine d_nil rfl ?_
  refine vc_cond rfl (fun _ => ?_) (fun h => by cases h)
  refine vc_rseq mixed ?_
  refine g_val (s_assign rfl rfl) rfl ?_
  refine g_nil ?_
  exact vc_ret (ret_of _ (.cons (.tmp rfl) .nil) (by simp only [single]; rw [decide_eq_false]; rintro ⟨h1, h2, h3, h4, h5, h6, h7, h8, h9, h10, h11, h12⟩; simp only [chunksN] at h9; omega) rfl)

end Go.Eng

set_option maxHeartbeats 1000000
namespace Go.Eng
open Go.Proofs

theorem take_map_len {α β : Type} (f : α → β) (l : List α) : (l.map f).take l.length = l.map f := List.take_of_length_le (by simp)

/-- The copy as data. -/
theorem c_Clone_int (l : List Int) : Con Try.prog 34 [.t (intsT l)] [] (.t (intsT l)) [] := by
  refine con_intro [] [] Try.func34 rfl Try.ntmps34 Try.results34 rfl rfl ?_
  intro E
  refine vc_okT (i := 0) rfl fun ok0 => ?_
  have hla := ok0.len
  refine vc_nil (t := 0) rfl (fun h0 => ?_) ?_
  refine vc_rseq mixed ?_
  refine g_val (s_assign rfl rfl) rfl ?_
  refine g_nil ?_
  refine vc_seq ?_
  refine vc_rseq mixed ?_
  refine g_val (s_move rfl rfl) rfl ?_
  refine g_val (s_eqlX rfl rfl rfl) rfl ?_
  refine g_nil ?_
  refine vc_cond rfl (fun _ => ?_) (fun h => by cases h)
  refine vc_rseq mixed ?_
  refine g_val (s_assign rfl rfl) rfl ?_
  refine g_nil ?_
  exact vc_ret (ret_le [] _ (.cons (.tmp rfl) .nil) trivial (by rw [show l = [] by simpa using h0]; exact .nl (by decide) (by decide)) rfl)
  refine vc_rseq mixed ?_
  refine g_val (s_assign rfl rfl) rfl ?_
  refine g_nil ?_
  refine vc_seq ?_
  refine vc_rseq mixed ?_
  refine g_val (s_move rfl rfl) rfl ?_
  refine g_val (s_eqlN rfl rfl rfl) rfl ?_
  refine g_nil ?_
  refine vc_cond rfl (fun h => by cases h) (fun _ => ?_)
  refine vc_skip ?_
  refine vc_le ⟨[(0, .t (intsT l))], [], []⟩ (leE_same (letm_cons rfl .nn (letm_nil _ _)) (lehp_nil _ _) rfl) ?_
  refine vc_rseq mixed ?_
  refine g_new (s_buildSlice 5 evArgs_nil rfl rfl rfl rfl) rfl ?_
  refine g_val (s_move rfl rfl) rfl ?_
  refine g_app (s_append 7 rfl rfl rfl rfl rfl (Nat.le_refl _) rfl rfl (by simpa using hla)) rfl ?_
  refine g_val (s_assign rfl rfl) rfl ?_
  refine g_nil ?_
  exact vc_ret (ret_le [(7, _)] _ (.cons (.tmp rfl) .nil) ⟨rfl, trivial⟩ (.eq (by simp [single, AV.okV, okR, lkB]) (by simp [single, AV.view, viewR, lkB, AV.ren, intsT, take_map_len])) rfl)

/-- The copy as a row of one's own. -/
theorem c_Clone_int_own (l : List Int) : Con Try.prog 34 [.t (intsT l)] [] (.rows 0 1 0 l.length) [(0, .row 1 8 (l.map intC))] := by
  refine con_intro [] [0] Try.func34 rfl Try.ntmps34 Try.results34 rfl rfl ?_
  intro E
  refine vc_okT (i := 0) rfl fun ok0 => ?_
  have hla := ok0.len
  refine vc_nil (t := 0) rfl (fun h0 => ?_) ?_
  have hl0 : l = [] := by simpa using h0
  subst hl0
  refine vc_rseq mixed ?_
  refine g_val (s_assign rfl rfl) rfl ?_
  refine g_nil ?_
  refine vc_seq ?_
  refine vc_rseq mixed ?_
  refine g_val (s_move rfl rfl) rfl ?_
  refine g_val (s_eqlX rfl rfl rfl) rfl ?_
  refine g_nil ?_
  refine vc_cond rfl (fun _ => ?_) (fun h => by cases h)
  refine vc_rseq mixed ?_
  refine g_val (s_assign rfl rfl) rfl ?_
  refine g_nil ?_
  refine vc_ownnil (i := 2) 0 1 8 rfl rfl rfl ?_
  exact vc_ret (ret_hand [] [] _ (.cons (.tmp rfl) .nil) trivial (.same _) (lehp_cons rfl (leB_row rfl) (lehp_nil _ _)) rfl)
  refine vc_rseq mixed ?_
  refine g_val (s_assign rfl rfl) rfl ?_
  refine g_nil ?_
  refine vc_seq ?_
  refine vc_rseq mixed ?_
  refine g_val (s_move rfl rfl) rfl ?_
  refine g_val (s_eqlN rfl rfl rfl) rfl ?_
  refine g_nil ?_
  refine vc_cond rfl (fun h => by cases h) (fun _ => ?_)
  refine vc_skip ?_
  refine vc_le ⟨[(0, .t (intsT l))], [], []⟩ (leE_same (letm_cons rfl .nn (letm_nil _ _)) (lehp_nil _ _) rfl) ?_
  refine vc_rseq mixed ?_
  refine g_new (s_buildSlice 5 evArgs_nil rfl rfl rfl rfl) rfl ?_
  refine g_val (s_move rfl rfl) rfl ?_
  refine g_app (s_append 7 rfl rfl rfl rfl rfl (Nat.le_refl _) rfl rfl (by simpa using hla)) rfl ?_
  refine g_val (s_assign rfl rfl) rfl ?_
  refine g_nil ?_
  exact vc_ret (ret_hand [] [(0, 7)] _ (.cons (.tmp rfl) .nil) trivial (.eq (okV_nil _) (by simp [single, AV.view_nil, AV.ren, rnG, rnL]; rfl)) (lehp_cons rfl (leB_row (by simp)) (lehp_nil _ _)) rfl)

/-- The copy as data. -/
theorem c_Clone_i64 (l : List Int) : Con Try.prog 48 [.t (intsT l)] [] (.t (intsT l)) [] := by
  refine con_intro [] [] Try.func48 rfl Try.ntmps48 Try.results48 rfl rfl ?_
  intro E
  refine vc_okT (i := 0) rfl fun ok0 => ?_
  have hla := ok0.len
  refine vc_nil (t := 0) rfl (fun h0 => ?_) ?_
  refine vc_rseq mixed ?_
  refine g_val (s_assign rfl rfl) rfl ?_
  refine g_nil ?_
  refine vc_seq ?_
  refine vc_rseq mixed ?_
  refine g_val (s_move rfl rfl) rfl ?_
  refine g_val (s_eqlX rfl rfl rfl) rfl ?_
  refine g_nil ?_
  refine vc_cond rfl (fun _ => ?_) (fun h => by cases h)
  refine vc_rseq mixed ?_
  refine g_val (s_assign rfl rfl) rfl ?_
  refine g_nil ?_
  exact vc_ret (ret_le [] _ (.cons (.tmp rfl) .nil) trivial (by rw [show l = [] by simpa using h0]; exact .nl (by decide) (by decide)) rfl)
  refine vc_rseq mixed ?_
  refine g_val (s_assign rfl rfl) rfl ?_
  refine g_nil ?_
  refine vc_seq ?_
  refine vc_rseq mixed ?_
  refine g_val (s_move rfl rfl) rfl ?_
  refine g_val (s_eqlN rfl rfl rfl) rfl ?_
  refine g_nil ?_
  refine vc_cond rfl (fun h => by cases h) (fun _ => ?_)
  refine vc_skip ?_
  refine vc_le ⟨[(0, .t (intsT l))], [], []⟩ (leE_same (letm_cons rfl .nn (letm_nil _ _)) (lehp_nil _ _) rfl) ?_
  refine vc_rseq mixed ?_
  refine g_new (s_buildSlice 5 evArgs_nil rfl rfl rfl rfl) rfl ?_
  refine g_val (s_move rfl rfl) rfl ?_
  refine g_app (s_append 7 rfl rfl rfl rfl rfl (Nat.le_refl _) rfl rfl (by simpa using hla)) rfl ?_
  refine g_val (s_assign rfl rfl) rfl ?_
  refine g_nil ?_
  exact vc_ret (ret_le [(7, _)] _ (.cons (.tmp rfl) .nil) ⟨rfl, trivial⟩ (.eq (by simp [single, AV.okV, okR, lkB]) (by simp [single, AV.view, viewR, lkB, AV.ren, intsT, take_map_len])) rfl)

/-- The copy as a row of one's own. -/
theorem c_Clone_i64_own (l : List Int) : Con Try.prog 48 [.t (intsT l)] [] (.rows 0 1 0 l.length) [(0, .row 1 8 (l.map intC))] := by
  refine con_intro [] [0] Try.func48 rfl Try.ntmps48 Try.results48 rfl rfl ?_
  intro E
  refine vc_okT (i := 0) rfl fun ok0 => ?_
  have hla := ok0.len
  refine vc_nil (t := 0) rfl (fun h0 => ?_) ?_
  have hl0 : l = [] := by simpa using h0
  subst hl0
  refine vc_rseq mixed ?_
  refine g_val (s_assign rfl rfl) rfl ?_
  refine g_nil ?_
  refine vc_seq ?_
  refine vc_rseq mixed ?_
  refine g_val (s_move rfl rfl) rfl ?_
  refine g_val (s_eqlX rfl rfl rfl) rfl ?_
  refine g_nil ?_
  refine vc_cond rfl (fun _ => ?_) (fun h => by cases h)
  refine vc_rseq mixed ?_
  refine g_val (s_assign rfl rfl) rfl ?_
  refine g_nil ?_
  refine vc_ownnil (i := 2) 0 1 8 rfl rfl rfl ?_
  exact vc_ret (ret_hand [] [] _ (.cons (.tmp rfl) .nil) trivial (.same _) (lehp_cons rfl (leB_row rfl) (lehp_nil _ _)) rfl)
  refine vc_rseq mixed ?_
  refine g_val (s_assign rfl rfl) rfl ?_
  refine g_nil ?_
  refine vc_seq ?_
  refine vc_rseq mixed ?_
  refine g_val (s_move rfl rfl) rfl ?_
  refine g_val (s_eqlN rfl rfl rfl) rfl ?_
  refine g_nil ?_
  refine vc_cond rfl (fun h => by cases h) (fun _ => ?_)
  refine vc_skip ?_
  refine vc_le ⟨[(0, .t (intsT l))], [], []⟩ (leE_same (letm_cons rfl .nn (letm_nil _ _)) (lehp_nil _ _) rfl) ?_
  refine vc_rseq mixed ?_
  refine g_new (s_buildSlice 5 evArgs_nil rfl rfl rfl rfl) rfl ?_
  refine g_val (s_move rfl rfl) rfl ?_
  refine g_app (s_append 7 rfl rfl rfl rfl rfl (Nat.le_refl _) rfl rfl (by simpa using hla)) rfl ?_
  refine g_val (s_assign rfl rfl) rfl ?_
  refine g_nil ?_
  exact vc_ret (ret_hand [] [(0, 7)] _ (.cons (.tmp rfl) .nil) trivial (.eq (okV_nil _) (by simp [single, AV.view_nil, AV.ren, rnG, rnL]; rfl)) (lehp_cons rfl (leB_row (by simp)) (lehp_nil _ _)) rfl)

/-- The copy as data. -/
theorem c_Clone_byte (l : List Int) : Con Try.prog 56 [.t (bytesT l)] [] (.t (bytesT l)) [] := by
  refine con_intro [] [] Try.func56 rfl Try.ntmps56 Try.results56 rfl rfl ?_
  intro E
  refine vc_okT (i := 0) rfl fun ok0 => ?_
  have hla := ok0.len
  refine vc_nil (t := 0) rfl (fun h0 => ?_) ?_
  refine vc_rseq mixed ?_
  refine g_val (s_assign rfl rfl) rfl ?_
  refine g_nil ?_
  refine vc_seq ?_
  refine vc_rseq mixed ?_
  refine g_val (s_move rfl rfl) rfl ?_
  refine g_val (s_eqlX rfl rfl rfl) rfl ?_
  refine g_nil ?_
  refine vc_cond rfl (fun _ => ?_) (fun h => by cases h)
  refine vc_rseq mixed ?_
  refine g_val (s_assign rfl rfl) rfl ?_
  refine g_nil ?_
  exact vc_ret (ret_le [] _ (.cons (.tmp rfl) .nil) trivial (by rw [show l = [] by simpa using h0]; exact .nl (by decide) (by decide)) rfl)
  refine vc_rseq mixed ?_
  refine g_val (s_assign rfl rfl) rfl ?_
  refine g_nil ?_
  refine vc_seq ?_
  refine vc_rseq mixed ?_
  refine g_val (s_move rfl rfl) rfl ?_
  refine g_val (s_eqlN rfl rfl rfl) rfl ?_
  refine g_nil ?_
  refine vc_cond rfl (fun h => by cases h) (fun _ => ?_)
  refine vc_skip ?_
  refine vc_le ⟨[(0, .t (bytesT l))], [], []⟩ (leE_same (letm_cons rfl .nn (letm_nil _ _)) (lehp_nil _ _) rfl) ?_
  refine vc_rseq mixed ?_
  refine g_new (s_buildSlice 5 evArgs_nil rfl rfl rfl rfl) rfl ?_
  refine g_val (s_move rfl rfl) rfl ?_
  refine g_app (s_append 7 rfl rfl rfl rfl rfl (Nat.le_refl _) rfl rfl (by simpa using hla)) rfl ?_
  refine g_val (s_assign rfl rfl) rfl ?_
  refine g_nil ?_
  exact vc_ret (ret_le [(7, _)] _ (.cons (.tmp rfl) .nil) ⟨rfl, trivial⟩ (.eq (by simp [single, AV.okV, okR, lkB]) (by simp [single, AV.view, viewR, lkB, AV.ren, bytesT, take_map_len])) rfl)

/-- The copy as a row of one's own. -/
theorem c_Clone_byte_own (l : List Int) : Con Try.prog 56 [.t (bytesT l)] [] (.rows 0 1 0 l.length) [(0, .row 1 1 (l.map byteC))] := by
  refine con_intro [] [0] Try.func56 rfl Try.ntmps56 Try.results56 rfl rfl ?_
  intro E
  refine vc_okT (i := 0) rfl fun ok0 => ?_
  have hla := ok0.len
  refine vc_nil (t := 0) rfl (fun h0 => ?_) ?_
  have hl0 : l = [] := by simpa using h0
  subst hl0
  refine vc_rseq mixed ?_
  refine g_val (s_assign rfl rfl) rfl ?_
  refine g_nil ?_
  refine vc_seq ?_
  refine vc_rseq mixed ?_
  refine g_val (s_move rfl rfl) rfl ?_
  refine g_val (s_eqlX rfl rfl rfl) rfl ?_
  refine g_nil ?_
  refine vc_cond rfl (fun _ => ?_) (fun h => by cases h)
  refine vc_rseq mixed ?_
  refine g_val (s_assign rfl rfl) rfl ?_
  refine g_nil ?_
  refine vc_ownnil (i := 2) 0 1 1 rfl rfl rfl ?_
  exact vc_ret (ret_hand [] [] _ (.cons (.tmp rfl) .nil) trivial (.same _) (lehp_cons rfl (leB_row rfl) (lehp_nil _ _)) rfl)
  refine vc_rseq mixed ?_
  refine g_val (s_assign rfl rfl) rfl ?_
  refine g_nil ?_
  refine vc_seq ?_
  refine vc_rseq mixed ?_
  refine g_val (s_move rfl rfl) rfl ?_
  refine g_val (s_eqlN rfl rfl rfl) rfl ?_
  refine g_nil ?_
  refine vc_cond rfl (fun h => by cases h) (fun _ => ?_)
  refine vc_skip ?_
  refine vc_le ⟨[(0, .t (bytesT l))], [], []⟩ (leE_same (letm_cons rfl .nn (letm_nil _ _)) (lehp_nil _ _) rfl) ?_
  refine vc_rseq mixed ?_
  refine g_new (s_buildSlice 5 evArgs_nil rfl rfl rfl rfl) rfl ?_
  refine g_val (s_move rfl rfl) rfl ?_
  refine g_app (s_append 7 rfl rfl rfl rfl rfl (Nat.le_refl _) rfl rfl (by simpa using hla)) rfl ?_
  refine g_val (s_assign rfl rfl) rfl ?_
  refine g_nil ?_
  exact vc_ret (ret_hand [] [(0, 7)] _ (.cons (.tmp rfl) .nil) trivial (.eq (okV_nil _) (by simp [single, AV.view_nil, AV.ren, rnG, rnL]; rfl)) (lehp_cons rfl (leB_row (by simp)) (lehp_nil _ _)) rfl)

/-- The copy as data. -/
theorem c_Clone_Item (l : List Item) : Con Try.prog 59 [.t (itemsT l)] [] (.t (itemsT l)) [] := by
  refine con_intro [] [] Try.func59 rfl Try.ntmps59 Try.results59 rfl rfl ?_
  intro E
  refine vc_okT (i := 0) rfl fun ok0 => ?_
  have hla := ok0.len
  refine vc_nil (t := 0) rfl (fun h0 => ?_) ?_
  refine vc_rseq mixed ?_
  refine g_val (s_assign rfl rfl) rfl ?_
  refine g_nil ?_
  refine vc_seq ?_
  refine vc_rseq mixed ?_
  refine g_val (s_move rfl rfl) rfl ?_
  refine g_val (s_eqlX rfl rfl rfl) rfl ?_
  refine g_nil ?_
  refine vc_cond rfl (fun _ => ?_) (fun h => by cases h)
  refine vc_rseq mixed ?_
  refine g_val (s_assign rfl rfl) rfl ?_
  refine g_nil ?_
  exact vc_ret (ret_le [] _ (.cons (.tmp rfl) .nil) trivial (by rw [show l = [] by simpa using h0]; exact .nl (by decide) (by decide)) rfl)
  refine vc_rseq mixed ?_
  refine g_val (s_assign rfl rfl) rfl ?_
  refine g_nil ?_
  refine vc_seq ?_
  refine vc_rseq mixed ?_
  refine g_val (s_move rfl rfl) rfl ?_
  refine g_val (s_eqlN rfl rfl rfl) rfl ?_
  refine g_nil ?_
  refine vc_cond rfl (fun h => by cases h) (fun _ => ?_)
  refine vc_skip ?_
  refine vc_le ⟨[(0, .t (itemsT l))], [], []⟩ (leE_same (letm_cons rfl .nn (letm_nil _ _)) (lehp_nil _ _) rfl) ?_
  refine vc_rseq mixed ?_
  refine g_new (s_buildSlice 5 evArgs_nil rfl rfl rfl rfl) rfl ?_
  refine g_val (s_move rfl rfl) rfl ?_
  refine g_app (s_append 7 rfl rfl rfl rfl rfl (Nat.le_refl _) rfl rfl (by simpa using hla)) rfl ?_
  refine g_val (s_assign rfl rfl) rfl ?_
  refine g_nil ?_
  exact vc_ret (ret_le [(7, _)] _ (.cons (.tmp rfl) .nil) ⟨rfl, trivial⟩ (.eq (by simp [single, AV.okV, okR, lkB]) (by simp [single, AV.view, viewR, lkB, AV.ren, itemsT, take_map_len])) rfl)

/-- The copy as a row of one's own. -/
theorem c_Clone_Item_own (l : List Item) : Con Try.prog 59 [.t (itemsT l)] [] (.rows 0 2 0 l.length) [(0, .row 2 32 (l.map itemC))] := by
  refine con_intro [] [0] Try.func59 rfl Try.ntmps59 Try.results59 rfl rfl ?_
  intro E
  refine vc_okT (i := 0) rfl fun ok0 => ?_
  have hla := ok0.len
  refine vc_nil (t := 0) rfl (fun h0 => ?_) ?_
  have hl0 : l = [] := by simpa using h0
  subst hl0
  refine vc_rseq mixed ?_
  refine g_val (s_assign rfl rfl) rfl ?_
  refine g_nil ?_
  refine vc_seq ?_
  refine vc_rseq mixed ?_
  refine g_val (s_move rfl rfl) rfl ?_
  refine g_val (s_eqlX rfl rfl rfl) rfl ?_
  refine g_nil ?_
  refine vc_cond rfl (fun _ => ?_) (fun h => by cases h)
  refine vc_rseq mixed ?_
  refine g_val (s_assign rfl rfl) rfl ?_
  refine g_nil ?_
  refine vc_ownnil (i := 2) 0 2 32 rfl rfl rfl ?_
  exact vc_ret (ret_hand [] [] _ (.cons (.tmp rfl) .nil) trivial (.same _) (lehp_cons rfl (leB_row rfl) (lehp_nil _ _)) rfl)
  refine vc_rseq mixed ?_
  refine g_val (s_assign rfl rfl) rfl ?_
  refine g_nil ?_
  refine vc_seq ?_
  refine vc_rseq mixed ?_
  refine g_val (s_move rfl rfl) rfl ?_
  refine g_val (s_eqlN rfl rfl rfl) rfl ?_
  refine g_nil ?_
  refine vc_cond rfl (fun h => by cases h) (fun _ => ?_)
  refine vc_skip ?_
  refine vc_le ⟨[(0, .t (itemsT l))], [], []⟩ (leE_same (letm_cons rfl .nn (letm_nil _ _)) (lehp_nil _ _) rfl) ?_
  refine vc_rseq mixed ?_
  refine g_new (s_buildSlice 5 evArgs_nil rfl rfl rfl rfl) rfl ?_
  refine g_val (s_move rfl rfl) rfl ?_
  refine g_app (s_append 7 rfl rfl rfl rfl rfl (Nat.le_refl _) rfl rfl (by simpa using hla)) rfl ?_
  refine g_val (s_assign rfl rfl) rfl ?_
  refine g_nil ?_
  exact vc_ret (ret_hand [] [(0, 7)] _ (.cons (.tmp rfl) .nil) trivial (.eq (okV_nil _) (by simp [single, AV.view_nil, AV.ren, rnG, rnL]; rfl)) (lehp_cons rfl (leB_row (by simp)) (lehp_nil _ _)) rfl)

/-- The copy as data. -/
theorem c_Clone_Write (l : List Write) : Con Try.prog 49 [.t (writesT l)] [] (.t (writesT l)) [] := by
  refine con_intro [] [] Try.func49 rfl Try.ntmps49 Try.results49 rfl rfl ?_
  intro E
  refine vc_okT (i := 0) rfl fun ok0 => ?_
  have hla := ok0.len
  refine vc_nil (t := 0) rfl (fun h0 => ?_) ?_
  refine vc_rseq mixed ?_
  refine g_val (s_assign rfl rfl) rfl ?_
  refine g_nil ?_
  refine vc_seq ?_
  refine vc_rseq mixed ?_
  refine g_val (s_move rfl rfl) rfl ?_
  refine g_val (s_eqlX rfl rfl rfl) rfl ?_
  refine g_nil ?_
  refine vc_cond rfl (fun _ => ?_) (fun h => by cases h)
  refine vc_rseq mixed ?_
  refine g_val (s_assign rfl rfl) rfl ?_
  refine g_nil ?_
  exact vc_ret (ret_le [] _ (.cons (.tmp rfl) .nil) trivial (by rw [show l = [] by simpa using h0]; exact .nl (by decide) (by decide)) rfl)
  refine vc_rseq mixed ?_
  refine g_val (s_assign rfl rfl) rfl ?_
  refine g_nil ?_
  refine vc_seq ?_
  refine vc_rseq mixed ?_
  refine g_val (s_move rfl rfl) rfl ?_
  refine g_val (s_eqlN rfl rfl rfl) rfl ?_
  refine g_nil ?_
  refine vc_cond rfl (fun h => by cases h) (fun _ => ?_)
  refine vc_skip ?_
  refine vc_le ⟨[(0, .t (writesT l))], [], []⟩ (leE_same (letm_cons rfl .nn (letm_nil _ _)) (lehp_nil _ _) rfl) ?_
  refine vc_rseq mixed ?_
  refine g_new (s_buildSlice 5 evArgs_nil rfl rfl rfl rfl) rfl ?_
  refine g_val (s_move rfl rfl) rfl ?_
  refine g_app (s_append 7 rfl rfl rfl rfl rfl (Nat.le_refl _) rfl rfl (by simpa using hla)) rfl ?_
  refine g_val (s_assign rfl rfl) rfl ?_
  refine g_nil ?_
  exact vc_ret (ret_le [(7, _)] _ (.cons (.tmp rfl) .nil) ⟨rfl, trivial⟩ (.eq (by simp [single, AV.okV, okR, lkB]) (by simp [single, AV.view, viewR, lkB, AV.ren, writesT, take_map_len])) rfl)

/-- The copy as a row of one's own. -/
theorem c_Clone_Write_own (l : List Write) : Con Try.prog 49 [.t (writesT l)] [] (.rows 0 2 0 l.length) [(0, .row 2 32 (l.map writeC))] := by
  refine con_intro [] [0] Try.func49 rfl Try.ntmps49 Try.results49 rfl rfl ?_
  intro E
  refine vc_okT (i := 0) rfl fun ok0 => ?_
  have hla := ok0.len
  refine vc_nil (t := 0) rfl (fun h0 => ?_) ?_
  have hl0 : l = [] := by simpa using h0
  subst hl0
  refine vc_rseq mixed ?_
  refine g_val (s_assign rfl rfl) rfl ?_
  refine g_nil ?_
  refine vc_seq ?_
  refine vc_rseq mixed ?_
  refine g_val (s_move rfl rfl) rfl ?_
  refine g_val (s_eqlX rfl rfl rfl) rfl ?_
  refine g_nil ?_
  refine vc_cond rfl (fun _ => ?_) (fun h => by cases h)
  refine vc_rseq mixed ?_
  refine g_val (s_assign rfl rfl) rfl ?_
  refine g_nil ?_
  refine vc_ownnil (i := 2) 0 2 32 rfl rfl rfl ?_
  exact vc_ret (ret_hand [] [] _ (.cons (.tmp rfl) .nil) trivial (.same _) (lehp_cons rfl (leB_row rfl) (lehp_nil _ _)) rfl)
  refine vc_rseq mixed ?_
  refine g_val (s_assign rfl rfl) rfl ?_
  refine g_nil ?_
  refine vc_seq ?_
  refine vc_rseq mixed ?_
  refine g_val (s_move rfl rfl) rfl ?_
  refine g_val (s_eqlN rfl rfl rfl) rfl ?_
  refine g_nil ?_
  refine vc_cond rfl (fun h => by cases h) (fun _ => ?_)
  refine vc_skip ?_
  refine vc_le ⟨[(0, .t (writesT l))], [], []⟩ (leE_same (letm_cons rfl .nn (letm_nil _ _)) (lehp_nil _ _) rfl) ?_
  refine vc_rseq mixed ?_
  refine g_new (s_buildSlice 5 evArgs_nil rfl rfl rfl rfl) rfl ?_
  refine g_val (s_move rfl rfl) rfl ?_
  refine g_app (s_append 7 rfl rfl rfl rfl rfl (Nat.le_refl _) rfl rfl (by simpa using hla)) rfl ?_
  refine g_val (s_assign rfl rfl) rfl ?_
  refine g_nil ?_
  exact vc_ret (ret_hand [] [(0, 7)] _ (.cons (.tmp rfl) .nil) trivial (.eq (okV_nil _) (by simp [single, AV.view_nil, AV.ren, rnG, rnL]; rfl)) (lehp_cons rfl (leB_row (by simp)) (lehp_nil _ _)) rfl)

end Go.Eng

set_option maxHeartbeats 1000000
namespace Go.Eng
open Go.Proofs

/-! ### Items -/
def itemsOK (blocks size : Int) (l : List Item) : Prop := 1 ≤ l.length ∧ l.length ≤ 8 ∧ (∀ x ∈ l, 0 ≤ x.block ∧ x.block < blocks ∧ (x.data.length : Int) = size) ∧ (l.map (·.block)).Nodup
instance (blocks size : Int) (l : List Item) : Decidable (itemsOK blocks size l) := by unfold itemsOK; infer_instance

theorem itemsOK_iff {blocks size : Int} {l : List Item} : itemsOK blocks size l ↔ (1 ≤ l.length ∧ l.length ≤ 8 ∧ (∀ (i : Nat) (x : Item), l[i]? = some x → (0 ≤ x.block ∧ x.block < blocks ∧ (x.data.length : Int) = size) ∧ ∀ (k : Nat) (y : Item), k < i → l[k]? = some y → y.block ≠ x.block)) := by
  unfold itemsOK
  constructor
  rintro ⟨h1, h2, h3, h4⟩
  refine ⟨h1, h2, fun i x hx => ⟨h3 x (List.mem_of_getElem? hx), fun k y hk hy e => ?_⟩⟩
  obtain ⟨hlt, hxe⟩ := List.getElem?_eq_some_iff.1 hx
  obtain ⟨hlt2, hye⟩ := List.getElem?_eq_some_iff.1 hy
  have := List.pairwise_iff_getElem.1 h4 k i (by simpa using hlt2) (by simpa using hlt) hk
  simp only [List.getElem_map, hxe, hye] at this
  exact this e
  rintro ⟨h1, h2, h3⟩
  refine ⟨h1, h2, fun x hx => ?_, ?_⟩
  obtain ⟨i, hi⟩ := List.mem_iff_getElem?.1 hx
  exact (h3 i x hi).1
  refine List.pairwise_iff_getElem.2 fun k i hk hi hlt => ?_
  rw [List.length_map] at hk hi
  simp only [List.getElem_map]
  exact (h3 i _ (List.getElem?_eq_getElem hi)).2 k _ hlt (List.getElem?_eq_getElem hk)

theorem c_mementoref13_ItemsRight (blocks size : Int) (l : List Item) : Con Try.prog 75 [AI .i64 blocks, AI .i64 size, .t (itemsT l)] [] (AB (decide (itemsOK blocks size l))) [] := by
  refine con_intro [] [] Try.func75 rfl Try.ntmps75 Try.results75 rfl rfl ?_
  intro E
  refine vc_okT (i := 2) rfl fun ok0 => ?_
  have hla := ok0.len
  rw [List.length_map] at hla
  refine vc_rseq mixed ?_
  refine g_val (s_assign rfl rfl) rfl ?_
  refine g_nil ?_
  refine vc_seq ?_
  refine vc_rseq mixed ?_
  refine g_val (s_move rfl rfl) rfl ?_
  refine g_val (s_len rfl rfl) rfl ?_
  refine g_val (s_lss rfl rfl rfl) rfl ?_
  refine g_val (s_move rfl rfl) rfl ?_
  refine g_probe (j := 12) rfl (fun c hg12 => ?_)
  cases c
  rw [← hg12]; replace hg12 := hg12.symm; replace hg12 := of_decide_eq_false hg12
  simp only [List.length_map, Int.not_lt] at hg12
  refine gq_val (s_move rfl rfl) rfl rfl rfl rfl ?_
  refine gq_val (s_len rfl rfl) rfl rfl rfl rfl ?_
  refine gq_val (s_gtr rfl rfl rfl) rfl rfl rfl rfl ?_
  refine g_val (s_pickF rfl rfl rfl) rfl ?_
  refine g_nil ?_
  refine vc_cond rfl (fun hc16 => ?_) (fun hc16 => ?_)
  replace hc16 := of_decide_eq_true hc16
  simp only [List.length_map] at hc16
  refine vc_rseq mixed ?_
  refine g_val (s_assign rfl rfl) rfl ?_
  refine g_nil ?_
  exact vc_ret (ret_of _ (.cons (.tmp rfl) .nil) (by simp only [single]; rw [decide_eq_false]; rintro ⟨h1, h2, h3⟩; omega) rfl)
  replace hc16 := of_decide_eq_false hc16
  simp only [List.length_map, Int.not_lt] at hc16
  refine vc_skip ?_
  refine vc_seq ?_
  refine vc_rseq mixed ?_
  refine g_val (s_assign rfl rfl) rfl ?_
  refine g_nil ?_
  refine vc_block ?_
  refine vc_up l.length (fun i => ⟨[(0, AI .i64 blocks), (1, AI .i64 size), (2, .t (itemsT l)), (7, AI .i64 i)], [], []⟩) (fun i => ∀ (j : Nat) (x : Item), j < i → l[j]? = some x → (0 ≤ x.block ∧ x.block < blocks ∧ (x.data.length : Int) = size) ∧ ∀ (k : Nat) (y : Item), k < j → l[k]? = some y → y.block ≠ x.block) (leE_same (by repeat (first | exact letm_nil _ _ | refine letm_cons rfl ?_ ?_ | exact .same _ | exact .id' rfl | exact .id' (by simp; done))) (by repeat (first | exact lehp_nil _ _ | refine lehp_cons rfl ?_ ?_ | exact leB_same _ | exact leB_row (by first | rfl | (simp; done)) | exact leB_obj (by simp; done) | refine leB_box ?_ | exact leL_nil | refine leL_cons ?_ ?_ | exact .same _ | exact .id' rfl | exact .id' (by simp; done))) rfl) (fun j x h => by omega) (fun i hi hJ => ?_)
  refine vc_seq ?_
  refine vc_rseq mixed ?_
  refine g_val (s_move rfl rfl) rfl ?_
  refine g_val (s_move rfl rfl) rfl ?_
  refine g_val (s_len rfl rfl) rfl ?_
  refine g_val (s_lss rfl rfl rfl) rfl ?_
  refine g_nil ?_
  refine vc_cond rfl (fun hc20 => ?_) (fun hc20 => ?_)
  replace hc20 := of_decide_eq_true hc20
  simp only [List.length_map] at hc20
  obtain ⟨x, hx⟩ := get_of_lt (l := l) (i := i) (by omega)
  refine vc_skip ?_
  refine vc_seq ?_
  refine vc_block ?_
  refine vc_seq ?_
  refine vc_rseq mixed ?_
  refine g_val (s_move rfl rfl) rfl ?_
  refine g_val (s_move rfl rfl) rfl ?_
  refine g_val (s_index rfl rfl rfl (by omega) (idx_map hx)) rfl ?_
  refine g_val (s_fieldT rfl rfl rfl rfl rfl) rfl ?_
  refine g_val (s_loadT rfl rfl rfl) rfl ?_
  refine g_val (s_lss rfl rfl rfl) rfl ?_
  refine g_val (s_move rfl rfl) rfl ?_
  refine g_probe (j := 29) rfl (fun c hg29 => ?_)
  cases c
  rw [← hg29]; replace hg29 := hg29.symm; replace hg29 := of_decide_eq_false hg29
  simp only [Int.not_lt] at hg29
  refine gq_val (s_move rfl rfl) rfl rfl rfl rfl ?_
  refine gq_val (s_move rfl rfl) rfl rfl rfl rfl ?_
  refine gq_val (s_index rfl rfl rfl (by omega) (idx_map hx)) rfl rfl rfl rfl ?_
  refine gq_val (s_fieldT rfl rfl rfl rfl rfl) rfl rfl rfl rfl ?_
  refine gq_val (s_loadT rfl rfl rfl) rfl rfl rfl rfl ?_
  refine gq_val (s_move rfl rfl) rfl rfl rfl rfl ?_
  refine gq_val (s_geq rfl rfl rfl) rfl rfl rfl rfl ?_
  refine g_val (s_pickF rfl rfl rfl) rfl ?_
  refine g_val (s_move rfl rfl) rfl ?_
  refine g_probe (j := 38) rfl (fun c hg38 => ?_)
  cases c
  rw [← hg38]; replace hg38 := hg38.symm; replace hg38 := of_decide_eq_false hg38
  simp only [Int.not_le] at hg38
  refine gq_val (s_move rfl rfl) rfl rfl rfl rfl ?_
  refine gq_val (s_move rfl rfl) rfl rfl rfl rfl ?_
  refine gq_val (s_index rfl rfl rfl (by omega) (idx_map hx)) rfl rfl rfl rfl ?_
  refine gq_val (s_fieldT rfl rfl rfl rfl rfl) rfl rfl rfl rfl ?_
  refine gq_val (s_loadT rfl rfl rfl) rfl rfl rfl rfl ?_
  refine gq_val (s_len rfl rfl) rfl rfl rfl rfl ?_
  refine gq_val (s_move rfl rfl) rfl rfl rfl rfl ?_
  refine gq_val (s_neq rfl rfl rfl) rfl rfl rfl rfl ?_
  refine g_val (s_pickF rfl rfl rfl) rfl ?_
  refine g_nil ?_
  refine vc_cond rfl (fun hc47 => ?_) (fun hc47 => ?_)
  replace hc47 := of_decide_eq_true hc47
  simp only [List.length_map, ne_eq] at hc47
  refine vc_rseq mixed ?_
  refine g_val (s_assign rfl rfl) rfl ?_
  refine g_nil ?_
  exact vc_ret (ret_of _ (.cons (.tmp rfl) .nil) (by simp only [single]; rw [decide_eq_false]; intro h; have := ((itemsOK_iff.1 h).2.2 i x hx).1; omega) rfl)
  replace hc47 := of_decide_eq_false hc47
  simp only [List.length_map, ne_eq, Decidable.not_not] at hc47
  refine vc_skip ?_
  refine vc_rseq mixed ?_
  refine g_val (s_assign rfl rfl) rfl ?_
  refine g_nil ?_
  refine vc_block ?_
  refine vc_up i (fun k => ⟨[(0, AI .i64 blocks), (1, AI .i64 size), (2, .t (itemsT l)), (7, AI .i64 i), (8, AI .i64 k)], [], []⟩) (fun k => ∀ (j : Nat) (y : Item), j < k → l[j]? = some y → y.block ≠ x.block) (leE_same (by repeat (first | exact letm_nil _ _ | refine letm_cons rfl ?_ ?_ | exact .same _ | exact .id' rfl | exact .id' (by simp; done))) (by repeat (first | exact lehp_nil _ _ | refine lehp_cons rfl ?_ ?_ | exact leB_same _ | exact leB_row (by first | rfl | (simp; done)) | exact leB_obj (by simp; done) | refine leB_box ?_ | exact leL_nil | refine leL_cons ?_ ?_ | exact .same _ | exact .id' rfl | exact .id' (by simp; done))) rfl) (fun j y h => by omega) (fun k hk hJ2 => ?_)
  refine vc_seq ?_
  refine vc_rseq mixed ?_
  refine g_val (s_move rfl rfl) rfl ?_
  refine g_val (s_move rfl rfl) rfl ?_
  refine g_val (s_lss rfl rfl rfl) rfl ?_
  refine g_nil ?_
  refine vc_cond rfl (fun hc50 => ?_) (fun hc50 => ?_)
  replace hc50 := of_decide_eq_true hc50
  obtain ⟨y, hy⟩ := get_of_lt (l := l) (i := k) (by omega)
  refine vc_skip ?_
  refine vc_seq ?_
  refine vc_block ?_
  refine vc_rseq mixed ?_
  refine d_val (s_move rfl rfl) rfl ?_
  refine d_val (s_move rfl rfl) rfl ?_
  refine d_val (s_index rfl rfl rfl (by omega) (idx_map hy)) rfl ?_
  refine d_val (s_fieldT rfl rfl rfl rfl rfl) rfl ?_
  refine d_val (s_loadT rfl rfl rfl) rfl ?_
  refine d_val (s_move rfl rfl) rfl ?_
  refine d_val (s_move rfl rfl) rfl ?_
  refine d_val (s_index rfl rfl rfl (by omega) (idx_map hx)) rfl ?_
  refine d_val (s_fieldT rfl rfl rfl rfl rfl) rfl ?_
  refine d_val (s_loadT rfl rfl rfl) rfl ?_
  refine d_val (s_eql rfl rfl rfl) rfl ?_
  refine d_nil rfl ?_
  refine vc_cond rfl (fun hc63 => ?_) (fun hc63 => ?_)
  replace hc63 := of_decide_eq_true hc63
  refine vc_rseq mixed ?_
  refine g_val (s_assign rfl rfl) rfl ?_
  refine g_nil ?_
  exact vc_ret (ret_of _ (.cons (.tmp rfl) .nil) (by simp only [single]; rw [decide_eq_false]; intro h; exact ((itemsOK_iff.1 h).2.2 i x hx).2 k y (by omega) hy hc63) rfl)
  replace hc63 := of_decide_eq_false hc63
  refine vc_skip ?_
  refine vc_region mixed ?_
  refine g_val (s_move rfl rfl) rfl ?_
  refine g_val (s_add rfl rfl rfl (by simp only [inI, kMin, kMax]; omega)) rfl ?_
  refine g_val (s_assign rfl rfl) rfl ?_
  refine g_nil ?_
  exact ⟨by omega, fun j z hj hz => by rcases Nat.lt_succ_iff_lt_or_eq.1 hj with h | rfl; exact hJ2 j z h hz; rw [hy] at hz; injection hz with hz; subst hz; exact hc63, (leE_same (by repeat (first | exact letm_nil _ _ | refine letm_cons rfl ?_ ?_ | exact .same _ | exact .id' rfl | exact .id' (by simp; done))) (by repeat (first | exact lehp_nil _ _ | refine lehp_cons rfl ?_ ?_ | exact leB_same _ | exact leB_row (by first | rfl | (simp; done)) | exact leB_obj (by simp; done) | refine leB_box ?_ | exact leL_nil | refine leL_cons ?_ ?_ | exact .same _ | exact .id' rfl | exact .id' (by simp; done))) rfl)⟩
  replace hc50 := of_decide_eq_false hc50
  simp only [Int.not_lt] at hc50
  refine vc_exit ?_
  refine vc_region mixed ?_
  refine g_val (s_move rfl rfl) rfl ?_
  refine g_val (s_add rfl rfl rfl (by simp only [inI, kMin, kMax]; omega)) rfl ?_
  refine g_val (s_assign rfl rfl) rfl ?_
  refine g_nil ?_
  exact ⟨by omega, fun j z hj hz => by rcases Nat.lt_succ_iff_lt_or_eq.1 hj with h | rfl; exact hJ j z h hz; rw [hx] at hz; injection hz with hz; subst hz; exact ⟨by omega, fun m y hm hy => hJ2 m y (by omega) hy⟩, (leE_same (by repeat (first | exact letm_nil _ _ | refine letm_cons rfl ?_ ?_ | exact .same _ | exact .id' rfl | exact .id' (by simp; done))) (by repeat (first | exact lehp_nil _ _ | refine lehp_cons rfl ?_ ?_ | exact leB_same _ | exact leB_row (by first | rfl | (simp; done)) | exact leB_obj (by simp; done) | refine leB_box ?_ | exact leL_nil | refine leL_cons ?_ ?_ | exact .same _ | exact .id' rfl | exact .id' (by simp; done))) rfl)⟩
  rw [← hg38]; replace hg38 := hg38.symm; replace hg38 := of_decide_eq_true hg38
  refine gn_val rfl rfl rfl rfl rfl rfl (by decide) ?_
  refine gn_val rfl rfl rfl rfl rfl rfl (by decide) ?_
  refine gn_val rfl rfl rfl rfl rfl rfl (by decide) ?_
  refine gn_val rfl rfl rfl rfl rfl rfl (by decide) ?_
  refine gn_val rfl rfl rfl rfl rfl rfl (by decide) ?_
  refine gn_val rfl rfl rfl rfl rfl rfl (by decide) ?_
  refine gn_val rfl rfl rfl rfl rfl rfl (by decide) ?_
  refine gn_val rfl rfl rfl rfl rfl rfl (by decide) ?_
  refine g_val (s_pickT rfl rfl rfl) rfl ?_
  refine g_nil ?_
  refine vc_cond rfl (fun _ => ?_) (fun h => by cases h)
  refine vc_rseq mixed ?_
  refine g_val (s_assign rfl rfl) rfl ?_
  refine g_nil ?_
  exact vc_ret (ret_of _ (.cons (.tmp rfl) .nil) (by simp only [single]; rw [decide_eq_false]; intro h; have := ((itemsOK_iff.1 h).2.2 i x hx).1; omega) rfl)
  rw [← hg29]; replace hg29 := hg29.symm; replace hg29 := of_decide_eq_true hg29
  refine gn_val rfl rfl rfl rfl rfl rfl (by decide) ?_
  refine gn_val rfl rfl rfl rfl rfl rfl (by decide) ?_
  refine gn_val rfl rfl rfl rfl rfl rfl (by decide) ?_
  refine gn_val rfl rfl rfl rfl rfl rfl (by decide) ?_
  refine gn_val rfl rfl rfl rfl rfl rfl (by decide) ?_
  refine gn_val rfl rfl rfl rfl rfl rfl (by decide) ?_
  refine gn_val rfl rfl rfl rfl rfl rfl (by decide) ?_
  refine g_val (s_pickT rfl rfl rfl) rfl ?_
  refine g_val (s_move rfl rfl) rfl ?_
  refine gn_val rfl rfl rfl rfl rfl rfl (by decide) ?_
  refine gn_val rfl rfl rfl rfl rfl rfl (by decide) ?_
  refine gn_val rfl rfl rfl rfl rfl rfl (by decide) ?_
  refine gn_val rfl rfl rfl rfl rfl rfl (by decide) ?_
  refine gn_val rfl rfl rfl rfl rfl rfl (by decide) ?_
  refine gn_val rfl rfl rfl rfl rfl rfl (by decide) ?_
  refine gn_val rfl rfl rfl rfl rfl rfl (by decide) ?_
  refine gn_val rfl rfl rfl rfl rfl rfl (by decide) ?_
  refine g_val (s_pickT rfl rfl rfl) rfl ?_
  refine g_nil ?_
  refine vc_cond rfl (fun _ => ?_) (fun h => by cases h)
  refine vc_rseq mixed ?_
  refine g_val (s_assign rfl rfl) rfl ?_
  refine g_nil ?_
  exact vc_ret (ret_of _ (.cons (.tmp rfl) .nil) (by simp only [single]; rw [decide_eq_false]; intro h; have := ((itemsOK_iff.1 h).2.2 i x hx).1; omega) rfl)
  replace hc20 := of_decide_eq_false hc20
  simp only [List.length_map, Int.not_lt] at hc20
  refine vc_exit ?_
  refine vc_rseq mixed ?_
  refine g_val (s_assign rfl rfl) rfl ?_
  refine g_nil ?_
  exact vc_ret (ret_of _ (.cons (.tmp rfl) .nil) (by simp only [single]; rw [decide_eq_true]; exact itemsOK_iff.2 ⟨by omega, by omega, fun j x hx => hJ j x (by have := (List.getElem?_eq_some_iff.1 hx).1; omega) hx⟩) rfl)
  rw [← hg12]; replace hg12 := hg12.symm; replace hg12 := of_decide_eq_true hg12
  simp only [List.length_map] at hg12
  refine gn_val rfl rfl rfl rfl rfl rfl (by decide) ?_
  refine gn_val rfl rfl rfl rfl rfl rfl (by decide) ?_
  refine gn_val rfl rfl rfl rfl rfl rfl (by decide) ?_
  refine g_val (s_pickT rfl rfl rfl) rfl ?_
  refine g_nil ?_
  refine vc_cond rfl (fun _ => ?_) (fun h => by cases h)
  refine vc_rseq mixed ?_
  refine g_val (s_assign rfl rfl) rfl ?_
  refine g_nil ?_
  exact vc_ret (ret_of _ (.cons (.tmp rfl) .nil) (by simp only [single]; rw [decide_eq_false]; rintro ⟨h1, h2, h3⟩; omega) rfl)

def seenL (l : List Item) : List (Int × Bool) := l.map fun x => (x.block, true)
theorem fnd_seen : ∀ (l : List Item) (b : Int), fnd (seenL l) b = if (∃ y ∈ l, y.block = b) then some true else none
  | [], b => by simp [seenL, fnd]
  | x :: l, b => by
    simp only [seenL, List.map_cons, fnd]
    by_cases e : b = x.block
    rw [if_pos e, if_pos ⟨x, List.mem_cons_self .., e.symm⟩]
    rw [if_neg e]
    have ih := fnd_seen l b
    simp only [seenL] at ih
    rw [ih]
    congr 1
    apply propext
    constructor
    rintro ⟨y, h1, h2⟩; exact ⟨y, List.mem_cons_of_mem _ h1, h2⟩
    rintro ⟨y, h1, h2⟩
    rcases List.mem_cons.1 h1 with rfl | h1
    exact absurd h2.symm e
    exact ⟨y, h1, h2⟩
theorem mem_take {α : Type} {l : List α} {i : Nat} {y : α} : y ∈ l.take i ↔ ∃ k : Nat, k < i ∧ l[k]? = some y := by
  constructor
  intro h
  obtain ⟨k, hk⟩ := List.mem_iff_getElem?.1 h
  rw [List.getElem?_take] at hk
  split at hk
  exact ⟨k, by assumption, hk⟩
  cases hk
  rintro ⟨k, h1, h2⟩
  exact List.mem_of_getElem? (i := k) (by rw [List.getElem?_take, if_pos h1, h2])
theorem fnd_take_true {l : List Item} {i : Nat} {b : Int} (h : ((fnd (seenL (l.take i)) b).getD false) = true) : ∃ (k : Nat) (y : Item), k < i ∧ l[k]? = some y ∧ y.block = b := by
  rw [fnd_seen] at h
  split at h
  rename_i h1
  obtain ⟨y, h2, h3⟩ := h1
  obtain ⟨k, h4, h5⟩ := mem_take.1 h2
  exact ⟨k, y, h4, h5, h3⟩
  cases h
theorem fnd_take_false {l : List Item} {i : Nat} {b : Int} (h : ((fnd (seenL (l.take i)) b).getD false) = false) : fnd (seenL (l.take i)) b = none ∧ ∀ (k : Nat) (y : Item), k < i → l[k]? = some y → y.block ≠ b := by
  rw [fnd_seen] at h ⊢
  split at h
  cases h
  rename_i h1
  exact ⟨by rw [if_neg h1], fun k y h2 h3 e => h1 ⟨y, mem_take.2 ⟨k, h2, h3⟩, e⟩⟩

theorem c_volume_ItemsRight (blocks size : Int) (l : List Item) : Con Try.prog 38 [AI .i64 blocks, AI .i64 size, .t (itemsT l)] [] (AB (decide (itemsOK blocks size l))) [] := by
  refine con_intro [] [] Try.func38 rfl Try.ntmps38 Try.results38 rfl rfl ?_
  intro E
  refine vc_okT (i := 2) rfl fun ok0 => ?_
  have hla := ok0.len
  rw [List.length_map] at hla
  refine vc_rseq mixed ?_
  refine g_val (s_assign rfl rfl) rfl ?_
  refine g_nil ?_
  refine vc_rseq mixed ?_
  refine g_new (s_makeMap 10 rfl rfl) rfl ?_
  refine g_val (s_assign rfl rfl) rfl ?_
  refine g_nil ?_
  refine vc_seq ?_
  refine vc_rseq mixed ?_
  refine g_val (s_move rfl rfl) rfl ?_
  refine g_val (s_len rfl rfl) rfl ?_
  refine g_val (s_move rfl rfl) rfl ?_
  refine g_nil ?_
  refine vc_block ?_
  refine vc_up l.length (fun i => ⟨[(0, AI .i64 blocks), (1, AI .i64 size), (2, .t (itemsT l)), (7, .mp 10), (11, .t (itemsT l)), (12, AI .i64 l.length), (13, AI .i64 i)], [(10, some (.obj (mapO (seenL (l.take i)))))], [10]⟩) (fun i => ∀ (j : Nat) (x : Item), j < i → l[j]? = some x → (0 ≤ x.block ∧ x.block < blocks ∧ (x.data.length : Int) = size) ∧ ∀ (k : Nat) (y : Item), k < j → l[k]? = some y → y.block ≠ x.block) (leE_same (by repeat (first | exact letm_nil _ _ | refine letm_cons rfl ?_ ?_ | exact .same _ | exact .id' rfl | exact .id' (by simp only [List.length_map]; done))) (by repeat (first | exact lehp_nil _ _ | refine lehp_cons rfl ?_ ?_ | exact leB_same _ | exact leB_row (by first | rfl | (simp only [List.length_map]; done)) | exact leB_obj (by simp only [List.length_map]; done) | refine leB_box ?_ | exact leL_nil | refine leL_cons ?_ ?_ | exact .same _ | exact .id' rfl | exact .id' (by simp only [List.length_map]; done))) rfl) (fun j x h => by omega) (fun i hi hJ => ?_)
  refine vc_rseq mixed ?_
  refine g_val (s_lss rfl rfl rfl) rfl ?_
  refine g_nil ?_
  refine vc_seq ?_
  refine vc_cond rfl (fun hc14 => ?_) (fun hc14 => ?_)
  replace hc14 := of_decide_eq_true hc14
  obtain ⟨x, hx⟩ := get_of_lt (l := l) (i := i) (by omega)
  refine vc_skip ?_
  refine vc_seq ?_
  refine vc_block ?_
  refine vc_rseq mixed ?_
  refine g_val (s_index rfl rfl rfl (by omega) (idx_map hx)) rfl ?_
  refine g_val (s_loadTA rfl rfl rfl) rfl ?_
  refine g_new (s_alloc 9 rfl rfl) rfl ?_
  refine g_sto (s_store rfl rfl rfl rfl rfl rfl) rfl ?_
  refine g_nil ?_
  refine vc_seq ?_
  refine vc_rseq mixed ?_
  refine g_val (s_move rfl rfl) rfl ?_
  refine g_val (s_field rfl rfl rfl rfl) rfl ?_
  refine g_val (s_load rfl rfl rfl rfl) rfl ?_
  refine g_val (s_lookup rfl rfl rfl rfl) rfl ?_
  refine g_val (s_move rfl rfl) rfl ?_
  refine g_probe (j := 21) rfl (fun c hg21 => ?_)
  cases c
  rw [← hg21]; replace hg21 := hg21.symm
  refine gq_val (s_field rfl rfl rfl rfl) rfl rfl rfl rfl ?_
  refine gq_val (s_load rfl rfl rfl rfl) rfl rfl rfl rfl ?_
  refine gq_val (s_lss rfl rfl rfl) rfl rfl rfl rfl ?_
  refine g_val (s_pickF rfl rfl rfl) rfl ?_
  refine g_val (s_move rfl rfl) rfl ?_
  refine g_probe (j := 26) rfl (fun c hg26 => ?_)
  cases c
  rw [← hg26]; replace hg26 := hg26.symm; replace hg26 := of_decide_eq_false hg26
  simp only [Int.not_lt] at hg26
  refine gq_val (s_field rfl rfl rfl rfl) rfl rfl rfl rfl ?_
  refine gq_val (s_load rfl rfl rfl rfl) rfl rfl rfl rfl ?_
  refine gq_val (s_move rfl rfl) rfl rfl rfl rfl ?_
  refine gq_val (s_geq rfl rfl rfl) rfl rfl rfl rfl ?_
  refine g_val (s_pickF rfl rfl rfl) rfl ?_
  refine g_val (s_move rfl rfl) rfl ?_
  refine g_probe (j := 32) rfl (fun c hg32 => ?_)
  cases c
  rw [← hg32]; replace hg32 := hg32.symm; replace hg32 := of_decide_eq_false hg32
  simp only [Int.not_le] at hg32
  refine gq_val (s_field rfl rfl rfl rfl) rfl rfl rfl rfl ?_
  refine gq_val (s_load rfl rfl rfl rfl) rfl rfl rfl rfl ?_
  refine gq_val (s_len rfl rfl) rfl rfl rfl rfl ?_
  refine gq_val (s_move rfl rfl) rfl rfl rfl rfl ?_
  refine gq_val (s_neq rfl rfl rfl) rfl rfl rfl rfl ?_
  refine g_val (s_pickF rfl rfl rfl) rfl ?_
  refine g_nil ?_
  refine vc_cond rfl (fun hc38 => ?_) (fun hc38 => ?_)
  replace hc38 := of_decide_eq_true hc38
  simp only [List.length_map, ne_eq] at hc38
  refine vc_rseq mixed ?_
  refine g_val (s_assign rfl rfl) rfl ?_
  refine g_nil ?_
  exact vc_ret (ret_of _ (.cons (.tmp rfl) .nil) (by simp only [single]; rw [decide_eq_false]; intro h; have h1 := (itemsOK_iff.1 h).2.2 i x hx; first | omega | (obtain ⟨k, y, h2, h3, h4⟩ := fnd_take_true hg21; exact h1.2 k y h2 h3 h4)) rfl)
  replace hc38 := of_decide_eq_false hc38
  simp only [List.length_map, ne_eq, Decidable.not_not] at hc38
  refine vc_skip ?_
  refine vc_region mixed ?_
  refine g_val (s_move rfl rfl) rfl ?_
  refine g_val (s_field rfl rfl rfl rfl) rfl ?_
  refine g_val (s_load rfl rfl rfl rfl) rfl ?_
  refine g_sto (s_mapUpdate rfl rfl rfl rfl ((fnd_take_false hg21).1)) rfl ?_
  refine g_nil ?_
  refine vc_region mixed ?_
  refine g_val (s_add rfl rfl rfl (by simp only [inI, kMin, kMax]; omega)) rfl ?_
  refine g_val (s_move rfl rfl) rfl ?_
  refine g_nil ?_
  exact ⟨by omega, fun j z hj hz => by rcases Nat.lt_succ_iff_lt_or_eq.1 hj with h | rfl; exact hJ j z h hz; rw [hx] at hz; injection hz with hz; subst hz; exact ⟨by omega, (fnd_take_false hg21).2⟩, (leE_same (by repeat (first | exact letm_nil _ _ | refine letm_cons rfl ?_ ?_ | exact .same _ | exact .id' rfl | exact .id' (by simp only [seenL, take_snoc hx, List.map_append, List.map_cons, List.map_nil]; done))) (by repeat (first | exact lehp_nil _ _ | refine lehp_cons rfl ?_ ?_ | exact leB_same _ | exact leB_row (by first | rfl | (simp only [seenL, take_snoc hx, List.map_append, List.map_cons, List.map_nil]; done)) | exact leB_obj (by simp only [seenL, take_snoc hx, List.map_append, List.map_cons, List.map_nil]; done) | refine leB_box ?_ | exact leL_nil | refine leL_cons ?_ ?_ | exact .same _ | exact .id' rfl | exact .id' (by simp only [seenL, take_snoc hx, List.map_append, List.map_cons, List.map_nil]; done))) rfl)⟩
  rw [← hg32]; replace hg32 := hg32.symm; replace hg32 := of_decide_eq_true hg32
  refine gn_val rfl rfl rfl rfl rfl rfl (by decide) ?_
  refine gn_val rfl rfl rfl rfl rfl rfl (by decide) ?_
  refine gn_val rfl rfl rfl rfl rfl rfl (by decide) ?_
  refine gn_val rfl rfl rfl rfl rfl rfl (by decide) ?_
  refine gn_val rfl rfl rfl rfl rfl rfl (by decide) ?_
  refine g_val (s_pickT rfl rfl rfl) rfl ?_
  refine g_nil ?_
  refine vc_cond rfl (fun _ => ?_) (fun h => by cases h)
  refine vc_rseq mixed ?_
  refine g_val (s_assign rfl rfl) rfl ?_
  refine g_nil ?_
  exact vc_ret (ret_of _ (.cons (.tmp rfl) .nil) (by simp only [single]; rw [decide_eq_false]; intro h; have h1 := (itemsOK_iff.1 h).2.2 i x hx; first | omega | (obtain ⟨k, y, h2, h3, h4⟩ := fnd_take_true hg21; exact h1.2 k y h2 h3 h4)) rfl)
  rw [← hg26]; replace hg26 := hg26.symm; replace hg26 := of_decide_eq_true hg26
  refine gn_val rfl rfl rfl rfl rfl rfl (by decide) ?_
  refine gn_val rfl rfl rfl rfl rfl rfl (by decide) ?_
  refine gn_val rfl rfl rfl rfl rfl rfl (by decide) ?_
  refine gn_val rfl rfl rfl rfl rfl rfl (by decide) ?_
  refine g_val (s_pickT rfl rfl rfl) rfl ?_
  refine g_val (s_move rfl rfl) rfl ?_
  refine gn_val rfl rfl rfl rfl rfl rfl (by decide) ?_
  refine gn_val rfl rfl rfl rfl rfl rfl (by decide) ?_
  refine gn_val rfl rfl rfl rfl rfl rfl (by decide) ?_
  refine gn_val rfl rfl rfl rfl rfl rfl (by decide) ?_
  refine gn_val rfl rfl rfl rfl rfl rfl (by decide) ?_
  refine g_val (s_pickT rfl rfl rfl) rfl ?_
  refine g_nil ?_
  refine vc_cond rfl (fun _ => ?_) (fun h => by cases h)
  refine vc_rseq mixed ?_
  refine g_val (s_assign rfl rfl) rfl ?_
  refine g_nil ?_
  exact vc_ret (ret_of _ (.cons (.tmp rfl) .nil) (by simp only [single]; rw [decide_eq_false]; intro h; have h1 := (itemsOK_iff.1 h).2.2 i x hx; first | omega | (obtain ⟨k, y, h2, h3, h4⟩ := fnd_take_true hg21; exact h1.2 k y h2 h3 h4)) rfl)
  rw [← hg21]; replace hg21 := hg21.symm
  refine gn_val rfl rfl rfl rfl rfl rfl (by decide) ?_
  refine gn_val rfl rfl rfl rfl rfl rfl (by decide) ?_
  refine gn_val rfl rfl rfl rfl rfl rfl (by decide) ?_
  refine g_val (s_pickT rfl rfl rfl) rfl ?_
  refine g_val (s_move rfl rfl) rfl ?_
  refine gn_val rfl rfl rfl rfl rfl rfl (by decide) ?_
  refine gn_val rfl rfl rfl rfl rfl rfl (by decide) ?_
  refine gn_val rfl rfl rfl rfl rfl rfl (by decide) ?_
  refine gn_val rfl rfl rfl rfl rfl rfl (by decide) ?_
  refine g_val (s_pickT rfl rfl rfl) rfl ?_
  refine g_val (s_move rfl rfl) rfl ?_
  refine gn_val rfl rfl rfl rfl rfl rfl (by decide) ?_
  refine gn_val rfl rfl rfl rfl rfl rfl (by decide) ?_
  refine gn_val rfl rfl rfl rfl rfl rfl (by decide) ?_
  refine gn_val rfl rfl rfl rfl rfl rfl (by decide) ?_
  refine gn_val rfl rfl rfl rfl rfl rfl (by decide) ?_
  refine g_val (s_pickT rfl rfl rfl) rfl ?_
  refine g_nil ?_
  refine vc_cond rfl (fun _ => ?_) (fun h => by cases h)
  refine vc_rseq mixed ?_
  refine g_val (s_assign rfl rfl) rfl ?_
  refine g_nil ?_
  exact vc_ret (ret_of _ (.cons (.tmp rfl) .nil) (by simp only [single]; rw [decide_eq_false]; intro h; have h1 := (itemsOK_iff.1 h).2.2 i x hx; first | omega | (obtain ⟨k, y, h2, h3, h4⟩ := fnd_take_true hg21; exact h1.2 k y h2 h3 h4)) rfl)
  replace hc14 := of_decide_eq_false hc14
  simp only [Int.not_lt] at hc14
  refine vc_exit ?_
  refine vc_rseq mixed ?_
  refine g_val (s_move rfl rfl) rfl ?_
  refine g_val (s_len rfl rfl) rfl ?_
  refine g_val (s_call [] (c_volume_within ..) (evArgs_cons rfl (evArgs_cons rfl (evArgs_cons rfl evArgs_nil))) trivial rfl (okVL_nil _) rfl (.inl rfl) rfl) rfl ?_
  refine g_val (s_assign rfl rfl) rfl ?_
  refine g_nil ?_
  exact vc_ret (ret_of _ (.cons (.tmp rfl) .nil) (by simp only [single, List.length_map]; refine congrArg (fun b => AV.t (T.k (Value.bool b))) ?_; rw [Bool.eq_iff_iff]; simp only [decide_eq_true_eq]; constructor; exact fun h => itemsOK_iff.2 ⟨by omega, by omega, fun j x hx => hJ j x (by have := (List.getElem?_eq_some_iff.1 hx).1; omega) hx⟩; exact fun h => ⟨by have := h.1; omega, by have := h.2.1; omega⟩) rfl)

theorem c_mementoref16_own (l : List Item) : Con Try.prog 89 [.t (itemsT l)] [] (.t (itemsT l)) [] := by
  refine con_intro [] [] Try.func89 rfl Try.ntmps89 Try.results89 rfl rfl ?_
  intro E
  refine vc_okT (i := 0) rfl fun ok0 => ?_
  have hla := ok0.len
  rw [List.length_map] at hla
  refine vc_rseq mixed ?_
  refine g_val (s_assign rfl rfl) rfl ?_
  refine g_nil ?_
  refine vc_rseq mixed ?_
  refine g_val (s_assign rfl rfl) rfl ?_
  refine g_nil ?_
  refine vc_seq ?_
  refine vc_ownnil (i := 3) 3 2 32 rfl rfl rfl ?_
  refine vc_rseq mixed ?_
  refine g_val (s_assign rfl rfl) rfl ?_
  refine g_nil ?_
  refine vc_block ?_
  refine vc_up l.length (fun i => ⟨[(0, .t (itemsT l)), (3, .rows 3 2 0 i), (4, AI .i64 i)], [(3, some (.row 2 32 ((l.take i).map itemC)))], [3]⟩) (fun i => True) (leE_same (by repeat (first | exact letm_nil _ _ | refine letm_cons rfl ?_ ?_ | exact .same _ | exact .id' rfl | exact .id' (by simp; done))) (by repeat (first | exact lehp_nil _ _ | refine lehp_cons rfl ?_ ?_ | exact leB_same _ | exact leB_row (by first | rfl | (simp; done)) | exact leB_obj (by simp; done) | refine leB_box ?_ | exact leL_nil | refine leL_cons ?_ ?_ | exact .same _ | exact .id' rfl | exact .id' (by simp; done))) rfl) trivial (fun i hi _ => ?_)
  refine vc_seq ?_
  refine vc_rseq mixed ?_
  refine g_val (s_move rfl rfl) rfl ?_
  refine g_val (s_move rfl rfl) rfl ?_
  refine g_val (s_len rfl rfl) rfl ?_
  refine g_val (s_lss rfl rfl rfl) rfl ?_
  refine g_nil ?_
  refine vc_cond rfl (fun hc8 => ?_) (fun hc8 => ?_)
  replace hc8 := of_decide_eq_true hc8
  simp only [List.length_map] at hc8
  obtain ⟨x, hx⟩ := get_of_lt (l := l) (i := i) (by omega)
  have hxb := (ok0.item hx).1.blen
  refine vc_skip ?_
  refine vc_seq ?_
  refine vc_block ?_
  refine vc_region mixed ?_
  refine d_val (s_move rfl rfl) rfl ?_
  refine d_val (s_move rfl rfl) rfl ?_
  refine d_val (s_move rfl rfl) rfl ?_
  refine d_val (s_index rfl rfl rfl (by omega) (idx_map hx)) rfl ?_
  refine d_val (s_fieldT rfl rfl rfl rfl rfl) rfl ?_
  refine d_val (s_loadT rfl rfl rfl) rfl ?_
  refine d_val (s_move rfl rfl) rfl ?_
  refine d_val (s_move rfl rfl) rfl ?_
  refine d_val (s_index rfl rfl rfl (by omega) (idx_map hx)) rfl ?_
  refine d_val (s_fieldT rfl rfl rfl rfl rfl) rfl ?_
  refine d_val (s_loadT rfl rfl rfl) rfl ?_
  refine d_fz ((s_appendN 22 rfl rfl rfl rfl (by rw [List.length_map]; omega)).fzE rfl) rfl ?_
  refine d_val (s_build (evArgs_cons rfl (evArgs_cons rfl evArgs_nil)) rfl rfl rfl) rfl ?_
  refine d_fz ((s_buildSlice 24 (evArgs_cons rfl evArgs_nil) rfl rfl rfl rfl).fzE rfl) rfl ?_
  refine d_app (s_append 25 rfl rfl rfl rfl rfl (by simp; omega) rfl rfl (by (try simp only [List.length_cons, List.length_nil]); omega)) rfl ?_
  refine d_val (s_assign rfl rfl) rfl ?_
  refine d_nil rfl ?_
  refine vc_region mixed ?_
  refine g_val (s_move rfl rfl) rfl ?_
  refine g_val (s_add rfl rfl rfl (by simp only [inI, kMin, kMax]; omega)) rfl ?_
  refine g_val (s_assign rfl rfl) rfl ?_
  refine g_nil ?_
  exact ⟨by omega, trivial, (leE_gen [] [(3, 25)] (by repeat (first | exact letm_nil _ _ | refine letm_cons rfl ?_ ?_ | exact LeV.tt rfl | exact .eq (okV_nil _) rfl | exact LeV.tt (by rw [take_snoc hx, List.map_append, List.take_of_length_le (by simp; omega)]; rfl) | exact .eq (okV_nil _) (by rw [take_snoc hx, List.map_append, List.take_of_length_le (by simp; omega)]; rfl))) (by repeat (first | exact lehp_nil _ _ | refine lehp_cons rfl ?_ ?_ | exact leB_row (by first | rfl | (rw [take_snoc hx, List.map_append, List.take_of_length_le (by simp; omega)]; rfl)) | exact leB_obj (by rw [take_snoc hx, List.map_append, List.take_of_length_le (by simp; omega)]; rfl) | refine leB_box ?_ | exact leL_nil | refine leL_cons ?_ ?_ | exact LeV.tt rfl | exact .eq (okV_nil _) rfl | exact LeV.tt (by rw [take_snoc hx, List.map_append, List.take_of_length_le (by simp; omega)]; rfl) | exact .eq (okV_nil _) (by rw [take_snoc hx, List.map_append, List.take_of_length_le (by simp; omega)]; rfl))) trivial rfl)⟩
  replace hc8 := of_decide_eq_false hc8
  simp only [List.length_map, Int.not_lt] at hc8
  refine vc_exit ?_
  obtain rfl : i = l.length := by omega
  refine vc_rseq mixed ?_
  refine g_val (s_move rfl rfl) rfl ?_
  refine g_val (s_assign rfl rfl) rfl ?_
  refine g_nil ?_
  exact vc_ret (ret_le [(3, _)] _ (.cons (.tmp rfl) .nil) ⟨rfl, trivial⟩ (.eq (by simp [single, AV.okV, okR, lkB]) (by simp [single, AV.view, viewR, lkB, AV.ren, itemsT, take_map_len])) rfl)

end Go.Eng

set_option maxHeartbeats 1000000
namespace Go.Eng
open Go.Proofs

theorem set_same {α : Type} {l : List α} {i : Nat} {x : α} (h : l[i]? = some x) : l.set i x = l := by
  apply List.ext_getElem?
  intro j
  rw [List.getElem?_set]
  split
  rename_i e; subst e
  obtain ⟨h1, h2⟩ := List.getElem?_eq_some_iff.1 h
  rw [if_pos h1, h]
  rfl

theorem c_volume_items (l : List Item) : Con Try.prog 36 [.t (itemsT l)] [] (.t (itemsT l)) [] := by
  refine con_intro [] [] Try.func36 rfl Try.ntmps36 Try.results36 rfl rfl ?_
  intro E
  refine vc_okT (i := 0) rfl fun ok0 => ?_
  have hla := ok0.len
  rw [List.length_map] at hla
  refine vc_rseq mixed ?_
  refine g_val (s_assign rfl rfl) rfl ?_
  refine g_nil ?_
  refine vc_rseq mixed ?_
  refine g_val (s_move rfl rfl) rfl ?_
  refine g_new (s_callH [] [(0, 6)] (c_Clone_Item_own l) (evArgs_cons rfl evArgs_nil) trivial rfl (okVL_nil _) rfl rfl rfl) rfl ?_
  refine g_val (s_assign rfl rfl) rfl ?_
  refine g_nil ?_
  refine vc_seq ?_
  refine vc_rseq mixed ?_
  refine g_val (s_move rfl rfl) rfl ?_
  refine g_val (s_lenR rfl rfl (by first | omega | (simp; done) | (simp; omega)) rfl) rfl ?_
  refine g_val (s_move rfl rfl) rfl ?_
  refine g_nil ?_
  refine vc_block ?_
  refine vc_up l.length (fun i => ⟨[(3, .rows 6 2 0 l.length), (8, AI .i64 l.length), (9, AI .i64 i)], [(6, some (.row 2 32 (l.map itemC)))], [6]⟩) (fun i => True) (leE_same (by repeat (first | exact letm_nil _ _ | refine letm_cons rfl ?_ ?_ | exact .same _ | exact .id' rfl | exact .id' (by simp; done))) (by repeat (first | exact lehp_nil _ _ | refine lehp_cons rfl ?_ ?_ | exact leB_same _ | exact leB_row (by first | rfl | (simp; done)) | exact leB_obj (by simp; done) | refine leB_box ?_ | exact leL_nil | refine leL_cons ?_ ?_ | exact .same _ | exact .id' rfl | exact .id' (by simp; done))) rfl) trivial (fun i hi _ => ?_)
  refine vc_rseq mixed ?_
  refine g_val (s_lss rfl rfl rfl) rfl ?_
  refine g_nil ?_
  refine vc_seq ?_
  refine vc_cond rfl (fun hc10 => ?_) (fun hc10 => ?_)
  replace hc10 := of_decide_eq_true hc10
  obtain ⟨x, hx⟩ := get_of_lt (l := l) (i := i) (by omega)
  refine vc_skip ?_
  refine vc_seq ?_
  refine vc_block ?_
  refine vc_rseq mixed ?_
  refine g_val (s_move rfl rfl) rfl ?_
  refine g_val (s_assign rfl rfl) rfl ?_
  refine g_nil ?_
  refine vc_region mixed ?_
  refine g_val (s_move rfl rfl) rfl ?_
  refine g_val (s_move rfl rfl) rfl ?_
  refine g_val (s_move rfl rfl) rfl ?_
  refine g_val (s_move rfl rfl) rfl ?_
  refine g_val (s_indexR rfl rfl rfl (by omega) (by omega)) rfl ?_
  refine g_val (s_fieldR rfl rfl rfl rfl) rfl ?_
  refine g_val (s_loadR rfl rfl (by rw [Nat.zero_add]; exact idx_map hx) rfl rfl) rfl ?_
  refine g_val (s_call [] (c_Clone_byte x.data) (evArgs_cons rfl evArgs_nil) trivial rfl (okVL_nil _) rfl (.inl rfl) rfl) rfl ?_
  refine g_val (s_indexR rfl rfl rfl (by omega) (by omega)) rfl ?_
  refine g_val (s_fieldR rfl rfl rfl rfl) rfl ?_
  refine g_sto (s_storeR rfl rfl rfl rfl rfl (by rw [Nat.zero_add]; exact idx_map hx) rfl) rfl ?_
  refine g_nil ?_
  refine vc_region mixed ?_
  refine g_val (s_add rfl rfl rfl (by simp only [inI, kMin, kMax]; omega)) rfl ?_
  refine g_val (s_move rfl rfl) rfl ?_
  refine g_nil ?_
  exact ⟨by omega, trivial, (leE_same (by repeat (first | exact letm_nil _ _ | refine letm_cons rfl ?_ ?_ | exact .same _ | exact .id' rfl | exact .id' (by rw [Nat.zero_add]; exact set_same (idx_map hx)))) (by repeat (first | exact lehp_nil _ _ | refine lehp_cons rfl ?_ ?_ | exact leB_same _ | exact leB_row (by first | rfl | (rw [Nat.zero_add]; exact set_same (idx_map hx))) | exact leB_obj (by rw [Nat.zero_add]; exact set_same (idx_map hx)) | refine leB_box ?_ | exact leL_nil | refine leL_cons ?_ ?_ | exact .same _ | exact .id' rfl | exact .id' (by rw [Nat.zero_add]; exact set_same (idx_map hx)))) rfl)⟩
  replace hc10 := of_decide_eq_false hc10
  simp only [Int.not_lt] at hc10
  refine vc_exit ?_
  refine vc_rseq mixed ?_
  refine g_val (s_move rfl rfl) rfl ?_
  refine g_val (s_assign rfl rfl) rfl ?_
  refine g_nil ?_
  exact vc_ret (ret_le [(6, _)] _ (.cons (.tmp rfl) .nil) ⟨rfl, trivial⟩ (.eq (by simp [single, AV.okV, okR, lkB]) (by simp [single, AV.view, viewR, lkB, AV.ren, itemsT, take_map_len])) rfl)

def dataB (k : Int) (i : Nat) : Int := IntKind.u8.wrap (k + IntKind.u8.wrap (IntKind.u8.wrap i * 7))
def dataF (size k : Int) : List Int := (List.range size.toNat).map (dataB k)

theorem c_mementoseat_Data (size k : Int) (hs : size ≤ 1000000) : Con Try.prog 33 [AI .i64 size, AI .u8 k] [] (.t (bytesT (dataF size k))) [] := by
  refine con_intro [] [] Try.func33 rfl Try.ntmps33 Try.results33 rfl rfl ?_
  intro E
  refine vc_rseq mixed ?_
  refine g_val (s_assign rfl rfl) rfl ?_
  refine g_nil ?_
  refine vc_rseq mixed ?_
  refine g_val (s_assign rfl rfl) rfl ?_
  refine g_nil ?_
  refine vc_seq ?_
  refine vc_ownnil (i := 5) 5 1 1 rfl rfl rfl ?_
  refine vc_rseq mixed ?_
  refine g_val (s_assign rfl rfl) rfl ?_
  refine g_nil ?_
  refine vc_block ?_
  refine vc_up size.toNat (fun i => ⟨[(0, AI .i64 size), (1, AI .u8 k), (5, .rows 5 1 0 i), (6, AI .i64 i)], [(5, some (.row 1 1 (((List.range i).map (dataB k)).map byteC)))], [5]⟩) (fun i => True) (leE_same (by repeat (first | exact letm_nil _ _ | refine letm_cons rfl ?_ ?_ | exact .same _ | exact .id' rfl | exact .id' (by simp; done))) (by repeat (first | exact lehp_nil _ _ | refine lehp_cons rfl ?_ ?_ | exact leB_same _ | exact leB_row (by first | rfl | (simp; done)) | exact leB_obj (by simp; done) | refine leB_box ?_ | exact leL_nil | refine leL_cons ?_ ?_ | exact .same _ | exact .id' rfl | exact .id' (by simp; done))) rfl) trivial (fun i hi _ => ?_)
  refine vc_seq ?_
  refine vc_rseq mixed ?_
  refine g_val (s_move rfl rfl) rfl ?_
  refine g_val (s_move rfl rfl) rfl ?_
  refine g_val (s_lss rfl rfl rfl) rfl ?_
  refine g_nil ?_
  refine vc_cond rfl (fun hc9 => ?_) (fun hc9 => ?_)
  replace hc9 := of_decide_eq_true hc9
  refine vc_skip ?_
  refine vc_seq ?_
  refine vc_block ?_
  refine vc_region mixed ?_
  refine g_val (s_move rfl rfl) rfl ?_
  refine g_val (s_move rfl rfl) rfl ?_
  refine g_val (s_move rfl rfl) rfl ?_
  refine g_val (s_convW rfl rfl) rfl ?_
  refine g_val (s_mulW rfl rfl rfl) rfl ?_
  refine g_val (s_addW rfl rfl rfl) rfl ?_
  refine g_fz ((s_buildSlice 18 (evArgs_cons rfl evArgs_nil) rfl rfl rfl rfl).fzE rfl) rfl ?_
  refine g_app (s_append 19 rfl rfl rfl rfl rfl (by simp) rfl rfl (by (try simp only [List.length_cons, List.length_nil]); omega)) rfl ?_
  refine g_val (s_assign rfl rfl) rfl ?_
  refine g_nil ?_
  refine vc_region mixed ?_
  refine g_val (s_move rfl rfl) rfl ?_
  refine g_val (s_add rfl rfl rfl (by simp only [inI, kMin, kMax]; omega)) rfl ?_
  refine g_val (s_assign rfl rfl) rfl ?_
  refine g_nil ?_
  exact ⟨by omega, trivial, (leE_gen [] [(5, 19)] (by repeat (first | exact letm_nil _ _ | refine letm_cons rfl ?_ ?_ | exact LeV.tt rfl | exact .eq (okV_nil _) rfl | exact LeV.tt (by rw [List.range_succ, List.map_append, List.map_append, List.take_of_length_le (by simp)]; rfl) | exact .eq (okV_nil _) (by rw [List.range_succ, List.map_append, List.map_append, List.take_of_length_le (by simp)]; rfl))) (by repeat (first | exact lehp_nil _ _ | refine lehp_cons rfl ?_ ?_ | exact leB_row (by first | rfl | (rw [List.range_succ, List.map_append, List.map_append, List.take_of_length_le (by simp)]; rfl)) | exact leB_obj (by rw [List.range_succ, List.map_append, List.map_append, List.take_of_length_le (by simp)]; rfl) | refine leB_box ?_ | exact leL_nil | refine leL_cons ?_ ?_ | exact LeV.tt rfl | exact .eq (okV_nil _) rfl | exact LeV.tt (by rw [List.range_succ, List.map_append, List.map_append, List.take_of_length_le (by simp)]; rfl) | exact .eq (okV_nil _) (by rw [List.range_succ, List.map_append, List.map_append, List.take_of_length_le (by simp)]; rfl))) trivial rfl)⟩
  replace hc9 := of_decide_eq_false hc9
  simp only [Int.not_lt] at hc9
  refine vc_exit ?_
  obtain rfl : i = size.toNat := by omega
  refine vc_rseq mixed ?_
  refine g_val (s_move rfl rfl) rfl ?_
  refine g_val (s_assign rfl rfl) rfl ?_
  refine g_nil ?_
  exact vc_ret (ret_le [(5, _)] _ (.cons (.tmp rfl) .nil) ⟨rfl, trivial⟩ (.eq (by simp [single, AV.okV, okR, lkB]) (by simp [single, AV.view, viewR, lkB, AV.ren, bytesT, dataF]; rw [List.take_of_length_le (by simp)])) rfl)

def writeV (v : Volume) (l : List Item) : Volume := { v with writes := v.writes ++ [⟨v.writes.length + 1, l⟩] }

theorem c_mementoref16_write (v : Volume) (l : List Item) (hw : (v.writes.length + 1) * 32 ≤ 140737488355328) : Con Try.prog 76 [sC (volC v), .t (itemsT l)] [] (sC (volC (writeV v l))) [] := by
  refine con_intro [] [] Try.func76 rfl Try.ntmps76 Try.results76 rfl rfl ?_
  intro E
  refine vc_rseq mixed ?_
  refine g_new (s_box 2 rfl rfl rfl rfl) rfl ?_
  refine g_new (s_alloc 4 rfl rfl) rfl ?_
  refine g_nil ?_
  refine vc_rseq mixed ?_
  refine d_val (s_field rfl rfl rfl rfl) rfl ?_
  refine d_val (s_load rfl rfl rfl rfl) rfl ?_
  refine d_new (s_appendN 7 rfl rfl rfl rfl (by rw [List.length_map]; omega)) rfl ?_
  refine d_val (s_loadA rfl rfl rfl rfl rfl) rfl ?_
  refine d_val (s_call [] (c_mementoref16_Len v) (evArgs_cons rfl evArgs_nil) trivial rfl (okVL_nil _) rfl (.inl rfl) rfl) rfl ?_
  refine d_val (s_add rfl rfl rfl (by simp only [inI, kMin, kMax]; omega)) rfl ?_
  refine d_val (s_move rfl rfl) rfl ?_
  refine d_val (s_call [] (c_mementoref16_own l) (evArgs_cons rfl evArgs_nil) trivial rfl (okVL_nil _) rfl (.inl rfl) rfl) rfl ?_
  refine d_val (s_build (evArgs_cons rfl (evArgs_cons rfl evArgs_nil)) rfl rfl rfl) rfl ?_
  refine d_fz ((s_buildSlice 14 (evArgs_cons rfl evArgs_nil) rfl rfl rfl rfl).fzE rfl) rfl ?_
  refine d_app (s_append 15 rfl rfl rfl rfl rfl (by first | exact Nat.le_refl _ | (simp; done) | (simp; omega)) rfl rfl (by (try simp only [List.length_cons, List.length_nil, List.length_map]); omega)) rfl ?_
  refine d_val (s_field rfl rfl rfl rfl) rfl ?_
  refine d_sto (s_store rfl rfl rfl rfl rfl rfl) rfl ?_
  refine d_nil rfl ?_
  refine vc_rseq mixed ?_
  refine g_val (s_loadA rfl rfl rfl rfl rfl) rfl ?_
  refine g_sto (s_store rfl rfl rfl rfl rfl rfl) rfl ?_
  refine g_nil ?_
  exact vc_ret (ret_le [(15, _)] _ (.cons (.agg rfl rfl rfl rfl) .nil) ⟨rfl, trivial⟩ (by repeat (first | exact leL_nil | refine leL_cons ?_ ?_ | exact LeV.tt rfl | exact .nl (by decide) (by decide) | exact .nn | refine LeV.tupL ?_ | refine LeV.aggL ?_ | exact .eq (by first | exact trivial | (simp [AV.okV, okR, lkB]; done) | (simp [AV.okV, okR, lkB]; omega)) (by first | rfl | (simp [AV.view, viewR, lkB, AV.ren, List.take_of_length_le]; done) | (simp [AV.view, viewR, lkB, AV.ren, List.take_of_length_le]; simp [writesT, writeV, writeC, i64]; done)))) rfl)

end Go.Eng

set_option maxHeartbeats 1000000
namespace Go.Eng
open Go.Proofs

def volZ : Volume := ⟨0, 0, 0, 0, [], 0, 0, false, 0, [], []⟩
def volN (c : VolCmd) : Volume := ⟨c.vol, c.blocks, c.size, c.per, c.place, c.total, 0, decide (0 < c.total), 0, [], []⟩
def cmdOK (c : VolCmd) : Prop := shapeOK c.vol c.blocks c.size c.per c.place c.total
instance (c : VolCmd) : Decidable (cmdOK c) := by unfold cmdOK; infer_instance

theorem c_mementoref16_New_ok (c : VolCmd) (h0 : cmdOK c) : Con Try.prog 22 [sC (cmdC c)] [] (.tup [sC (volC (volN c)), AI .i64 0]) [] := by
  refine con_intro [] [] Try.func22 rfl Try.ntmps22 Try.results22 rfl rfl ?_
  intro E
  refine vc_okA (i := 0) (j := 5) rfl rfl fun okp => ?_
  have hlp := okp.len
  rw [List.length_map] at hlp
  refine vc_rseq mixed ?_
  refine g_new (s_box 1 rfl rfl rfl rfl) rfl ?_
  refine g_new (s_alloc 2 rfl rfl) rfl ?_
  refine g_val (s_assign rfl rfl) rfl ?_
  refine g_nil ?_
  refine vc_seq ?_
  refine vc_rseq mixed ?_
  refine g_val (s_loadA rfl rfl rfl rfl rfl) rfl ?_
  refine g_val (s_call [] (c_mementoref16_shape c) (evArgs_cons rfl evArgs_nil) trivial rfl (okVL_nil _) rfl (.inl rfl) rfl) rfl ?_
  refine g_val (s_not rfl rfl) rfl ?_
  refine g_nil ?_
  refine vc_cond rfl (fun h => by simp [show shapeOK c.vol c.blocks c.size c.per c.place c.total from h0] at h) (fun _ => ?_)
  refine vc_skip ?_
  refine vc_rseq mixed ?_
  refine d_val (s_field rfl rfl rfl rfl) rfl ?_
  refine d_val (s_load rfl rfl rfl rfl) rfl ?_
  refine d_val (s_field rfl rfl rfl rfl) rfl ?_
  refine d_val (s_load rfl rfl rfl rfl) rfl ?_
  refine d_val (s_field rfl rfl rfl rfl) rfl ?_
  refine d_val (s_load rfl rfl rfl rfl) rfl ?_
  refine d_val (s_field rfl rfl rfl rfl) rfl ?_
  refine d_val (s_load rfl rfl rfl rfl) rfl ?_
  refine d_val (s_field rfl rfl rfl rfl) rfl ?_
  refine d_val (s_load rfl rfl rfl rfl) rfl ?_
  refine d_fz ((s_appendN 18 rfl rfl rfl rfl (by rw [List.length_map]; omega)).fzE rfl) rfl ?_
  refine d_val (s_field rfl rfl rfl rfl) rfl ?_
  refine d_val (s_load rfl rfl rfl rfl) rfl ?_
  refine d_val (s_field rfl rfl rfl rfl) rfl ?_
  refine d_val (s_load rfl rfl rfl rfl) rfl ?_
  refine d_val (s_gtr rfl rfl rfl) rfl ?_
  refine d_val (s_build (evArgs_cons rfl (evArgs_cons rfl (evArgs_cons rfl (evArgs_cons rfl (evArgs_cons rfl (evArgs_cons rfl (evArgs_cons rfl evArgs_nil))))))) rfl rfl rfl) rfl ?_
  refine d_sto (s_store rfl rfl rfl rfl rfl rfl) rfl ?_
  refine d_val (s_assign rfl rfl) rfl ?_
  refine d_nil rfl ?_
  exact vc_ret (ret_le [] _ (.cons (.agg rfl rfl rfl rfl) (.cons (.tmp rfl) .nil)) trivial (by repeat (first | exact leL_nil | refine leL_cons ?_ ?_ | exact LeV.tt rfl | exact .nl (by decide) (by decide) | exact .nn | refine LeV.tupL ?_ | refine LeV.aggL ?_ | exact .eq (by first | exact trivial | (simp [AV.okV, okR, lkB]; done) | (simp [AV.okV, okR, lkB]; omega)) (by first | rfl | (simp [AV.view, viewR, lkB, AV.ren, List.take_of_length_le]; done) | (simp [AV.view, viewR, lkB, AV.ren, List.take_of_length_le]; done)))) rfl)
theorem c_mementoref16_New_err (c : VolCmd) (h0 : ¬ cmdOK c) : Con Try.prog 22 [sC (cmdC c)] [] (.tup [sC (volC volZ), AI .i64 23]) [] := by
  refine con_intro [] [] Try.func22 rfl Try.ntmps22 Try.results22 rfl rfl ?_
  intro E
  refine vc_rseq mixed ?_
  refine g_new (s_box 1 rfl rfl rfl rfl) rfl ?_
  refine g_new (s_alloc 2 rfl rfl) rfl ?_
  refine g_val (s_assign rfl rfl) rfl ?_
  refine g_nil ?_
  refine vc_seq ?_
  refine vc_rseq mixed ?_
  refine g_val (s_loadA rfl rfl rfl rfl rfl) rfl ?_
  refine g_val (s_call [] (c_mementoref16_shape c) (evArgs_cons rfl evArgs_nil) trivial rfl (okVL_nil _) rfl (.inl rfl) rfl) rfl ?_
  refine g_val (s_not rfl rfl) rfl ?_
  refine g_nil ?_
  refine vc_cond rfl (fun _ => ?_) (fun h => by simp [show ¬ shapeOK c.vol c.blocks c.size c.per c.place c.total from h0] at h)
  refine vc_rseq mixed ?_
  refine g_val (s_build evArgs_nil rfl rfl rfl) rfl ?_
  refine g_sto (s_store rfl rfl rfl rfl rfl rfl) rfl ?_
  refine g_val (s_assign rfl rfl) rfl ?_
  refine g_nil ?_
  exact vc_ret (ret_le [] _ (.cons (.agg rfl rfl rfl rfl) (.cons (.tmp rfl) .nil)) trivial (by repeat (first | exact leL_nil | refine leL_cons ?_ ?_ | exact LeV.tt rfl | exact .nl (by decide) (by decide) | exact .nn | refine LeV.tupL ?_ | refine LeV.aggL ?_ | exact .eq (by first | exact trivial | (simp [AV.okV, okR, lkB]; done) | (simp [AV.okV, okR, lkB]; omega)) (by first | rfl | (simp [AV.view, viewR, lkB, AV.ren, List.take_of_length_le]; done) | (simp [AV.view, viewR, lkB, AV.ren, List.take_of_length_le]; done)))) rfl)

theorem c_volume_New_ok (c : VolCmd) (h0 : cmdOK c) : Con Try.prog 14 [sC (cmdC c)] [] (.tup [sC (volC (volN c)), AI .i64 0]) [] := by
  refine con_intro [] [] Try.func14 rfl Try.ntmps14 Try.results14 rfl rfl ?_
  intro E
  refine vc_rseq mixed ?_
  refine g_new (s_box 1 rfl rfl rfl rfl) rfl ?_
  refine g_new (s_alloc 2 rfl rfl) rfl ?_
  refine g_val (s_assign rfl rfl) rfl ?_
  refine g_nil ?_
  refine vc_rseq mixed ?_
  refine d_val (s_field rfl rfl rfl rfl) rfl ?_
  refine d_val (s_load rfl rfl rfl rfl) rfl ?_
  refine d_val (s_field rfl rfl rfl rfl) rfl ?_
  refine d_val (s_load rfl rfl rfl rfl) rfl ?_
  refine d_val (s_field rfl rfl rfl rfl) rfl ?_
  refine d_val (s_load rfl rfl rfl rfl) rfl ?_
  refine d_val (s_field rfl rfl rfl rfl) rfl ?_
  refine d_val (s_load rfl rfl rfl rfl) rfl ?_
  refine d_val (s_field rfl rfl rfl rfl) rfl ?_
  refine d_val (s_load rfl rfl rfl rfl) rfl ?_
  refine d_val (s_call [] (c_Clone_int c.place) (evArgs_cons rfl evArgs_nil) trivial rfl (okVL_nil _) rfl (.inl rfl) rfl) rfl ?_
  refine d_val (s_field rfl rfl rfl rfl) rfl ?_
  refine d_val (s_load rfl rfl rfl rfl) rfl ?_
  refine d_val (s_field rfl rfl rfl rfl) rfl ?_
  refine d_val (s_load rfl rfl rfl rfl) rfl ?_
  refine d_val (s_gtr rfl rfl rfl) rfl ?_
  refine d_val (s_build (evArgs_cons rfl (evArgs_cons rfl (evArgs_cons rfl (evArgs_cons rfl (evArgs_cons rfl (evArgs_cons rfl (evArgs_cons rfl evArgs_nil))))))) rfl rfl rfl) rfl ?_
  refine d_new (s_alloc 4 rfl rfl) rfl ?_
  refine d_sto (s_store rfl rfl rfl rfl rfl rfl) rfl ?_
  refine d_nil rfl ?_
  refine vc_seq ?_
  refine vc_le ⟨[(2, .ref 2 0), (3, AI .i64 0), (4, .ref 4 0)], [(4, some (.box ((volC (volN c)).map .t))), (2, some (.box ((volC volZ).map .t)))], [4, 2]⟩ (leE_same (by repeat (first | exact letm_nil _ _ | refine letm_cons rfl ?_ ?_ | exact .same _ | exact .nl (by decide) (by decide) | exact .nn | exact .id' rfl | exact .id' (by simp; done))) (by repeat (first | exact lehp_nil _ _ | refine lehp_cons rfl ?_ ?_ | exact leB_same _ | exact leB_row (by first | rfl | (simp; done)) | exact leB_obj (by simp; done) | refine leB_box ?_ | exact leL_nil | refine leL_cons ?_ ?_ | exact .same _ | exact .nl (by decide) (by decide) | exact .nn | exact .id' rfl | exact .id' (by simp; done))) rfl) ?_
  refine vc_rseq mixed ?_
  refine g_val (s_loadA rfl rfl rfl rfl rfl) rfl ?_
  refine g_val (s_call [] (c_volume_shape (volN c)) (evArgs_cons rfl evArgs_nil) trivial rfl (okVL_nil _) rfl (.inl rfl) rfl) rfl ?_
  refine g_val (s_not rfl rfl) rfl ?_
  refine g_nil ?_
  refine vc_cond rfl (fun h => by simp [show shapeOK c.vol c.blocks c.size c.per c.place c.total from h0, volN] at h) (fun _ => ?_)
  refine vc_skip ?_
  refine vc_rseq mixed ?_
  refine g_val (s_loadA rfl rfl rfl rfl rfl) rfl ?_
  refine g_sto (s_store rfl rfl rfl rfl rfl rfl) rfl ?_
  refine g_val (s_assign rfl rfl) rfl ?_
  refine g_nil ?_
  exact vc_ret (ret_le [] _ (.cons (.agg rfl rfl rfl rfl) (.cons (.tmp rfl) .nil)) trivial (by repeat (first | exact leL_nil | refine leL_cons ?_ ?_ | exact LeV.tt rfl | exact .nl (by decide) (by decide) | exact .nn | refine LeV.tupL ?_ | refine LeV.aggL ?_ | exact .eq (by first | exact trivial | (simp [AV.okV, okR, lkB]; done) | (simp [AV.okV, okR, lkB]; omega)) (by first | rfl | (simp [AV.view, viewR, lkB, AV.ren, List.take_of_length_le]; done) | (simp [AV.view, viewR, lkB, AV.ren, List.take_of_length_le]; done)))) rfl)
theorem c_volume_New_err (c : VolCmd) (h0 : ¬ cmdOK c) : Con Try.prog 14 [sC (cmdC c)] [] (.tup [sC (volC volZ), AI .i64 23]) [] := by
  refine con_intro [] [] Try.func14 rfl Try.ntmps14 Try.results14 rfl rfl ?_
  intro E
  refine vc_rseq mixed ?_
  refine g_new (s_box 1 rfl rfl rfl rfl) rfl ?_
  refine g_new (s_alloc 2 rfl rfl) rfl ?_
  refine g_val (s_assign rfl rfl) rfl ?_
  refine g_nil ?_
  refine vc_rseq mixed ?_
  refine d_val (s_field rfl rfl rfl rfl) rfl ?_
  refine d_val (s_load rfl rfl rfl rfl) rfl ?_
  refine d_val (s_field rfl rfl rfl rfl) rfl ?_
  refine d_val (s_load rfl rfl rfl rfl) rfl ?_
  refine d_val (s_field rfl rfl rfl rfl) rfl ?_
  refine d_val (s_load rfl rfl rfl rfl) rfl ?_
  refine d_val (s_field rfl rfl rfl rfl) rfl ?_
  refine d_val (s_load rfl rfl rfl rfl) rfl ?_
  refine d_val (s_field rfl rfl rfl rfl) rfl ?_
  refine d_val (s_load rfl rfl rfl rfl) rfl ?_
  refine d_val (s_call [] (c_Clone_int c.place) (evArgs_cons rfl evArgs_nil) trivial rfl (okVL_nil _) rfl (.inl rfl) rfl) rfl ?_
  refine d_val (s_field rfl rfl rfl rfl) rfl ?_
  refine d_val (s_load rfl rfl rfl rfl) rfl ?_
  refine d_val (s_field rfl rfl rfl rfl) rfl ?_
  refine d_val (s_load rfl rfl rfl rfl) rfl ?_
  refine d_val (s_gtr rfl rfl rfl) rfl ?_
  refine d_val (s_build (evArgs_cons rfl (evArgs_cons rfl (evArgs_cons rfl (evArgs_cons rfl (evArgs_cons rfl (evArgs_cons rfl (evArgs_cons rfl evArgs_nil))))))) rfl rfl rfl) rfl ?_
  refine d_new (s_alloc 4 rfl rfl) rfl ?_
  refine d_sto (s_store rfl rfl rfl rfl rfl rfl) rfl ?_
  refine d_nil rfl ?_
  refine vc_seq ?_
  refine vc_le ⟨[(2, .ref 2 0), (3, AI .i64 0), (4, .ref 4 0)], [(4, some (.box ((volC (volN c)).map .t))), (2, some (.box ((volC volZ).map .t)))], [4, 2]⟩ (leE_same (by repeat (first | exact letm_nil _ _ | refine letm_cons rfl ?_ ?_ | exact .same _ | exact .nl (by decide) (by decide) | exact .nn | exact .id' rfl | exact .id' (by simp; done))) (by repeat (first | exact lehp_nil _ _ | refine lehp_cons rfl ?_ ?_ | exact leB_same _ | exact leB_row (by first | rfl | (simp; done)) | exact leB_obj (by simp; done) | refine leB_box ?_ | exact leL_nil | refine leL_cons ?_ ?_ | exact .same _ | exact .nl (by decide) (by decide) | exact .nn | exact .id' rfl | exact .id' (by simp; done))) rfl) ?_
  refine vc_rseq mixed ?_
  refine g_val (s_loadA rfl rfl rfl rfl rfl) rfl ?_
  refine g_val (s_call [] (c_volume_shape (volN c)) (evArgs_cons rfl evArgs_nil) trivial rfl (okVL_nil _) rfl (.inl rfl) rfl) rfl ?_
  refine g_val (s_not rfl rfl) rfl ?_
  refine g_nil ?_
  refine vc_cond rfl (fun _ => ?_) (fun h => by simp [show ¬ shapeOK c.vol c.blocks c.size c.per c.place c.total from h0, volN] at h)
  refine vc_rseq mixed ?_
  refine g_val (s_build evArgs_nil rfl rfl rfl) rfl ?_
  refine g_sto (s_store rfl rfl rfl rfl rfl rfl) rfl ?_
  refine g_val (s_assign rfl rfl) rfl ?_
  refine g_nil ?_
  exact vc_ret (ret_le [] _ (.cons (.agg rfl rfl rfl rfl) (.cons (.tmp rfl) .nil)) trivial (by repeat (first | exact leL_nil | refine leL_cons ?_ ?_ | exact LeV.tt rfl | exact .nl (by decide) (by decide) | exact .nn | refine LeV.tupL ?_ | refine LeV.aggL ?_ | exact .eq (by first | exact trivial | (simp [AV.okV, okR, lkB]; done) | (simp [AV.okV, okR, lkB]; omega)) (by first | rfl | (simp [AV.view, viewR, lkB, AV.ren, List.take_of_length_le]; done) | (simp [AV.view, viewR, lkB, AV.ren, List.take_of_length_le]; done)))) rfl)

end Go.Eng

set_option maxHeartbeats 2000000
namespace Go.Eng
open Go.Proofs

def insPin (l : List Int) (x : Int) : List Int := l.takeWhile (fun z => decide (z ≤ x)) ++ [x] ++ l.dropWhile (fun z => decide (z ≤ x))

theorem insPin_eq : ∀ {l : List Int} {x : Int} {k : Nat}, (∀ j : Nat, j < k → ∀ z, l[j]? = some z → z ≤ x) → (∀ z, l[k]? = some z → x < z) → k ≤ l.length → insPin l x = l.take k ++ [x] ++ l.drop k
  | [], x, k, h1, h2, h3 => by
    have : k = 0 := by simpa using h3
    subst this
    rfl
  | a :: l, x, 0, h1, h2, h3 => by
    have := h2 a rfl
    simp [insPin, List.takeWhile_cons, List.dropWhile_cons, show ¬ a ≤ x by omega]
  | a :: l, x, k + 1, h1, h2, h3 => by
    have ha := h1 0 (by omega) a rfl
    have ih := insPin_eq (l := l) (x := x) (k := k) (fun j hj z hz => h1 (j + 1) (by omega) z (by simpa using hz)) (fun z hz => h2 z (by simpa using hz)) (by simpa using h3)
    simp only [insPin] at ih ⊢
    simp only [List.takeWhile_cons, List.dropWhile_cons, ha, decide_true, if_true, List.take_succ_cons, List.drop_succ_cons, List.cons_append]
    rw [ih]

theorem erase_eq : ∀ {l : List Int} {x : Int} {k : Nat}, (∀ j : Nat, j < k → ∀ z, l[j]? = some z → z ≠ x) → l[k]? = some x → l.erase x = l.take k ++ l.drop (k + 1)
  | [], x, k, h1, h2 => by simp at h2
  | a :: l, x, 0, h1, h2 => by
    simp at h2
    subst h2
    simp
  | a :: l, x, k + 1, h1, h2 => by
    have ha := h1 0 (by omega) a rfl
    have ih := erase_eq (l := l) (x := x) (k := k) (fun j hj z hz => h1 (j + 1) (by omega) z (by simpa using hz)) (by simpa using h2)
    rw [List.erase_cons, if_neg (by simpa using ha), ih]
    simp

def doneF (v : Volume) (c : VolCmd) : Volume × Int :=
  if (c.kind = 2 ∨ c.kind = 3 ∨ c.kind = 4 ∨ c.kind = 5) ∧ v.hidden = true then (v, 28)
  else if c.kind = 2 then (if itemsOK v.blocks v.size c.items then (writeV v c.items, 0) else (v, 23))
  else if c.kind = 3 then (if c.time < v.floor then (v, 30) else if lowV v < c.time then (v, 31) else ({ v with floor := c.time }, 0))
  else if c.kind = 4 then (if c.time < v.floor then (v, 30) else if (v.writes.length : Int) < c.time then (v, 31) else ({ v with pins := insPin v.pins c.time }, 0))
  else if c.kind = 5 then (if c.time ∈ v.pins then ({ v with pins := v.pins.erase c.time }, 0) else (v, 28))
  else if c.kind = 6 then (if v.hidden = false then (v, 33) else if 0 ≤ c.index ∧ c.index < v.next then (v, 0) else if c.index ≠ v.next ∨ v.next = v.total then (v, 33) else if itemsOK v.blocks v.size c.items then ({ writeV v c.items with next := v.next + 1 }, 0) else (v, 23))
  else if c.kind = 7 then (if v.hidden = false ∨ v.next ≠ v.total then (v, 33) else ({ v with hidden := false, floor := v.writes.length }, 0))
  else if c.kind = 8 then (v, 0) else (v, 23)

/-- What a volume may hold, that all goes in. -/
structure volSmall (v : Volume) : Prop where
  writes : v.writes.length ≤ 1000000
  pins : v.pins.length ≤ 1000000
  next : 0 ≤ v.next ∧ v.next ≤ 1099511627776

theorem c_mementoref16_done (v : Volume) (c : VolCmd) (hv : volSmall v) : Con Try.prog 67 [sC (volC v), sC (cmdC c)] [] (.tup [sC (volC (doneF v c).1), AI .i64 (doneF v c).2]) [] := by
  refine con_intro [] [] Try.func67 rfl Try.ntmps67 Try.results67 rfl rfl ?_
  intro E
  have hv1 := hv.writes
  have hv2 := hv.pins
  have hv3 := hv.next
  refine vc_rseq mixed ?_
  refine g_new (s_box 2 rfl rfl rfl rfl) rfl ?_
  refine g_new (s_box 3 rfl rfl rfl rfl) rfl ?_
  refine g_new (s_alloc 4 rfl rfl) rfl ?_
  refine g_val (s_assign rfl rfl) rfl ?_
  refine g_nil ?_
  refine vc_seq ?_
  refine vc_rseq mixed ?_
  refine g_val (s_field rfl rfl rfl rfl) rfl ?_
  refine g_val (s_load rfl rfl rfl rfl) rfl ?_
  refine g_nil ?_
  refine vc_block ?_
  refine vc_seq ?_
  refine vc_rseq mixed ?_
  refine g_val (s_eql rfl rfl rfl) rfl ?_
  refine g_val (s_assign rfl rfl) rfl ?_
  refine g_nil ?_
  refine vc_cond rfl (fun hc10 => ?_) (fun hc10 => ?_)
  replace hc10 := of_decide_eq_true hc10
  refine vc_skip ?_
  refine vc_cond rfl (fun _ => ?_) (fun h => by have h := of_decide_eq_false h; omega)
  refine vc_rseq mixed ?_
  refine g_val (s_field rfl rfl rfl rfl) rfl ?_
  refine g_val (s_load rfl rfl rfl rfl) rfl ?_
  refine g_nil ?_
  refine vc_cond rfl (fun hc16 => ?_) (fun hc16 => ?_)
  refine vc_rseq mixed ?_
  refine g_val (s_loadA rfl rfl rfl rfl rfl) rfl ?_
  refine g_sto (s_store rfl rfl rfl rfl rfl rfl) rfl ?_
  refine g_val (s_assign rfl rfl) rfl ?_
  refine g_nil ?_
  rw [show doneF v c = (v, 28) from by unfold doneF; (repeat' split) <;> first | rfl | (exfalso; omega) | (exfalso; simp_all; done) | (exfalso; simp_all; omega)]; exact vc_ret (ret_le [] _ (.cons (.agg rfl rfl rfl rfl) (.cons (.tmp rfl) .nil)) trivial (by repeat (first | exact leL_nil | refine leL_cons ?_ ?_ | exact LeV.tt rfl | exact .nl (by decide) (by decide) | exact .nn | refine LeV.tupL ?_ | refine LeV.aggL ?_ | exact .eq (by first | exact trivial | (simp [AV.okV, okR, lkB]; done) | (simp [AV.okV, okR, lkB]; omega)) (by first | rfl | (simp [AV.view, viewR, lkB, AV.ren, List.take_of_length_le]; done) | (simp [AV.view, viewR, lkB, AV.ren, List.take_of_length_le]; done)))) rfl)
  refine vc_skip ?_
  refine vc_seq ?_
  refine vc_rseq mixed ?_
  refine g_val (s_field rfl rfl rfl rfl) rfl ?_
  refine g_val (s_load rfl rfl rfl rfl) rfl ?_
  refine g_nil ?_
  refine vc_block ?_
  refine vc_rseq mixed ?_
  refine g_val (s_eql rfl rfl rfl) rfl ?_
  refine g_val (s_assign rfl rfl) rfl ?_
  refine g_nil ?_
  refine vc_cond rfl (fun _ => ?_) (fun h => by have h := of_decide_eq_false h; omega)
  refine vc_seq ?_
  refine vc_rseq mixed ?_
  refine g_val (s_field rfl rfl rfl rfl) rfl ?_
  refine g_val (s_load rfl rfl rfl rfl) rfl ?_
  refine g_val (s_field rfl rfl rfl rfl) rfl ?_
  refine g_val (s_load rfl rfl rfl rfl) rfl ?_
  refine g_val (s_field rfl rfl rfl rfl) rfl ?_
  refine g_val (s_load rfl rfl rfl rfl) rfl ?_
  refine g_val (s_call [] (c_mementoref13_ItemsRight v.blocks v.size c.items) (evArgs_cons rfl (evArgs_cons rfl (evArgs_cons rfl evArgs_nil))) trivial rfl (okVL_nil _) rfl (.inl rfl) rfl) rfl ?_
  refine g_val (s_not rfl rfl) rfl ?_
  refine g_nil ?_
  refine vc_cond rfl (fun hc30 => ?_) (fun hc30 => ?_)
  simp only [Bool.not_eq_true', decide_eq_false_iff_not] at hc30
  refine vc_rseq mixed ?_
  refine g_val (s_loadA rfl rfl rfl rfl rfl) rfl ?_
  refine g_sto (s_store rfl rfl rfl rfl rfl rfl) rfl ?_
  refine g_val (s_assign rfl rfl) rfl ?_
  refine g_nil ?_
  rw [show doneF v c = (v, 23) from by unfold doneF; (repeat' split) <;> first | rfl | (exfalso; omega) | (exfalso; simp_all; done) | (exfalso; simp_all; omega)]; exact vc_ret (ret_le [] _ (.cons (.agg rfl rfl rfl rfl) (.cons (.tmp rfl) .nil)) trivial (by repeat (first | exact leL_nil | refine leL_cons ?_ ?_ | exact LeV.tt rfl | exact .nl (by decide) (by decide) | exact .nn | refine LeV.tupL ?_ | refine LeV.aggL ?_ | exact .eq (by first | exact trivial | (simp [AV.okV, okR, lkB]; done) | (simp [AV.okV, okR, lkB]; omega)) (by first | rfl | (simp [AV.view, viewR, lkB, AV.ren, List.take_of_length_le]; done) | (simp [AV.view, viewR, lkB, AV.ren, List.take_of_length_le]; done)))) rfl)
  simp only [Bool.not_eq_false', decide_eq_true_eq] at hc30
  refine vc_skip ?_
  refine vc_rseq mixed ?_
  refine g_val (s_loadA rfl rfl rfl rfl rfl) rfl ?_
  refine g_val (s_field rfl rfl rfl rfl) rfl ?_
  refine g_val (s_load rfl rfl rfl rfl) rfl ?_
  refine g_val (s_call [] (c_mementoref16_write v c.items (by omega)) (evArgs_cons rfl (evArgs_cons rfl evArgs_nil)) trivial rfl (okVL_nil _) rfl (.inl rfl) rfl) rfl ?_
  refine g_sto (s_store rfl rfl rfl rfl rfl rfl) rfl ?_
  refine g_val (s_assign rfl rfl) rfl ?_
  refine g_nil ?_
  rw [show doneF v c = (writeV v c.items, 0) from by unfold doneF; (repeat' split) <;> first | rfl | (exfalso; omega) | (exfalso; simp_all; done) | (exfalso; simp_all; omega)]; exact vc_ret (ret_le [] _ (.cons (.agg rfl rfl rfl rfl) (.cons (.tmp rfl) .nil)) trivial (by repeat (first | exact leL_nil | refine leL_cons ?_ ?_ | exact LeV.tt rfl | exact .nl (by decide) (by decide) | exact .nn | refine LeV.tupL ?_ | refine LeV.aggL ?_ | exact .eq (by first | exact trivial | (simp [AV.okV, okR, lkB]; done) | (simp [AV.okV, okR, lkB]; omega)) (by first | rfl | (simp [AV.view, viewR, lkB, AV.ren, List.take_of_length_le]; done) | (simp [AV.view, viewR, lkB, AV.ren, List.take_of_length_le]; done)))) rfl)
  replace hc10 := of_decide_eq_false hc10
  refine vc_rseq mixed ?_
  refine g_val (s_eql rfl rfl rfl) rfl ?_
  refine g_val (s_assign rfl rfl) rfl ?_
  refine g_nil ?_
  refine vc_cond rfl (fun hc10 => ?_) (fun hc10 => ?_)
  replace hc10 := of_decide_eq_true hc10
  refine vc_skip ?_
  refine vc_cond rfl (fun _ => ?_) (fun h => by have h := of_decide_eq_false h; omega)
  refine vc_rseq mixed ?_
  refine g_val (s_field rfl rfl rfl rfl) rfl ?_
  refine g_val (s_load rfl rfl rfl rfl) rfl ?_
  refine g_nil ?_
  refine vc_cond rfl (fun hc16 => ?_) (fun hc16 => ?_)
  refine vc_rseq mixed ?_
  refine g_val (s_loadA rfl rfl rfl rfl rfl) rfl ?_
  refine g_sto (s_store rfl rfl rfl rfl rfl rfl) rfl ?_
  refine g_val (s_assign rfl rfl) rfl ?_
  refine g_nil ?_
  rw [show doneF v c = (v, 28) from by unfold doneF; (repeat' split) <;> first | rfl | (exfalso; omega) | (exfalso; simp_all; done) | (exfalso; simp_all; omega)]; exact vc_ret (ret_le [] _ (.cons (.agg rfl rfl rfl rfl) (.cons (.tmp rfl) .nil)) trivial (by repeat (first | exact leL_nil | refine leL_cons ?_ ?_ | exact LeV.tt rfl | exact .nl (by decide) (by decide) | exact .nn | refine LeV.tupL ?_ | refine LeV.aggL ?_ | exact .eq (by first | exact trivial | (simp [AV.okV, okR, lkB]; done) | (simp [AV.okV, okR, lkB]; omega)) (by first | rfl | (simp [AV.view, viewR, lkB, AV.ren, List.take_of_length_le]; done) | (simp [AV.view, viewR, lkB, AV.ren, List.take_of_length_le]; done)))) rfl)
  refine vc_skip ?_
  refine vc_seq ?_
  refine vc_rseq mixed ?_
  refine g_val (s_field rfl rfl rfl rfl) rfl ?_
  refine g_val (s_load rfl rfl rfl rfl) rfl ?_
  refine g_nil ?_
  refine vc_block ?_
  refine vc_rseq mixed ?_
  refine g_val (s_eql rfl rfl rfl) rfl ?_
  refine g_val (s_assign rfl rfl) rfl ?_
  refine g_nil ?_
  refine vc_cond rfl (fun h => by have h := of_decide_eq_true h; omega) (fun _ => ?_)
  refine vc_rseq mixed ?_
  refine g_val (s_eql rfl rfl rfl) rfl ?_
  refine g_val (s_assign rfl rfl) rfl ?_
  refine g_nil ?_
  refine vc_cond rfl (fun _ => ?_) (fun h => by have h := of_decide_eq_false h; omega)
  refine vc_seq ?_
  refine vc_rseq mixed ?_
  refine g_val (s_field rfl rfl rfl rfl) rfl ?_
  refine g_val (s_load rfl rfl rfl rfl) rfl ?_
  refine g_val (s_field rfl rfl rfl rfl) rfl ?_
  refine g_val (s_load rfl rfl rfl rfl) rfl ?_
  refine g_val (s_lss rfl rfl rfl) rfl ?_
  refine g_nil ?_
  refine vc_cond rfl (fun hc42 => ?_) (fun hc42 => ?_)
  replace hc42 := of_decide_eq_true hc42
  refine vc_rseq mixed ?_
  refine g_val (s_loadA rfl rfl rfl rfl rfl) rfl ?_
  refine g_sto (s_store rfl rfl rfl rfl rfl rfl) rfl ?_
  refine g_val (s_assign rfl rfl) rfl ?_
  refine g_nil ?_
  rw [show doneF v c = (v, 30) from by unfold doneF; (repeat' split) <;> first | rfl | (exfalso; omega) | (exfalso; simp_all; done) | (exfalso; simp_all; omega)]; exact vc_ret (ret_le [] _ (.cons (.agg rfl rfl rfl rfl) (.cons (.tmp rfl) .nil)) trivial (by repeat (first | exact leL_nil | refine leL_cons ?_ ?_ | exact LeV.tt rfl | exact .nl (by decide) (by decide) | exact .nn | refine LeV.tupL ?_ | refine LeV.aggL ?_ | exact .eq (by first | exact trivial | (simp [AV.okV, okR, lkB]; done) | (simp [AV.okV, okR, lkB]; omega)) (by first | rfl | (simp [AV.view, viewR, lkB, AV.ren, List.take_of_length_le]; done) | (simp [AV.view, viewR, lkB, AV.ren, List.take_of_length_le]; done)))) rfl)
  replace hc42 := of_decide_eq_false hc42
  simp only [Int.not_lt] at hc42
  refine vc_skip ?_
  refine vc_seq ?_
  refine vc_rseq mixed ?_
  refine d_val (s_field rfl rfl rfl rfl) rfl ?_
  refine d_val (s_load rfl rfl rfl rfl) rfl ?_
  refine d_val (s_loadA rfl rfl rfl rfl rfl) rfl ?_
  refine d_val (s_call [] (c_mementoref16_Low v) (evArgs_cons rfl evArgs_nil) trivial rfl (okVL_nil _) rfl (.inl rfl) rfl) rfl ?_
  refine d_val (s_gtr rfl rfl rfl) rfl ?_
  refine d_nil rfl ?_
  refine vc_cond rfl (fun hc48 => ?_) (fun hc48 => ?_)
  replace hc48 := of_decide_eq_true hc48
  refine vc_rseq mixed ?_
  refine g_val (s_loadA rfl rfl rfl rfl rfl) rfl ?_
  refine g_sto (s_store rfl rfl rfl rfl rfl rfl) rfl ?_
  refine g_val (s_assign rfl rfl) rfl ?_
  refine g_nil ?_
  rw [show doneF v c = (v, 31) from by unfold doneF; (repeat' split) <;> first | rfl | (exfalso; omega) | (exfalso; simp_all; done) | (exfalso; simp_all; omega)]; exact vc_ret (ret_le [] _ (.cons (.agg rfl rfl rfl rfl) (.cons (.tmp rfl) .nil)) trivial (by repeat (first | exact leL_nil | refine leL_cons ?_ ?_ | exact LeV.tt rfl | exact .nl (by decide) (by decide) | exact .nn | refine LeV.tupL ?_ | refine LeV.aggL ?_ | exact .eq (by first | exact trivial | (simp [AV.okV, okR, lkB]; done) | (simp [AV.okV, okR, lkB]; omega)) (by first | rfl | (simp [AV.view, viewR, lkB, AV.ren, List.take_of_length_le]; done) | (simp [AV.view, viewR, lkB, AV.ren, List.take_of_length_le]; done)))) rfl)
  replace hc48 := of_decide_eq_false hc48
  simp only [Int.not_lt] at hc48
  refine vc_skip ?_
  have e : doneF v c = ({ v with floor := c.time }, 0) := by unfold doneF; (repeat' split) <;> first | rfl | (exfalso; omega) | (exfalso; simp_all; done) | (exfalso; simp_all; omega)
  refine vc_region mixed ?_
  refine g_val (s_field rfl rfl rfl rfl) rfl ?_
  refine g_val (s_load rfl rfl rfl rfl) rfl ?_
  refine g_val (s_field rfl rfl rfl rfl) rfl ?_
  refine g_sto (s_store rfl rfl rfl rfl rfl rfl) rfl ?_
  refine g_nil ?_
  refine vc_rseq mixed ?_
  refine g_val (s_loadA rfl rfl rfl rfl rfl) rfl ?_
  refine g_sto (s_store rfl rfl rfl rfl rfl rfl) rfl ?_
  refine g_val (s_assign rfl rfl) rfl ?_
  refine g_nil ?_
  rw [e]; exact vc_ret (ret_le [] _ (.cons (.agg rfl rfl rfl rfl) (.cons (.tmp rfl) .nil)) trivial (by repeat (first | exact leL_nil | refine leL_cons ?_ ?_ | exact LeV.tt rfl | exact .nl (by decide) (by decide) | exact .nn | refine LeV.tupL ?_ | refine LeV.aggL ?_ | exact .eq (by first | exact trivial | (simp [AV.okV, okR, lkB]; done) | (simp [AV.okV, okR, lkB]; omega)) (by first | rfl | (simp [AV.view, viewR, lkB, AV.ren, List.take_of_length_le]; done) | (simp [AV.view, viewR, lkB, AV.ren, List.take_of_length_le]; first | (simp [i64, writeV]; done) | (simp [optN, intsT, he, List.map_take, List.map_drop, intC, i64, take_map_len]; done) | (simp [optN, intsT, he, List.map_take, List.map_drop, intC, i64, take_map_len]; exact List.take_of_length_le (by simp; omega)))))) rfl)
  replace hc10 := of_decide_eq_false hc10
  refine vc_rseq mixed ?_
  refine g_val (s_eql rfl rfl rfl) rfl ?_
  refine g_val (s_assign rfl rfl) rfl ?_
  refine g_nil ?_
  refine vc_cond rfl (fun hc10 => ?_) (fun hc10 => ?_)
  replace hc10 := of_decide_eq_true hc10
  refine vc_skip ?_
  refine vc_cond rfl (fun _ => ?_) (fun h => by have h := of_decide_eq_false h; omega)
  refine vc_rseq mixed ?_
  refine g_val (s_field rfl rfl rfl rfl) rfl ?_
  refine g_val (s_load rfl rfl rfl rfl) rfl ?_
  refine g_nil ?_
  refine vc_cond rfl (fun hc16 => ?_) (fun hc16 => ?_)
  refine vc_rseq mixed ?_
  refine g_val (s_loadA rfl rfl rfl rfl rfl) rfl ?_
  refine g_sto (s_store rfl rfl rfl rfl rfl rfl) rfl ?_
  refine g_val (s_assign rfl rfl) rfl ?_
  refine g_nil ?_
  rw [show doneF v c = (v, 28) from by unfold doneF; (repeat' split) <;> first | rfl | (exfalso; omega) | (exfalso; simp_all; done) | (exfalso; simp_all; omega)]; exact vc_ret (ret_le [] _ (.cons (.agg rfl rfl rfl rfl) (.cons (.tmp rfl) .nil)) trivial (by repeat (first | exact leL_nil | refine leL_cons ?_ ?_ | exact LeV.tt rfl | exact .nl (by decide) (by decide) | exact .nn | refine LeV.tupL ?_ | refine LeV.aggL ?_ | exact .eq (by first | exact trivial | (simp [AV.okV, okR, lkB]; done) | (simp [AV.okV, okR, lkB]; omega)) (by first | rfl | (simp [AV.view, viewR, lkB, AV.ren, List.take_of_length_le]; done) | (simp [AV.view, viewR, lkB, AV.ren, List.take_of_length_le]; done)))) rfl)
  refine vc_skip ?_
  refine vc_seq ?_
  refine vc_rseq mixed ?_
  refine g_val (s_field rfl rfl rfl rfl) rfl ?_
  refine g_val (s_load rfl rfl rfl rfl) rfl ?_
  refine g_nil ?_
  refine vc_block ?_
  refine vc_rseq mixed ?_
  refine g_val (s_eql rfl rfl rfl) rfl ?_
  refine g_val (s_assign rfl rfl) rfl ?_
  refine g_nil ?_
  refine vc_cond rfl (fun h => by have h := of_decide_eq_true h; omega) (fun _ => ?_)
  refine vc_rseq mixed ?_
  refine g_val (s_eql rfl rfl rfl) rfl ?_
  refine g_val (s_assign rfl rfl) rfl ?_
  refine g_nil ?_
  refine vc_cond rfl (fun h => by have h := of_decide_eq_true h; omega) (fun _ => ?_)
  refine vc_rseq mixed ?_
  refine g_val (s_eql rfl rfl rfl) rfl ?_
  refine g_val (s_assign rfl rfl) rfl ?_
  refine g_nil ?_
  refine vc_cond rfl (fun _ => ?_) (fun h => by have h := of_decide_eq_false h; omega)
  refine vc_seq ?_
  refine vc_rseq mixed ?_
  refine g_val (s_field rfl rfl rfl rfl) rfl ?_
  refine g_val (s_load rfl rfl rfl rfl) rfl ?_
  refine g_val (s_field rfl rfl rfl rfl) rfl ?_
  refine g_val (s_load rfl rfl rfl rfl) rfl ?_
  refine g_val (s_lss rfl rfl rfl) rfl ?_
  refine g_nil ?_
  refine vc_cond rfl (fun hc59 => ?_) (fun hc59 => ?_)
  replace hc59 := of_decide_eq_true hc59
  refine vc_rseq mixed ?_
  refine g_val (s_loadA rfl rfl rfl rfl rfl) rfl ?_
  refine g_sto (s_store rfl rfl rfl rfl rfl rfl) rfl ?_
  refine g_val (s_assign rfl rfl) rfl ?_
  refine g_nil ?_
  rw [show doneF v c = (v, 30) from by unfold doneF; (repeat' split) <;> first | rfl | (exfalso; omega) | (exfalso; simp_all; done) | (exfalso; simp_all; omega)]; exact vc_ret (ret_le [] _ (.cons (.agg rfl rfl rfl rfl) (.cons (.tmp rfl) .nil)) trivial (by repeat (first | exact leL_nil | refine leL_cons ?_ ?_ | exact LeV.tt rfl | exact .nl (by decide) (by decide) | exact .nn | refine LeV.tupL ?_ | refine LeV.aggL ?_ | exact .eq (by first | exact trivial | (simp [AV.okV, okR, lkB]; done) | (simp [AV.okV, okR, lkB]; omega)) (by first | rfl | (simp [AV.view, viewR, lkB, AV.ren, List.take_of_length_le]; done) | (simp [AV.view, viewR, lkB, AV.ren, List.take_of_length_le]; done)))) rfl)
  replace hc59 := of_decide_eq_false hc59
  simp only [Int.not_lt] at hc59
  refine vc_skip ?_
  refine vc_seq ?_
  refine vc_rseq mixed ?_
  refine d_val (s_field rfl rfl rfl rfl) rfl ?_
  refine d_val (s_load rfl rfl rfl rfl) rfl ?_
  refine d_val (s_loadA rfl rfl rfl rfl rfl) rfl ?_
  refine d_val (s_call [] (c_mementoref16_Len v) (evArgs_cons rfl evArgs_nil) trivial rfl (okVL_nil _) rfl (.inl rfl) rfl) rfl ?_
  refine d_val (s_gtr rfl rfl rfl) rfl ?_
  refine d_nil rfl ?_
  refine vc_cond rfl (fun hc65 => ?_) (fun hc65 => ?_)
  replace hc65 := of_decide_eq_true hc65
  refine vc_rseq mixed ?_
  refine g_val (s_loadA rfl rfl rfl rfl rfl) rfl ?_
  refine g_sto (s_store rfl rfl rfl rfl rfl rfl) rfl ?_
  refine g_val (s_assign rfl rfl) rfl ?_
  refine g_nil ?_
  rw [show doneF v c = (v, 31) from by unfold doneF; (repeat' split) <;> first | rfl | (exfalso; omega) | (exfalso; simp_all; done) | (exfalso; simp_all; omega)]; exact vc_ret (ret_le [] _ (.cons (.agg rfl rfl rfl rfl) (.cons (.tmp rfl) .nil)) trivial (by repeat (first | exact leL_nil | refine leL_cons ?_ ?_ | exact LeV.tt rfl | exact .nl (by decide) (by decide) | exact .nn | refine LeV.tupL ?_ | refine LeV.aggL ?_ | exact .eq (by first | exact trivial | (simp [AV.okV, okR, lkB]; done) | (simp [AV.okV, okR, lkB]; omega)) (by first | rfl | (simp [AV.view, viewR, lkB, AV.ren, List.take_of_length_le]; done) | (simp [AV.view, viewR, lkB, AV.ren, List.take_of_length_le]; done)))) rfl)
  replace hc65 := of_decide_eq_false hc65
  simp only [Int.not_lt] at hc65
  refine vc_skip ?_
  refine vc_rseq mixed ?_
  refine g_val (s_assign rfl rfl) rfl ?_
  refine g_nil ?_
  refine vc_seq ?_
  refine vc_block ?_
  refine vc_up v.pins.length (fun k => ⟨[(2, .ref 2 0), (3, .ref 3 0), (4, .ref 4 0), (6, AI .i64 k)], [(4, some (.box ((volC volZ).map .t))), (3, some (.box ((cmdC c).map .t))), (2, some (.box ((volC v).map .t)))], [4, 3, 2]⟩) (fun k => ∀ j : Nat, j < k → ∀ z, v.pins[j]? = some z → z ≤ c.time) (leE_same (by repeat (first | exact letm_nil _ _ | refine letm_cons rfl ?_ ?_ | exact .same _ | exact .nl (by decide) (by decide) | exact .nn | exact .id' rfl | exact .id' (by simp; done))) (by repeat (first | exact lehp_nil _ _ | refine lehp_cons rfl ?_ ?_ | exact leB_same _ | exact leB_row (by first | rfl | (simp; done)) | exact leB_obj (by simp; done) | refine leB_box ?_ | exact leL_nil | refine leL_cons ?_ ?_ | exact .same _ | exact .nl (by decide) (by decide) | exact .nn | exact .id' rfl | exact .id' (by simp; done))) rfl) (fun j h => by omega) (fun k hk hJ => ?_)
  refine vc_seq ?_
  refine vc_rseq mixed ?_
  refine d_val (s_move rfl rfl) rfl ?_
  refine d_val (s_field rfl rfl rfl rfl) rfl ?_
  refine d_val (s_load rfl rfl rfl rfl) rfl ?_
  refine d_val (s_len rfl rfl) rfl ?_
  refine d_val (s_lss rfl rfl rfl) rfl ?_
  refine d_val (s_move rfl rfl) rfl ?_
  refine g_probe (j := 72) rfl (fun c hg72 => ?_)
  cases c
  rw [← hg72]; replace hg72 := hg72.symm; replace hg72 := of_decide_eq_false hg72
  simp only [List.length_map, Int.not_lt] at hg72
  refine dn_val rfl rfl rfl rfl rfl rfl (by decide) ?_
  refine dn_val rfl rfl rfl rfl rfl rfl (by decide) ?_
  refine dn_val rfl rfl rfl rfl rfl rfl (by decide) ?_
  refine dn_val rfl rfl rfl rfl rfl rfl (by decide) ?_
  refine dn_val rfl rfl rfl rfl rfl rfl (by decide) ?_
  refine dn_val rfl rfl rfl rfl rfl rfl (by decide) ?_
  refine dn_val rfl rfl rfl rfl rfl rfl (by decide) ?_
  refine dn_val rfl rfl rfl rfl rfl rfl (by decide) ?_
  refine d_val (s_pickF rfl rfl rfl) rfl ?_
  refine d_nil rfl ?_
  refine vc_cond rfl (fun h => by cases h) (fun _ => ?_)
  refine vc_exit ?_
  have he : insPin v.pins c.time = v.pins.take k ++ [c.time] ++ v.pins.drop k := insPin_eq hJ (fun z hz => by first | (rw [List.getElem?_eq_none (by omega)] at hz; cases hz) | (rw [hx] at hz; injection hz with hz; omega)) hk
  have e : doneF v c = ({ v with pins := insPin v.pins c.time }, 0) := by unfold doneF; (repeat' split) <;> first | rfl | (exfalso; omega) | (exfalso; simp_all; done) | (exfalso; simp_all; omega)
  refine vc_region mixed ?_
  refine d_val (s_field rfl rfl rfl rfl) rfl ?_
  refine d_val (s_load rfl rfl rfl rfl) rfl ?_
  refine d_val (s_move rfl rfl) rfl ?_
  refine d_val (s_slice none (some (.i64, (k : Int))) rfl trivial rfl rfl (by simp) (by simp) (by simp [optN]; omega)) rfl ?_
  refine d_new (s_appendN 88 rfl rfl rfl rfl (by simp [optN]; omega)) rfl ?_
  refine d_val (s_field rfl rfl rfl rfl) rfl ?_
  refine d_val (s_load rfl rfl rfl rfl) rfl ?_
  refine d_fz ((s_buildSlice 91 (evArgs_cons rfl evArgs_nil) rfl rfl rfl rfl).fzE rfl) rfl ?_
  refine d_app (s_append 92 rfl rfl rfl rfl rfl (by simp [optN]) rfl rfl (by simp [optN]; omega)) rfl ?_
  refine d_val (s_field rfl rfl rfl rfl) rfl ?_
  refine d_val (s_load rfl rfl rfl rfl) rfl ?_
  refine d_val (s_move rfl rfl) rfl ?_
  refine d_val (s_slice (some (.i64, (k : Int))) none rfl rfl trivial rfl (by simp) (by simp) (by simp [optN]; omega)) rfl ?_
  refine d_fa ((s_append 97 rfl rfl rfl rfl rfl (by simp [optN]) rfl rfl (by simp [optN]; omega)).fzA (by simp [optN]) rfl) rfl ?_
  refine d_val (s_field rfl rfl rfl rfl) rfl ?_
  refine d_sto (s_store rfl rfl rfl rfl rfl rfl) rfl ?_
  refine d_nil rfl ?_
  refine vc_rseq mixed ?_
  refine g_val (s_loadA rfl rfl rfl rfl rfl) rfl ?_
  refine g_sto (s_store rfl rfl rfl rfl rfl rfl) rfl ?_
  refine g_val (s_assign rfl rfl) rfl ?_
  refine g_nil ?_
  rw [e]; exact vc_ret (ret_le [] _ (.cons (.agg rfl rfl rfl rfl) (.cons (.tmp rfl) .nil)) trivial (by repeat (first | exact leL_nil | refine leL_cons ?_ ?_ | exact LeV.tt rfl | exact .nl (by decide) (by decide) | exact .nn | refine LeV.tupL ?_ | refine LeV.aggL ?_ | exact .eq (by first | exact trivial | (simp [AV.okV, okR, lkB]; done) | (simp [AV.okV, okR, lkB]; omega)) (by first | rfl | (simp [AV.view, viewR, lkB, AV.ren, List.take_of_length_le]; done) | (simp [AV.view, viewR, lkB, AV.ren, List.take_of_length_le]; first | (simp [i64, writeV]; done) | (simp [optN, intsT, he, List.map_take, List.map_drop, intC, i64, take_map_len]; done) | (simp [optN, intsT, he, List.map_take, List.map_drop, intC, i64, take_map_len]; exact List.take_of_length_le (by simp; omega)))))) rfl)
  rw [← hg72]; replace hg72 := hg72.symm; replace hg72 := of_decide_eq_true hg72
  simp only [List.length_map] at hg72
  obtain ⟨x, hx⟩ := get_of_lt (l := v.pins) (i := k) (by omega)
  refine dq_val (s_field rfl rfl rfl rfl) rfl rfl rfl rfl ?_
  refine dq_val (s_load rfl rfl rfl rfl) rfl rfl rfl rfl ?_
  refine dq_val (s_move rfl rfl) rfl rfl rfl rfl ?_
  refine dq_val (s_index rfl rfl rfl (by omega) (idx_map hx)) rfl rfl rfl rfl ?_
  refine dq_val (s_loadT rfl rfl rfl) rfl rfl rfl rfl ?_
  refine dq_val (s_field rfl rfl rfl rfl) rfl rfl rfl rfl ?_
  refine dq_val (s_load rfl rfl rfl rfl) rfl rfl rfl rfl ?_
  refine dq_val (s_leq rfl rfl rfl) rfl rfl rfl rfl ?_
  refine d_val (s_pickT rfl rfl rfl) rfl ?_
  refine d_nil rfl ?_
  refine vc_cond rfl (fun hc81 => ?_) (fun hc81 => ?_)
  replace hc81 := of_decide_eq_true hc81
  refine vc_skip ?_
  refine vc_block ?_
  refine vc_region mixed ?_
  refine g_val (s_move rfl rfl) rfl ?_
  refine g_val (s_add rfl rfl rfl (by simp only [inI, kMin, kMax]; omega)) rfl ?_
  refine g_val (s_assign rfl rfl) rfl ?_
  refine g_nil ?_
  exact ⟨by omega, fun j hj z hz => by rcases Nat.lt_succ_iff_lt_or_eq.1 hj with h | rfl; exact hJ j h z hz; rw [hx] at hz; injection hz with hz; omega, (leE_same (by repeat (first | exact letm_nil _ _ | refine letm_cons rfl ?_ ?_ | exact .same _ | exact .nl (by decide) (by decide) | exact .nn | exact .id' rfl | exact .id' (by simp; done))) (by repeat (first | exact lehp_nil _ _ | refine lehp_cons rfl ?_ ?_ | exact leB_same _ | exact leB_row (by first | rfl | (simp; done)) | exact leB_obj (by simp; done) | refine leB_box ?_ | exact leL_nil | refine leL_cons ?_ ?_ | exact .same _ | exact .nl (by decide) (by decide) | exact .nn | exact .id' rfl | exact .id' (by simp; done))) rfl)⟩
  replace hc81 := of_decide_eq_false hc81
  simp only [Int.not_le] at hc81
  refine vc_exit ?_
  have he : insPin v.pins c.time = v.pins.take k ++ [c.time] ++ v.pins.drop k := insPin_eq hJ (fun z hz => by first | (rw [List.getElem?_eq_none (by omega)] at hz; cases hz) | (rw [hx] at hz; injection hz with hz; omega)) hk
  have e : doneF v c = ({ v with pins := insPin v.pins c.time }, 0) := by unfold doneF; (repeat' split) <;> first | rfl | (exfalso; omega) | (exfalso; simp_all; done) | (exfalso; simp_all; omega)
  refine vc_region mixed ?_
  refine d_val (s_field rfl rfl rfl rfl) rfl ?_
  refine d_val (s_load rfl rfl rfl rfl) rfl ?_
  refine d_val (s_move rfl rfl) rfl ?_
  refine d_val (s_slice none (some (.i64, (k : Int))) rfl trivial rfl rfl (by simp) (by simp) (by simp [optN]; omega)) rfl ?_
  refine d_new (s_appendN 88 rfl rfl rfl rfl (by simp [optN]; omega)) rfl ?_
  refine d_val (s_field rfl rfl rfl rfl) rfl ?_
  refine d_val (s_load rfl rfl rfl rfl) rfl ?_
  refine d_fz ((s_buildSlice 91 (evArgs_cons rfl evArgs_nil) rfl rfl rfl rfl).fzE rfl) rfl ?_
  refine d_app (s_append 92 rfl rfl rfl rfl rfl (by simp [optN]) rfl rfl (by simp [optN]; omega)) rfl ?_
  refine d_val (s_field rfl rfl rfl rfl) rfl ?_
  refine d_val (s_load rfl rfl rfl rfl) rfl ?_
  refine d_val (s_move rfl rfl) rfl ?_
  refine d_val (s_slice (some (.i64, (k : Int))) none rfl rfl trivial rfl (by simp) (by simp) (by simp [optN]; omega)) rfl ?_
  refine d_fa ((s_append 97 rfl rfl rfl rfl rfl (by simp [optN]) rfl rfl (by simp [optN]; omega)).fzA (by simp [optN]) rfl) rfl ?_
  refine d_val (s_field rfl rfl rfl rfl) rfl ?_
  refine d_sto (s_store rfl rfl rfl rfl rfl rfl) rfl ?_
  refine d_nil rfl ?_
  refine vc_rseq mixed ?_
  refine g_val (s_loadA rfl rfl rfl rfl rfl) rfl ?_
  refine g_sto (s_store rfl rfl rfl rfl rfl rfl) rfl ?_
  refine g_val (s_assign rfl rfl) rfl ?_
  refine g_nil ?_
  rw [e]; exact vc_ret (ret_le [] _ (.cons (.agg rfl rfl rfl rfl) (.cons (.tmp rfl) .nil)) trivial (by repeat (first | exact leL_nil | refine leL_cons ?_ ?_ | exact LeV.tt rfl | exact .nl (by decide) (by decide) | exact .nn | refine LeV.tupL ?_ | refine LeV.aggL ?_ | exact .eq (by first | exact trivial | (simp [AV.okV, okR, lkB]; done) | (simp [AV.okV, okR, lkB]; omega)) (by first | rfl | (simp [AV.view, viewR, lkB, AV.ren, List.take_of_length_le]; done) | (simp [AV.view, viewR, lkB, AV.ren, List.take_of_length_le]; first | (simp [i64, writeV]; done) | (simp [optN, intsT, he, List.map_take, List.map_drop, intC, i64, take_map_len]; done) | (simp [optN, intsT, he, List.map_take, List.map_drop, intC, i64, take_map_len]; exact List.take_of_length_le (by simp; omega)))))) rfl)
  replace hc10 := of_decide_eq_false hc10
  refine vc_region mixed ?_
  refine g_val (s_eql rfl rfl rfl) rfl ?_
  refine g_val (s_assign rfl rfl) rfl ?_
  refine g_nil ?_
  refine vc_cond rfl (fun hc10 => ?_) (fun hc10 => ?_)
  replace hc10 := of_decide_eq_true hc10
  refine vc_rseq mixed ?_
  refine g_val (s_field rfl rfl rfl rfl) rfl ?_
  refine g_val (s_load rfl rfl rfl rfl) rfl ?_
  refine g_nil ?_
  refine vc_cond rfl (fun hc16 => ?_) (fun hc16 => ?_)
  refine vc_rseq mixed ?_
  refine g_val (s_loadA rfl rfl rfl rfl rfl) rfl ?_
  refine g_sto (s_store rfl rfl rfl rfl rfl rfl) rfl ?_
  refine g_val (s_assign rfl rfl) rfl ?_
  refine g_nil ?_
  rw [show doneF v c = (v, 28) from by unfold doneF; (repeat' split) <;> first | rfl | (exfalso; omega) | (exfalso; simp_all; done) | (exfalso; simp_all; omega)]; exact vc_ret (ret_le [] _ (.cons (.agg rfl rfl rfl rfl) (.cons (.tmp rfl) .nil)) trivial (by repeat (first | exact leL_nil | refine leL_cons ?_ ?_ | exact LeV.tt rfl | exact .nl (by decide) (by decide) | exact .nn | refine LeV.tupL ?_ | refine LeV.aggL ?_ | exact .eq (by first | exact trivial | (simp [AV.okV, okR, lkB]; done) | (simp [AV.okV, okR, lkB]; omega)) (by first | rfl | (simp [AV.view, viewR, lkB, AV.ren, List.take_of_length_le]; done) | (simp [AV.view, viewR, lkB, AV.ren, List.take_of_length_le]; done)))) rfl)
  refine vc_skip ?_
  refine vc_seq ?_
  refine vc_rseq mixed ?_
  refine g_val (s_field rfl rfl rfl rfl) rfl ?_
  refine g_val (s_load rfl rfl rfl rfl) rfl ?_
  refine g_nil ?_
  refine vc_block ?_
  refine vc_rseq mixed ?_
  refine g_val (s_eql rfl rfl rfl) rfl ?_
  refine g_val (s_assign rfl rfl) rfl ?_
  refine g_nil ?_
  refine vc_cond rfl (fun h => by have h := of_decide_eq_true h; omega) (fun _ => ?_)
  refine vc_rseq mixed ?_
  refine g_val (s_eql rfl rfl rfl) rfl ?_
  refine g_val (s_assign rfl rfl) rfl ?_
  refine g_nil ?_
  refine vc_cond rfl (fun h => by have h := of_decide_eq_true h; omega) (fun _ => ?_)
  refine vc_rseq mixed ?_
  refine g_val (s_eql rfl rfl rfl) rfl ?_
  refine g_val (s_assign rfl rfl) rfl ?_
  refine g_nil ?_
  refine vc_cond rfl (fun h => by have h := of_decide_eq_true h; omega) (fun _ => ?_)
  refine vc_rseq mixed ?_
  refine g_val (s_eql rfl rfl rfl) rfl ?_
  refine g_val (s_assign rfl rfl) rfl ?_
  refine g_nil ?_
  refine vc_cond rfl (fun _ => ?_) (fun h => by have h := of_decide_eq_false h; omega)
  refine vc_seq ?_
  refine vc_rseq mixed ?_
  refine g_val (s_assign rfl rfl) rfl ?_
  refine g_nil ?_
  refine vc_block ?_
  refine vc_up v.pins.length (fun k => ⟨[(2, .ref 2 0), (3, .ref 3 0), (4, .ref 4 0), (7, AI .i64 k)], [(4, some (.box ((volC volZ).map .t))), (3, some (.box ((cmdC c).map .t))), (2, some (.box ((volC v).map .t)))], [4, 3, 2]⟩) (fun k => ∀ j : Nat, j < k → ∀ z, v.pins[j]? = some z → z ≠ c.time) (leE_same (by repeat (first | exact letm_nil _ _ | refine letm_cons rfl ?_ ?_ | exact .same _ | exact .nl (by decide) (by decide) | exact .nn | exact .id' rfl | exact .id' (by simp; done))) (by repeat (first | exact lehp_nil _ _ | refine lehp_cons rfl ?_ ?_ | exact leB_same _ | exact leB_row (by first | rfl | (simp; done)) | exact leB_obj (by simp; done) | refine leB_box ?_ | exact leL_nil | refine leL_cons ?_ ?_ | exact .same _ | exact .nl (by decide) (by decide) | exact .nn | exact .id' rfl | exact .id' (by simp; done))) rfl) (fun j h => by omega) (fun k hk hJ => ?_)
  refine vc_seq ?_
  refine vc_rseq mixed ?_
  refine g_val (s_move rfl rfl) rfl ?_
  refine g_val (s_field rfl rfl rfl rfl) rfl ?_
  refine g_val (s_load rfl rfl rfl rfl) rfl ?_
  refine g_val (s_len rfl rfl) rfl ?_
  refine g_val (s_lss rfl rfl rfl) rfl ?_
  refine g_nil ?_
  refine vc_cond rfl (fun hc105 => ?_) (fun hc105 => ?_)
  replace hc105 := of_decide_eq_true hc105
  simp only [List.length_map] at hc105
  obtain ⟨x, hx⟩ := get_of_lt (l := v.pins) (i := k) (by omega)
  refine vc_skip ?_
  refine vc_seq ?_
  refine vc_block ?_
  refine vc_rseq mixed ?_
  refine d_val (s_field rfl rfl rfl rfl) rfl ?_
  refine d_val (s_load rfl rfl rfl rfl) rfl ?_
  refine d_val (s_move rfl rfl) rfl ?_
  refine d_val (s_index rfl rfl rfl (by omega) (idx_map hx)) rfl ?_
  refine d_val (s_loadT rfl rfl rfl) rfl ?_
  refine d_val (s_field rfl rfl rfl rfl) rfl ?_
  refine d_val (s_load rfl rfl rfl rfl) rfl ?_
  refine d_val (s_eql rfl rfl rfl) rfl ?_
  refine d_nil rfl ?_
  refine vc_cond rfl (fun hc115 => ?_) (fun hc115 => ?_)
  replace hc115 := of_decide_eq_true hc115
  refine vc_rseq mixed ?_
  refine d_val (s_field rfl rfl rfl rfl) rfl ?_
  refine d_val (s_load rfl rfl rfl rfl) rfl ?_
  refine d_val (s_move rfl rfl) rfl ?_
  refine d_val (s_slice none (some (.i64, (k : Int))) rfl trivial rfl rfl (by simp) (by simp) (by simp [optN]; omega)) rfl ?_
  refine d_new (s_appendN 120 rfl rfl rfl rfl (by simp [optN]; omega)) rfl ?_
  refine d_val (s_field rfl rfl rfl rfl) rfl ?_
  refine d_val (s_load rfl rfl rfl rfl) rfl ?_
  refine d_val (s_move rfl rfl) rfl ?_
  refine d_val (s_add rfl rfl rfl (by simp only [inI, kMin, kMax]; omega)) rfl ?_
  refine d_val (s_slice (some (.i64, (k : Int) + 1)) none rfl rfl trivial rfl (by simp; omega) (by simp) (by simp [optN]; omega)) rfl ?_
  refine d_fa ((s_append 126 rfl rfl rfl rfl rfl (by simp [optN]) rfl rfl (by simp [optN]; omega)).fzA (by simp [optN]) rfl) rfl ?_
  refine d_val (s_field rfl rfl rfl rfl) rfl ?_
  refine d_sto (s_store rfl rfl rfl rfl rfl rfl) rfl ?_
  refine d_nil rfl ?_
  refine vc_rseq mixed ?_
  refine g_val (s_loadA rfl rfl rfl rfl rfl) rfl ?_
  refine g_sto (s_store rfl rfl rfl rfl rfl rfl) rfl ?_
  refine g_val (s_assign rfl rfl) rfl ?_
  refine g_nil ?_
  have hm : c.time ∈ v.pins := hc115 ▸ List.mem_of_getElem? hx
  have he := erase_eq hJ (hc115 ▸ hx)
  rw [show doneF v c = ({ v with pins := v.pins.erase c.time }, 0) from by unfold doneF; (repeat' split) <;> first | rfl | (exfalso; omega) | (exfalso; simp_all; done) | (exfalso; simp_all; omega)]; exact vc_ret (ret_le [] _ (.cons (.agg rfl rfl rfl rfl) (.cons (.tmp rfl) .nil)) trivial (by repeat (first | exact leL_nil | refine leL_cons ?_ ?_ | exact LeV.tt rfl | exact .nl (by decide) (by decide) | exact .nn | refine LeV.tupL ?_ | refine LeV.aggL ?_ | exact .eq (by first | exact trivial | (simp [AV.okV, okR, lkB]; done) | (simp [AV.okV, okR, lkB]; omega)) (by first | rfl | (simp [AV.view, viewR, lkB, AV.ren, List.take_of_length_le]; done) | (simp [AV.view, viewR, lkB, AV.ren, List.take_of_length_le]; first | (simp [optN, intsT, he, List.map_take, List.map_drop, take_map_len]; done) | (simp [optN, intsT, he, List.map_take, List.map_drop, take_map_len]; exact List.take_of_length_le (by simp; omega)))))) rfl)
  replace hc115 := of_decide_eq_false hc115
  refine vc_skip ?_
  refine vc_region mixed ?_
  refine g_val (s_move rfl rfl) rfl ?_
  refine g_val (s_add rfl rfl rfl (by simp only [inI, kMin, kMax]; omega)) rfl ?_
  refine g_val (s_assign rfl rfl) rfl ?_
  refine g_nil ?_
  exact ⟨by omega, fun j hj z hz => by rcases Nat.lt_succ_iff_lt_or_eq.1 hj with h | rfl; exact hJ j h z hz; rw [hx] at hz; injection hz with hz; subst hz; exact hc115, (leE_same (by repeat (first | exact letm_nil _ _ | refine letm_cons rfl ?_ ?_ | exact .same _ | exact .nl (by decide) (by decide) | exact .nn | exact .id' rfl | exact .id' (by simp; done))) (by repeat (first | exact lehp_nil _ _ | refine lehp_cons rfl ?_ ?_ | exact leB_same _ | exact leB_row (by first | rfl | (simp; done)) | exact leB_obj (by simp; done) | refine leB_box ?_ | exact leL_nil | refine leL_cons ?_ ?_ | exact .same _ | exact .nl (by decide) (by decide) | exact .nn | exact .id' rfl | exact .id' (by simp; done))) rfl)⟩
  replace hc105 := of_decide_eq_false hc105
  simp only [List.length_map, Int.not_lt] at hc105
  refine vc_exit ?_
  refine vc_rseq mixed ?_
  refine g_val (s_loadA rfl rfl rfl rfl rfl) rfl ?_
  refine g_sto (s_store rfl rfl rfl rfl rfl rfl) rfl ?_
  refine g_val (s_assign rfl rfl) rfl ?_
  refine g_nil ?_
  have hm : c.time ∉ v.pins := fun hm => by obtain ⟨j, hj⟩ := List.mem_iff_getElem?.1 hm; exact hJ j (by have := (List.getElem?_eq_some_iff.1 hj).1; omega) _ hj rfl
  rw [show doneF v c = (v, 28) from by unfold doneF; (repeat' split) <;> first | rfl | (exfalso; omega) | (exfalso; simp_all; done) | (exfalso; simp_all; omega)]; exact vc_ret (ret_le [] _ (.cons (.agg rfl rfl rfl rfl) (.cons (.tmp rfl) .nil)) trivial (by repeat (first | exact leL_nil | refine leL_cons ?_ ?_ | exact LeV.tt rfl | exact .nl (by decide) (by decide) | exact .nn | refine LeV.tupL ?_ | refine LeV.aggL ?_ | exact .eq (by first | exact trivial | (simp [AV.okV, okR, lkB]; done) | (simp [AV.okV, okR, lkB]; omega)) (by first | rfl | (simp [AV.view, viewR, lkB, AV.ren, List.take_of_length_le]; done) | (simp [AV.view, viewR, lkB, AV.ren, List.take_of_length_le]; done)))) rfl)
  replace hc10 := of_decide_eq_false hc10
  refine vc_skip ?_
  refine vc_seq ?_
  refine vc_rseq mixed ?_
  refine g_val (s_field rfl rfl rfl rfl) rfl ?_
  refine g_val (s_load rfl rfl rfl rfl) rfl ?_
  refine g_nil ?_
  refine vc_block ?_
  refine vc_rseq mixed ?_
  refine g_val (s_eql rfl rfl rfl) rfl ?_
  refine g_val (s_assign rfl rfl) rfl ?_
  refine g_nil ?_
  refine vc_cond rfl (fun h => by have h := of_decide_eq_true h; omega) (fun _ => ?_)
  refine vc_rseq mixed ?_
  refine g_val (s_eql rfl rfl rfl) rfl ?_
  refine g_val (s_assign rfl rfl) rfl ?_
  refine g_nil ?_
  refine vc_cond rfl (fun h => by have h := of_decide_eq_true h; omega) (fun _ => ?_)
  refine vc_rseq mixed ?_
  refine g_val (s_eql rfl rfl rfl) rfl ?_
  refine g_val (s_assign rfl rfl) rfl ?_
  refine g_nil ?_
  refine vc_cond rfl (fun h => by have h := of_decide_eq_true h; omega) (fun _ => ?_)
  refine vc_rseq mixed ?_
  refine g_val (s_eql rfl rfl rfl) rfl ?_
  refine g_val (s_assign rfl rfl) rfl ?_
  refine g_nil ?_
  refine vc_cond rfl (fun h => by have h := of_decide_eq_true h; omega) (fun _ => ?_)
  refine vc_rseq mixed ?_
  refine g_val (s_eql rfl rfl rfl) rfl ?_
  refine g_val (s_assign rfl rfl) rfl ?_
  refine g_nil ?_
  refine vc_cond rfl (fun hc130 => ?_) (fun hc130 => ?_)
  replace hc130 := of_decide_eq_true hc130
  refine vc_seq ?_
  refine vc_rseq mixed ?_
  refine g_val (s_field rfl rfl rfl rfl) rfl ?_
  refine g_val (s_load rfl rfl rfl rfl) rfl ?_
  refine g_val (s_not rfl rfl) rfl ?_
  refine g_nil ?_
  refine vc_cond rfl (fun hc134 => ?_) (fun hc134 => ?_)
  simp only [Bool.not_eq_true'] at hc134
  refine vc_rseq mixed ?_
  refine g_val (s_loadA rfl rfl rfl rfl rfl) rfl ?_
  refine g_sto (s_store rfl rfl rfl rfl rfl rfl) rfl ?_
  refine g_val (s_assign rfl rfl) rfl ?_
  refine g_nil ?_
  rw [show doneF v c = (v, 33) from by unfold doneF; (repeat' split) <;> first | rfl | (exfalso; omega) | (exfalso; simp_all; done) | (exfalso; simp_all; omega)]; exact vc_ret (ret_le [] _ (.cons (.agg rfl rfl rfl rfl) (.cons (.tmp rfl) .nil)) trivial (by repeat (first | exact leL_nil | refine leL_cons ?_ ?_ | exact LeV.tt rfl | exact .nl (by decide) (by decide) | exact .nn | refine LeV.tupL ?_ | refine LeV.aggL ?_ | exact .eq (by first | exact trivial | (simp [AV.okV, okR, lkB]; done) | (simp [AV.okV, okR, lkB]; omega)) (by first | rfl | (simp [AV.view, viewR, lkB, AV.ren, List.take_of_length_le]; done) | (simp [AV.view, viewR, lkB, AV.ren, List.take_of_length_le]; done)))) rfl)
  simp only [Bool.not_eq_false'] at hc134
  refine vc_skip ?_
  refine vc_seq ?_
  refine vc_rseq mixed ?_
  refine g_val (s_field rfl rfl rfl rfl) rfl ?_
  refine g_val (s_load rfl rfl rfl rfl) rfl ?_
  refine g_val (s_geq rfl rfl rfl) rfl ?_
  refine g_val (s_move rfl rfl) rfl ?_
  refine g_probe (j := 139) rfl (fun c hg139 => ?_)
  cases c
  rw [← hg139]; replace hg139 := hg139.symm; replace hg139 := of_decide_eq_false hg139
  simp only [Int.not_le] at hg139
  refine gn_val rfl rfl rfl rfl rfl rfl (by decide) ?_
  refine gn_val rfl rfl rfl rfl rfl rfl (by decide) ?_
  refine gn_val rfl rfl rfl rfl rfl rfl (by decide) ?_
  refine gn_val rfl rfl rfl rfl rfl rfl (by decide) ?_
  refine gn_val rfl rfl rfl rfl rfl rfl (by decide) ?_
  refine g_val (s_pickF rfl rfl rfl) rfl ?_
  refine g_nil ?_
  refine vc_cond rfl (fun h => by cases h) (fun _ => ?_)
  refine vc_skip ?_
  refine vc_seq ?_
  refine vc_rseq mixed ?_
  refine g_val (s_field rfl rfl rfl rfl) rfl ?_
  refine g_val (s_load rfl rfl rfl rfl) rfl ?_
  refine g_val (s_field rfl rfl rfl rfl) rfl ?_
  refine g_val (s_load rfl rfl rfl rfl) rfl ?_
  refine g_val (s_neq rfl rfl rfl) rfl ?_
  refine g_val (s_move rfl rfl) rfl ?_
  refine g_probe (j := 152) rfl (fun c hg152 => ?_)
  cases c
  rw [← hg152]; replace hg152 := hg152.symm; replace hg152 := of_decide_eq_false hg152
  simp only [ne_eq, Decidable.not_not] at hg152
  refine gq_val (s_field rfl rfl rfl rfl) rfl rfl rfl rfl ?_
  refine gq_val (s_load rfl rfl rfl rfl) rfl rfl rfl rfl ?_
  refine gq_val (s_field rfl rfl rfl rfl) rfl rfl rfl rfl ?_
  refine gq_val (s_load rfl rfl rfl rfl) rfl rfl rfl rfl ?_
  refine gq_val (s_eql rfl rfl rfl) rfl rfl rfl rfl ?_
  refine g_val (s_pickF rfl rfl rfl) rfl ?_
  refine g_nil ?_
  refine vc_cond rfl (fun hc158 => ?_) (fun hc158 => ?_)
  replace hc158 := of_decide_eq_true hc158
  refine vc_rseq mixed ?_
  refine g_val (s_loadA rfl rfl rfl rfl rfl) rfl ?_
  refine g_sto (s_store rfl rfl rfl rfl rfl rfl) rfl ?_
  refine g_val (s_assign rfl rfl) rfl ?_
  refine g_nil ?_
  rw [show doneF v c = (v, 33) from by unfold doneF; (repeat' split) <;> first | rfl | (exfalso; omega) | (exfalso; simp_all; done) | (exfalso; simp_all; omega)]; exact vc_ret (ret_le [] _ (.cons (.agg rfl rfl rfl rfl) (.cons (.tmp rfl) .nil)) trivial (by repeat (first | exact leL_nil | refine leL_cons ?_ ?_ | exact LeV.tt rfl | exact .nl (by decide) (by decide) | exact .nn | refine LeV.tupL ?_ | refine LeV.aggL ?_ | exact .eq (by first | exact trivial | (simp [AV.okV, okR, lkB]; done) | (simp [AV.okV, okR, lkB]; omega)) (by first | rfl | (simp [AV.view, viewR, lkB, AV.ren, List.take_of_length_le]; done) | (simp [AV.view, viewR, lkB, AV.ren, List.take_of_length_le]; done)))) rfl)
  replace hc158 := of_decide_eq_false hc158
  refine vc_skip ?_
  refine vc_seq ?_
  refine vc_rseq mixed ?_
  refine g_val (s_field rfl rfl rfl rfl) rfl ?_
  refine g_val (s_load rfl rfl rfl rfl) rfl ?_
  refine g_val (s_field rfl rfl rfl rfl) rfl ?_
  refine g_val (s_load rfl rfl rfl rfl) rfl ?_
  refine g_val (s_field rfl rfl rfl rfl) rfl ?_
  refine g_val (s_load rfl rfl rfl rfl) rfl ?_
  refine g_val (s_call [] (c_mementoref13_ItemsRight v.blocks v.size c.items) (evArgs_cons rfl (evArgs_cons rfl (evArgs_cons rfl evArgs_nil))) trivial rfl (okVL_nil _) rfl (.inl rfl) rfl) rfl ?_
  refine g_val (s_not rfl rfl) rfl ?_
  refine g_nil ?_
  refine vc_cond rfl (fun hc167 => ?_) (fun hc167 => ?_)
  simp only [Bool.not_eq_true', decide_eq_false_iff_not] at hc167
  refine vc_rseq mixed ?_
  refine g_val (s_loadA rfl rfl rfl rfl rfl) rfl ?_
  refine g_sto (s_store rfl rfl rfl rfl rfl rfl) rfl ?_
  refine g_val (s_assign rfl rfl) rfl ?_
  refine g_nil ?_
  rw [show doneF v c = (v, 23) from by unfold doneF; (repeat' split) <;> first | rfl | (exfalso; omega) | (exfalso; simp_all; done) | (exfalso; simp_all; omega)]; exact vc_ret (ret_le [] _ (.cons (.agg rfl rfl rfl rfl) (.cons (.tmp rfl) .nil)) trivial (by repeat (first | exact leL_nil | refine leL_cons ?_ ?_ | exact LeV.tt rfl | exact .nl (by decide) (by decide) | exact .nn | refine LeV.tupL ?_ | refine LeV.aggL ?_ | exact .eq (by first | exact trivial | (simp [AV.okV, okR, lkB]; done) | (simp [AV.okV, okR, lkB]; omega)) (by first | rfl | (simp [AV.view, viewR, lkB, AV.ren, List.take_of_length_le]; done) | (simp [AV.view, viewR, lkB, AV.ren, List.take_of_length_le]; done)))) rfl)
  simp only [Bool.not_eq_false', decide_eq_true_eq] at hc167
  refine vc_skip ?_
  have e : doneF v c = ({ writeV v c.items with next := v.next + 1 }, 0) := by unfold doneF; (repeat' split) <;> first | rfl | (exfalso; omega) | (exfalso; simp_all; done) | (exfalso; simp_all; omega)
  refine vc_rseq mixed ?_
  refine g_val (s_loadA rfl rfl rfl rfl rfl) rfl ?_
  refine g_val (s_field rfl rfl rfl rfl) rfl ?_
  refine g_val (s_load rfl rfl rfl rfl) rfl ?_
  refine g_val (s_call [] (c_mementoref16_write v c.items (by omega)) (evArgs_cons rfl (evArgs_cons rfl evArgs_nil)) trivial rfl (okVL_nil _) rfl (.inl rfl) rfl) rfl ?_
  refine g_sto (s_store rfl rfl rfl rfl rfl rfl) rfl ?_
  refine g_nil ?_
  refine vc_region mixed ?_
  refine g_val (s_field rfl rfl rfl rfl) rfl ?_
  refine g_val (s_load rfl rfl rfl rfl) rfl ?_
  refine g_val (s_add rfl rfl rfl (by simp only [inI, kMin, kMax, writeV]; omega)) rfl ?_
  refine g_val (s_field rfl rfl rfl rfl) rfl ?_
  refine g_sto (s_store rfl rfl rfl rfl rfl rfl) rfl ?_
  refine g_nil ?_
  refine vc_rseq mixed ?_
  refine g_val (s_loadA rfl rfl rfl rfl rfl) rfl ?_
  refine g_sto (s_store rfl rfl rfl rfl rfl rfl) rfl ?_
  refine g_val (s_assign rfl rfl) rfl ?_
  refine g_nil ?_
  rw [e]; exact vc_ret (ret_le [] _ (.cons (.agg rfl rfl rfl rfl) (.cons (.tmp rfl) .nil)) trivial (by repeat (first | exact leL_nil | refine leL_cons ?_ ?_ | exact LeV.tt rfl | exact .nl (by decide) (by decide) | exact .nn | refine LeV.tupL ?_ | refine LeV.aggL ?_ | exact .eq (by first | exact trivial | (simp [AV.okV, okR, lkB]; done) | (simp [AV.okV, okR, lkB]; omega)) (by first | rfl | (simp [AV.view, viewR, lkB, AV.ren, List.take_of_length_le]; done) | (simp [AV.view, viewR, lkB, AV.ren, List.take_of_length_le]; first | (simp [i64, writeV]; done) | (simp [optN, intsT, he, List.map_take, List.map_drop, intC, i64, take_map_len]; done) | (simp [optN, intsT, he, List.map_take, List.map_drop, intC, i64, take_map_len]; exact List.take_of_length_le (by simp; omega)))))) rfl)
  rw [← hg152]; replace hg152 := hg152.symm; replace hg152 := of_decide_eq_true hg152
  simp only [ne_eq] at hg152
  refine gn_val rfl rfl rfl rfl rfl rfl (by decide) ?_
  refine gn_val rfl rfl rfl rfl rfl rfl (by decide) ?_
  refine gn_val rfl rfl rfl rfl rfl rfl (by decide) ?_
  refine gn_val rfl rfl rfl rfl rfl rfl (by decide) ?_
  refine gn_val rfl rfl rfl rfl rfl rfl (by decide) ?_
  refine g_val (s_pickT rfl rfl rfl) rfl ?_
  refine g_nil ?_
  refine vc_cond rfl (fun _ => ?_) (fun h => by cases h)
  refine vc_rseq mixed ?_
  refine g_val (s_loadA rfl rfl rfl rfl rfl) rfl ?_
  refine g_sto (s_store rfl rfl rfl rfl rfl rfl) rfl ?_
  refine g_val (s_assign rfl rfl) rfl ?_
  refine g_nil ?_
  rw [show doneF v c = (v, 33) from by unfold doneF; (repeat' split) <;> first | rfl | (exfalso; omega) | (exfalso; simp_all; done) | (exfalso; simp_all; omega)]; exact vc_ret (ret_le [] _ (.cons (.agg rfl rfl rfl rfl) (.cons (.tmp rfl) .nil)) trivial (by repeat (first | exact leL_nil | refine leL_cons ?_ ?_ | exact LeV.tt rfl | exact .nl (by decide) (by decide) | exact .nn | refine LeV.tupL ?_ | refine LeV.aggL ?_ | exact .eq (by first | exact trivial | (simp [AV.okV, okR, lkB]; done) | (simp [AV.okV, okR, lkB]; omega)) (by first | rfl | (simp [AV.view, viewR, lkB, AV.ren, List.take_of_length_le]; done) | (simp [AV.view, viewR, lkB, AV.ren, List.take_of_length_le]; done)))) rfl)
  rw [← hg139]; replace hg139 := hg139.symm; replace hg139 := of_decide_eq_true hg139
  refine gq_val (s_field rfl rfl rfl rfl) rfl rfl rfl rfl ?_
  refine gq_val (s_load rfl rfl rfl rfl) rfl rfl rfl rfl ?_
  refine gq_val (s_field rfl rfl rfl rfl) rfl rfl rfl rfl ?_
  refine gq_val (s_load rfl rfl rfl rfl) rfl rfl rfl rfl ?_
  refine gq_val (s_lss rfl rfl rfl) rfl rfl rfl rfl ?_
  refine g_val (s_pickT rfl rfl rfl) rfl ?_
  refine g_nil ?_
  refine vc_cond rfl (fun hc145 => ?_) (fun hc145 => ?_)
  replace hc145 := of_decide_eq_true hc145
  refine vc_rseq mixed ?_
  refine g_val (s_loadA rfl rfl rfl rfl rfl) rfl ?_
  refine g_sto (s_store rfl rfl rfl rfl rfl rfl) rfl ?_
  refine g_val (s_assign rfl rfl) rfl ?_
  refine g_nil ?_
  rw [show doneF v c = (v, 0) from by unfold doneF; (repeat' split) <;> first | rfl | (exfalso; omega) | (exfalso; simp_all; done) | (exfalso; simp_all; omega)]; exact vc_ret (ret_le [] _ (.cons (.agg rfl rfl rfl rfl) (.cons (.tmp rfl) .nil)) trivial (by repeat (first | exact leL_nil | refine leL_cons ?_ ?_ | exact LeV.tt rfl | exact .nl (by decide) (by decide) | exact .nn | refine LeV.tupL ?_ | refine LeV.aggL ?_ | exact .eq (by first | exact trivial | (simp [AV.okV, okR, lkB]; done) | (simp [AV.okV, okR, lkB]; omega)) (by first | rfl | (simp [AV.view, viewR, lkB, AV.ren, List.take_of_length_le]; done) | (simp [AV.view, viewR, lkB, AV.ren, List.take_of_length_le]; done)))) rfl)
  replace hc145 := of_decide_eq_false hc145
  simp only [Int.not_lt] at hc145
  refine vc_skip ?_
  refine vc_seq ?_
  refine vc_rseq mixed ?_
  refine g_val (s_field rfl rfl rfl rfl) rfl ?_
  refine g_val (s_load rfl rfl rfl rfl) rfl ?_
  refine g_val (s_field rfl rfl rfl rfl) rfl ?_
  refine g_val (s_load rfl rfl rfl rfl) rfl ?_
  refine g_val (s_neq rfl rfl rfl) rfl ?_
  refine g_val (s_move rfl rfl) rfl ?_
  refine g_probe (j := 152) rfl (fun c hg152 => ?_)
  cases c
  rw [← hg152]; replace hg152 := hg152.symm; replace hg152 := of_decide_eq_false hg152
  simp only [ne_eq, Decidable.not_not] at hg152
  refine gq_val (s_field rfl rfl rfl rfl) rfl rfl rfl rfl ?_
  refine gq_val (s_load rfl rfl rfl rfl) rfl rfl rfl rfl ?_
  refine gq_val (s_field rfl rfl rfl rfl) rfl rfl rfl rfl ?_
  refine gq_val (s_load rfl rfl rfl rfl) rfl rfl rfl rfl ?_
  refine gq_val (s_eql rfl rfl rfl) rfl rfl rfl rfl ?_
  refine g_val (s_pickF rfl rfl rfl) rfl ?_
  refine g_nil ?_
  refine vc_cond rfl (fun hc158 => ?_) (fun hc158 => ?_)
  replace hc158 := of_decide_eq_true hc158
  refine vc_rseq mixed ?_
  refine g_val (s_loadA rfl rfl rfl rfl rfl) rfl ?_
  refine g_sto (s_store rfl rfl rfl rfl rfl rfl) rfl ?_
  refine g_val (s_assign rfl rfl) rfl ?_
  refine g_nil ?_
  rw [show doneF v c = (v, 33) from by unfold doneF; (repeat' split) <;> first | rfl | (exfalso; omega) | (exfalso; simp_all; done) | (exfalso; simp_all; omega)]; exact vc_ret (ret_le [] _ (.cons (.agg rfl rfl rfl rfl) (.cons (.tmp rfl) .nil)) trivial (by repeat (first | exact leL_nil | refine leL_cons ?_ ?_ | exact LeV.tt rfl | exact .nl (by decide) (by decide) | exact .nn | refine LeV.tupL ?_ | refine LeV.aggL ?_ | exact .eq (by first | exact trivial | (simp [AV.okV, okR, lkB]; done) | (simp [AV.okV, okR, lkB]; omega)) (by first | rfl | (simp [AV.view, viewR, lkB, AV.ren, List.take_of_length_le]; done) | (simp [AV.view, viewR, lkB, AV.ren, List.take_of_length_le]; done)))) rfl)
  replace hc158 := of_decide_eq_false hc158
  refine vc_skip ?_
  refine vc_seq ?_
  refine vc_rseq mixed ?_
  refine g_val (s_field rfl rfl rfl rfl) rfl ?_
  refine g_val (s_load rfl rfl rfl rfl) rfl ?_
  refine g_val (s_field rfl rfl rfl rfl) rfl ?_
  refine g_val (s_load rfl rfl rfl rfl) rfl ?_
  refine g_val (s_field rfl rfl rfl rfl) rfl ?_
  refine g_val (s_load rfl rfl rfl rfl) rfl ?_
  refine g_val (s_call [] (c_mementoref13_ItemsRight v.blocks v.size c.items) (evArgs_cons rfl (evArgs_cons rfl (evArgs_cons rfl evArgs_nil))) trivial rfl (okVL_nil _) rfl (.inl rfl) rfl) rfl ?_
  refine g_val (s_not rfl rfl) rfl ?_
  refine g_nil ?_
  refine vc_cond rfl (fun hc167 => ?_) (fun hc167 => ?_)
  simp only [Bool.not_eq_true', decide_eq_false_iff_not] at hc167
  refine vc_rseq mixed ?_
  refine g_val (s_loadA rfl rfl rfl rfl rfl) rfl ?_
  refine g_sto (s_store rfl rfl rfl rfl rfl rfl) rfl ?_
  refine g_val (s_assign rfl rfl) rfl ?_
  refine g_nil ?_
  rw [show doneF v c = (v, 23) from by unfold doneF; (repeat' split) <;> first | rfl | (exfalso; omega) | (exfalso; simp_all; done) | (exfalso; simp_all; omega)]; exact vc_ret (ret_le [] _ (.cons (.agg rfl rfl rfl rfl) (.cons (.tmp rfl) .nil)) trivial (by repeat (first | exact leL_nil | refine leL_cons ?_ ?_ | exact LeV.tt rfl | exact .nl (by decide) (by decide) | exact .nn | refine LeV.tupL ?_ | refine LeV.aggL ?_ | exact .eq (by first | exact trivial | (simp [AV.okV, okR, lkB]; done) | (simp [AV.okV, okR, lkB]; omega)) (by first | rfl | (simp [AV.view, viewR, lkB, AV.ren, List.take_of_length_le]; done) | (simp [AV.view, viewR, lkB, AV.ren, List.take_of_length_le]; done)))) rfl)
  simp only [Bool.not_eq_false', decide_eq_true_eq] at hc167
  refine vc_skip ?_
  have e : doneF v c = ({ writeV v c.items with next := v.next + 1 }, 0) := by unfold doneF; (repeat' split) <;> first | rfl | (exfalso; omega) | (exfalso; simp_all; done) | (exfalso; simp_all; omega)
  refine vc_rseq mixed ?_
  refine g_val (s_loadA rfl rfl rfl rfl rfl) rfl ?_
  refine g_val (s_field rfl rfl rfl rfl) rfl ?_
  refine g_val (s_load rfl rfl rfl rfl) rfl ?_
  refine g_val (s_call [] (c_mementoref16_write v c.items (by omega)) (evArgs_cons rfl (evArgs_cons rfl evArgs_nil)) trivial rfl (okVL_nil _) rfl (.inl rfl) rfl) rfl ?_
  refine g_sto (s_store rfl rfl rfl rfl rfl rfl) rfl ?_
  refine g_nil ?_
  refine vc_region mixed ?_
  refine g_val (s_field rfl rfl rfl rfl) rfl ?_
  refine g_val (s_load rfl rfl rfl rfl) rfl ?_
  refine g_val (s_add rfl rfl rfl (by simp only [inI, kMin, kMax, writeV]; omega)) rfl ?_
  refine g_val (s_field rfl rfl rfl rfl) rfl ?_
  refine g_sto (s_store rfl rfl rfl rfl rfl rfl) rfl ?_
  refine g_nil ?_
  refine vc_rseq mixed ?_
  refine g_val (s_loadA rfl rfl rfl rfl rfl) rfl ?_
  refine g_sto (s_store rfl rfl rfl rfl rfl rfl) rfl ?_
  refine g_val (s_assign rfl rfl) rfl ?_
  refine g_nil ?_
  rw [e]; exact vc_ret (ret_le [] _ (.cons (.agg rfl rfl rfl rfl) (.cons (.tmp rfl) .nil)) trivial (by repeat (first | exact leL_nil | refine leL_cons ?_ ?_ | exact LeV.tt rfl | exact .nl (by decide) (by decide) | exact .nn | refine LeV.tupL ?_ | refine LeV.aggL ?_ | exact .eq (by first | exact trivial | (simp [AV.okV, okR, lkB]; done) | (simp [AV.okV, okR, lkB]; omega)) (by first | rfl | (simp [AV.view, viewR, lkB, AV.ren, List.take_of_length_le]; done) | (simp [AV.view, viewR, lkB, AV.ren, List.take_of_length_le]; first | (simp [i64, writeV]; done) | (simp [optN, intsT, he, List.map_take, List.map_drop, intC, i64, take_map_len]; done) | (simp [optN, intsT, he, List.map_take, List.map_drop, intC, i64, take_map_len]; exact List.take_of_length_le (by simp; omega)))))) rfl)
  rw [← hg152]; replace hg152 := hg152.symm; replace hg152 := of_decide_eq_true hg152
  simp only [ne_eq] at hg152
  refine gn_val rfl rfl rfl rfl rfl rfl (by decide) ?_
  refine gn_val rfl rfl rfl rfl rfl rfl (by decide) ?_
  refine gn_val rfl rfl rfl rfl rfl rfl (by decide) ?_
  refine gn_val rfl rfl rfl rfl rfl rfl (by decide) ?_
  refine gn_val rfl rfl rfl rfl rfl rfl (by decide) ?_
  refine g_val (s_pickT rfl rfl rfl) rfl ?_
  refine g_nil ?_
  refine vc_cond rfl (fun _ => ?_) (fun h => by cases h)
  refine vc_rseq mixed ?_
  refine g_val (s_loadA rfl rfl rfl rfl rfl) rfl ?_
  refine g_sto (s_store rfl rfl rfl rfl rfl rfl) rfl ?_
  refine g_val (s_assign rfl rfl) rfl ?_
  refine g_nil ?_
  rw [show doneF v c = (v, 33) from by unfold doneF; (repeat' split) <;> first | rfl | (exfalso; omega) | (exfalso; simp_all; done) | (exfalso; simp_all; omega)]; exact vc_ret (ret_le [] _ (.cons (.agg rfl rfl rfl rfl) (.cons (.tmp rfl) .nil)) trivial (by repeat (first | exact leL_nil | refine leL_cons ?_ ?_ | exact LeV.tt rfl | exact .nl (by decide) (by decide) | exact .nn | refine LeV.tupL ?_ | refine LeV.aggL ?_ | exact .eq (by first | exact trivial | (simp [AV.okV, okR, lkB]; done) | (simp [AV.okV, okR, lkB]; omega)) (by first | rfl | (simp [AV.view, viewR, lkB, AV.ren, List.take_of_length_le]; done) | (simp [AV.view, viewR, lkB, AV.ren, List.take_of_length_le]; done)))) rfl)
  replace hc130 := of_decide_eq_false hc130
  refine vc_rseq mixed ?_
  refine g_val (s_eql rfl rfl rfl) rfl ?_
  refine g_val (s_assign rfl rfl) rfl ?_
  refine g_nil ?_
  refine vc_cond rfl (fun hc177 => ?_) (fun hc177 => ?_)
  replace hc177 := of_decide_eq_true hc177
  refine vc_seq ?_
  refine vc_rseq mixed ?_
  refine g_val (s_field rfl rfl rfl rfl) rfl ?_
  refine g_val (s_load rfl rfl rfl rfl) rfl ?_
  refine g_val (s_not rfl rfl) rfl ?_
  refine g_val (s_move rfl rfl) rfl ?_
  refine g_probe (j := 182) rfl (fun c hg182 => ?_)
  cases c
  rw [← hg182]; replace hg182 := hg182.symm
  simp only [Bool.not_eq_false'] at hg182
  refine gq_val (s_field rfl rfl rfl rfl) rfl rfl rfl rfl ?_
  refine gq_val (s_load rfl rfl rfl rfl) rfl rfl rfl rfl ?_
  refine gq_val (s_field rfl rfl rfl rfl) rfl rfl rfl rfl ?_
  refine gq_val (s_load rfl rfl rfl rfl) rfl rfl rfl rfl ?_
  refine gq_val (s_neq rfl rfl rfl) rfl rfl rfl rfl ?_
  refine g_val (s_pickF rfl rfl rfl) rfl ?_
  refine g_nil ?_
  refine vc_cond rfl (fun hc188 => ?_) (fun hc188 => ?_)
  replace hc188 := of_decide_eq_true hc188
  simp only [ne_eq] at hc188
  refine vc_rseq mixed ?_
  refine g_val (s_loadA rfl rfl rfl rfl rfl) rfl ?_
  refine g_sto (s_store rfl rfl rfl rfl rfl rfl) rfl ?_
  refine g_val (s_assign rfl rfl) rfl ?_
  refine g_nil ?_
  rw [show doneF v c = (v, 33) from by unfold doneF; (repeat' split) <;> first | rfl | (exfalso; omega) | (exfalso; simp_all; done) | (exfalso; simp_all; omega)]; exact vc_ret (ret_le [] _ (.cons (.agg rfl rfl rfl rfl) (.cons (.tmp rfl) .nil)) trivial (by repeat (first | exact leL_nil | refine leL_cons ?_ ?_ | exact LeV.tt rfl | exact .nl (by decide) (by decide) | exact .nn | refine LeV.tupL ?_ | refine LeV.aggL ?_ | exact .eq (by first | exact trivial | (simp [AV.okV, okR, lkB]; done) | (simp [AV.okV, okR, lkB]; omega)) (by first | rfl | (simp [AV.view, viewR, lkB, AV.ren, List.take_of_length_le]; done) | (simp [AV.view, viewR, lkB, AV.ren, List.take_of_length_le]; done)))) rfl)
  replace hc188 := of_decide_eq_false hc188
  simp only [ne_eq, Decidable.not_not] at hc188
  refine vc_skip ?_
  have e : doneF v c = ({ v with hidden := false, floor := v.writes.length }, 0) := by unfold doneF; (repeat' split) <;> first | rfl | (exfalso; omega) | (exfalso; simp_all; done) | (exfalso; simp_all; omega)
  refine vc_region mixed ?_
  refine g_val (s_loadA rfl rfl rfl rfl rfl) rfl ?_
  refine g_val (s_call [] (c_mementoref16_Len v) (evArgs_cons rfl evArgs_nil) trivial rfl (okVL_nil _) rfl (.inl rfl) rfl) rfl ?_
  refine g_val (s_field rfl rfl rfl rfl) rfl ?_
  refine g_sto (s_store rfl rfl rfl rfl rfl rfl) rfl ?_
  refine g_val (s_field rfl rfl rfl rfl) rfl ?_
  refine g_sto (s_store rfl rfl rfl rfl rfl rfl) rfl ?_
  refine g_nil ?_
  refine vc_rseq mixed ?_
  refine g_val (s_loadA rfl rfl rfl rfl rfl) rfl ?_
  refine g_sto (s_store rfl rfl rfl rfl rfl rfl) rfl ?_
  refine g_val (s_assign rfl rfl) rfl ?_
  refine g_nil ?_
  rw [e]; exact vc_ret (ret_le [] _ (.cons (.agg rfl rfl rfl rfl) (.cons (.tmp rfl) .nil)) trivial (by repeat (first | exact leL_nil | refine leL_cons ?_ ?_ | exact LeV.tt rfl | exact .nl (by decide) (by decide) | exact .nn | refine LeV.tupL ?_ | refine LeV.aggL ?_ | exact .eq (by first | exact trivial | (simp [AV.okV, okR, lkB]; done) | (simp [AV.okV, okR, lkB]; omega)) (by first | rfl | (simp [AV.view, viewR, lkB, AV.ren, List.take_of_length_le]; done) | (simp [AV.view, viewR, lkB, AV.ren, List.take_of_length_le]; first | (simp [i64, writeV]; done) | (simp [optN, intsT, he, List.map_take, List.map_drop, intC, i64, take_map_len]; done) | (simp [optN, intsT, he, List.map_take, List.map_drop, intC, i64, take_map_len]; exact List.take_of_length_le (by simp; omega)))))) rfl)
  rw [← hg182]; replace hg182 := hg182.symm
  simp only [Bool.not_eq_true'] at hg182
  refine gn_val rfl rfl rfl rfl rfl rfl (by decide) ?_
  refine gn_val rfl rfl rfl rfl rfl rfl (by decide) ?_
  refine gn_val rfl rfl rfl rfl rfl rfl (by decide) ?_
  refine gn_val rfl rfl rfl rfl rfl rfl (by decide) ?_
  refine gn_val rfl rfl rfl rfl rfl rfl (by decide) ?_
  refine g_val (s_pickT rfl rfl rfl) rfl ?_
  refine g_nil ?_
  refine vc_cond rfl (fun _ => ?_) (fun h => by cases h)
  refine vc_rseq mixed ?_
  refine g_val (s_loadA rfl rfl rfl rfl rfl) rfl ?_
  refine g_sto (s_store rfl rfl rfl rfl rfl rfl) rfl ?_
  refine g_val (s_assign rfl rfl) rfl ?_
  refine g_nil ?_
  rw [show doneF v c = (v, 33) from by unfold doneF; (repeat' split) <;> first | rfl | (exfalso; omega) | (exfalso; simp_all; done) | (exfalso; simp_all; omega)]; exact vc_ret (ret_le [] _ (.cons (.agg rfl rfl rfl rfl) (.cons (.tmp rfl) .nil)) trivial (by repeat (first | exact leL_nil | refine leL_cons ?_ ?_ | exact LeV.tt rfl | exact .nl (by decide) (by decide) | exact .nn | refine LeV.tupL ?_ | refine LeV.aggL ?_ | exact .eq (by first | exact trivial | (simp [AV.okV, okR, lkB]; done) | (simp [AV.okV, okR, lkB]; omega)) (by first | rfl | (simp [AV.view, viewR, lkB, AV.ren, List.take_of_length_le]; done) | (simp [AV.view, viewR, lkB, AV.ren, List.take_of_length_le]; done)))) rfl)
  replace hc177 := of_decide_eq_false hc177
  refine vc_rseq mixed ?_
  refine g_val (s_eql rfl rfl rfl) rfl ?_
  refine g_val (s_assign rfl rfl) rfl ?_
  refine g_nil ?_
  refine vc_cond rfl (fun hc194 => ?_) (fun hc194 => ?_)
  replace hc194 := of_decide_eq_true hc194
  have e : doneF v c = (v, 0) := by unfold doneF; (repeat' split) <;> first | rfl | (exfalso; omega) | (exfalso; simp_all; done) | (exfalso; simp_all; omega)
  refine vc_skip ?_
  refine vc_rseq mixed ?_
  refine g_val (s_loadA rfl rfl rfl rfl rfl) rfl ?_
  refine g_sto (s_store rfl rfl rfl rfl rfl rfl) rfl ?_
  refine g_val (s_assign rfl rfl) rfl ?_
  refine g_nil ?_
  rw [e]; exact vc_ret (ret_le [] _ (.cons (.agg rfl rfl rfl rfl) (.cons (.tmp rfl) .nil)) trivial (by repeat (first | exact leL_nil | refine leL_cons ?_ ?_ | exact LeV.tt rfl | exact .nl (by decide) (by decide) | exact .nn | refine LeV.tupL ?_ | refine LeV.aggL ?_ | exact .eq (by first | exact trivial | (simp [AV.okV, okR, lkB]; done) | (simp [AV.okV, okR, lkB]; omega)) (by first | rfl | (simp [AV.view, viewR, lkB, AV.ren, List.take_of_length_le]; done) | (simp [AV.view, viewR, lkB, AV.ren, List.take_of_length_le]; first | (simp [i64, writeV]; done) | (simp [optN, intsT, he, List.map_take, List.map_drop, intC, i64, take_map_len]; done) | (simp [optN, intsT, he, List.map_take, List.map_drop, intC, i64, take_map_len]; exact List.take_of_length_le (by simp; omega)))))) rfl)
  replace hc194 := of_decide_eq_false hc194
  refine vc_rseq mixed ?_
  refine g_val (s_loadA rfl rfl rfl rfl rfl) rfl ?_
  refine g_sto (s_store rfl rfl rfl rfl rfl rfl) rfl ?_
  refine g_val (s_assign rfl rfl) rfl ?_
  refine g_nil ?_
  rw [show doneF v c = (v, 23) from by unfold doneF; (repeat' split) <;> first | rfl | (exfalso; omega) | (exfalso; simp_all; done) | (exfalso; simp_all; omega)]; exact vc_ret (ret_le [] _ (.cons (.agg rfl rfl rfl rfl) (.cons (.tmp rfl) .nil)) trivial (by repeat (first | exact leL_nil | refine leL_cons ?_ ?_ | exact LeV.tt rfl | exact .nl (by decide) (by decide) | exact .nn | refine LeV.tupL ?_ | refine LeV.aggL ?_ | exact .eq (by first | exact trivial | (simp [AV.okV, okR, lkB]; done) | (simp [AV.okV, okR, lkB]; omega)) (by first | rfl | (simp [AV.view, viewR, lkB, AV.ren, List.take_of_length_le]; done) | (simp [AV.view, viewR, lkB, AV.ren, List.take_of_length_le]; done)))) rfl)

end Go.Eng

set_option maxHeartbeats 2000000
namespace Go.Eng
open Go.Proofs

def repOf (v : Volume) : Reply := ⟨0, v.writes.length, v.floor, v.next, []⟩
def repE (e : Int) : Reply := ⟨e, 0, 0, 0, []⟩
def doF (v : Volume) (c : VolCmd) : Volume × Reply := if (doneF v c).2 ≠ 0 then (v, repE (doneF v c).2) else ((doneF v c).1, repOf (doneF v c).1)

theorem c_mementoref16_Do (v : Volume) (c : VolCmd) (hv : volSmall v) : Con Try.prog 45 [sC (volC v), sC (cmdC c)] [] (.tup [sC (volC (doF v c).1), sC (repC (doF v c).2)]) [] := by
  refine con_intro [] [] Try.func45 rfl Try.ntmps45 Try.results45 rfl rfl ?_
  intro E
  refine vc_rseq mixed ?_
  refine g_new (s_box 2 rfl rfl rfl rfl) rfl ?_
  refine g_new (s_box 3 rfl rfl rfl rfl) rfl ?_
  refine g_new (s_alloc 4 rfl rfl) rfl ?_
  refine g_new (s_alloc 5 rfl rfl) rfl ?_
  refine g_nil ?_
  refine vc_rseq mixed ?_
  refine g_val (s_loadA rfl rfl rfl rfl rfl) rfl ?_
  refine g_val (s_loadA rfl rfl rfl rfl rfl) rfl ?_
  refine g_val (s_call [] (c_mementoref16_done v c hv) (evArgs_cons rfl (evArgs_cons rfl evArgs_nil)) trivial rfl (okVL_nil _) rfl (.inl rfl) rfl) rfl ?_
  refine g_val (s_move rfl rfl) rfl ?_
  refine g_val (s_extract rfl rfl rfl) rfl ?_
  refine g_val (s_extract rfl rfl rfl) rfl ?_
  refine g_new (s_alloc 6 rfl rfl) rfl ?_
  refine g_sto (s_store rfl rfl rfl rfl rfl rfl) rfl ?_
  refine g_val (s_assign rfl rfl) rfl ?_
  refine g_nil ?_
  refine vc_seq ?_
  refine vc_rseq mixed ?_
  refine g_val (s_move rfl rfl) rfl ?_
  refine g_val (s_neq rfl rfl rfl) rfl ?_
  refine g_nil ?_
  refine vc_cond rfl (fun hc15 => ?_) (fun hc15 => ?_)
  replace hc15 := of_decide_eq_true hc15
  simp only [ne_eq] at hc15
  have e : doF v c = (v, repE (doneF v c).2) := if_pos hc15
  refine vc_rseq mixed ?_
  refine g_val (s_loadA rfl rfl rfl rfl rfl) rfl ?_
  refine g_val (s_move rfl rfl) rfl ?_
  refine g_val (s_build (evArgs_cons rfl evArgs_nil) rfl rfl rfl) rfl ?_
  refine g_sto (s_store rfl rfl rfl rfl rfl rfl) rfl ?_
  refine g_sto (s_store rfl rfl rfl rfl rfl rfl) rfl ?_
  refine g_nil ?_
  rw [e]; exact vc_ret (ret_le [] _ (.cons (.agg rfl rfl rfl rfl) (.cons (.agg rfl rfl rfl rfl) .nil)) trivial (by repeat (first | exact leL_nil | refine leL_cons ?_ ?_ | exact LeV.tt rfl | exact .nl (by decide) (by decide) | exact .nn | refine LeV.tupL ?_ | refine LeV.aggL ?_ | exact .eq (by first | exact trivial | (simp [AV.okV, okR, lkB]; done) | (simp [AV.okV, okR, lkB]; omega)) (by first | rfl | (simp [AV.view, viewR, lkB, AV.ren, List.take_of_length_le]; done) | (simp [AV.view, viewR, lkB, AV.ren, List.take_of_length_le]; done)))) rfl)
  replace hc15 := of_decide_eq_false hc15
  simp only [ne_eq, Decidable.not_not] at hc15
  refine vc_skip ?_
  have e : doF v c = ((doneF v c).1, repOf (doneF v c).1) := if_neg (by simpa using hc15)
  refine vc_rseq mixed ?_
  refine d_val (s_loadA rfl rfl rfl rfl rfl) rfl ?_
  refine d_val (s_loadA rfl rfl rfl rfl rfl) rfl ?_
  refine d_val (s_call [] (c_mementoref16_Len (doneF v c).1) (evArgs_cons rfl evArgs_nil) trivial rfl (okVL_nil _) rfl (.inl rfl) rfl) rfl ?_
  refine d_val (s_field rfl rfl rfl rfl) rfl ?_
  refine d_val (s_load rfl rfl rfl rfl) rfl ?_
  refine d_val (s_field rfl rfl rfl rfl) rfl ?_
  refine d_val (s_load rfl rfl rfl rfl) rfl ?_
  refine d_val (s_build (evArgs_cons rfl (evArgs_cons rfl (evArgs_cons rfl evArgs_nil))) rfl rfl rfl) rfl ?_
  refine d_sto (s_store rfl rfl rfl rfl rfl rfl) rfl ?_
  refine d_sto (s_store rfl rfl rfl rfl rfl rfl) rfl ?_
  refine d_nil rfl ?_
  rw [e]; exact vc_ret (ret_le [] _ (.cons (.agg rfl rfl rfl rfl) (.cons (.agg rfl rfl rfl rfl) .nil)) trivial (by repeat (first | exact leL_nil | refine leL_cons ?_ ?_ | exact LeV.tt rfl | exact .nl (by decide) (by decide) | exact .nn | refine LeV.tupL ?_ | refine LeV.aggL ?_ | exact .eq (by first | exact trivial | (simp [AV.okV, okR, lkB]; done) | (simp [AV.okV, okR, lkB]; omega)) (by first | rfl | (simp [AV.view, viewR, lkB, AV.ren, List.take_of_length_le]; done) | (simp [AV.view, viewR, lkB, AV.ren, List.take_of_length_le]; done)))) rfl)

end Go.Eng

set_option maxHeartbeats 2000000
namespace Go.Eng
open Go.Proofs

/-! ### Numbers as bytes -/
def putG : Nat → Int → List Int
  | 0, n => [IntKind.u8.wrap n]
  | f + 1, n => if 128 ≤ n then orI .u8 (IntKind.u8.wrap n) 128 :: putG f (shrI .u64 n 7) else [IntKind.u8.wrap n]
def putI (n : Int) : List Int := putG 9 n
def u64C (z : Int) : List T := [.k (.int .u64 z)]
def u64sT (l : List Int) : T := .sl 1 8 (l.map u64C)
def putsF (l : List Int) : List Int := (l.map putI).flatten

theorem putG_len : ∀ (f : Nat) (n : Int), (putG f n).length ≤ f + 1
  | 0, n => by simp [putG]
  | f + 1, n => by
    simp only [putG]
    split
    have := putG_len f (shrI .u64 n 7); simp; omega
    simp
theorem putI_len (n : Int) : (putI n).length ≤ 10 := putG_len 9 n
theorem putsF_len : ∀ (l : List Int), (putsF l).length ≤ 10 * l.length
  | [] => by simp [putsF]
  | n :: l => by
    have := putsF_len l
    have h2 := putI_len n
    simp only [putsF, List.map_cons, List.flatten_cons, List.length_append, List.length_cons] at this ⊢
    omega
theorem putsF_snoc (l : List Int) (n : Int) : putsF (l ++ [n]) = putsF l ++ putI n := by simp [putsF]
theorem shr7 (n : Int) : shrI .u64 n 7 = n / 128 := by simp [shrI, IntKind.bits]

theorem c_mementoref1_Put_own (l : List Int) (hl : l.length ≤ 1000000) : Con Try.prog 61 [.t (u64sT l)] [] (.rows 0 1 0 (putsF l).length) [(0, .row 1 1 ((putsF l).map byteC))] := by
  refine con_intro [] [0] Try.func61 rfl Try.ntmps61 Try.results61 rfl rfl ?_
  intro E
  refine vc_okT (i := 0) rfl fun ok0 => ?_
  refine vc_rseq mixed ?_
  refine g_val (s_assign rfl rfl) rfl ?_
  refine g_nil ?_
  refine vc_rseq mixed ?_
  refine g_val (s_assign rfl rfl) rfl ?_
  refine g_nil ?_
  refine vc_seq ?_
  refine vc_ownnil (i := 3) 3 1 1 rfl rfl rfl ?_
  refine vc_rseq mixed ?_
  refine g_val (s_assign rfl rfl) rfl ?_
  refine g_nil ?_
  refine vc_block ?_
  refine vc_up l.length (fun i => ⟨[(0, .t (u64sT l)), (3, .rows 3 1 0 (putsF (l.take i)).length), (4, AI .i64 i)], [(3, some (.row 1 1 ((putsF (l.take i)).map byteC)))], [3]⟩) (fun i => True) (leE_same (by repeat (first | exact letm_nil _ _ | refine letm_cons rfl ?_ ?_ | exact .same _ | exact .nl (by decide) (by decide) | exact .nn | exact .id' rfl | exact .id' (by simp; done))) (by repeat (first | exact lehp_nil _ _ | refine lehp_cons rfl ?_ ?_ | exact leB_same _ | exact leB_row (by first | rfl | (simp; done)) | exact leB_obj (by simp; done) | refine leB_box ?_ | exact leL_nil | refine leL_cons ?_ ?_ | exact .same _ | exact .nl (by decide) (by decide) | exact .nn | exact .id' rfl | exact .id' (by simp; done))) rfl) trivial (fun i hi _ => ?_)
  refine vc_seq ?_
  refine vc_rseq mixed ?_
  refine g_val (s_move rfl rfl) rfl ?_
  refine g_val (s_move rfl rfl) rfl ?_
  refine g_val (s_len rfl rfl) rfl ?_
  refine g_val (s_lss rfl rfl rfl) rfl ?_
  refine g_nil ?_
  refine vc_cond rfl (fun hc9 => ?_) (fun hc9 => ?_)
  replace hc9 := of_decide_eq_true hc9
  simp only [List.length_map] at hc9
  obtain ⟨x, hx⟩ := get_of_lt (l := l) (i := i) (by omega)
  have hxr : inI .u64 x := (ok0.cell (List.mem_map_of_mem (List.mem_of_getElem? hx)) (t := .k (.int .u64 x)) (by simp [u64C])).int
  have hpl := putsF_len (l.take i)
  have hti : (l.take i).length ≤ 1000000 := by simp; omega
  simp only [inI, kMin, kMax] at hxr
  have h0 : 0 ≤ x ∧ x < 128 * 2 ^ (7 * 9) ∧ x < 18446744073709551616 := by
    have h2 : (2 : Int) ^ (7 * 9) = 9223372036854775808 := by decide
    rw [h2]; omega
  refine vc_skip ?_
  refine vc_seq ?_
  refine vc_block ?_
  refine vc_rseq mixed ?_
  refine g_val (s_move rfl rfl) rfl ?_
  refine g_val (s_move rfl rfl) rfl ?_
  refine g_val (s_index rfl rfl rfl (by omega) (idx_map hx)) rfl ?_
  refine g_val (s_loadT rfl rfl rfl) rfl ?_
  refine g_val (s_assign rfl rfl) rfl ?_
  refine g_nil ?_
  refine vc_seq ?_
  refine vc_block ?_
  refine vc_while (α := Nat × Int × List Int) (fun s => ⟨[(0, .t (u64sT l)), (3, .rows 3 1 0 s.2.2.length), (4, AI .i64 i), (5, AI .u64 s.2.1)], [(3, some (.row 1 1 (s.2.2.map byteC)))], [3]⟩) (fun s => 0 ≤ s.2.1 ∧ s.2.1 < 128 * 2 ^ (7 * s.1) ∧ s.2.2 ++ putG s.1 s.2.1 = putsF (l.take i) ++ putI x ∧ s.2.1 < 18446744073709551616) (fun s => s.1) (9, x, putsF (l.take i)) (leE_same (by repeat (first | exact letm_nil _ _ | refine letm_cons rfl ?_ ?_ | exact .same _ | exact .nl (by decide) (by decide) | exact .nn | exact .id' rfl | exact .id' (by simp; done))) (by repeat (first | exact lehp_nil _ _ | refine lehp_cons rfl ?_ ?_ | exact leB_same _ | exact leB_row (by first | rfl | (simp; done)) | exact leB_obj (by simp; done) | refine leB_box ?_ | exact leL_nil | refine leL_cons ?_ ?_ | exact .same _ | exact .nl (by decide) (by decide) | exact .nn | exact .id' rfl | exact .id' (by simp; done))) rfl) ⟨h0.1, h0.2.1, rfl, h0.2.2⟩ (fun s ⟨hs1, hs2, hs3, hs4⟩ => ?_)
  obtain ⟨f, m, acc⟩ := s
  simp only at hs1 hs2 hs3 hs4
  have hal : acc.length ≤ 10000010 := by have := congrArg List.length hs3; simp only [List.length_append] at this; have := putI_len x; omega
  refine vc_seq ?_
  refine vc_rseq mixed ?_
  refine g_val (s_move rfl rfl) rfl ?_
  refine g_val (s_geq rfl rfl rfl) rfl ?_
  refine g_nil ?_
  refine vc_cond rfl (fun hc17 => ?_) (fun hc17 => ?_)
  replace hc17 := of_decide_eq_true hc17
  try simp only [List.length_map, ne_eq, Decidable.not_not, Int.not_lt, Int.not_le, ge_iff_le, gt_iff_lt, Bool.not_eq_true', Bool.not_eq_false', decide_eq_true_eq, decide_eq_false_iff_not] at hc17
  refine vc_skip ?_
  refine vc_block ?_
  refine vc_rseq mixed ?_
  refine g_val (s_move rfl rfl) rfl ?_
  refine g_val (s_move rfl rfl) rfl ?_
  refine g_val (s_convW rfl rfl) rfl ?_
  refine g_val (s_orB rfl rfl rfl) rfl ?_
  refine g_fz ((s_buildSlice 22 (evArgs_cons rfl evArgs_nil) rfl rfl rfl rfl).fzE rfl) rfl ?_
  refine g_app (s_append 23 rfl rfl rfl rfl rfl (by simp) rfl rfl (by (try simp only [List.length_cons, List.length_nil]); omega)) rfl ?_
  refine g_val (s_assign rfl rfl) rfl ?_
  refine g_nil ?_
  refine vc_region mixed ?_
  refine g_val (s_move rfl rfl) rfl ?_
  refine g_val (s_shrB rfl rfl rfl (by omega) (by omega)) rfl ?_
  refine g_val (s_assign rfl rfl) rfl ?_
  refine g_nil ?_
  cases f with
  | zero => exfalso; simp at hs2; omega
  | succ f =>
    refine ⟨(f, shrI .u64 m 7, acc ++ [orI .u8 (IntKind.u8.wrap m) 128]), ⟨?_, ?_, ?_, ?_⟩, Nat.lt_succ_self f, ?_⟩
    simp only [shr7]; omega
    simp only [shr7]
    have : (2 : Int) ^ (7 * (f + 1)) = 128 * 2 ^ (7 * f) := by rw [show 7 * (f + 1) = 7 + 7 * f by omega, Int.pow_add]; rfl
    rw [this] at hs2; omega
    simp only [putG, if_pos hc17] at hs3; simpa using hs3
    simp only [shr7]; omega
    simp only [List.length_append, List.length_cons, List.length_nil]
    exact (leE_gen [] [(3, 23)] (by repeat (first | exact letm_nil _ _ | refine letm_cons rfl ?_ ?_ | exact LeV.tt rfl | exact .eq (okV_nil _) rfl | exact LeV.tt (by rw [List.take_of_length_le (by simp)]; simp [byteC]) | exact .eq (okV_nil _) (by rw [List.take_of_length_le (by simp)]; simp [byteC]))) (by repeat (first | exact lehp_nil _ _ | refine lehp_cons rfl ?_ ?_ | exact leB_row (by first | rfl | (rw [List.take_of_length_le (by simp)]; simp [byteC])) | exact leB_obj (by rw [List.take_of_length_le (by simp)]; simp [byteC]) | refine leB_box ?_ | exact leL_nil | refine leL_cons ?_ ?_ | exact LeV.tt rfl | exact .eq (okV_nil _) rfl | exact LeV.tt (by rw [List.take_of_length_le (by simp)]; simp [byteC]) | exact .eq (okV_nil _) (by rw [List.take_of_length_le (by simp)]; simp [byteC]))) trivial rfl)
  replace hc17 := of_decide_eq_false hc17
  simp only [Int.not_le] at hc17
  refine vc_exit ?_
  refine vc_region mixed ?_
  refine g_val (s_move rfl rfl) rfl ?_
  refine g_val (s_move rfl rfl) rfl ?_
  refine g_val (s_convW rfl rfl) rfl ?_
  refine g_fz ((s_buildSlice 29 (evArgs_cons rfl evArgs_nil) rfl rfl rfl rfl).fzE rfl) rfl ?_
  refine g_app (s_append 30 rfl rfl rfl rfl rfl (by simp) rfl rfl (by (try simp only [List.length_cons, List.length_nil]); omega)) rfl ?_
  refine g_val (s_assign rfl rfl) rfl ?_
  refine g_nil ?_
  refine vc_region mixed ?_
  refine g_val (s_move rfl rfl) rfl ?_
  refine g_val (s_add rfl rfl rfl (by simp only [inI, kMin, kMax]; omega)) rfl ?_
  refine g_val (s_assign rfl rfl) rfl ?_
  refine g_nil ?_
  exact ⟨by omega, trivial, by
  have hp : putG f m = [IntKind.u8.wrap m] := by cases f <;> simp [putG]; omega
  rw [take_snoc hx, putsF_snoc, ← hs3, hp]
  simp only [List.length_append, List.length_cons, List.length_nil]
  exact (leE_gen [] [(3, 30)] (by repeat (first | exact letm_nil _ _ | refine letm_cons rfl ?_ ?_ | exact LeV.tt rfl | exact .eq (okV_nil _) rfl | exact LeV.tt (by rw [List.take_of_length_le (by simp)]; simp [byteC]) | exact .eq (okV_nil _) (by rw [List.take_of_length_le (by simp)]; simp [byteC]))) (by repeat (first | exact lehp_nil _ _ | refine lehp_cons rfl ?_ ?_ | exact leB_row (by first | rfl | (rw [List.take_of_length_le (by simp)]; simp [byteC])) | exact leB_obj (by rw [List.take_of_length_le (by simp)]; simp [byteC]) | refine leB_box ?_ | exact leL_nil | refine leL_cons ?_ ?_ | exact LeV.tt rfl | exact .eq (okV_nil _) rfl | exact LeV.tt (by rw [List.take_of_length_le (by simp)]; simp [byteC]) | exact .eq (okV_nil _) (by rw [List.take_of_length_le (by simp)]; simp [byteC]))) trivial rfl)⟩
  replace hc9 := of_decide_eq_false hc9
  simp only [List.length_map, Int.not_lt] at hc9
  refine vc_exit ?_
  obtain rfl : i = l.length := by omega
  refine vc_rseq mixed ?_
  refine g_val (s_move rfl rfl) rfl ?_
  refine g_val (s_assign rfl rfl) rfl ?_
  refine g_nil ?_
  exact vc_ret (ret_hand [] [(0, 3)] _ (.cons (.tmp rfl) .nil) trivial (.eq (okV_nil _) (by simp only [List.take_length]; rfl)) (lehp_cons rfl (leB_row (by simp only [List.take_length])) (lehp_nil _ _)) rfl)

theorem c_mementoref1_Put (l : List Int) (hl : l.length ≤ 1000000) : Con Try.prog 61 [.t (u64sT l)] [] (.t (bytesT (putsF l))) [] := (c_mementoref1_Put_own l hl).freeze (by simp)

def numI (n : Int) : List Int := putI (IntKind.u64.wrap n)
def numsF (l : List Int) : List Int := (l.map numI).flatten
theorem numsF_snoc (l : List Int) (n : Int) : numsF (l ++ [n]) = numsF l ++ putI (IntKind.u64.wrap n) := by simp [numsF, numI]
theorem numsF_len : ∀ (l : List Int), (numsF l).length ≤ 10 * l.length
  | [] => by simp [numsF]
  | n :: l => by
    have := numsF_len l
    have h2 := putI_len (IntKind.u64.wrap n)
    simp only [numsF, numI, List.map_cons, List.flatten_cons, List.length_append, List.length_cons] at this ⊢
    omega

theorem c_mementoref16_nums_own (l : List Int) (hl : l.length ≤ 1000000) : Con Try.prog 41 [.t (intsT l)] [] (.rows 0 1 0 (numsF l).length) [(0, .row 1 1 ((numsF l).map byteC))] := by
  refine con_intro [] [0] Try.func41 rfl Try.ntmps41 Try.results41 rfl rfl ?_
  intro E
  refine vc_rseq mixed ?_
  refine g_val (s_assign rfl rfl) rfl ?_
  refine g_nil ?_
  refine vc_rseq mixed ?_
  refine g_val (s_assign rfl rfl) rfl ?_
  refine g_nil ?_
  refine vc_seq ?_
  refine vc_ownnil (i := 3) 3 1 1 rfl rfl rfl ?_
  refine vc_rseq mixed ?_
  refine g_val (s_assign rfl rfl) rfl ?_
  refine g_nil ?_
  refine vc_block ?_
  refine vc_up l.length (fun i => ⟨[(0, .t (intsT l)), (3, .rows 3 1 0 (numsF (l.take i)).length), (4, AI .i64 i)], [(3, some (.row 1 1 ((numsF (l.take i)).map byteC)))], [3]⟩) (fun i => True) (leE_same (by repeat (first | exact letm_nil _ _ | refine letm_cons rfl ?_ ?_ | exact .same _ | exact .nl (by decide) (by decide) | exact .nn | exact .id' rfl | exact .id' (by simp; done))) (by repeat (first | exact lehp_nil _ _ | refine lehp_cons rfl ?_ ?_ | exact leB_same _ | exact leB_row (by first | rfl | (simp; done)) | exact leB_obj (by simp; done) | refine leB_box ?_ | exact leL_nil | refine leL_cons ?_ ?_ | exact .same _ | exact .nl (by decide) (by decide) | exact .nn | exact .id' rfl | exact .id' (by simp; done))) rfl) trivial (fun i hi _ => ?_)
  refine vc_seq ?_
  refine vc_rseq mixed ?_
  refine g_val (s_move rfl rfl) rfl ?_
  refine g_val (s_move rfl rfl) rfl ?_
  refine g_val (s_len rfl rfl) rfl ?_
  refine g_val (s_lss rfl rfl rfl) rfl ?_
  refine g_nil ?_
  refine vc_cond rfl (fun hc8 => ?_) (fun hc8 => ?_)
  replace hc8 := of_decide_eq_true hc8
  simp only [List.length_map] at hc8
  obtain ⟨x, hx⟩ := get_of_lt (l := l) (i := i) (by omega)
  have hpl := numsF_len (l.take i)
  have hti : (l.take i).length ≤ 1000000 := by simp; omega
  have hq : putsF [IntKind.u64.wrap x] = putI (IntKind.u64.wrap x) := by simp [putsF]
  have hq2 := putI_len (IntKind.u64.wrap x)
  refine vc_skip ?_
  refine vc_seq ?_
  refine vc_block ?_
  refine vc_region mixed ?_
  refine g_val (s_move rfl rfl) rfl ?_
  refine g_val (s_move rfl rfl) rfl ?_
  refine g_val (s_move rfl rfl) rfl ?_
  refine g_val (s_index rfl rfl rfl (by omega) (idx_map hx)) rfl ?_
  refine g_val (s_loadT rfl rfl rfl) rfl ?_
  refine g_val (s_convW rfl rfl) rfl ?_
  refine g_fz ((s_buildSlice 17 (evArgs_cons rfl evArgs_nil) rfl rfl rfl rfl).fzE rfl) rfl ?_
  refine g_val (s_call [] (c_mementoref1_Put [IntKind.u64.wrap x] (by simp)) (evArgs_cons rfl evArgs_nil) trivial rfl (okVL_nil _) rfl (.inl rfl) rfl) rfl ?_
  refine g_app (s_append 19 rfl rfl rfl rfl rfl (by simp) rfl rfl (by simp only [List.length_map, hq]; omega)) rfl ?_
  refine g_val (s_assign rfl rfl) rfl ?_
  refine g_nil ?_
  refine vc_region mixed ?_
  refine g_val (s_move rfl rfl) rfl ?_
  refine g_val (s_add rfl rfl rfl (by simp only [inI, kMin, kMax]; omega)) rfl ?_
  refine g_val (s_assign rfl rfl) rfl ?_
  refine g_nil ?_
  exact ⟨by omega, trivial, by
  rw [take_snoc hx, numsF_snoc]
  simp only [List.length_append, List.length_map, hq]
  exact (leE_gen [] [(3, 19)] (by repeat (first | exact letm_nil _ _ | refine letm_cons rfl ?_ ?_ | exact LeV.tt rfl | exact .eq (okV_nil _) rfl | exact LeV.tt (by rw [List.take_of_length_le (by simp)]; simp) | exact .eq (okV_nil _) (by rw [List.take_of_length_le (by simp)]; simp))) (by repeat (first | exact lehp_nil _ _ | refine lehp_cons rfl ?_ ?_ | exact leB_row (by first | rfl | (rw [List.take_of_length_le (by simp)]; simp)) | exact leB_obj (by rw [List.take_of_length_le (by simp)]; simp) | refine leB_box ?_ | exact leL_nil | refine leL_cons ?_ ?_ | exact LeV.tt rfl | exact .eq (okV_nil _) rfl | exact LeV.tt (by rw [List.take_of_length_le (by simp)]; simp) | exact .eq (okV_nil _) (by rw [List.take_of_length_le (by simp)]; simp))) trivial rfl)⟩
  replace hc8 := of_decide_eq_false hc8
  simp only [List.length_map, Int.not_lt] at hc8
  refine vc_exit ?_
  obtain rfl : i = l.length := by omega
  refine vc_rseq mixed ?_
  refine g_val (s_move rfl rfl) rfl ?_
  refine g_val (s_assign rfl rfl) rfl ?_
  refine g_nil ?_
  exact vc_ret (ret_hand [] [(0, 3)] _ (.cons (.tmp rfl) .nil) trivial (.eq (okV_nil _) (by simp only [List.take_length]; rfl)) (lehp_cons rfl (leB_row (by simp only [List.take_length])) (lehp_nil _ _)) rfl)
theorem c_mementoref16_nums (l : List Int) (hl : l.length ≤ 1000000) : Con Try.prog 41 [.t (intsT l)] [] (.t (bytesT (numsF l))) [] := (c_mementoref16_nums_own l hl).freeze (by simp)

theorem c_mementoref13_nums_own (l : List Int) (hl : l.length ≤ 1000000) : Con Try.prog 62 [.t (intsT l)] [] (.rows 0 1 0 (numsF l).length) [(0, .row 1 1 ((numsF l).map byteC))] := by
  refine con_intro [] [0] Try.func62 rfl Try.ntmps62 Try.results62 rfl rfl ?_
  intro E
  refine vc_rseq mixed ?_
  refine g_val (s_assign rfl rfl) rfl ?_
  refine g_nil ?_
  refine vc_rseq mixed ?_
  refine g_val (s_assign rfl rfl) rfl ?_
  refine g_nil ?_
  refine vc_seq ?_
  refine vc_ownnil (i := 3) 3 1 1 rfl rfl rfl ?_
  refine vc_rseq mixed ?_
  refine g_val (s_assign rfl rfl) rfl ?_
  refine g_nil ?_
  refine vc_block ?_
  refine vc_up l.length (fun i => ⟨[(0, .t (intsT l)), (3, .rows 3 1 0 (numsF (l.take i)).length), (4, AI .i64 i)], [(3, some (.row 1 1 ((numsF (l.take i)).map byteC)))], [3]⟩) (fun i => True) (leE_same (by repeat (first | exact letm_nil _ _ | refine letm_cons rfl ?_ ?_ | exact .same _ | exact .nl (by decide) (by decide) | exact .nn | exact .id' rfl | exact .id' (by simp; done))) (by repeat (first | exact lehp_nil _ _ | refine lehp_cons rfl ?_ ?_ | exact leB_same _ | exact leB_row (by first | rfl | (simp; done)) | exact leB_obj (by simp; done) | refine leB_box ?_ | exact leL_nil | refine leL_cons ?_ ?_ | exact .same _ | exact .nl (by decide) (by decide) | exact .nn | exact .id' rfl | exact .id' (by simp; done))) rfl) trivial (fun i hi _ => ?_)
  refine vc_seq ?_
  refine vc_rseq mixed ?_
  refine g_val (s_move rfl rfl) rfl ?_
  refine g_val (s_move rfl rfl) rfl ?_
  refine g_val (s_len rfl rfl) rfl ?_
  refine g_val (s_lss rfl rfl rfl) rfl ?_
  refine g_nil ?_
  refine vc_cond rfl (fun hc8 => ?_) (fun hc8 => ?_)
  replace hc8 := of_decide_eq_true hc8
  simp only [List.length_map] at hc8
  obtain ⟨x, hx⟩ := get_of_lt (l := l) (i := i) (by omega)
  have hpl := numsF_len (l.take i)
  have hti : (l.take i).length ≤ 1000000 := by simp; omega
  have hq : putsF [IntKind.u64.wrap x] = putI (IntKind.u64.wrap x) := by simp [putsF]
  have hq2 := putI_len (IntKind.u64.wrap x)
  refine vc_skip ?_
  refine vc_seq ?_
  refine vc_block ?_
  refine vc_region mixed ?_
  refine g_val (s_move rfl rfl) rfl ?_
  refine g_val (s_move rfl rfl) rfl ?_
  refine g_val (s_move rfl rfl) rfl ?_
  refine g_val (s_index rfl rfl rfl (by omega) (idx_map hx)) rfl ?_
  refine g_val (s_loadT rfl rfl rfl) rfl ?_
  refine g_val (s_convW rfl rfl) rfl ?_
  refine g_fz ((s_buildSlice 17 (evArgs_cons rfl evArgs_nil) rfl rfl rfl rfl).fzE rfl) rfl ?_
  refine g_val (s_call [] (c_mementoref1_Put [IntKind.u64.wrap x] (by simp)) (evArgs_cons rfl evArgs_nil) trivial rfl (okVL_nil _) rfl (.inl rfl) rfl) rfl ?_
  refine g_app (s_append 19 rfl rfl rfl rfl rfl (by simp) rfl rfl (by simp only [List.length_map, hq]; omega)) rfl ?_
  refine g_val (s_assign rfl rfl) rfl ?_
  refine g_nil ?_
  refine vc_region mixed ?_
  refine g_val (s_move rfl rfl) rfl ?_
  refine g_val (s_add rfl rfl rfl (by simp only [inI, kMin, kMax]; omega)) rfl ?_
  refine g_val (s_assign rfl rfl) rfl ?_
  refine g_nil ?_
  exact ⟨by omega, trivial, by
  rw [take_snoc hx, numsF_snoc]
  simp only [List.length_append, List.length_map, hq]
  exact (leE_gen [] [(3, 19)] (by repeat (first | exact letm_nil _ _ | refine letm_cons rfl ?_ ?_ | exact LeV.tt rfl | exact .eq (okV_nil _) rfl | exact LeV.tt (by rw [List.take_of_length_le (by simp)]; simp) | exact .eq (okV_nil _) (by rw [List.take_of_length_le (by simp)]; simp))) (by repeat (first | exact lehp_nil _ _ | refine lehp_cons rfl ?_ ?_ | exact leB_row (by first | rfl | (rw [List.take_of_length_le (by simp)]; simp)) | exact leB_obj (by rw [List.take_of_length_le (by simp)]; simp) | refine leB_box ?_ | exact leL_nil | refine leL_cons ?_ ?_ | exact LeV.tt rfl | exact .eq (okV_nil _) rfl | exact LeV.tt (by rw [List.take_of_length_le (by simp)]; simp) | exact .eq (okV_nil _) (by rw [List.take_of_length_le (by simp)]; simp))) trivial rfl)⟩
  replace hc8 := of_decide_eq_false hc8
  simp only [List.length_map, Int.not_lt] at hc8
  refine vc_exit ?_
  obtain rfl : i = l.length := by omega
  refine vc_rseq mixed ?_
  refine g_val (s_move rfl rfl) rfl ?_
  refine g_val (s_assign rfl rfl) rfl ?_
  refine g_nil ?_
  exact vc_ret (ret_hand [] [(0, 3)] _ (.cons (.tmp rfl) .nil) trivial (.eq (okV_nil _) (by simp only [List.take_length]; rfl)) (lehp_cons rfl (leB_row (by simp only [List.take_length])) (lehp_nil _ _)) rfl)
theorem c_mementoref13_nums (l : List Int) (hl : l.length ≤ 1000000) : Con Try.prog 62 [.t (intsT l)] [] (.t (bytesT (numsF l))) [] := (c_mementoref13_nums_own l hl).freeze (by simp)

end Go.Eng

set_option maxHeartbeats 2000000
namespace Go.Eng
open Go.Proofs

def lumpF (l : List Int) : List Int := putI (IntKind.u64.wrap l.length) ++ l
theorem lumpF_len (l : List Int) : (lumpF l).length ≤ 10 + l.length := by
  have := putI_len (IntKind.u64.wrap l.length)
  simp only [lumpF, List.length_append]; omega

theorem c_mementoref1_Lump (l : List Int) (hl : l.length ≤ 100000000) : Con Try.prog 63 [.t (bytesT l)] [] (.t (bytesT (lumpF l))) [] := by
  refine con_intro [] [] Try.func63 rfl Try.ntmps63 Try.results63 rfl rfl ?_
  intro E
  have hq : putsF [IntKind.u64.wrap l.length] = putI (IntKind.u64.wrap l.length) := by simp [putsF]
  have hq2 := putI_len (IntKind.u64.wrap l.length)
  refine vc_rseq mixed ?_
  refine g_val (s_assign rfl rfl) rfl ?_
  refine g_nil ?_
  refine vc_rseq mixed ?_
  refine g_val (s_move rfl rfl) rfl ?_
  refine g_val (s_len rfl rfl) rfl ?_
  refine g_val (s_convW rfl rfl) rfl ?_
  refine g_fz ((s_buildSlice 6 (evArgs_cons rfl evArgs_nil) rfl rfl rfl rfl).fzE rfl) rfl ?_
  refine g_new (s_callH [] [(0, 7)] (c_mementoref1_Put_own [IntKind.u64.wrap ((List.map byteC l).length : Int)] (by simp)) (evArgs_cons rfl evArgs_nil) trivial rfl (okVL_nil _) rfl rfl rfl) rfl ?_
  refine g_val (s_move rfl rfl) rfl ?_
  refine g_fa ((s_append 9 rfl rfl rfl rfl rfl (by simp) rfl rfl (by simp only [List.length_map] at *; simp only [hq]; omega)).fzA (by simp) rfl) rfl ?_
  refine g_val (s_assign rfl rfl) rfl ?_
  refine g_nil ?_
  exact vc_ret (ret_le [] _ (.cons (.tmp rfl) .nil) trivial (LeV.tt (by simp only [List.length_map, hq]; rw [List.take_of_length_le (by simp), List.take_of_length_le (by simp)]; simp [bytesT, lumpF])) rfl)

def itemB (x : Item) : List Int := numsF [x.block] ++ lumpF x.data
def itemsB (l : List Item) : List Int := numsF [(l.length : Int)] ++ (l.map itemB).flatten
def itemsSmall (l : List Item) : Prop := l.length ≤ 1000 ∧ ∀ x ∈ l, x.data.length ≤ 1000
theorem itemB_len {x : Item} (h : x.data.length ≤ 1000) : (itemB x).length ≤ 1020 := by
  have h1 := numsF_len [x.block]
  have h2 := lumpF_len x.data
  simp only [itemB, List.length_append, List.length_cons, List.length_nil] at *; omega
theorem flat_len : ∀ {l : List Item}, (∀ x ∈ l, x.data.length ≤ 1000) → ((l.map itemB).flatten).length ≤ 1020 * l.length
  | [], _ => by simp
  | x :: l, h => by
    have := flat_len (l := l) fun y hy => h y (List.mem_cons_of_mem _ hy)
    have h2 := itemB_len (h x (List.mem_cons_self ..))
    simp only [List.map_cons, List.flatten_cons, List.length_append, List.length_cons] at *; omega

def itemsG (l : List Item) (i : Nat) : List Int := numsF [(l.length : Int)] ++ ((l.take i).map itemB).flatten
theorem itemsG_succ {l : List Item} {i : Nat} {x : Item} (hx : l[i]? = some x) : itemsG l (i + 1) = itemsG l i ++ numsF [x.block] ++ lumpF x.data := by
  simp [itemsG, take_snoc hx, itemB]
theorem itemsG_zero (l : List Item) : itemsG l 0 = numsF [(l.length : Int)] := by simp [itemsG]
theorem itemsG_all (l : List Item) : itemsG l l.length = itemsB l := by simp [itemsG, itemsB]
theorem itemsG_len {l : List Item} (hl : itemsSmall l) (i : Nat) : (itemsG l i).length ≤ 2000000 := by
  have hfl := flat_len (l := l.take i) fun y hy => hl.2 y (List.mem_of_mem_take hy)
  have hti : (l.take i).length ≤ 1000 := by have := hl.1; simp; omega
  have hn1 := numsF_len [(l.length : Int)]
  simp only [itemsG, List.length_append, List.length_cons, List.length_nil] at *; omega

theorem c_mementoref13_PutItems (l : List Item) (hl : itemsSmall l) : Con Try.prog 43 [.t (itemsT l)] [] (.t (bytesT (itemsB l))) [] := by
  refine con_intro [] [] Try.func43 rfl Try.ntmps43 Try.results43 rfl rfl ?_
  intro E
  have hl1 := hl.1
  have hn1 := numsF_len [(l.length : Int)]
  refine vc_rseq mixed ?_
  refine g_val (s_assign rfl rfl) rfl ?_
  refine g_nil ?_
  refine vc_rseq mixed ?_
  refine g_val (s_move rfl rfl) rfl ?_
  refine g_val (s_len rfl rfl) rfl ?_
  refine g_fz ((s_buildSlice 7 (evArgs_cons rfl evArgs_nil) rfl rfl rfl rfl).fzE rfl) rfl ?_
  refine g_new (s_callH [] [(0, 8)] (c_mementoref13_nums_own [((List.map itemC l).length : Int)] (by simp)) (evArgs_cons rfl evArgs_nil) trivial rfl (okVL_nil _) rfl rfl rfl) rfl ?_
  refine g_val (s_assign rfl rfl) rfl ?_
  refine g_nil ?_
  refine vc_seq ?_
  refine vc_rseq mixed ?_
  refine g_val (s_assign rfl rfl) rfl ?_
  refine g_nil ?_
  refine vc_block ?_
  refine vc_up l.length (fun i => ⟨[(0, .t (itemsT l)), (3, .rows 8 1 0 (itemsG l i).length), (4, AI .i64 i)], [(8, some (.row 1 1 ((itemsG l i).map byteC)))], [8]⟩) (fun i => True) (leE_same (by repeat (first | exact letm_nil _ _ | refine letm_cons rfl ?_ ?_ | exact .same _ | exact .nl (by decide) (by decide) | exact .nn | exact .id' rfl | exact .id' (by simp only [List.length_map, itemsG_zero]; first | done | rfl))) (by repeat (first | exact lehp_nil _ _ | refine lehp_cons rfl ?_ ?_ | exact leB_same _ | exact leB_row (by first | rfl | (simp only [List.length_map, itemsG_zero]; first | done | rfl)) | exact leB_obj (by simp only [List.length_map, itemsG_zero]; first | done | rfl) | refine leB_box ?_ | exact leL_nil | refine leL_cons ?_ ?_ | exact .same _ | exact .nl (by decide) (by decide) | exact .nn | exact .id' rfl | exact .id' (by simp only [List.length_map, itemsG_zero]; first | done | rfl))) rfl) trivial (fun i hi _ => ?_)
  refine vc_seq ?_
  refine vc_rseq mixed ?_
  refine g_val (s_move rfl rfl) rfl ?_
  refine g_val (s_move rfl rfl) rfl ?_
  refine g_val (s_len rfl rfl) rfl ?_
  refine g_val (s_lss rfl rfl rfl) rfl ?_
  refine g_nil ?_
  refine vc_cond rfl (fun hc12 => ?_) (fun hc12 => ?_)
  replace hc12 := of_decide_eq_true hc12
  simp only [List.length_map] at hc12
  obtain ⟨x, hx⟩ := get_of_lt (l := l) (i := i) (by omega)
  have hxd := hl.2 x (List.mem_of_getElem? hx)
  have hgl := itemsG_len hl i
  have hnx := numsF_len [x.block]
  have hlx := lumpF_len x.data
  simp only [List.length_cons, List.length_nil] at hn1 hnx
  refine vc_skip ?_
  refine vc_seq ?_
  refine vc_block ?_
  refine vc_region mixed ?_
  refine d_val (s_move rfl rfl) rfl ?_
  refine d_val (s_move rfl rfl) rfl ?_
  refine d_val (s_move rfl rfl) rfl ?_
  refine d_val (s_index rfl rfl rfl (by omega) (idx_map hx)) rfl ?_
  refine d_val (s_fieldT rfl rfl rfl rfl rfl) rfl ?_
  refine d_val (s_loadT rfl rfl rfl) rfl ?_
  refine d_fz ((s_buildSlice 21 (evArgs_cons rfl evArgs_nil) rfl rfl rfl rfl).fzE rfl) rfl ?_
  refine d_val (s_call [] (c_mementoref13_nums [x.block] (by simp)) (evArgs_cons rfl evArgs_nil) trivial rfl (okVL_nil _) rfl (.inl rfl) rfl) rfl ?_
  refine d_app (s_append 23 rfl rfl rfl rfl rfl (by simp only [List.length_map]; omega) rfl rfl (by simp only [List.length_map, List.length_append]; omega)) rfl ?_
  refine d_val (s_move rfl rfl) rfl ?_
  refine d_val (s_move rfl rfl) rfl ?_
  refine d_val (s_index rfl rfl rfl (by omega) (idx_map hx)) rfl ?_
  refine d_val (s_fieldT rfl rfl rfl rfl rfl) rfl ?_
  refine d_val (s_loadT rfl rfl rfl) rfl ?_
  refine d_val (s_call [] (c_mementoref1_Lump x.data (by omega)) (evArgs_cons rfl evArgs_nil) trivial rfl (okVL_nil _) rfl (.inl rfl) rfl) rfl ?_
  refine d_app (s_append 30 rfl rfl rfl rfl rfl (by simp only [List.length_append, List.length_take, List.length_map]; omega) rfl rfl (by simp only [List.length_map, List.length_append]; omega)) rfl ?_
  refine d_val (s_assign rfl rfl) rfl ?_
  refine d_nil rfl ?_
  refine vc_region mixed ?_
  refine g_val (s_move rfl rfl) rfl ?_
  refine g_val (s_add rfl rfl rfl (by simp only [inI, kMin, kMax]; omega)) rfl ?_
  refine g_val (s_assign rfl rfl) rfl ?_
  refine g_nil ?_
  exact ⟨by omega, trivial, by
  rw [itemsG_succ hx]
  simp only [List.length_append, List.length_map]
  exact (leE_gen [] [(8, 30)] (by repeat (first | exact letm_nil _ _ | refine letm_cons rfl ?_ ?_ | exact LeV.tt rfl | exact .eq (okV_nil _) rfl | exact LeV.tt (by rw [List.take_of_length_le (by simp), List.take_of_length_le (by simp)]; simp) | exact .eq (okV_nil _) (by rw [List.take_of_length_le (by simp), List.take_of_length_le (by simp)]; simp))) (by repeat (first | exact lehp_nil _ _ | refine lehp_cons rfl ?_ ?_ | exact leB_row (by first | rfl | (rw [List.take_of_length_le (by simp), List.take_of_length_le (by simp)]; simp)) | exact leB_obj (by rw [List.take_of_length_le (by simp), List.take_of_length_le (by simp)]; simp) | refine leB_box ?_ | exact leL_nil | refine leL_cons ?_ ?_ | exact LeV.tt rfl | exact .eq (okV_nil _) rfl | exact LeV.tt (by rw [List.take_of_length_le (by simp), List.take_of_length_le (by simp)]; simp) | exact .eq (okV_nil _) (by rw [List.take_of_length_le (by simp), List.take_of_length_le (by simp)]; simp))) trivial rfl)⟩
  replace hc12 := of_decide_eq_false hc12
  simp only [List.length_map, Int.not_lt] at hc12
  refine vc_exit ?_
  obtain rfl : i = l.length := by omega
  refine vc_rseq mixed ?_
  refine g_val (s_move rfl rfl) rfl ?_
  refine g_val (s_assign rfl rfl) rfl ?_
  refine g_nil ?_
  exact vc_ret (ret_le [(8, _)] _ (.cons (.tmp rfl) .nil) ⟨rfl, trivial⟩ (.eq (by simp [single, AV.okV, okR, lkB]) (by simp [single, AV.view, viewR, lkB, AV.ren, bytesT, itemsG_all, take_map_len])) rfl)

end Go.Eng

set_option maxHeartbeats 2000000
namespace Go.Eng
open Go.Proofs

def placeG (l : List Int) (i : Nat) : List Int := numsF [(l.length : Int)] ++ numsF (l.take i)
def placeB (l : List Int) : List Int := numsF [(l.length : Int)] ++ numsF l
theorem numsF_one (n : Int) : numsF [n] = putI (IntKind.u64.wrap n) := by simp [numsF, numI]
theorem placeG_succ {l : List Int} {i : Nat} {x : Int} (hx : l[i]? = some x) : placeG l (i + 1) = placeG l i ++ numsF [x] := by
  simp [placeG, take_snoc hx, numsF_snoc, numsF_one]
theorem placeG_zero (l : List Int) : placeG l 0 = numsF [(l.length : Int)] := by simp [placeG, numsF]
theorem placeG_all (l : List Int) : placeG l l.length = placeB l := by simp [placeG, placeB]
theorem placeG_len {l : List Int} (hl : l.length ≤ 1000) (i : Nat) : (placeG l i).length ≤ 20000 := by
  have h1 := numsF_len (l.take i)
  have hti : (l.take i).length ≤ 1000 := by simp; omega
  have hn1 := numsF_len [(l.length : Int)]
  simp only [placeG, List.length_append, List.length_cons, List.length_nil] at *; omega

theorem c_mementoref16_place (l : List Int) (hl : l.length ≤ 1000) : Con Try.prog 42 [.t (intsT l)] [] (.t (bytesT (placeB l))) [] := by
  refine con_intro [] [] Try.func42 rfl Try.ntmps42 Try.results42 rfl rfl ?_
  intro E
  refine vc_rseq mixed ?_
  refine g_val (s_assign rfl rfl) rfl ?_
  refine g_nil ?_
  refine vc_rseq mixed ?_
  refine g_val (s_move rfl rfl) rfl ?_
  refine g_val (s_len rfl rfl) rfl ?_
  refine g_fz ((s_buildSlice 7 (evArgs_cons rfl evArgs_nil) rfl rfl rfl rfl).fzE rfl) rfl ?_
  refine g_new (s_callH [] [(0, 8)] (c_mementoref16_nums_own [((List.map intC l).length : Int)] (by simp)) (evArgs_cons rfl evArgs_nil) trivial rfl (okVL_nil _) rfl rfl rfl) rfl ?_
  refine g_val (s_assign rfl rfl) rfl ?_
  refine g_nil ?_
  refine vc_seq ?_
  refine vc_rseq mixed ?_
  refine g_val (s_assign rfl rfl) rfl ?_
  refine g_nil ?_
  refine vc_block ?_
  refine vc_up l.length (fun i => ⟨[(0, .t (intsT l)), (3, .rows 8 1 0 (placeG l i).length), (4, AI .i64 i)], [(8, some (.row 1 1 ((placeG l i).map byteC)))], [8]⟩) (fun i => True) (leE_same (by repeat (first | exact letm_nil _ _ | refine letm_cons rfl ?_ ?_ | exact .same _ | exact .nl (by decide) (by decide) | exact .nn | exact .id' rfl | exact .id' (by simp only [List.length_map, placeG_zero]; first | done | rfl))) (by repeat (first | exact lehp_nil _ _ | refine lehp_cons rfl ?_ ?_ | exact leB_same _ | exact leB_row (by first | rfl | (simp only [List.length_map, placeG_zero]; first | done | rfl)) | exact leB_obj (by simp only [List.length_map, placeG_zero]; first | done | rfl) | refine leB_box ?_ | exact leL_nil | refine leL_cons ?_ ?_ | exact .same _ | exact .nl (by decide) (by decide) | exact .nn | exact .id' rfl | exact .id' (by simp only [List.length_map, placeG_zero]; first | done | rfl))) rfl) trivial (fun i hi _ => ?_)
  refine vc_seq ?_
  refine vc_rseq mixed ?_
  refine g_val (s_move rfl rfl) rfl ?_
  refine g_val (s_move rfl rfl) rfl ?_
  refine g_val (s_len rfl rfl) rfl ?_
  refine g_val (s_lss rfl rfl rfl) rfl ?_
  refine g_nil ?_
  refine vc_cond rfl (fun hc12 => ?_) (fun hc12 => ?_)
  replace hc12 := of_decide_eq_true hc12
  simp only [List.length_map] at hc12
  obtain ⟨x, hx⟩ := get_of_lt (l := l) (i := i) (by omega)
  have hgl := placeG_len hl i
  have hnx := numsF_len [x]
  simp only [List.length_cons, List.length_nil] at hnx
  refine vc_skip ?_
  refine vc_seq ?_
  refine vc_block ?_
  refine vc_region mixed ?_
  refine g_val (s_move rfl rfl) rfl ?_
  refine g_val (s_move rfl rfl) rfl ?_
  refine g_val (s_move rfl rfl) rfl ?_
  refine g_val (s_index rfl rfl rfl (by omega) (idx_map hx)) rfl ?_
  refine g_val (s_loadT rfl rfl rfl) rfl ?_
  refine g_fz ((s_buildSlice 20 (evArgs_cons rfl evArgs_nil) rfl rfl rfl rfl).fzE rfl) rfl ?_
  refine g_val (s_call [] (c_mementoref16_nums [x] (by simp)) (evArgs_cons rfl evArgs_nil) trivial rfl (okVL_nil _) rfl (.inl rfl) rfl) rfl ?_
  refine g_app (s_append 22 rfl rfl rfl rfl rfl (by simp only [List.length_map]; omega) rfl rfl (by simp only [List.length_map]; omega)) rfl ?_
  refine g_val (s_assign rfl rfl) rfl ?_
  refine g_nil ?_
  refine vc_region mixed ?_
  refine g_val (s_move rfl rfl) rfl ?_
  refine g_val (s_add rfl rfl rfl (by simp only [inI, kMin, kMax]; omega)) rfl ?_
  refine g_val (s_assign rfl rfl) rfl ?_
  refine g_nil ?_
  exact ⟨by omega, trivial, by
  rw [placeG_succ hx]
  simp only [List.length_append, List.length_map]
  exact (leE_gen [] [(8, 22)] (by repeat (first | exact letm_nil _ _ | refine letm_cons rfl ?_ ?_ | exact LeV.tt rfl | exact .eq (okV_nil _) rfl | exact LeV.tt (by rw [List.take_of_length_le (by simp)]; simp) | exact .eq (okV_nil _) (by rw [List.take_of_length_le (by simp)]; simp))) (by repeat (first | exact lehp_nil _ _ | refine lehp_cons rfl ?_ ?_ | exact leB_row (by first | rfl | (rw [List.take_of_length_le (by simp)]; simp)) | exact leB_obj (by rw [List.take_of_length_le (by simp)]; simp) | refine leB_box ?_ | exact leL_nil | refine leL_cons ?_ ?_ | exact LeV.tt rfl | exact .eq (okV_nil _) rfl | exact LeV.tt (by rw [List.take_of_length_le (by simp)]; simp) | exact .eq (okV_nil _) (by rw [List.take_of_length_le (by simp)]; simp))) trivial rfl)⟩
  replace hc12 := of_decide_eq_false hc12
  simp only [List.length_map, Int.not_lt] at hc12
  refine vc_exit ?_
  obtain rfl : i = l.length := by omega
  refine vc_rseq mixed ?_
  refine g_val (s_move rfl rfl) rfl ?_
  refine g_val (s_assign rfl rfl) rfl ?_
  refine g_nil ?_
  exact vc_ret (ret_le [(8, _)] _ (.cons (.tmp rfl) .nil) ⟨rfl, trivial⟩ (.eq (by simp [single, AV.okV, okR, lkB]) (by simp [single, AV.view, viewR, lkB, AV.ren, bytesT, placeG_all, take_map_len])) rfl)

end Go.Eng
