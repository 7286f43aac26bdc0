/- The law mementolaw16.VolumeStates returns true for every input and leaves its arguments as they were; no condition beyond the row's own. Part 4. -/
import Derived.Shelf.SortM.Plain
import Derived.Test.YtlmkbgolmcngiaaProg
import Derived.Test.YtlmkbgolmcngiaaM3
set_option linter.unusedVariables false
set_option linter.unusedSimpArgs false
set_option maxHeartbeats 4000000
namespace Go.Eng
open Go.Proofs

def in40 (n : Int) : Prop := 0 ≤ n ∧ n ≤ 1099511627776
instance (n : Int) : Decidable (in40 n) := by unfold in40; infer_instance
def cmdRight (c : VolCmd) : Prop := 1 ≤ c.kind ∧ c.kind ≤ 8 ∧ 0 ≤ c.vol ∧ c.vol < 8 ∧ in40 c.blocks ∧ in40 c.size ∧ in40 c.per ∧ in40 c.total ∧ in40 c.index ∧ in40 c.time ∧ (c.place.length : Int) ≤ 256 ∧ (c.items.length : Int) ≤ 8 ∧ (∀ z ∈ c.place, 0 ≤ z ∧ z < 8) ∧ ∀ x ∈ c.items, 0 ≤ x.block ∧ x.block < 256 ∧ (x.data.length : Int) ≤ 32
instance (c : VolCmd) : Decidable (cmdRight c) := by unfold cmdRight; infer_instance

theorem c_mementoref16_CmdRight (c : VolCmd) : Con Try.prog 40 [sC (cmdC c)] [] (AB (decide (cmdRight c))) [] := by
  refine con_intro [] [] Try.func40 rfl Try.ntmps40 Try.results40 rfl rfl ?_
  intro E
  refine vc_okA (i := 0) (j := 5) rfl rfl fun okp => ?_
  refine vc_okA (i := 0) (j := 9) rfl rfl fun oki => ?_
  have hlp := okp.len
  have hli := oki.len
  rw [List.length_map] at hlp hli
  refine vc_rseq mixed ?_
  refine g_new (s_box 1 rfl rfl rfl rfl) rfl ?_
  refine g_val (s_assign rfl rfl) rfl ?_
  refine g_nil ?_
  refine vc_seq ?_
  refine vc_rseq mixed ?_
  refine g_val (s_field rfl rfl rfl rfl) rfl ?_
  refine g_val (s_load rfl rfl rfl rfl) rfl ?_
  refine g_val (s_lss rfl rfl rfl) rfl ?_
  refine g_val (s_move rfl rfl) rfl ?_
  refine g_probe (j := 8) rfl (fun c hg8 => ?_)
  cases c
  rw [← hg8]; replace hg8 := hg8.symm; replace hg8 := of_decide_eq_false hg8
  simp only [Int.not_lt] at hg8
  refine gq_val (s_field rfl rfl rfl rfl) rfl rfl rfl rfl ?_
  refine gq_val (s_load rfl rfl rfl rfl) rfl rfl rfl rfl ?_
  refine gq_val (s_gtr rfl rfl rfl) rfl rfl rfl rfl ?_
  refine g_val (s_pickF rfl rfl rfl) rfl ?_
  refine g_val (s_move rfl rfl) rfl ?_
  refine g_probe (j := 13) rfl (fun c hg13 => ?_)
  cases c
  rw [← hg13]; replace hg13 := hg13.symm; replace hg13 := of_decide_eq_false hg13
  simp only [Int.not_lt] at hg13
  refine gq_val (s_field rfl rfl rfl rfl) rfl rfl rfl rfl ?_
  refine gq_val (s_load rfl rfl rfl rfl) rfl rfl rfl rfl ?_
  refine gq_val (s_lss rfl rfl rfl) rfl rfl rfl rfl ?_
  refine g_val (s_pickF rfl rfl rfl) rfl ?_
  refine g_val (s_move rfl rfl) rfl ?_
  refine g_probe (j := 18) rfl (fun c hg18 => ?_)
  cases c
  rw [← hg18]; replace hg18 := hg18.symm; replace hg18 := of_decide_eq_false hg18
  simp only [Int.not_lt] at hg18
  refine gq_val (s_field rfl rfl rfl rfl) rfl rfl rfl rfl ?_
  refine gq_val (s_load rfl rfl rfl rfl) rfl rfl rfl rfl ?_
  refine gq_val (s_geq rfl rfl rfl) rfl rfl rfl rfl ?_
  refine g_val (s_pickF rfl rfl rfl) rfl ?_
  refine g_val (s_move rfl rfl) rfl ?_
  refine g_probe (j := 23) rfl (fun c hg23 => ?_)
  cases c
  rw [← hg23]; replace hg23 := hg23.symm; replace hg23 := of_decide_eq_false hg23
  simp only [Int.not_le] at hg23
  refine gq_val (s_field rfl rfl rfl rfl) rfl rfl rfl rfl ?_
  refine gq_val (s_load rfl rfl rfl rfl) rfl rfl rfl rfl ?_
  refine gq_val (s_call [] (c_mementoref16_within ..) (evArgs_cons rfl evArgs_nil) trivial rfl (okVL_nil _) rfl (.inl rfl) rfl) rfl rfl rfl rfl ?_
  refine gq_val (s_not rfl rfl) rfl rfl rfl rfl ?_
  refine g_val (s_pickF rfl rfl rfl) rfl ?_
  refine g_val (s_move rfl rfl) rfl ?_
  refine g_probe (j := 29) rfl (fun c hg29 => ?_)
  cases c
  rw [← hg29]; replace hg29 := hg29.symm
  simp only [Bool.not_eq_false', decide_eq_true_eq] at hg29
  refine gq_val (s_field rfl rfl rfl rfl) rfl rfl rfl rfl ?_
  refine gq_val (s_load rfl rfl rfl rfl) rfl rfl rfl rfl ?_
  refine gq_val (s_call [] (c_mementoref16_within ..) (evArgs_cons rfl evArgs_nil) trivial rfl (okVL_nil _) rfl (.inl rfl) rfl) rfl rfl rfl rfl ?_
  refine gq_val (s_not rfl rfl) rfl rfl rfl rfl ?_
  refine g_val (s_pickF rfl rfl rfl) rfl ?_
  refine g_val (s_move rfl rfl) rfl ?_
  refine g_probe (j := 35) rfl (fun c hg35 => ?_)
  cases c
  rw [← hg35]; replace hg35 := hg35.symm
  simp only [Bool.not_eq_false', decide_eq_true_eq] at hg35
  refine gq_val (s_field rfl rfl rfl rfl) rfl rfl rfl rfl ?_
  refine gq_val (s_load rfl rfl rfl rfl) rfl rfl rfl rfl ?_
  refine gq_val (s_call [] (c_mementoref16_within ..) (evArgs_cons rfl evArgs_nil) trivial rfl (okVL_nil _) rfl (.inl rfl) rfl) rfl rfl rfl rfl ?_
  refine gq_val (s_not rfl rfl) rfl rfl rfl rfl ?_
  refine g_val (s_pickF rfl rfl rfl) rfl ?_
  refine g_val (s_move rfl rfl) rfl ?_
  refine g_probe (j := 41) rfl (fun c hg41 => ?_)
  cases c
  rw [← hg41]; replace hg41 := hg41.symm
  simp only [Bool.not_eq_false', decide_eq_true_eq] at hg41
  refine gq_val (s_field rfl rfl rfl rfl) rfl rfl rfl rfl ?_
  refine gq_val (s_load rfl rfl rfl rfl) rfl rfl rfl rfl ?_
  refine gq_val (s_call [] (c_mementoref16_within ..) (evArgs_cons rfl evArgs_nil) trivial rfl (okVL_nil _) rfl (.inl rfl) rfl) rfl rfl rfl rfl ?_
  refine gq_val (s_not rfl rfl) rfl rfl rfl rfl ?_
  refine g_val (s_pickF rfl rfl rfl) rfl ?_
  refine g_val (s_move rfl rfl) rfl ?_
  refine g_probe (j := 47) rfl (fun c hg47 => ?_)
  cases c
  rw [← hg47]; replace hg47 := hg47.symm
  simp only [Bool.not_eq_false', decide_eq_true_eq] at hg47
  refine gq_val (s_field rfl rfl rfl rfl) rfl rfl rfl rfl ?_
  refine gq_val (s_load rfl rfl rfl rfl) rfl rfl rfl rfl ?_
  refine gq_val (s_call [] (c_mementoref16_within ..) (evArgs_cons rfl evArgs_nil) trivial rfl (okVL_nil _) rfl (.inl rfl) rfl) rfl rfl rfl rfl ?_
  refine gq_val (s_not rfl rfl) rfl rfl rfl rfl ?_
  refine g_val (s_pickF rfl rfl rfl) rfl ?_
  refine g_val (s_move rfl rfl) rfl ?_
  refine g_probe (j := 53) rfl (fun c hg53 => ?_)
  cases c
  rw [← hg53]; replace hg53 := hg53.symm
  simp only [Bool.not_eq_false', decide_eq_true_eq] at hg53
  refine gq_val (s_field rfl rfl rfl rfl) rfl rfl rfl rfl ?_
  refine gq_val (s_load rfl rfl rfl rfl) rfl rfl rfl rfl ?_
  refine gq_val (s_call [] (c_mementoref16_within ..) (evArgs_cons rfl evArgs_nil) trivial rfl (okVL_nil _) rfl (.inl rfl) rfl) rfl rfl rfl rfl ?_
  refine gq_val (s_not rfl rfl) rfl rfl rfl rfl ?_
  refine g_val (s_pickF rfl rfl rfl) rfl ?_
  refine g_val (s_move rfl rfl) rfl ?_
  refine g_probe (j := 59) rfl (fun c hg59 => ?_)
  cases c
  rw [← hg59]; replace hg59 := hg59.symm
  simp only [Bool.not_eq_false', decide_eq_true_eq] at hg59
  refine gq_val (s_field rfl rfl rfl rfl) rfl rfl rfl rfl ?_
  refine gq_val (s_load rfl rfl rfl rfl) rfl rfl rfl rfl ?_
  refine gq_val (s_len rfl rfl) rfl rfl rfl rfl ?_
  refine gq_val (s_gtr rfl rfl rfl) rfl rfl rfl rfl ?_
  refine g_val (s_pickF rfl rfl rfl) rfl ?_
  refine g_val (s_move rfl rfl) rfl ?_
  refine g_probe (j := 65) rfl (fun c hg65 => ?_)
  cases c
  rw [← hg65]; replace hg65 := hg65.symm; replace hg65 := of_decide_eq_false hg65
  simp only [List.length_map, Int.not_lt] at hg65
  refine gq_val (s_field rfl rfl rfl rfl) rfl rfl rfl rfl ?_
  refine gq_val (s_load rfl rfl rfl rfl) rfl rfl rfl rfl ?_
  refine gq_val (s_len rfl rfl) rfl rfl rfl rfl ?_
  refine gq_val (s_gtr rfl rfl rfl) rfl rfl rfl rfl ?_
  refine g_val (s_pickF rfl rfl rfl) rfl ?_
  refine g_nil ?_
  refine vc_cond rfl (fun hc70 => ?_) (fun hc70 => ?_)
  replace hc70 := of_decide_eq_true hc70
  simp only [List.length_map] at hc70
  refine vc_rseq mixed ?_
  refine g_val (s_assign rfl rfl) rfl ?_
  refine g_nil ?_
  exact vc_ret (ret_of _ (.cons (.tmp rfl) .nil) (by simp only [single]; rw [decide_eq_false]; rintro ⟨h1, h2, h3, h4, h5, h6, h7, h8, h9, h10, h11, h12, h13, h14⟩; simp only [in40] at h5 h6 h7 h8 h9 h10; omega) rfl)
  replace hc70 := of_decide_eq_false hc70
  simp only [List.length_map, Int.not_lt] at hc70
  refine vc_skip ?_
  refine vc_seq ?_
  refine vc_rseq mixed ?_
  refine g_val (s_assign rfl rfl) rfl ?_
  refine g_nil ?_
  refine vc_block ?_
  refine vc_up c.place.length (fun i => ⟨[(1, .ref 1 0), (3, AI .i64 i)], [(1, some (.box ((cmdC c).map .t)))], [1]⟩) (fun i => ∀ j : Nat, j < i → ∀ z, c.place[j]? = some z → 0 ≤ z ∧ z < 8) (leE_same (by repeat (first | exact letm_nil _ _ | refine letm_cons rfl ?_ ?_ | exact .same _ | exact .nl (by decide) (by decide) | exact .nn | exact .id' rfl | exact .id' (by simp; done))) (by repeat (first | exact lehp_nil _ _ | refine lehp_cons rfl ?_ ?_ | exact leB_same _ | exact leB_row (by first | rfl | (simp; done)) | exact leB_obj (by simp; done) | refine leB_box ?_ | exact leL_nil | refine leL_cons ?_ ?_ | exact .same _ | exact .nl (by decide) (by decide) | exact .nn | exact .id' rfl | exact .id' (by simp; done))) rfl) (fun j h => by omega) (fun i hi hJ => ?_)
  refine vc_seq ?_
  refine vc_rseq mixed ?_
  refine g_val (s_move rfl rfl) rfl ?_
  refine g_val (s_field rfl rfl rfl rfl) rfl ?_
  refine g_val (s_load rfl rfl rfl rfl) rfl ?_
  refine g_val (s_len rfl rfl) rfl ?_
  refine g_val (s_lss rfl rfl rfl) rfl ?_
  refine g_nil ?_
  refine vc_cond rfl (fun hc75 => ?_) (fun hc75 => ?_)
  replace hc75 := of_decide_eq_true hc75
  simp only [List.length_map] at hc75
  obtain ⟨x, hx⟩ := get_of_lt (l := c.place) (i := i) (by omega)
  refine vc_skip ?_
  refine vc_seq ?_
  refine vc_block ?_
  refine vc_rseq mixed ?_
  refine g_val (s_field rfl rfl rfl rfl) rfl ?_
  refine g_val (s_load rfl rfl rfl rfl) rfl ?_
  refine g_val (s_move rfl rfl) rfl ?_
  refine g_val (s_index rfl rfl rfl (by omega) (idx_map hx)) rfl ?_
  refine g_val (s_loadT rfl rfl rfl) rfl ?_
  refine g_val (s_lss rfl rfl rfl) rfl ?_
  refine g_val (s_move rfl rfl) rfl ?_
  refine g_probe (j := 84) rfl (fun c hg84 => ?_)
  cases c
  rw [← hg84]; replace hg84 := hg84.symm; replace hg84 := of_decide_eq_false hg84
  simp only [Int.not_lt] at hg84
  refine gq_val (s_field rfl rfl rfl rfl) rfl rfl rfl rfl ?_
  refine gq_val (s_load rfl rfl rfl rfl) rfl rfl rfl rfl ?_
  refine gq_val (s_move rfl rfl) rfl rfl rfl rfl ?_
  refine gq_val (s_index rfl rfl rfl (by omega) (idx_map hx)) rfl rfl rfl rfl ?_
  refine gq_val (s_loadT rfl rfl rfl) rfl rfl rfl rfl ?_
  refine gq_val (s_geq rfl rfl rfl) rfl rfl rfl rfl ?_
  refine g_val (s_pickF rfl rfl rfl) rfl ?_
  refine g_nil ?_
  refine vc_cond rfl (fun hc91 => ?_) (fun hc91 => ?_)
  replace hc91 := of_decide_eq_true hc91
  refine vc_rseq mixed ?_
  refine g_val (s_assign rfl rfl) rfl ?_
  refine g_nil ?_
  exact vc_ret (ret_of _ (.cons (.tmp rfl) .nil) (by simp only [single]; rw [decide_eq_false]; rintro ⟨h1, h2, h3, h4, h5, h6, h7, h8, h9, h10, h11, h12, h13, h14⟩; have := h13 x (List.mem_of_getElem? hx); omega) rfl)
  replace hc91 := of_decide_eq_false hc91
  simp only [Int.not_le] at hc91
  refine vc_skip ?_
  refine vc_region mixed ?_
  refine g_val (s_move rfl rfl) rfl ?_
  refine g_val (s_add rfl rfl rfl (by simp only [inI, kMin, kMax]; omega)) rfl ?_
  refine g_val (s_assign rfl rfl) rfl ?_
  refine g_nil ?_
  exact ⟨by omega, fun j hj z hz => by rcases Nat.lt_succ_iff_lt_or_eq.1 hj with h | rfl; exact hJ j h z hz; rw [hx] at hz; injection hz with hz; omega, (leE_same (by repeat (first | exact letm_nil _ _ | refine letm_cons rfl ?_ ?_ | exact .same _ | exact .nl (by decide) (by decide) | exact .nn | exact .id' rfl | exact .id' (by simp; done))) (by repeat (first | exact lehp_nil _ _ | refine lehp_cons rfl ?_ ?_ | exact leB_same _ | exact leB_row (by first | rfl | (simp; done)) | exact leB_obj (by simp; done) | refine leB_box ?_ | exact leL_nil | refine leL_cons ?_ ?_ | exact .same _ | exact .nl (by decide) (by decide) | exact .nn | exact .id' rfl | exact .id' (by simp; done))) rfl)⟩
  rw [← hg84]; replace hg84 := hg84.symm; replace hg84 := of_decide_eq_true hg84
  refine gn_val rfl rfl rfl rfl rfl rfl (by decide) ?_
  refine gn_val rfl rfl rfl rfl rfl rfl (by decide) ?_
  refine gn_val rfl rfl rfl rfl rfl rfl (by decide) ?_
  refine gn_val rfl rfl rfl rfl rfl rfl (by decide) ?_
  refine gn_val rfl rfl rfl rfl rfl rfl (by decide) ?_
  refine gn_val rfl rfl rfl rfl rfl rfl (by decide) ?_
  refine g_val (s_pickT rfl rfl rfl) rfl ?_
  refine g_nil ?_
  refine vc_cond rfl (fun _ => ?_) (fun h => by cases h)
  refine vc_rseq mixed ?_
  refine g_val (s_assign rfl rfl) rfl ?_
  refine g_nil ?_
  exact vc_ret (ret_of _ (.cons (.tmp rfl) .nil) (by simp only [single]; rw [decide_eq_false]; rintro ⟨h1, h2, h3, h4, h5, h6, h7, h8, h9, h10, h11, h12, h13, h14⟩; have := h13 x (List.mem_of_getElem? hx); omega) rfl)
  replace hc75 := of_decide_eq_false hc75
  simp only [List.length_map, Int.not_lt] at hc75
  refine vc_exit ?_
  refine vc_seq ?_
  refine vc_rseq mixed ?_
  refine g_val (s_assign rfl rfl) rfl ?_
  refine g_nil ?_
  refine vc_block ?_
  refine vc_up c.items.length (fun i => ⟨[(1, .ref 1 0), (4, AI .i64 i)], [(1, some (.box ((cmdC c).map .t)))], [1]⟩) (fun i => ∀ j : Nat, j < i → ∀ x, c.items[j]? = some x → 0 ≤ x.block ∧ x.block < 256 ∧ (x.data.length : Int) ≤ 32) (leE_same (by repeat (first | exact letm_nil _ _ | refine letm_cons rfl ?_ ?_ | exact .same _ | exact .nl (by decide) (by decide) | exact .nn | exact .id' rfl | exact .id' (by simp; done))) (by repeat (first | exact lehp_nil _ _ | refine lehp_cons rfl ?_ ?_ | exact leB_same _ | exact leB_row (by first | rfl | (simp; done)) | exact leB_obj (by simp; done) | refine leB_box ?_ | exact leL_nil | refine leL_cons ?_ ?_ | exact .same _ | exact .nl (by decide) (by decide) | exact .nn | exact .id' rfl | exact .id' (by simp; done))) rfl) (fun j h => by omega) (fun i' hi' hJ' => ?_)
  refine vc_seq ?_
  refine vc_rseq mixed ?_
  refine g_val (s_move rfl rfl) rfl ?_
  refine g_val (s_field rfl rfl rfl rfl) rfl ?_
  refine g_val (s_load rfl rfl rfl rfl) rfl ?_
  refine g_val (s_len rfl rfl) rfl ?_
  refine g_val (s_lss rfl rfl rfl) rfl ?_
  refine g_nil ?_
  refine vc_cond rfl (fun hc96 => ?_) (fun hc96 => ?_)
  replace hc96 := of_decide_eq_true hc96
  simp only [List.length_map] at hc96
  obtain ⟨y, hy⟩ := get_of_lt (l := c.items) (i := i') (by omega)
  refine vc_skip ?_
  refine vc_seq ?_
  refine vc_block ?_
  refine vc_rseq mixed ?_
  refine g_val (s_field rfl rfl rfl rfl) rfl ?_
  refine g_val (s_load rfl rfl rfl rfl) rfl ?_
  refine g_val (s_move rfl rfl) rfl ?_
  refine g_val (s_index rfl rfl rfl (by omega) (idx_map hy)) rfl ?_
  refine g_val (s_fieldT rfl rfl rfl rfl rfl) rfl ?_
  refine g_val (s_loadT rfl rfl rfl) rfl ?_
  refine g_val (s_lss rfl rfl rfl) rfl ?_
  refine g_val (s_move rfl rfl) rfl ?_
  refine g_probe (j := 106) rfl (fun c hg106 => ?_)
  cases c
  rw [← hg106]; replace hg106 := hg106.symm; replace hg106 := of_decide_eq_false hg106
  simp only [Int.not_lt] at hg106
  refine gq_val (s_field rfl rfl rfl rfl) rfl rfl rfl rfl ?_
  refine gq_val (s_load rfl rfl rfl rfl) rfl rfl rfl rfl ?_
  refine gq_val (s_move rfl rfl) rfl rfl rfl rfl ?_
  refine gq_val (s_index rfl rfl rfl (by omega) (idx_map hy)) rfl rfl rfl rfl ?_
  refine gq_val (s_fieldT rfl rfl rfl rfl rfl) rfl rfl rfl rfl ?_
  refine gq_val (s_loadT rfl rfl rfl) rfl rfl rfl rfl ?_
  refine gq_val (s_geq rfl rfl rfl) rfl rfl rfl rfl ?_
  refine g_val (s_pickF rfl rfl rfl) rfl ?_
  refine g_val (s_move rfl rfl) rfl ?_
  refine g_probe (j := 115) rfl (fun c hg115 => ?_)
  cases c
  rw [← hg115]; replace hg115 := hg115.symm; replace hg115 := of_decide_eq_false hg115
  simp only [Int.not_le] at hg115
  refine gq_val (s_field rfl rfl rfl rfl) rfl rfl rfl rfl ?_
  refine gq_val (s_load rfl rfl rfl rfl) rfl rfl rfl rfl ?_
  refine gq_val (s_move rfl rfl) rfl rfl rfl rfl ?_
  refine gq_val (s_index rfl rfl rfl (by omega) (idx_map hy)) rfl rfl rfl rfl ?_
  refine gq_val (s_fieldT rfl rfl rfl rfl rfl) rfl rfl rfl rfl ?_
  refine gq_val (s_loadT rfl rfl rfl) rfl rfl rfl rfl ?_
  refine gq_val (s_len rfl rfl) rfl rfl rfl rfl ?_
  refine gq_val (s_gtr rfl rfl rfl) rfl rfl rfl rfl ?_
  refine g_val (s_pickF rfl rfl rfl) rfl ?_
  refine g_nil ?_
  refine vc_cond rfl (fun hc124 => ?_) (fun hc124 => ?_)
  replace hc124 := of_decide_eq_true hc124
  simp only [List.length_map] at hc124
  refine vc_rseq mixed ?_
  refine g_val (s_assign rfl rfl) rfl ?_
  refine g_nil ?_
  exact vc_ret (ret_of _ (.cons (.tmp rfl) .nil) (by simp only [single]; rw [decide_eq_false]; rintro ⟨h1, h2, h3, h4, h5, h6, h7, h8, h9, h10, h11, h12, h13, h14⟩; have := h14 y (List.mem_of_getElem? hy); omega) rfl)
  replace hc124 := of_decide_eq_false hc124
  simp only [List.length_map, Int.not_lt] at hc124
  refine vc_skip ?_
  refine vc_region mixed ?_
  refine g_val (s_move rfl rfl) rfl ?_
  refine g_val (s_add rfl rfl rfl (by simp only [inI, kMin, kMax]; omega)) rfl ?_
  refine g_val (s_assign rfl rfl) rfl ?_
  refine g_nil ?_
  exact ⟨by omega, fun j hj z hz => by rcases Nat.lt_succ_iff_lt_or_eq.1 hj with h | rfl; exact hJ' j h z hz; rw [hy] at hz; injection hz with hz; subst hz; omega, (leE_same (by repeat (first | exact letm_nil _ _ | refine letm_cons rfl ?_ ?_ | exact .same _ | exact .nl (by decide) (by decide) | exact .nn | exact .id' rfl | exact .id' (by simp; done))) (by repeat (first | exact lehp_nil _ _ | refine lehp_cons rfl ?_ ?_ | exact leB_same _ | exact leB_row (by first | rfl | (simp; done)) | exact leB_obj (by simp; done) | refine leB_box ?_ | exact leL_nil | refine leL_cons ?_ ?_ | exact .same _ | exact .nl (by decide) (by decide) | exact .nn | exact .id' rfl | exact .id' (by simp; done))) rfl)⟩
  rw [← hg115]; replace hg115 := hg115.symm; replace hg115 := of_decide_eq_true hg115
  refine gn_val rfl rfl rfl rfl rfl rfl (by decide) ?_
  refine gn_val rfl rfl rfl rfl rfl rfl (by decide) ?_
  refine gn_val rfl rfl rfl rfl rfl rfl (by decide) ?_
  refine gn_val rfl rfl rfl rfl rfl rfl (by decide) ?_
  refine gn_val rfl rfl rfl rfl rfl rfl (by decide) ?_
  refine gn_val rfl rfl rfl rfl rfl rfl (by decide) ?_
  refine gn_val rfl rfl rfl rfl rfl rfl (by decide) ?_
  refine gn_val rfl rfl rfl rfl rfl rfl (by decide) ?_
  refine g_val (s_pickT rfl rfl rfl) rfl ?_
  refine g_nil ?_
  refine vc_cond rfl (fun _ => ?_) (fun h => by cases h)
  refine vc_rseq mixed ?_
  refine g_val (s_assign rfl rfl) rfl ?_
  refine g_nil ?_
  exact vc_ret (ret_of _ (.cons (.tmp rfl) .nil) (by simp only [single]; rw [decide_eq_false]; rintro ⟨h1, h2, h3, h4, h5, h6, h7, h8, h9, h10, h11, h12, h13, h14⟩; have := h14 y (List.mem_of_getElem? hy); omega) rfl)
  rw [← hg106]; replace hg106 := hg106.symm; replace hg106 := of_decide_eq_true hg106
  refine gn_val rfl rfl rfl rfl rfl rfl (by decide) ?_
  refine gn_val rfl rfl rfl rfl rfl rfl (by decide) ?_
  refine gn_val rfl rfl rfl rfl rfl rfl (by decide) ?_
  refine gn_val rfl rfl rfl rfl rfl rfl (by decide) ?_
  refine gn_val rfl rfl rfl rfl rfl rfl (by decide) ?_
  refine gn_val rfl rfl rfl rfl rfl rfl (by decide) ?_
  refine gn_val rfl rfl rfl rfl rfl rfl (by decide) ?_
  refine g_val (s_pickT rfl rfl rfl) rfl ?_
  refine g_val (s_move rfl rfl) rfl ?_
  refine gn_val rfl rfl rfl rfl rfl rfl (by decide) ?_
  refine gn_val rfl rfl rfl rfl rfl rfl (by decide) ?_
  refine gn_val rfl rfl rfl rfl rfl rfl (by decide) ?_
  refine gn_val rfl rfl rfl rfl rfl rfl (by decide) ?_
  refine gn_val rfl rfl rfl rfl rfl rfl (by decide) ?_
  refine gn_val rfl rfl rfl rfl rfl rfl (by decide) ?_
  refine gn_val rfl rfl rfl rfl rfl rfl (by decide) ?_
  refine gn_val rfl rfl rfl rfl rfl rfl (by decide) ?_
  refine g_val (s_pickT rfl rfl rfl) rfl ?_
  refine g_nil ?_
  refine vc_cond rfl (fun _ => ?_) (fun h => by cases h)
  refine vc_rseq mixed ?_
  refine g_val (s_assign rfl rfl) rfl ?_
  refine g_nil ?_
  exact vc_ret (ret_of _ (.cons (.tmp rfl) .nil) (by simp only [single]; rw [decide_eq_false]; rintro ⟨h1, h2, h3, h4, h5, h6, h7, h8, h9, h10, h11, h12, h13, h14⟩; have := h14 y (List.mem_of_getElem? hy); omega) rfl)
  replace hc96 := of_decide_eq_false hc96
  simp only [List.length_map, Int.not_lt] at hc96
  refine vc_exit ?_
  refine vc_rseq mixed ?_
  refine g_val (s_assign rfl rfl) rfl ?_
  refine g_nil ?_
  exact vc_ret (ret_of _ (.cons (.tmp rfl) .nil) (by simp only [single]; rw [decide_eq_true]; refine ⟨by omega, by omega, by omega, by omega, by simp only [in40]; omega, by simp only [in40]; omega, by simp only [in40]; omega, by simp only [in40]; omega, by simp only [in40]; omega, by simp only [in40]; omega, by omega, by omega, fun z hz => ?_, fun z hz => ?_⟩; obtain ⟨j, hj⟩ := List.mem_iff_getElem?.1 hz; exact hJ j (by have := (List.getElem?_eq_some_iff.1 hj).1; omega) z hj; obtain ⟨j, hj⟩ := List.mem_iff_getElem?.1 hz; exact hJ' j (by have := (List.getElem?_eq_some_iff.1 hj).1; omega) z hj) rfl)
  rw [← hg65]; replace hg65 := hg65.symm; replace hg65 := of_decide_eq_true hg65
  simp only [List.length_map] at hg65
  refine gn_val rfl rfl rfl rfl rfl rfl (by decide) ?_
  refine gn_val rfl rfl rfl rfl rfl rfl (by decide) ?_
  refine gn_val rfl rfl rfl rfl rfl rfl (by decide) ?_
  refine gn_val rfl rfl rfl rfl rfl rfl (by decide) ?_
  refine g_val (s_pickT rfl rfl rfl) rfl ?_
  refine g_nil ?_
  refine vc_cond rfl (fun _ => ?_) (fun h => by cases h)
  refine vc_rseq mixed ?_
  refine g_val (s_assign rfl rfl) rfl ?_
  refine g_nil ?_
  exact vc_ret (ret_of _ (.cons (.tmp rfl) .nil) (by simp only [single]; rw [decide_eq_false]; rintro ⟨h1, h2, h3, h4, h5, h6, h7, h8, h9, h10, h11, h12, h13, h14⟩; simp only [in40] at h5 h6 h7 h8 h9 h10; omega) rfl)
  rw [← hg59]; replace hg59 := hg59.symm
  simp only [Bool.not_eq_true', decide_eq_false_iff_not] at hg59
  refine gn_val rfl rfl rfl rfl rfl rfl (by decide) ?_
  refine gn_val rfl rfl rfl rfl rfl rfl (by decide) ?_
  refine gn_val rfl rfl rfl rfl rfl rfl (by decide) ?_
  refine gn_val rfl rfl rfl rfl rfl rfl (by decide) ?_
  refine g_val (s_pickT rfl rfl rfl) rfl ?_
  refine g_val (s_move rfl rfl) rfl ?_
  refine gn_val rfl rfl rfl rfl rfl rfl (by decide) ?_
  refine gn_val rfl rfl rfl rfl rfl rfl (by decide) ?_
  refine gn_val rfl rfl rfl rfl rfl rfl (by decide) ?_
  refine gn_val rfl rfl rfl rfl rfl rfl (by decide) ?_
  refine g_val (s_pickT rfl rfl rfl) rfl ?_
  refine g_nil ?_
  refine vc_cond rfl (fun _ => ?_) (fun h => by cases h)
  refine vc_rseq mixed ?_
  refine g_val (s_assign rfl rfl) rfl ?_
  refine g_nil ?_
  exact vc_ret (ret_of _ (.cons (.tmp rfl) .nil) (by simp only [single]; rw [decide_eq_false]; rintro ⟨h1, h2, h3, h4, h5, h6, h7, h8, h9, h10, h11, h12, h13, h14⟩; simp only [in40] at h5 h6 h7 h8 h9 h10; omega) rfl)
  rw [← hg53]; replace hg53 := hg53.symm
  simp only [Bool.not_eq_true', decide_eq_false_iff_not] at hg53
  refine gn_val rfl rfl rfl rfl rfl rfl (by decide) ?_
  refine gn_val rfl rfl rfl rfl rfl rfl (by decide) ?_
  refine gn_val rfl rfl rfl rfl rfl rfl (by decide) ?_
  refine gn_val rfl rfl rfl rfl rfl rfl (by decide) ?_
  refine g_val (s_pickT rfl rfl rfl) rfl ?_
  refine g_val (s_move rfl rfl) rfl ?_
  refine gn_val rfl rfl rfl rfl rfl rfl (by decide) ?_
  refine gn_val rfl rfl rfl rfl rfl rfl (by decide) ?_
  refine gn_val rfl rfl rfl rfl rfl rfl (by decide) ?_
  refine gn_val rfl rfl rfl rfl rfl rfl (by decide) ?_
  refine g_val (s_pickT rfl rfl rfl) rfl ?_
  refine g_val (s_move rfl rfl) rfl ?_
  refine gn_val rfl rfl rfl rfl rfl rfl (by decide) ?_
  refine gn_val rfl rfl rfl rfl rfl rfl (by decide) ?_
  refine gn_val rfl rfl rfl rfl rfl rfl (by decide) ?_
  refine gn_val rfl rfl rfl rfl rfl rfl (by decide) ?_
  refine g_val (s_pickT rfl rfl rfl) rfl ?_
  refine g_nil ?_
  refine vc_cond rfl (fun _ => ?_) (fun h => by cases h)
  refine vc_rseq mixed ?_
  refine g_val (s_assign rfl rfl) rfl ?_
  refine g_nil ?_
  exact vc_ret (ret_of _ (.cons (.tmp rfl) .nil) (by simp only [single]; rw [decide_eq_false]; rintro ⟨h1, h2, h3, h4, h5, h6, h7, h8, h9, h10, h11, h12, h13, h14⟩; simp only [in40] at h5 h6 h7 h8 h9 h10; omega) rfl)
  rw [← hg47]; replace hg47 := hg47.symm
  simp only [Bool.not_eq_true', decide_eq_false_iff_not] at hg47
  refine gn_val rfl rfl rfl rfl rfl rfl (by decide) ?_
  refine gn_val rfl rfl rfl rfl rfl rfl (by decide) ?_
  refine gn_val rfl rfl rfl rfl rfl rfl (by decide) ?_
  refine gn_val rfl rfl rfl rfl rfl rfl (by decide) ?_
  refine g_val (s_pickT rfl rfl rfl) rfl ?_
  refine g_val (s_move rfl rfl) rfl ?_
  refine gn_val rfl rfl rfl rfl rfl rfl (by decide) ?_
  refine gn_val rfl rfl rfl rfl rfl rfl (by decide) ?_
  refine gn_val rfl rfl rfl rfl rfl rfl (by decide) ?_
  refine gn_val rfl rfl rfl rfl rfl rfl (by decide) ?_
  refine g_val (s_pickT rfl rfl rfl) rfl ?_
  refine g_val (s_move rfl rfl) rfl ?_
  refine gn_val rfl rfl rfl rfl rfl rfl (by decide) ?_
  refine gn_val rfl rfl rfl rfl rfl rfl (by decide) ?_
  refine gn_val rfl rfl rfl rfl rfl rfl (by decide) ?_
  refine gn_val rfl rfl rfl rfl rfl rfl (by decide) ?_
  refine g_val (s_pickT rfl rfl rfl) rfl ?_
  refine g_val (s_move rfl rfl) rfl ?_
  refine gn_val rfl rfl rfl rfl rfl rfl (by decide) ?_
  refine gn_val rfl rfl rfl rfl rfl rfl (by decide) ?_
  refine gn_val rfl rfl rfl rfl rfl rfl (by decide) ?_
  refine gn_val rfl rfl rfl rfl rfl rfl (by decide) ?_
  refine g_val (s_pickT rfl rfl rfl) rfl ?_
  refine g_nil ?_
  refine vc_cond rfl (fun _ => ?_) (fun h => by cases h)
  refine vc_rseq mixed ?_
  refine g_val (s_assign rfl rfl) rfl ?_
  refine g_nil ?_
  exact vc_ret (ret_of _ (.cons (.tmp rfl) .nil) (by simp only [single]; rw [decide_eq_false]; rintro ⟨h1, h2, h3, h4, h5, h6, h7, h8, h9, h10, h11, h12, h13, h14⟩; simp only [in40] at h5 h6 h7 h8 h9 h10; omega) rfl)
  rw [← hg41]; replace hg41 := hg41.symm
  simp only [Bool.not_eq_true', decide_eq_false_iff_not] at hg41
  refine gn_val rfl rfl rfl rfl rfl rfl (by decide) ?_
  refine gn_val rfl rfl rfl rfl rfl rfl (by decide) ?_
  refine gn_val rfl rfl rfl rfl rfl rfl (by decide) ?_
  refine gn_val rfl rfl rfl rfl rfl rfl (by decide) ?_
  refine g_val (s_pickT rfl rfl rfl) rfl ?_
  refine g_val (s_move rfl rfl) rfl ?_
  refine gn_val rfl rfl rfl rfl rfl rfl (by decide) ?_
  refine gn_val rfl rfl rfl rfl rfl rfl (by decide) ?_
  refine gn_val rfl rfl rfl rfl rfl rfl (by decide) ?_
  refine gn_val rfl rfl rfl rfl rfl rfl (by decide) ?_
  refine g_val (s_pickT rfl rfl rfl) rfl ?_
  refine g_val (s_move rfl rfl) rfl ?_
  refine gn_val rfl rfl rfl rfl rfl rfl (by decide) ?_
  refine gn_val rfl rfl rfl rfl rfl rfl (by decide) ?_
  refine gn_val rfl rfl rfl rfl rfl rfl (by decide) ?_
  refine gn_val rfl rfl rfl rfl rfl rfl (by decide) ?_
  refine g_val (s_pickT rfl rfl rfl) rfl ?_
  refine g_val (s_move rfl rfl) rfl ?_
  refine gn_val rfl rfl rfl rfl rfl rfl (by decide) ?_
  refine gn_val rfl rfl rfl rfl rfl rfl (by decide) ?_
  refine gn_val rfl rfl rfl rfl rfl rfl (by decide) ?_
  refine gn_val rfl rfl rfl rfl rfl rfl (by decide) ?_
  refine g_val (s_pickT rfl rfl rfl) rfl ?_
  refine g_val (s_move rfl rfl) rfl ?_
  refine gn_val rfl rfl rfl rfl rfl rfl (by decide) ?_
  refine gn_val rfl rfl rfl rfl rfl rfl (by decide) ?_
  refine gn_val rfl rfl rfl rfl rfl rfl (by decide) ?_
  refine gn_val rfl rfl rfl rfl rfl rfl (by decide) ?_
  refine g_val (s_pickT rfl rfl rfl) rfl ?_
  refine g_nil ?_
  refine vc_cond rfl (fun _ => ?_) (fun h => by cases h)
  refine vc_rseq mixed ?_
  refine g_val (s_assign rfl rfl) rfl ?_
  refine g_nil ?_
  exact vc_ret (ret_of _ (.cons (.tmp rfl) .nil) (by simp only [single]; rw [decide_eq_false]; rintro ⟨h1, h2, h3, h4, h5, h6, h7, h8, h9, h10, h11, h12, h13, h14⟩; simp only [in40] at h5 h6 h7 h8 h9 h10; omega) rfl)
  rw [← hg35]; replace hg35 := hg35.symm
  simp only [Bool.not_eq_true', decide_eq_false_iff_not] at hg35
  refine gn_val rfl rfl rfl rfl rfl rfl (by decide) ?_
  refine gn_val rfl rfl rfl rfl rfl rfl (by decide) ?_
  refine gn_val rfl rfl rfl rfl rfl rfl (by decide) ?_
  refine gn_val rfl rfl rfl rfl rfl rfl (by decide) ?_
  refine g_val (s_pickT rfl rfl rfl) rfl ?_
  refine g_val (s_move rfl rfl) rfl ?_
  refine gn_val rfl rfl rfl rfl rfl rfl (by decide) ?_
  refine gn_val rfl rfl rfl rfl rfl rfl (by decide) ?_
  refine gn_val rfl rfl rfl rfl rfl rfl (by decide) ?_
  refine gn_val rfl rfl rfl rfl rfl rfl (by decide) ?_
  refine g_val (s_pickT rfl rfl rfl) rfl ?_
  refine g_val (s_move rfl rfl) rfl ?_
  refine gn_val rfl rfl rfl rfl rfl rfl (by decide) ?_
  refine gn_val rfl rfl rfl rfl rfl rfl (by decide) ?_
  refine gn_val rfl rfl rfl rfl rfl rfl (by decide) ?_
  refine gn_val rfl rfl rfl rfl rfl rfl (by decide) ?_
  refine g_val (s_pickT rfl rfl rfl) rfl ?_
  refine g_val (s_move rfl rfl) rfl ?_
  refine gn_val rfl rfl rfl rfl rfl rfl (by decide) ?_
  refine gn_val rfl rfl rfl rfl rfl rfl (by decide) ?_
  refine gn_val rfl rfl rfl rfl rfl rfl (by decide) ?_
  refine gn_val rfl rfl rfl rfl rfl rfl (by decide) ?_
  refine g_val (s_pickT rfl rfl rfl) rfl ?_
  refine g_val (s_move rfl rfl) rfl ?_
  refine gn_val rfl rfl rfl rfl rfl rfl (by decide) ?_
  refine gn_val rfl rfl rfl rfl rfl rfl (by decide) ?_
  refine gn_val rfl rfl rfl rfl rfl rfl (by decide) ?_
  refine gn_val rfl rfl rfl rfl rfl rfl (by decide) ?_
  refine g_val (s_pickT rfl rfl rfl) rfl ?_
  refine g_val (s_move rfl rfl) rfl ?_
  refine gn_val rfl rfl rfl rfl rfl rfl (by decide) ?_
  refine gn_val rfl rfl rfl rfl rfl rfl (by decide) ?_
  refine gn_val rfl rfl rfl rfl rfl rfl (by decide) ?_
  refine gn_val rfl rfl rfl rfl rfl rfl (by decide) ?_
  refine g_val (s_pickT rfl rfl rfl) rfl ?_
  refine g_nil ?_
  refine vc_cond rfl (fun _ => ?_) (fun h => by cases h)
  refine vc_rseq mixed ?_
  refine g_val (s_assign rfl rfl) rfl ?_
  refine g_nil ?_
  exact vc_ret (ret_of _ (.cons (.tmp rfl) .nil) (by simp only [single]; rw [decide_eq_false]; rintro ⟨h1, h2, h3, h4, h5, h6, h7, h8, h9, h10, h11, h12, h13, h14⟩; simp only [in40] at h5 h6 h7 h8 h9 h10; omega) rfl)
  rw [← hg29]; replace hg29 := hg29.symm
  simp only [Bool.not_eq_true', decide_eq_false_iff_not] at hg29
  refine gn_val rfl rfl rfl rfl rfl rfl (by decide) ?_
  refine gn_val rfl rfl rfl rfl rfl rfl (by decide) ?_
  refine gn_val rfl rfl rfl rfl rfl rfl (by decide) ?_
  refine gn_val rfl rfl rfl rfl rfl rfl (by decide) ?_
  refine g_val (s_pickT rfl rfl rfl) rfl ?_
  refine g_val (s_move rfl rfl) rfl ?_
  refine gn_val rfl rfl rfl rfl rfl rfl (by decide) ?_
  refine gn_val rfl rfl rfl rfl rfl rfl (by decide) ?_
  refine gn_val rfl rfl rfl rfl rfl rfl (by decide) ?_
  refine gn_val rfl rfl rfl rfl rfl rfl (by decide) ?_
  refine g_val (s_pickT rfl rfl rfl) rfl ?_
  refine g_val (s_move rfl rfl) rfl ?_
  refine gn_val rfl rfl rfl rfl rfl rfl (by decide) ?_
  refine gn_val rfl rfl rfl rfl rfl rfl (by decide) ?_
  refine gn_val rfl rfl rfl rfl rfl rfl (by decide) ?_
  refine gn_val rfl rfl rfl rfl rfl rfl (by decide) ?_
  refine g_val (s_pickT rfl rfl rfl) rfl ?_
  refine g_val (s_move rfl rfl) rfl ?_
  refine gn_val rfl rfl rfl rfl rfl rfl (by decide) ?_
  refine gn_val rfl rfl rfl rfl rfl rfl (by decide) ?_
  refine gn_val rfl rfl rfl rfl rfl rfl (by decide) ?_
  refine gn_val rfl rfl rfl rfl rfl rfl (by decide) ?_
  refine g_val (s_pickT rfl rfl rfl) rfl ?_
  refine g_val (s_move rfl rfl) rfl ?_
  refine gn_val rfl rfl rfl rfl rfl rfl (by decide) ?_
  refine gn_val rfl rfl rfl rfl rfl rfl (by decide) ?_
  refine gn_val rfl rfl rfl rfl rfl rfl (by decide) ?_
  refine gn_val rfl rfl rfl rfl rfl rfl (by decide) ?_
  refine g_val (s_pickT rfl rfl rfl) rfl ?_
  refine g_val (s_move rfl rfl) rfl ?_
  refine gn_val rfl rfl rfl rfl rfl rfl (by decide) ?_
  refine gn_val rfl rfl rfl rfl rfl rfl (by decide) ?_
  refine gn_val rfl rfl rfl rfl rfl rfl (by decide) ?_
  refine gn_val rfl rfl rfl rfl rfl rfl (by decide) ?_
  refine g_val (s_pickT rfl rfl rfl) rfl ?_
  refine g_val (s_move rfl rfl) rfl ?_
  refine gn_val rfl rfl rfl rfl rfl rfl (by decide) ?_
  refine gn_val rfl rfl rfl rfl rfl rfl (by decide) ?_
  refine gn_val rfl rfl rfl rfl rfl rfl (by decide) ?_
  refine gn_val rfl rfl rfl rfl rfl rfl (by decide) ?_
  refine g_val (s_pickT rfl rfl rfl) rfl ?_
  refine g_nil ?_
  refine vc_cond rfl (fun _ => ?_) (fun h => by cases h)
  refine vc_rseq mixed ?_
  refine g_val (s_assign rfl rfl) rfl ?_
  refine g_nil ?_
  exact vc_ret (ret_of _ (.cons (.tmp rfl) .nil) (by simp only [single]; rw [decide_eq_false]; rintro ⟨h1, h2, h3, h4, h5, h6, h7, h8, h9, h10, h11, h12, h13, h14⟩; simp only [in40] at h5 h6 h7 h8 h9 h10; omega) rfl)
  rw [← hg23]; replace hg23 := hg23.symm; replace hg23 := of_decide_eq_true hg23
  refine gn_val rfl rfl rfl rfl rfl rfl (by decide) ?_
  refine gn_val rfl rfl rfl rfl rfl rfl (by decide) ?_
  refine gn_val rfl rfl rfl rfl rfl rfl (by decide) ?_
  refine gn_val rfl rfl rfl rfl rfl rfl (by decide) ?_
  refine g_val (s_pickT rfl rfl rfl) rfl ?_
  refine g_val (s_move rfl rfl) rfl ?_
  refine gn_val rfl rfl rfl rfl rfl rfl (by decide) ?_
  refine gn_val rfl rfl rfl rfl rfl rfl (by decide) ?_
  refine gn_val rfl rfl rfl rfl rfl rfl (by decide) ?_
  refine gn_val rfl rfl rfl rfl rfl rfl (by decide) ?_
  refine g_val (s_pickT rfl rfl rfl) rfl ?_
  refine g_val (s_move rfl rfl) rfl ?_
  refine gn_val rfl rfl rfl rfl rfl rfl (by decide) ?_
  refine gn_val rfl rfl rfl rfl rfl rfl (by decide) ?_
  refine gn_val rfl rfl rfl rfl rfl rfl (by decide) ?_
  refine gn_val rfl rfl rfl rfl rfl rfl (by decide) ?_
  refine g_val (s_pickT rfl rfl rfl) rfl ?_
  refine g_val (s_move rfl rfl) rfl ?_
  refine gn_val rfl rfl rfl rfl rfl rfl (by decide) ?_
  refine gn_val rfl rfl rfl rfl rfl rfl (by decide) ?_
  refine gn_val rfl rfl rfl rfl rfl rfl (by decide) ?_
  refine gn_val rfl rfl rfl rfl rfl rfl (by decide) ?_
  refine g_val (s_pickT rfl rfl rfl) rfl ?_
  refine g_val (s_move rfl rfl) rfl ?_
  refine gn_val rfl rfl rfl rfl rfl rfl (by decide) ?_
  refine gn_val rfl rfl rfl rfl rfl rfl (by decide) ?_
  refine gn_val rfl rfl rfl rfl rfl rfl (by decide) ?_
  refine gn_val rfl rfl rfl rfl rfl rfl (by decide) ?_
  refine g_val (s_pickT rfl rfl rfl) rfl ?_
  refine g_val (s_move rfl rfl) rfl ?_
  refine gn_val rfl rfl rfl rfl rfl rfl (by decide) ?_
  refine gn_val rfl rfl rfl rfl rfl rfl (by decide) ?_
  refine gn_val rfl rfl rfl rfl rfl rfl (by decide) ?_
  refine gn_val rfl rfl rfl rfl rfl rfl (by decide) ?_
  refine g_val (s_pickT rfl rfl rfl) rfl ?_
  refine g_val (s_move rfl rfl) rfl ?_
  refine gn_val rfl rfl rfl rfl rfl rfl (by decide) ?_
  refine gn_val rfl rfl rfl rfl rfl rfl (by decide) ?_
  refine gn_val rfl rfl rfl rfl rfl rfl (by decide) ?_
  refine gn_val rfl rfl rfl rfl rfl rfl (by decide) ?_
  refine g_val (s_pickT rfl rfl rfl) rfl ?_
  refine g_val (s_move rfl rfl) rfl ?_
  refine gn_val rfl rfl rfl rfl rfl rfl (by decide) ?_
  refine gn_val rfl rfl rfl rfl rfl rfl (by decide) ?_
  refine gn_val rfl rfl rfl rfl rfl rfl (by decide) ?_
  refine gn_val rfl rfl rfl rfl rfl rfl (by decide) ?_
  refine g_val (s_pickT rfl rfl rfl) rfl ?_
  refine g_nil ?_
  refine vc_cond rfl (fun _ => ?_) (fun h => by cases h)
  refine vc_rseq mixed ?_
  refine g_val (s_assign rfl rfl) rfl ?_
  refine g_nil ?_
  exact vc_ret (ret_of _ (.cons (.tmp rfl) .nil) (by simp only [single]; rw [decide_eq_false]; rintro ⟨h1, h2, h3, h4, h5, h6, h7, h8, h9, h10, h11, h12, h13, h14⟩; simp only [in40] at h5 h6 h7 h8 h9 h10; omega) rfl)
  rw [← hg18]; replace hg18 := hg18.symm; replace hg18 := of_decide_eq_true hg18
  refine gn_val rfl rfl rfl rfl rfl rfl (by decide) ?_
  refine gn_val rfl rfl rfl rfl rfl rfl (by decide) ?_
  refine gn_val rfl rfl rfl rfl rfl rfl (by decide) ?_
  refine g_val (s_pickT rfl rfl rfl) rfl ?_
  refine g_val (s_move rfl rfl) rfl ?_
  refine gn_val rfl rfl rfl rfl rfl rfl (by decide) ?_
  refine gn_val rfl rfl rfl rfl rfl rfl (by decide) ?_
  refine gn_val rfl rfl rfl rfl rfl rfl (by decide) ?_
  refine gn_val rfl rfl rfl rfl rfl rfl (by decide) ?_
  refine g_val (s_pickT rfl rfl rfl) rfl ?_
  refine g_val (s_move rfl rfl) rfl ?_
  refine gn_val rfl rfl rfl rfl rfl rfl (by decide) ?_
  refine gn_val rfl rfl rfl rfl rfl rfl (by decide) ?_
  refine gn_val rfl rfl rfl rfl rfl rfl (by decide) ?_
  refine gn_val rfl rfl rfl rfl rfl rfl (by decide) ?_
  refine g_val (s_pickT rfl rfl rfl) rfl ?_
  refine g_val (s_move rfl rfl) rfl ?_
  refine gn_val rfl rfl rfl rfl rfl rfl (by decide) ?_
  refine gn_val rfl rfl rfl rfl rfl rfl (by decide) ?_
  refine gn_val rfl rfl rfl rfl rfl rfl (by decide) ?_
  refine gn_val rfl rfl rfl rfl rfl rfl (by decide) ?_
  refine g_val (s_pickT rfl rfl rfl) rfl ?_
  refine g_val (s_move rfl rfl) rfl ?_
  refine gn_val rfl rfl rfl rfl rfl rfl (by decide) ?_
  refine gn_val rfl rfl rfl rfl rfl rfl (by decide) ?_
  refine gn_val rfl rfl rfl rfl rfl rfl (by decide) ?_
  refine gn_val rfl rfl rfl rfl rfl rfl (by decide) ?_
  refine g_val (s_pickT rfl rfl rfl) rfl ?_
  refine g_val (s_move rfl rfl) rfl ?_
  refine gn_val rfl rfl rfl rfl rfl rfl (by decide) ?_
  refine gn_val rfl rfl rfl rfl rfl rfl (by decide) ?_
  refine gn_val rfl rfl rfl rfl rfl rfl (by decide) ?_
  refine gn_val rfl rfl rfl rfl rfl rfl (by decide) ?_
  refine g_val (s_pickT rfl rfl rfl) rfl ?_
  refine g_val (s_move rfl rfl) rfl ?_
  refine gn_val rfl rfl rfl rfl rfl rfl (by decide) ?_
  refine gn_val rfl rfl rfl rfl rfl rfl (by decide) ?_
  refine gn_val rfl rfl rfl rfl rfl rfl (by decide) ?_
  refine gn_val rfl rfl rfl rfl rfl rfl (by decide) ?_
  refine g_val (s_pickT rfl rfl rfl) rfl ?_
  refine g_val (s_move rfl rfl) rfl ?_
  refine gn_val rfl rfl rfl rfl rfl rfl (by decide) ?_
  refine gn_val rfl rfl rfl rfl rfl rfl (by decide) ?_
  refine gn_val rfl rfl rfl rfl rfl rfl (by decide) ?_
  refine gn_val rfl rfl rfl rfl rfl rfl (by decide) ?_
  refine g_val (s_pickT rfl rfl rfl) rfl ?_
  refine g_val (s_move rfl rfl) rfl ?_
  refine gn_val rfl rfl rfl rfl rfl rfl (by decide) ?_
  refine gn_val rfl rfl rfl rfl rfl rfl (by decide) ?_
  refine gn_val rfl rfl rfl rfl rfl rfl (by decide) ?_
  refine gn_val rfl rfl rfl rfl rfl rfl (by decide) ?_
  refine g_val (s_pickT rfl rfl rfl) rfl ?_
  refine g_nil ?_
  refine vc_cond rfl (fun _ => ?_) (fun h => by cases h)
  refine vc_rseq mixed ?_
  refine g_val (s_assign rfl rfl) rfl ?_
  refine g_nil ?_
  exact vc_ret (ret_of _ (.cons (.tmp rfl) .nil) (by simp only [single]; rw [decide_eq_false]; rintro ⟨h1, h2, h3, h4, h5, h6, h7, h8, h9, h10, h11, h12, h13, h14⟩; simp only [in40] at h5 h6 h7 h8 h9 h10; omega) rfl)
  rw [← hg13]; replace hg13 := hg13.symm; replace hg13 := of_decide_eq_true hg13
  refine gn_val rfl rfl rfl rfl rfl rfl (by decide) ?_
  refine gn_val rfl rfl rfl rfl rfl rfl (by decide) ?_
  refine gn_val rfl rfl rfl rfl rfl rfl (by decide) ?_
  refine g_val (s_pickT rfl rfl rfl) rfl ?_
  refine g_val (s_move rfl rfl) rfl ?_
  refine gn_val rfl rfl rfl rfl rfl rfl (by decide) ?_
  refine gn_val rfl rfl rfl rfl rfl rfl (by decide) ?_
  refine gn_val rfl rfl rfl rfl rfl rfl (by decide) ?_
  refine g_val (s_pickT rfl rfl rfl) rfl ?_
  refine g_val (s_move rfl rfl) rfl ?_
  refine gn_val rfl rfl rfl rfl rfl rfl (by decide) ?_
  refine gn_val rfl rfl rfl rfl rfl rfl (by decide) ?_
  refine gn_val rfl rfl rfl rfl rfl rfl (by decide) ?_
  refine gn_val rfl rfl rfl rfl rfl rfl (by decide) ?_
  refine g_val (s_pickT rfl rfl rfl) rfl ?_
  refine g_val (s_move rfl rfl) rfl ?_
  refine gn_val rfl rfl rfl rfl rfl rfl (by decide) ?_
  refine gn_val rfl rfl rfl rfl rfl rfl (by decide) ?_
  refine gn_val rfl rfl rfl rfl rfl rfl (by decide) ?_
  refine gn_val rfl rfl rfl rfl rfl rfl (by decide) ?_
  refine g_val (s_pickT rfl rfl rfl) rfl ?_
  refine g_val (s_move rfl rfl) rfl ?_
  refine gn_val rfl rfl rfl rfl rfl rfl (by decide) ?_
  refine gn_val rfl rfl rfl rfl rfl rfl (by decide) ?_
  refine gn_val rfl rfl rfl rfl rfl rfl (by decide) ?_
  refine gn_val rfl rfl rfl rfl rfl rfl (by decide) ?_
  refine g_val (s_pickT rfl rfl rfl) rfl ?_
  refine g_val (s_move rfl rfl) rfl ?_
  refine gn_val rfl rfl rfl rfl rfl rfl (by decide) ?_
  refine gn_val rfl rfl rfl rfl rfl rfl (by decide) ?_
  refine gn_val rfl rfl rfl rfl rfl rfl (by decide) ?_
  refine gn_val rfl rfl rfl rfl rfl rfl (by decide) ?_
  refine g_val (s_pickT rfl rfl rfl) rfl ?_
  refine g_val (s_move rfl rfl) rfl ?_
  refine gn_val rfl rfl rfl rfl rfl rfl (by decide) ?_
  refine gn_val rfl rfl rfl rfl rfl rfl (by decide) ?_
  refine gn_val rfl rfl rfl rfl rfl rfl (by decide) ?_
  refine gn_val rfl rfl rfl rfl rfl rfl (by decide) ?_
  refine g_val (s_pickT rfl rfl rfl) rfl ?_
  refine g_val (s_move rfl rfl) rfl ?_
  refine gn_val rfl rfl rfl rfl rfl rfl (by decide) ?_
  refine gn_val rfl rfl rfl rfl rfl rfl (by decide) ?_
  refine gn_val rfl rfl rfl rfl rfl rfl (by decide) ?_
  refine gn_val rfl rfl rfl rfl rfl rfl (by decide) ?_
  refine g_val (s_pickT rfl rfl rfl) rfl ?_
  refine g_val (s_move rfl rfl) rfl ?_
  refine gn_val rfl rfl rfl rfl rfl rfl (by decide) ?_
  refine gn_val rfl rfl rfl rfl rfl rfl (by decide) ?_
  refine gn_val rfl rfl rfl rfl rfl rfl (by decide) ?_
  refine gn_val rfl rfl rfl rfl rfl rfl (by decide) ?_
  refine g_val (s_pickT rfl rfl rfl) rfl ?_
  refine g_val (s_move rfl rfl) rfl ?_
  refine gn_val rfl rfl rfl rfl rfl rfl (by decide) ?_
  refine gn_val rfl rfl rfl rfl rfl rfl (by decide) ?_
  refine gn_val rfl rfl rfl rfl rfl rfl (by decide) ?_
  refine gn_val rfl rfl rfl rfl rfl rfl (by decide) ?_
  refine g_val (s_pickT rfl rfl rfl) rfl ?_
  refine g_nil ?_
  refine vc_cond rfl (fun _ => ?_) (fun h => by cases h)
  refine vc_rseq mixed ?_
  refine g_val (s_assign rfl rfl) rfl ?_
  refine g_nil ?_
  exact vc_ret (ret_of _ (.cons (.tmp rfl) .nil) (by simp only [single]; rw [decide_eq_false]; rintro ⟨h1, h2, h3, h4, h5, h6, h7, h8, h9, h10, h11, h12, h13, h14⟩; simp only [in40] at h5 h6 h7 h8 h9 h10; omega) rfl)
  rw [← hg8]; replace hg8 := hg8.symm; replace hg8 := of_decide_eq_true hg8
  refine gn_val rfl rfl rfl rfl rfl rfl (by decide) ?_
  refine gn_val rfl rfl rfl rfl rfl rfl (by decide) ?_
  refine gn_val rfl rfl rfl rfl rfl rfl (by decide) ?_
  refine g_val (s_pickT rfl rfl rfl) rfl ?_
  refine g_val (s_move rfl rfl) rfl ?_
  refine gn_val rfl rfl rfl rfl rfl rfl (by decide) ?_
  refine gn_val rfl rfl rfl rfl rfl rfl (by decide) ?_
  refine gn_val rfl rfl rfl rfl rfl rfl (by decide) ?_
  refine g_val (s_pickT rfl rfl rfl) rfl ?_
  refine g_val (s_move rfl rfl) rfl ?_
  refine gn_val rfl rfl rfl rfl rfl rfl (by decide) ?_
  refine gn_val rfl rfl rfl rfl rfl rfl (by decide) ?_
  refine gn_val rfl rfl rfl rfl rfl rfl (by decide) ?_
  refine g_val (s_pickT rfl rfl rfl) rfl ?_
  refine g_val (s_move rfl rfl) rfl ?_
  refine gn_val rfl rfl rfl rfl rfl rfl (by decide) ?_
  refine gn_val rfl rfl rfl rfl rfl rfl (by decide) ?_
  refine gn_val rfl rfl rfl rfl rfl rfl (by decide) ?_
  refine gn_val rfl rfl rfl rfl rfl rfl (by decide) ?_
  refine g_val (s_pickT rfl rfl rfl) rfl ?_
  refine g_val (s_move rfl rfl) rfl ?_
  refine gn_val rfl rfl rfl rfl rfl rfl (by decide) ?_
  refine gn_val rfl rfl rfl rfl rfl rfl (by decide) ?_
  refine gn_val rfl rfl rfl rfl rfl rfl (by decide) ?_
  refine gn_val rfl rfl rfl rfl rfl rfl (by decide) ?_
  refine g_val (s_pickT rfl rfl rfl) rfl ?_
  refine g_val (s_move rfl rfl) rfl ?_
  refine gn_val rfl rfl rfl rfl rfl rfl (by decide) ?_
  refine gn_val rfl rfl rfl rfl rfl rfl (by decide) ?_
  refine gn_val rfl rfl rfl rfl rfl rfl (by decide) ?_
  refine gn_val rfl rfl rfl rfl rfl rfl (by decide) ?_
  refine g_val (s_pickT rfl rfl rfl) rfl ?_
  refine g_val (s_move rfl rfl) rfl ?_
  refine gn_val rfl rfl rfl rfl rfl rfl (by decide) ?_
  refine gn_val rfl rfl rfl rfl rfl rfl (by decide) ?_
  refine gn_val rfl rfl rfl rfl rfl rfl (by decide) ?_
  refine gn_val rfl rfl rfl rfl rfl rfl (by decide) ?_
  refine g_val (s_pickT rfl rfl rfl) rfl ?_
  refine g_val (s_move rfl rfl) rfl ?_
  refine gn_val rfl rfl rfl rfl rfl rfl (by decide) ?_
  refine gn_val rfl rfl rfl rfl rfl rfl (by decide) ?_
  refine gn_val rfl rfl rfl rfl rfl rfl (by decide) ?_
  refine gn_val rfl rfl rfl rfl rfl rfl (by decide) ?_
  refine g_val (s_pickT rfl rfl rfl) rfl ?_
  refine g_val (s_move rfl rfl) rfl ?_
  refine gn_val rfl rfl rfl rfl rfl rfl (by decide) ?_
  refine gn_val rfl rfl rfl rfl rfl rfl (by decide) ?_
  refine gn_val rfl rfl rfl rfl rfl rfl (by decide) ?_
  refine gn_val rfl rfl rfl rfl rfl rfl (by decide) ?_
  refine g_val (s_pickT rfl rfl rfl) rfl ?_
  refine g_val (s_move rfl rfl) rfl ?_
  refine gn_val rfl rfl rfl rfl rfl rfl (by decide) ?_
  refine gn_val rfl rfl rfl rfl rfl rfl (by decide) ?_
  refine gn_val rfl rfl rfl rfl rfl rfl (by decide) ?_
  refine gn_val rfl rfl rfl rfl rfl rfl (by decide) ?_
  refine g_val (s_pickT rfl rfl rfl) rfl ?_
  refine g_val (s_move rfl rfl) rfl ?_
  refine gn_val rfl rfl rfl rfl rfl rfl (by decide) ?_
  refine gn_val rfl rfl rfl rfl rfl rfl (by decide) ?_
  refine gn_val rfl rfl rfl rfl rfl rfl (by decide) ?_
  refine gn_val rfl rfl rfl rfl rfl rfl (by decide) ?_
  refine g_val (s_pickT rfl rfl rfl) rfl ?_
  refine g_nil ?_
  refine vc_cond rfl (fun _ => ?_) (fun h => by cases h)
  refine vc_rseq mixed ?_
  refine g_val (s_assign rfl rfl) rfl ?_
  refine g_nil ?_
  exact vc_ret (ret_of _ (.cons (.tmp rfl) .nil) (by simp only [single]; rw [decide_eq_false]; rintro ⟨h1, h2, h3, h4, h5, h6, h7, h8, h9, h10, h11, h12, h13, h14⟩; simp only [in40] at h5 h6 h7 h8 h9 h10; omega) rfl)

end Go.Eng

set_option maxHeartbeats 4000000
namespace Go.Eng
open Go.Proofs

def headB (c : VolCmd) : List Int := numsF [c.kind, c.vol, c.blocks, c.size, c.per, c.total, c.time, c.index]
def cmdB (c : VolCmd) : List Int := headB c ++ placeB c.place ++ itemsB c.items
theorem placeB_len {l : List Int} (hl : l.length ≤ 1000) : (placeB l).length ≤ 20000 := placeG_all l ▸ placeG_len hl l.length
theorem itemsB_len {l : List Item} (hl : itemsSmall l) : (itemsB l).length ≤ 2000000 := itemsG_all l ▸ itemsG_len hl l.length
theorem cmdRight.small {c : VolCmd} (h : cmdRight c) : c.place.length ≤ 1000 ∧ itemsSmall c.items := by
  obtain ⟨h1, h2, h3, h4, h5, h6, h7, h8, h9, h10, h11, h12, h13, h14⟩ := h
  exact ⟨by omega, by omega, fun x hx => by have := h14 x hx; omega⟩

theorem c_mementoref16_PutCmd_ok (c : VolCmd) (h0 : cmdRight c) : Con Try.prog 19 [sC (cmdC c)] [] (.tup [.t (bytesT (cmdB c)), AI .i64 0]) [] := by
  refine con_intro [] [] Try.func19 rfl Try.ntmps19 Try.results19 rfl rfl ?_
  intro E
  have hn := numsF_len [c.kind, c.vol, c.blocks, c.size, c.per, c.total, c.time, c.index]
  have hp := placeB_len h0.small.1
  have hi := itemsB_len h0.small.2
  simp only [List.length_cons, List.length_nil] at hn
  refine vc_rseq mixed ?_
  refine g_new (s_box 1 rfl rfl rfl rfl) rfl ?_
  refine g_val (s_assign rfl rfl) rfl ?_
  refine g_val (s_assign rfl rfl) rfl ?_
  refine g_nil ?_
  refine vc_seq ?_
  refine vc_rseq mixed ?_
  refine g_val (s_loadA rfl rfl rfl rfl rfl) rfl ?_
  refine g_val (s_call [] (c_mementoref16_CmdRight c) (evArgs_cons rfl evArgs_nil) trivial rfl (okVL_nil _) rfl (.inl rfl) rfl) rfl ?_
  refine g_val (s_not rfl rfl) rfl ?_
  refine g_nil ?_
  refine vc_cond rfl (fun h => by simp [h0] at h) (fun _ => ?_)
  refine vc_skip ?_
  refine vc_rseq mixed ?_
  refine g_val (s_field rfl rfl rfl rfl) rfl ?_
  refine g_val (s_load rfl rfl rfl rfl) rfl ?_
  refine g_val (s_field rfl rfl rfl rfl) rfl ?_
  refine g_val (s_load rfl rfl rfl rfl) rfl ?_
  refine g_val (s_field rfl rfl rfl rfl) rfl ?_
  refine g_val (s_load rfl rfl rfl rfl) rfl ?_
  refine g_val (s_field rfl rfl rfl rfl) rfl ?_
  refine g_val (s_load rfl rfl rfl rfl) rfl ?_
  refine g_val (s_field rfl rfl rfl rfl) rfl ?_
  refine g_val (s_load rfl rfl rfl rfl) rfl ?_
  refine g_val (s_field rfl rfl rfl rfl) rfl ?_
  refine g_val (s_load rfl rfl rfl rfl) rfl ?_
  refine g_val (s_field rfl rfl rfl rfl) rfl ?_
  refine g_val (s_load rfl rfl rfl rfl) rfl ?_
  refine g_val (s_field rfl rfl rfl rfl) rfl ?_
  refine g_val (s_load rfl rfl rfl rfl) rfl ?_
  refine g_fz ((s_buildSlice 24 (evArgs_cons rfl (evArgs_cons rfl (evArgs_cons rfl (evArgs_cons rfl (evArgs_cons rfl (evArgs_cons rfl (evArgs_cons rfl (evArgs_cons rfl evArgs_nil)))))))) rfl rfl rfl rfl).fzE rfl) rfl ?_
  refine g_new (s_callH [] [(0, 25)] (c_mementoref16_nums_own [c.kind, c.vol, c.blocks, c.size, c.per, c.total, c.time, c.index] (by simp)) (evArgs_cons rfl evArgs_nil) trivial rfl (okVL_nil _) rfl rfl rfl) rfl ?_
  refine g_val (s_assign rfl rfl) rfl ?_
  refine g_nil ?_
  refine vc_rseq mixed ?_
  refine d_val (s_move rfl rfl) rfl ?_
  refine d_val (s_field rfl rfl rfl rfl) rfl ?_
  refine d_val (s_load rfl rfl rfl rfl) rfl ?_
  refine d_val (s_call [] (c_mementoref16_place c.place h0.small.1) (evArgs_cons rfl evArgs_nil) trivial rfl (okVL_nil _) rfl (.inl rfl) rfl) rfl ?_
  refine d_app (s_append 30 rfl rfl rfl rfl rfl (by simp only [List.length_map]; omega) rfl rfl (by simp only [List.length_map]; omega)) rfl ?_
  refine d_val (s_field rfl rfl rfl rfl) rfl ?_
  refine d_val (s_load rfl rfl rfl rfl) rfl ?_
  refine d_val (s_call [] (c_mementoref13_PutItems c.items h0.small.2) (evArgs_cons rfl evArgs_nil) trivial rfl (okVL_nil _) rfl (.inl rfl) rfl) rfl ?_
  refine d_fa ((s_append 34 rfl rfl rfl rfl rfl (by simp only [List.length_append, List.length_take, List.length_map]; omega) rfl rfl (by simp only [List.length_map]; omega)).fzA (by simp only [List.length_append, List.length_take, List.length_map]; omega) rfl) rfl ?_
  refine d_val (s_assign rfl rfl) rfl ?_
  refine d_val (s_assign rfl rfl) rfl ?_
  refine d_nil rfl ?_
  exact vc_ret (ret_le [] _ (.cons (.tmp rfl) (.cons (.tmp rfl) .nil)) trivial (LeV.tupL (leL_cons (LeV.tt (by rw [List.take_of_length_le (l := List.map byteC _) (by simp), List.take_of_length_le (by simp), List.take_of_length_le (by simp)]; simp [bytesT, cmdB, headB])) (leL_cons (LeV.tt rfl) leL_nil))) rfl)
theorem c_mementoref16_PutCmd_err (c : VolCmd) (h0 : ¬ cmdRight c) : Con Try.prog 19 [sC (cmdC c)] [] (.tup [.t (bytesT []), AI .i64 23]) [] := by
  refine con_intro [] [] Try.func19 rfl Try.ntmps19 Try.results19 rfl rfl ?_
  intro E
  refine vc_rseq mixed ?_
  refine g_new (s_box 1 rfl rfl rfl rfl) rfl ?_
  refine g_val (s_assign rfl rfl) rfl ?_
  refine g_val (s_assign rfl rfl) rfl ?_
  refine g_nil ?_
  refine vc_seq ?_
  refine vc_rseq mixed ?_
  refine g_val (s_loadA rfl rfl rfl rfl rfl) rfl ?_
  refine g_val (s_call [] (c_mementoref16_CmdRight c) (evArgs_cons rfl evArgs_nil) trivial rfl (okVL_nil _) rfl (.inl rfl) rfl) rfl ?_
  refine g_val (s_not rfl rfl) rfl ?_
  refine g_nil ?_
  refine vc_cond rfl (fun _ => ?_) (fun h => by simp [h0] at h)
  refine vc_rseq mixed ?_
  refine g_val (s_assign rfl rfl) rfl ?_
  refine g_val (s_assign rfl rfl) rfl ?_
  refine g_nil ?_
  exact vc_ret (ret_le [] _ (.cons (.tmp rfl) (.cons (.tmp rfl) .nil)) trivial (by repeat (first | exact leL_nil | refine leL_cons ?_ ?_ | exact LeV.tt rfl | exact .nl (by decide) (by decide) | exact .nn | refine LeV.tupL ?_ | refine LeV.aggL ?_ | exact .eq (by first | exact trivial | (simp [AV.okV, okR, lkB]; done) | (simp [AV.okV, okR, lkB]; omega)) (by first | rfl | (simp [AV.view, viewR, lkB, AV.ren, List.take_of_length_le]; done) | (simp [AV.view, viewR, lkB, AV.ren, List.take_of_length_le]; done)))) rfl)

end Go.Eng

set_option maxHeartbeats 4000000
namespace Go.Eng
open Go.Proofs

/-- The reader: what is left, its error. -/
def rdrA (b : List Int) (e : Int) : List AV := [.t (bytesT b), AI .i64 e]

theorem c_Reader_fail (b : List Int) (e0 e : Int) : Con Try.prog 73 [.ref 1000 0, AI .i64 e] [(1000, .box (rdrA b e0))] (.tup []) [(1000, .box (rdrA [] e))] := by
  refine con_intro [1000] [1000] Try.func73 rfl Try.ntmps73 Try.results73 rfl rfl ?_
  intro E
  refine vc_region mixed ?_
  refine g_val (s_move rfl rfl) rfl ?_
  refine g_val (s_move rfl rfl) rfl ?_
  refine g_val (s_move rfl rfl) rfl ?_
  refine g_val (s_nilCheck rfl rfl rfl) rfl ?_
  refine g_val (s_field rfl rfl rfl rfl) rfl ?_
  refine g_sto (s_store rfl rfl rfl rfl rfl rfl) rfl ?_
  refine g_val (s_nilCheck rfl rfl rfl) rfl ?_
  refine g_val (s_field rfl rfl rfl rfl) rfl ?_
  refine g_sto (s_store rfl rfl rfl rfl rfl rfl) rfl ?_
  refine g_nil ?_
  exact ret_hand [] [] [] .nil trivial (.same _) (lehp_cons rfl (leB_box (leL_cons (.nl (by decide) (by decide)) (leL_cons (.same _) leL_nil))) (lehp_nil _ _)) rfl

end Go.Eng

set_option maxHeartbeats 4000000
namespace Go.Eng
open Go.Proofs

def numStep (n : Int) (i : Nat) (c : Int) : Int := orI .u64 n (shlI .u64 (IntKind.u64.wrap (andI .u8 c 127)) (7 * i))
/-- A number: the value, what is left, the error. -/
def numR : List Int → Nat → Int → Int → Int × List Int × Int
  | [], i, n, most => (0, [], 21)
  | c :: r, i, n, most => if i = 9 ∧ 1 < c then (0, [], 20) else if c < 128 then (if 0 < i ∧ c = 0 then (0, [], 20) else if most < numStep n i c then (0, [], 22) else (numStep n i c, r, 0)) else numR r (i + 1) (numStep n i c) most
def numF (b : List Int) (e most : Int) : Int × List Int × Int := if e ≠ 0 then (0, b, e) else numR b 0 0 most

theorem c_Reader_Num (b : List Int) (e most : Int) (hb : b.length ≤ 1000000000) : Con Try.prog 64 [.ref 1000 0, AI .u64 most] [(1000, .box (rdrA b e))] (AI .u64 (numF b e most).1) [(1000, .box (rdrA (numF b e most).2.1 (numF b e most).2.2))] := by
  refine con_intro [1000] [1000] Try.func64 rfl Try.ntmps64 Try.results64 rfl rfl ?_
  intro E
  refine vc_rseq mixed ?_
  refine g_val (s_assign rfl rfl) rfl ?_
  refine g_nil ?_
  refine vc_seq ?_
  refine vc_rseq mixed ?_
  refine g_val (s_move rfl rfl) rfl ?_
  refine g_val (s_nilCheck rfl rfl rfl) rfl ?_
  refine g_val (s_field rfl rfl rfl rfl) rfl ?_
  refine g_val (s_load rfl rfl rfl rfl) rfl ?_
  refine g_val (s_neq rfl rfl rfl) rfl ?_
  refine g_nil ?_
  refine vc_cond rfl (fun hc12 => ?_) (fun hc12 => ?_)
  replace hc12 := of_decide_eq_true hc12
  simp only [ne_eq] at hc12
  rw [show numF b e most = (0, b, e) from if_pos hc12]
  refine vc_rseq mixed ?_
  refine g_val (s_assign rfl rfl) rfl ?_
  refine g_nil ?_
  exact vc_ret (ret_hand [] [] _ (.cons (.tmp rfl) .nil) trivial (.same _) (lehp_cons rfl (leB_same _) (lehp_nil _ _)) rfl)
  replace hc12 := of_decide_eq_false hc12
  simp only [ne_eq, Decidable.not_not] at hc12
  refine vc_skip ?_
  rw [show numF b e most = numR b 0 0 most from if_neg (by simpa using hc12)]
  refine vc_rseq mixed ?_
  refine g_val (s_assign rfl rfl) rfl ?_
  refine g_nil ?_
  refine vc_seq ?_
  refine vc_rseq mixed ?_
  refine g_val (s_assign rfl rfl) rfl ?_
  refine g_nil ?_
  refine vc_block ?_
  refine vc_while (α := Nat × Int) (fun s => ⟨[(0, .ref 1000 0), (1, AI .u64 most), (5, AI .u64 s.2), (6, AI .i64 s.1)], [(1000, some (.box (rdrA b e)))], [1000]⟩) (fun s => s.1 ≤ b.length ∧ numR (b.drop s.1) s.1 s.2 most = numR b 0 0 most) (fun s => b.length - s.1) (0, 0) (leE_same (by repeat (first | exact letm_nil _ _ | refine letm_cons rfl ?_ ?_ | exact .same _ | exact .nl (by decide) (by decide) | exact .nn | exact .id' rfl | exact .id' (by simp; done))) (by repeat (first | exact lehp_nil _ _ | refine lehp_cons rfl ?_ ?_ | exact leB_same _ | exact leB_row (by first | rfl | (simp; done)) | exact leB_obj (by simp; done) | refine leB_box ?_ | exact leL_nil | refine leL_cons ?_ ?_ | exact .same _ | exact .nl (by decide) (by decide) | exact .nn | exact .id' rfl | exact .id' (by simp; done))) rfl) ⟨Nat.zero_le _, rfl⟩ (fun s ⟨hs1, hs2⟩ => ?_)
  obtain ⟨i, n⟩ := s
  simp only at hs1 hs2
  refine vc_seq ?_
  refine vc_rseq mixed ?_
  refine g_val (s_move rfl rfl) rfl ?_
  refine g_val (s_move rfl rfl) rfl ?_
  refine g_val (s_nilCheck rfl rfl rfl) rfl ?_
  refine g_val (s_field rfl rfl rfl rfl) rfl ?_
  refine g_val (s_load rfl rfl rfl rfl) rfl ?_
  refine g_val (s_len rfl rfl) rfl ?_
  refine g_val (s_lss rfl rfl rfl) rfl ?_
  refine g_nil ?_
  refine vc_cond rfl (fun hc19 => ?_) (fun hc19 => ?_)
  replace hc19 := of_decide_eq_true hc19
  simp only [List.length_map] at hc19
  obtain ⟨x, hx⟩ := get_of_lt (l := b) (i := i) (by omega)
  have hd : b.drop i = x :: b.drop (i + 1) := by rw [List.drop_eq_getElem_cons (by omega)]; rw [(List.getElem?_eq_some_iff.1 hx).2]
  rw [hd] at hs2
  simp only [numR] at hs2
  refine vc_skip ?_
  refine vc_seq ?_
  refine vc_block ?_
  refine vc_rseq mixed ?_
  refine g_val (s_move rfl rfl) rfl ?_
  refine g_val (s_nilCheck rfl rfl rfl) rfl ?_
  refine g_val (s_field rfl rfl rfl rfl) rfl ?_
  refine g_val (s_load rfl rfl rfl rfl) rfl ?_
  refine g_val (s_move rfl rfl) rfl ?_
  refine g_val (s_index rfl rfl rfl (by omega) (idx_map hx)) rfl ?_
  refine g_val (s_loadT rfl rfl rfl) rfl ?_
  refine g_val (s_assign rfl rfl) rfl ?_
  refine g_nil ?_
  refine vc_seq ?_
  refine vc_rseq mixed ?_
  refine g_val (s_move rfl rfl) rfl ?_
  refine g_val (s_eql rfl rfl rfl) rfl ?_
  refine g_val (s_move rfl rfl) rfl ?_
  refine g_probe (j := 31) rfl (fun c hg31 => ?_)
  cases c
  rw [← hg31]; replace hg31 := hg31.symm; replace hg31 := of_decide_eq_false hg31
  try simp only [List.length_map, ne_eq, Decidable.not_not, Int.not_lt, Int.not_le, ge_iff_le, gt_iff_lt, Bool.not_eq_true', Bool.not_eq_false', decide_eq_true_eq, decide_eq_false_iff_not] at hg31
  refine gn_val rfl rfl rfl rfl rfl rfl (by decide) ?_
  refine gn_val rfl rfl rfl rfl rfl rfl (by decide) ?_
  refine g_val (s_pickF rfl rfl rfl) rfl ?_
  refine g_nil ?_
  refine vc_cond rfl (fun h => by cases h) (fun _ => ?_)
  refine vc_skip ?_
  refine vc_rseq mixed ?_
  refine g_val (s_move rfl rfl) rfl ?_
  refine g_val (s_move rfl rfl) rfl ?_
  refine g_val (s_andB rfl rfl rfl) rfl ?_
  refine g_val (s_convW rfl rfl) rfl ?_
  refine g_val (s_move rfl rfl) rfl ?_
  refine g_val (s_mul rfl rfl rfl (by simp only [inI, kMin, kMax]; omega)) rfl ?_
  refine g_val (s_shlB rfl rfl rfl (by omega)) rfl ?_
  refine g_val (s_orB rfl rfl rfl) rfl ?_
  refine g_val (s_assign rfl rfl) rfl ?_
  refine g_nil ?_
  refine vc_rseq mixed ?_
  refine g_val (s_move rfl rfl) rfl ?_
  refine g_val (s_lss rfl rfl rfl) rfl ?_
  refine g_nil ?_
  refine vc_cond rfl (fun hc46 => ?_) (fun hc46 => ?_)
  replace hc46 := of_decide_eq_true hc46
  refine vc_seq ?_
  refine vc_rseq mixed ?_
  refine g_val (s_move rfl rfl) rfl ?_
  refine g_val (s_gtr rfl rfl rfl) rfl ?_
  refine g_val (s_move rfl rfl) rfl ?_
  refine g_probe (j := 49) rfl (fun c hg49 => ?_)
  cases c
  rw [← hg49]; replace hg49 := hg49.symm; replace hg49 := of_decide_eq_false hg49
  simp only [Int.not_lt] at hg49
  refine gn_val rfl rfl rfl rfl rfl rfl (by decide) ?_
  refine gn_val rfl rfl rfl rfl rfl rfl (by decide) ?_
  refine g_val (s_pickF rfl rfl rfl) rfl ?_
  refine g_nil ?_
  refine vc_cond rfl (fun h => by cases h) (fun _ => ?_)
  refine vc_skip ?_
  refine vc_seq ?_
  refine vc_rseq mixed ?_
  refine g_val (s_move rfl rfl) rfl ?_
  refine g_val (s_move rfl rfl) rfl ?_
  refine g_val (s_gtr rfl rfl rfl) rfl ?_
  refine g_nil ?_
  refine vc_cond rfl (fun hc57 => ?_) (fun hc57 => ?_)
  replace hc57 := of_decide_eq_true hc57
  try simp only [List.length_map, ne_eq, Decidable.not_not, Int.not_lt, Int.not_le, ge_iff_le, gt_iff_lt, Bool.not_eq_true', Bool.not_eq_false', decide_eq_true_eq, decide_eq_false_iff_not] at hc57
  refine vc_rseq mixed ?_
  refine g_val (s_move rfl rfl) rfl ?_
  refine g_cw (s_callH [] [] (c_Reader_fail b e 22) (evArgs_cons rfl (evArgs_cons rfl evArgs_nil)) ⟨rfl, trivial⟩ rfl (okVL_nil _) rfl rfl rfl) rfl ?_
  refine g_nil ?_
  refine vc_rseq mixed ?_
  refine g_val (s_assign rfl rfl) rfl ?_
  refine g_nil ?_
  rw [show numR b 0 0 most = (0, [], 22) from hs2.symm.trans (by (repeat' split) <;> first | rfl | (exfalso; omega) | (exfalso; simp only [numStep] at *; omega))]; exact vc_ret (ret_hand [] [] _ (.cons (.tmp rfl) .nil) trivial (.same _) (lehp_cons rfl (leB_same _) (lehp_nil _ _)) rfl)
  replace hc57 := of_decide_eq_false hc57
  simp only [Int.not_lt] at hc57
  refine vc_skip ?_
  refine vc_rseq mixed ?_
  refine g_val (s_move rfl rfl) rfl ?_
  refine g_val (s_move rfl rfl) rfl ?_
  refine g_val (s_nilCheck rfl rfl rfl) rfl ?_
  refine g_val (s_field rfl rfl rfl rfl) rfl ?_
  refine g_val (s_load rfl rfl rfl rfl) rfl ?_
  refine g_val (s_move rfl rfl) rfl ?_
  refine g_val (s_add rfl rfl rfl (by simp only [inI, kMin, kMax]; omega)) rfl ?_
  refine g_val (s_slice (some (.i64, (i : Int) + 1)) none rfl rfl trivial rfl (by simp; omega) (by simp) (by simp [optN]; omega)) rfl ?_
  refine g_val (s_nilCheck rfl rfl rfl) rfl ?_
  refine g_val (s_field rfl rfl rfl rfl) rfl ?_
  refine g_sto (s_store rfl rfl rfl rfl rfl rfl) rfl ?_
  refine g_nil ?_
  refine vc_rseq mixed ?_
  refine g_val (s_move rfl rfl) rfl ?_
  refine g_val (s_assign rfl rfl) rfl ?_
  refine g_nil ?_
  rw [show numR b 0 0 most = (numStep n i x, b.drop (i + 1), 0) from hs2.symm.trans (by (repeat' split) <;> first | rfl | (exfalso; omega) | (exfalso; simp only [numStep] at *; omega))]; exact vc_ret (ret_hand [] [] _ (.cons (.tmp rfl) .nil) trivial (.same _) (lehp_cons rfl (leB_box (leL_cons (LeV.tt (by simp [optN, bytesT, take_map_len, List.map_drop])) (leL_cons (LeV.tt (by rw [hc12])) leL_nil))) (lehp_nil _ _)) rfl)
  rw [← hg49]; replace hg49 := hg49.symm; replace hg49 := of_decide_eq_true hg49
  try simp only [List.length_map, ne_eq, Decidable.not_not, Int.not_lt, Int.not_le, ge_iff_le, gt_iff_lt, Bool.not_eq_true', Bool.not_eq_false', decide_eq_true_eq, decide_eq_false_iff_not] at hg49
  refine gq_val (s_move rfl rfl) rfl rfl rfl rfl ?_
  refine gq_val (s_eql rfl rfl rfl) rfl rfl rfl rfl ?_
  refine g_val (s_pickT rfl rfl rfl) rfl ?_
  refine g_nil ?_
  refine vc_cond rfl (fun hc52 => ?_) (fun hc52 => ?_)
  replace hc52 := of_decide_eq_true hc52
  refine vc_rseq mixed ?_
  refine g_val (s_move rfl rfl) rfl ?_
  refine g_cw (s_callH [] [] (c_Reader_fail b e 20) (evArgs_cons rfl (evArgs_cons rfl evArgs_nil)) ⟨rfl, trivial⟩ rfl (okVL_nil _) rfl rfl rfl) rfl ?_
  refine g_nil ?_
  refine vc_rseq mixed ?_
  refine g_val (s_assign rfl rfl) rfl ?_
  refine g_nil ?_
  rw [show numR b 0 0 most = (0, [], 20) from hs2.symm.trans (by (repeat' split) <;> first | rfl | (exfalso; omega) | (exfalso; simp only [numStep] at *; omega))]; exact vc_ret (ret_hand [] [] _ (.cons (.tmp rfl) .nil) trivial (.same _) (lehp_cons rfl (leB_same _) (lehp_nil _ _)) rfl)
  replace hc52 := of_decide_eq_false hc52
  refine vc_skip ?_
  refine vc_seq ?_
  refine vc_rseq mixed ?_
  refine g_val (s_move rfl rfl) rfl ?_
  refine g_val (s_move rfl rfl) rfl ?_
  refine g_val (s_gtr rfl rfl rfl) rfl ?_
  refine g_nil ?_
  refine vc_cond rfl (fun hc57 => ?_) (fun hc57 => ?_)
  replace hc57 := of_decide_eq_true hc57
  try simp only [List.length_map, ne_eq, Decidable.not_not, Int.not_lt, Int.not_le, ge_iff_le, gt_iff_lt, Bool.not_eq_true', Bool.not_eq_false', decide_eq_true_eq, decide_eq_false_iff_not] at hc57
  refine vc_rseq mixed ?_
  refine g_val (s_move rfl rfl) rfl ?_
  refine g_cw (s_callH [] [] (c_Reader_fail b e 22) (evArgs_cons rfl (evArgs_cons rfl evArgs_nil)) ⟨rfl, trivial⟩ rfl (okVL_nil _) rfl rfl rfl) rfl ?_
  refine g_nil ?_
  refine vc_rseq mixed ?_
  refine g_val (s_assign rfl rfl) rfl ?_
  refine g_nil ?_
  rw [show numR b 0 0 most = (0, [], 22) from hs2.symm.trans (by (repeat' split) <;> first | rfl | (exfalso; omega) | (exfalso; simp only [numStep] at *; omega))]; exact vc_ret (ret_hand [] [] _ (.cons (.tmp rfl) .nil) trivial (.same _) (lehp_cons rfl (leB_same _) (lehp_nil _ _)) rfl)
  replace hc57 := of_decide_eq_false hc57
  simp only [Int.not_lt] at hc57
  refine vc_skip ?_
  refine vc_rseq mixed ?_
  refine g_val (s_move rfl rfl) rfl ?_
  refine g_val (s_move rfl rfl) rfl ?_
  refine g_val (s_nilCheck rfl rfl rfl) rfl ?_
  refine g_val (s_field rfl rfl rfl rfl) rfl ?_
  refine g_val (s_load rfl rfl rfl rfl) rfl ?_
  refine g_val (s_move rfl rfl) rfl ?_
  refine g_val (s_add rfl rfl rfl (by simp only [inI, kMin, kMax]; omega)) rfl ?_
  refine g_val (s_slice (some (.i64, (i : Int) + 1)) none rfl rfl trivial rfl (by simp; omega) (by simp) (by simp [optN]; omega)) rfl ?_
  refine g_val (s_nilCheck rfl rfl rfl) rfl ?_
  refine g_val (s_field rfl rfl rfl rfl) rfl ?_
  refine g_sto (s_store rfl rfl rfl rfl rfl rfl) rfl ?_
  refine g_nil ?_
  refine vc_rseq mixed ?_
  refine g_val (s_move rfl rfl) rfl ?_
  refine g_val (s_assign rfl rfl) rfl ?_
  refine g_nil ?_
  rw [show numR b 0 0 most = (numStep n i x, b.drop (i + 1), 0) from hs2.symm.trans (by (repeat' split) <;> first | rfl | (exfalso; omega) | (exfalso; simp only [numStep] at *; omega))]; exact vc_ret (ret_hand [] [] _ (.cons (.tmp rfl) .nil) trivial (.same _) (lehp_cons rfl (leB_box (leL_cons (LeV.tt (by simp [optN, bytesT, take_map_len, List.map_drop])) (leL_cons (LeV.tt (by rw [hc12])) leL_nil))) (lehp_nil _ _)) rfl)
  replace hc46 := of_decide_eq_false hc46
  simp only [Int.not_lt] at hc46
  refine vc_skip ?_
  refine vc_region mixed ?_
  refine g_val (s_move rfl rfl) rfl ?_
  refine g_val (s_add rfl rfl rfl (by simp only [inI, kMin, kMax]; omega)) rfl ?_
  refine g_val (s_assign rfl rfl) rfl ?_
  refine g_nil ?_
  exact ⟨(i + 1, numStep n i x), ⟨by omega, by rw [← hs2]; (repeat' split) <;> first | rfl | (exfalso; omega)⟩, by simp only; omega, (leE_same (by repeat (first | exact letm_nil _ _ | refine letm_cons rfl ?_ ?_ | exact .same _ | exact .nl (by decide) (by decide) | exact .nn | exact .id' rfl | exact .id' (by simp; done))) (by repeat (first | exact lehp_nil _ _ | refine lehp_cons rfl ?_ ?_ | exact leB_same _ | exact leB_row (by first | rfl | (simp; done)) | exact leB_obj (by simp; done) | refine leB_box ?_ | exact leL_nil | refine leL_cons ?_ ?_ | exact .same _ | exact .nl (by decide) (by decide) | exact .nn | exact .id' rfl | exact .id' (by simp; done))) rfl)⟩
  rw [← hg31]; replace hg31 := hg31.symm; replace hg31 := of_decide_eq_true hg31
  try simp only [List.length_map, ne_eq, Decidable.not_not, Int.not_lt, Int.not_le, ge_iff_le, gt_iff_lt, Bool.not_eq_true', Bool.not_eq_false', decide_eq_true_eq, decide_eq_false_iff_not] at hg31
  refine gq_val (s_move rfl rfl) rfl rfl rfl rfl ?_
  refine gq_val (s_gtr rfl rfl rfl) rfl rfl rfl rfl ?_
  refine g_val (s_pickT rfl rfl rfl) rfl ?_
  refine g_nil ?_
  refine vc_cond rfl (fun hc34 => ?_) (fun hc34 => ?_)
  replace hc34 := of_decide_eq_true hc34
  refine vc_rseq mixed ?_
  refine g_val (s_move rfl rfl) rfl ?_
  refine g_cw (s_callH [] [] (c_Reader_fail b e 20) (evArgs_cons rfl (evArgs_cons rfl evArgs_nil)) ⟨rfl, trivial⟩ rfl (okVL_nil _) rfl rfl rfl) rfl ?_
  refine g_nil ?_
  refine vc_rseq mixed ?_
  refine g_val (s_assign rfl rfl) rfl ?_
  refine g_nil ?_
  rw [show numR b 0 0 most = (0, [], 20) from hs2.symm.trans (by (repeat' split) <;> first | rfl | (exfalso; omega) | (exfalso; simp only [numStep] at *; omega))]; exact vc_ret (ret_hand [] [] _ (.cons (.tmp rfl) .nil) trivial (.same _) (lehp_cons rfl (leB_same _) (lehp_nil _ _)) rfl)
  replace hc34 := of_decide_eq_false hc34
  simp only [Int.not_lt] at hc34
  refine vc_skip ?_
  refine vc_rseq mixed ?_
  refine g_val (s_move rfl rfl) rfl ?_
  refine g_val (s_move rfl rfl) rfl ?_
  refine g_val (s_andB rfl rfl rfl) rfl ?_
  refine g_val (s_convW rfl rfl) rfl ?_
  refine g_val (s_move rfl rfl) rfl ?_
  refine g_val (s_mul rfl rfl rfl (by simp only [inI, kMin, kMax]; omega)) rfl ?_
  refine g_val (s_shlB rfl rfl rfl (by omega)) rfl ?_
  refine g_val (s_orB rfl rfl rfl) rfl ?_
  refine g_val (s_assign rfl rfl) rfl ?_
  refine g_nil ?_
  refine vc_rseq mixed ?_
  refine g_val (s_move rfl rfl) rfl ?_
  refine g_val (s_lss rfl rfl rfl) rfl ?_
  refine g_nil ?_
  refine vc_cond rfl (fun hc46 => ?_) (fun hc46 => ?_)
  replace hc46 := of_decide_eq_true hc46
  refine vc_seq ?_
  refine vc_rseq mixed ?_
  refine g_val (s_move rfl rfl) rfl ?_
  refine g_val (s_gtr rfl rfl rfl) rfl ?_
  refine g_val (s_move rfl rfl) rfl ?_
  refine g_probe (j := 49) rfl (fun c hg49 => ?_)
  cases c
  rw [← hg49]; replace hg49 := hg49.symm; replace hg49 := of_decide_eq_false hg49
  simp only [Int.not_lt] at hg49
  refine gn_val rfl rfl rfl rfl rfl rfl (by decide) ?_
  refine gn_val rfl rfl rfl rfl rfl rfl (by decide) ?_
  refine g_val (s_pickF rfl rfl rfl) rfl ?_
  refine g_nil ?_
  refine vc_cond rfl (fun h => by cases h) (fun _ => ?_)
  refine vc_skip ?_
  refine vc_seq ?_
  refine vc_rseq mixed ?_
  refine g_val (s_move rfl rfl) rfl ?_
  refine g_val (s_move rfl rfl) rfl ?_
  refine g_val (s_gtr rfl rfl rfl) rfl ?_
  refine g_nil ?_
  refine vc_cond rfl (fun hc57 => ?_) (fun hc57 => ?_)
  replace hc57 := of_decide_eq_true hc57
  try simp only [List.length_map, ne_eq, Decidable.not_not, Int.not_lt, Int.not_le, ge_iff_le, gt_iff_lt, Bool.not_eq_true', Bool.not_eq_false', decide_eq_true_eq, decide_eq_false_iff_not] at hc57
  refine vc_rseq mixed ?_
  refine g_val (s_move rfl rfl) rfl ?_
  refine g_cw (s_callH [] [] (c_Reader_fail b e 22) (evArgs_cons rfl (evArgs_cons rfl evArgs_nil)) ⟨rfl, trivial⟩ rfl (okVL_nil _) rfl rfl rfl) rfl ?_
  refine g_nil ?_
  refine vc_rseq mixed ?_
  refine g_val (s_assign rfl rfl) rfl ?_
  refine g_nil ?_
  rw [show numR b 0 0 most = (0, [], 22) from hs2.symm.trans (by (repeat' split) <;> first | rfl | (exfalso; omega) | (exfalso; simp only [numStep] at *; omega))]; exact vc_ret (ret_hand [] [] _ (.cons (.tmp rfl) .nil) trivial (.same _) (lehp_cons rfl (leB_same _) (lehp_nil _ _)) rfl)
  replace hc57 := of_decide_eq_false hc57
  simp only [Int.not_lt] at hc57
  refine vc_skip ?_
  refine vc_rseq mixed ?_
  refine g_val (s_move rfl rfl) rfl ?_
  refine g_val (s_move rfl rfl) rfl ?_
  refine g_val (s_nilCheck rfl rfl rfl) rfl ?_
  refine g_val (s_field rfl rfl rfl rfl) rfl ?_
  refine g_val (s_load rfl rfl rfl rfl) rfl ?_
  refine g_val (s_move rfl rfl) rfl ?_
  refine g_val (s_add rfl rfl rfl (by simp only [inI, kMin, kMax]; omega)) rfl ?_
  refine g_val (s_slice (some (.i64, (i : Int) + 1)) none rfl rfl trivial rfl (by simp; omega) (by simp) (by simp [optN]; omega)) rfl ?_
  refine g_val (s_nilCheck rfl rfl rfl) rfl ?_
  refine g_val (s_field rfl rfl rfl rfl) rfl ?_
  refine g_sto (s_store rfl rfl rfl rfl rfl rfl) rfl ?_
  refine g_nil ?_
  refine vc_rseq mixed ?_
  refine g_val (s_move rfl rfl) rfl ?_
  refine g_val (s_assign rfl rfl) rfl ?_
  refine g_nil ?_
  rw [show numR b 0 0 most = (numStep n i x, b.drop (i + 1), 0) from hs2.symm.trans (by (repeat' split) <;> first | rfl | (exfalso; omega) | (exfalso; simp only [numStep] at *; omega))]; exact vc_ret (ret_hand [] [] _ (.cons (.tmp rfl) .nil) trivial (.same _) (lehp_cons rfl (leB_box (leL_cons (LeV.tt (by simp [optN, bytesT, take_map_len, List.map_drop])) (leL_cons (LeV.tt (by rw [hc12])) leL_nil))) (lehp_nil _ _)) rfl)
  rw [← hg49]; replace hg49 := hg49.symm; replace hg49 := of_decide_eq_true hg49
  try simp only [List.length_map, ne_eq, Decidable.not_not, Int.not_lt, Int.not_le, ge_iff_le, gt_iff_lt, Bool.not_eq_true', Bool.not_eq_false', decide_eq_true_eq, decide_eq_false_iff_not] at hg49
  refine gq_val (s_move rfl rfl) rfl rfl rfl rfl ?_
  refine gq_val (s_eql rfl rfl rfl) rfl rfl rfl rfl ?_
  refine g_val (s_pickT rfl rfl rfl) rfl ?_
  refine g_nil ?_
  refine vc_cond rfl (fun hc52 => ?_) (fun hc52 => ?_)
  replace hc52 := of_decide_eq_true hc52
  refine vc_rseq mixed ?_
  refine g_val (s_move rfl rfl) rfl ?_
  refine g_cw (s_callH [] [] (c_Reader_fail b e 20) (evArgs_cons rfl (evArgs_cons rfl evArgs_nil)) ⟨rfl, trivial⟩ rfl (okVL_nil _) rfl rfl rfl) rfl ?_
  refine g_nil ?_
  refine vc_rseq mixed ?_
  refine g_val (s_assign rfl rfl) rfl ?_
  refine g_nil ?_
  rw [show numR b 0 0 most = (0, [], 20) from hs2.symm.trans (by (repeat' split) <;> first | rfl | (exfalso; omega) | (exfalso; simp only [numStep] at *; omega))]; exact vc_ret (ret_hand [] [] _ (.cons (.tmp rfl) .nil) trivial (.same _) (lehp_cons rfl (leB_same _) (lehp_nil _ _)) rfl)
  replace hc52 := of_decide_eq_false hc52
  refine vc_skip ?_
  refine vc_seq ?_
  refine vc_rseq mixed ?_
  refine g_val (s_move rfl rfl) rfl ?_
  refine g_val (s_move rfl rfl) rfl ?_
  refine g_val (s_gtr rfl rfl rfl) rfl ?_
  refine g_nil ?_
  refine vc_cond rfl (fun hc57 => ?_) (fun hc57 => ?_)
  replace hc57 := of_decide_eq_true hc57
  try simp only [List.length_map, ne_eq, Decidable.not_not, Int.not_lt, Int.not_le, ge_iff_le, gt_iff_lt, Bool.not_eq_true', Bool.not_eq_false', decide_eq_true_eq, decide_eq_false_iff_not] at hc57
  refine vc_rseq mixed ?_
  refine g_val (s_move rfl rfl) rfl ?_
  refine g_cw (s_callH [] [] (c_Reader_fail b e 22) (evArgs_cons rfl (evArgs_cons rfl evArgs_nil)) ⟨rfl, trivial⟩ rfl (okVL_nil _) rfl rfl rfl) rfl ?_
  refine g_nil ?_
  refine vc_rseq mixed ?_
  refine g_val (s_assign rfl rfl) rfl ?_
  refine g_nil ?_
  rw [show numR b 0 0 most = (0, [], 22) from hs2.symm.trans (by (repeat' split) <;> first | rfl | (exfalso; omega) | (exfalso; simp only [numStep] at *; omega))]; exact vc_ret (ret_hand [] [] _ (.cons (.tmp rfl) .nil) trivial (.same _) (lehp_cons rfl (leB_same _) (lehp_nil _ _)) rfl)
  replace hc57 := of_decide_eq_false hc57
  simp only [Int.not_lt] at hc57
  refine vc_skip ?_
  refine vc_rseq mixed ?_
  refine g_val (s_move rfl rfl) rfl ?_
  refine g_val (s_move rfl rfl) rfl ?_
  refine g_val (s_nilCheck rfl rfl rfl) rfl ?_
  refine g_val (s_field rfl rfl rfl rfl) rfl ?_
  refine g_val (s_load rfl rfl rfl rfl) rfl ?_
  refine g_val (s_move rfl rfl) rfl ?_
  refine g_val (s_add rfl rfl rfl (by simp only [inI, kMin, kMax]; omega)) rfl ?_
  refine g_val (s_slice (some (.i64, (i : Int) + 1)) none rfl rfl trivial rfl (by simp; omega) (by simp) (by simp [optN]; omega)) rfl ?_
  refine g_val (s_nilCheck rfl rfl rfl) rfl ?_
  refine g_val (s_field rfl rfl rfl rfl) rfl ?_
  refine g_sto (s_store rfl rfl rfl rfl rfl rfl) rfl ?_
  refine g_nil ?_
  refine vc_rseq mixed ?_
  refine g_val (s_move rfl rfl) rfl ?_
  refine g_val (s_assign rfl rfl) rfl ?_
  refine g_nil ?_
  rw [show numR b 0 0 most = (numStep n i x, b.drop (i + 1), 0) from hs2.symm.trans (by (repeat' split) <;> first | rfl | (exfalso; omega) | (exfalso; simp only [numStep] at *; omega))]; exact vc_ret (ret_hand [] [] _ (.cons (.tmp rfl) .nil) trivial (.same _) (lehp_cons rfl (leB_box (leL_cons (LeV.tt (by simp [optN, bytesT, take_map_len, List.map_drop])) (leL_cons (LeV.tt (by rw [hc12])) leL_nil))) (lehp_nil _ _)) rfl)
  replace hc46 := of_decide_eq_false hc46
  simp only [Int.not_lt] at hc46
  refine vc_skip ?_
  refine vc_region mixed ?_
  refine g_val (s_move rfl rfl) rfl ?_
  refine g_val (s_add rfl rfl rfl (by simp only [inI, kMin, kMax]; omega)) rfl ?_
  refine g_val (s_assign rfl rfl) rfl ?_
  refine g_nil ?_
  exact ⟨(i + 1, numStep n i x), ⟨by omega, by rw [← hs2]; (repeat' split) <;> first | rfl | (exfalso; omega)⟩, by simp only; omega, (leE_same (by repeat (first | exact letm_nil _ _ | refine letm_cons rfl ?_ ?_ | exact .same _ | exact .nl (by decide) (by decide) | exact .nn | exact .id' rfl | exact .id' (by simp; done))) (by repeat (first | exact lehp_nil _ _ | refine lehp_cons rfl ?_ ?_ | exact leB_same _ | exact leB_row (by first | rfl | (simp; done)) | exact leB_obj (by simp; done) | refine leB_box ?_ | exact leL_nil | refine leL_cons ?_ ?_ | exact .same _ | exact .nl (by decide) (by decide) | exact .nn | exact .id' rfl | exact .id' (by simp; done))) rfl)⟩
  replace hc19 := of_decide_eq_false hc19
  simp only [List.length_map, Int.not_lt] at hc19
  rw [List.drop_of_length_le (by omega)] at hs2
  refine vc_exit ?_
  refine vc_rseq mixed ?_
  refine g_val (s_move rfl rfl) rfl ?_
  refine g_cw (s_callH [] [] (c_Reader_fail b e 21) (evArgs_cons rfl (evArgs_cons rfl evArgs_nil)) ⟨rfl, trivial⟩ rfl (okVL_nil _) rfl rfl rfl) rfl ?_
  refine g_nil ?_
  refine vc_rseq mixed ?_
  refine g_val (s_assign rfl rfl) rfl ?_
  refine g_nil ?_
  rw [show numR b 0 0 most = (0, [], 21) from hs2.symm]; exact vc_ret (ret_hand [] [] _ (.cons (.tmp rfl) .nil) trivial (.same _) (lehp_cons rfl (leB_same _) (lehp_nil _ _)) rfl)

end Go.Eng

set_option maxHeartbeats 4000000
namespace Go.Eng
open Go.Proofs

theorem numR_len : ∀ (b : List Int) (i : Nat) (n most : Int), (numR b i n most).2.1.length ≤ b.length
  | [], i, n, most => by simp [numR]
  | c :: r, i, n, most => by
    have := numR_len r (i + 1) (numStep n i c) most
    simp only [numR]
    (repeat' split) <;> simp <;> omega
theorem numF_len (b : List Int) (e most : Int) : (numF b e most).2.1.length ≤ b.length := by
  unfold numF
  split
  exact Nat.le_refl _
  exact numR_len ..
theorem numStep_nn (n : Int) (i : Nat) (c : Int) : 0 ≤ numStep n i c := by
  have := (wrap_ok .u64 ((BitVec.ofInt 64 n ||| BitVec.ofInt 64 (shlI .u64 (IntKind.u64.wrap (andI .u8 c 127)) (7 * i))).toNat : Int)).1
  have h2 : IntKind.u64.min = 0 := by decide
  rw [h2] at this
  exact this
theorem numR_nn : ∀ (b : List Int) (i : Nat) (n most : Int), 0 ≤ (numR b i n most).1
  | [], i, n, most => by simp [numR]
  | c :: r, i, n, most => by
    have := numR_nn r (i + 1) (numStep n i c) most
    have h2 := numStep_nn n i c
    simp only [numR]
    (repeat' split) <;> first | exact Int.le_refl _ | assumption
theorem numF_nn (b : List Int) (e most : Int) : 0 ≤ (numF b e most).1 := by
  unfold numF
  split
  exact Int.le_refl _
  exact numR_nn ..

def lumpR (b : List Int) (e most : Int) : List Int × List Int × Int :=
  if (numF b e (max most 0)).2.2 ≠ 0 then ([], (numF b e (max most 0)).2.1, (numF b e (max most 0)).2.2)
  else if ((numF b e (max most 0)).2.1.length : Int) < (numF b e (max most 0)).1 then ([], [], 21)
  else ((numF b e (max most 0)).2.1.take (numF b e (max most 0)).1.toNat, (numF b e (max most 0)).2.1.drop (numF b e (max most 0)).1.toNat, (numF b e (max most 0)).2.2)

theorem c_Reader_Lump (b : List Int) (e most : Int) (hb : b.length ≤ 1000000000) : Con Try.prog 74 [.ref 1000 0, AI .i64 most] [(1000, .box (rdrA b e))] (.t (bytesT (lumpR b e most).1)) [(1000, .box (rdrA (lumpR b e most).2.1 (lumpR b e most).2.2))] := by
  refine con_intro [1000] [1000] Try.func74 rfl Try.ntmps74 Try.results74 rfl rfl ?_
  intro E
  refine vc_int (t := 1) rfl fun hm => ?_
  simp only [inI, kMin, kMax] at hm
  have hlen := numF_len b e (max most 0)
  have hnn := numF_nn b e (max most 0)
  unfold lumpR
  generalize hr : numF b e (max most 0) = r at *
  obtain ⟨n, b1, e1⟩ := r
  simp only at hlen hnn ⊢
  have hc : Con Try.prog 64 [.ref 1000 0, AI .u64 (max most 0)] [(1000, .box (rdrA b e))] (AI .u64 n) [(1000, .box (rdrA b1 e1))] := by
    have := c_Reader_Num b e (max most 0) hb
    rw [hr] at this
    exact this
  refine vc_rseq mixed ?_
  refine g_val (s_assign rfl rfl) rfl ?_
  refine g_nil ?_
  refine vc_rseq mixed ?_
  refine g_val (s_move rfl rfl) rfl ?_
  refine g_val (s_move rfl rfl) rfl ?_
  refine g_val (s_max rfl rfl rfl) rfl ?_
  refine g_val (s_conv rfl rfl (by simp only [inI, kMin, kMax]; omega)) rfl ?_
  refine g_cw (s_callH [] [] hc (evArgs_cons rfl (evArgs_cons rfl evArgs_nil)) ⟨rfl, trivial⟩ rfl (okVL_nil _) rfl rfl rfl) rfl ?_
  refine g_val (s_assign rfl rfl) rfl ?_
  refine g_nil ?_
  refine vc_seq ?_
  refine vc_rseq mixed ?_
  refine g_val (s_move rfl rfl) rfl ?_
  refine g_val (s_nilCheck rfl rfl rfl) rfl ?_
  refine g_val (s_field rfl rfl rfl rfl) rfl ?_
  refine g_val (s_load rfl rfl rfl rfl) rfl ?_
  refine g_val (s_neq rfl rfl rfl) rfl ?_
  refine g_nil ?_
  refine vc_cond rfl (fun hc16 => ?_) (fun hc16 => ?_)
  replace hc16 := of_decide_eq_true hc16
  simp only [ne_eq] at hc16
  rw [if_pos hc16]
  refine vc_rseq mixed ?_
  refine g_val (s_assign rfl rfl) rfl ?_
  refine g_nil ?_
  exact vc_ret (ret_hand [] [] _ (.cons (.tmp rfl) .nil) trivial (.nl (by decide) (by decide)) (lehp_cons rfl (leB_same _) (lehp_nil _ _)) rfl)
  replace hc16 := of_decide_eq_false hc16
  simp only [ne_eq, Decidable.not_not] at hc16
  refine vc_skip ?_
  refine vc_seq ?_
  refine vc_rseq mixed ?_
  refine g_val (s_move rfl rfl) rfl ?_
  refine g_val (s_move rfl rfl) rfl ?_
  refine g_val (s_nilCheck rfl rfl rfl) rfl ?_
  refine g_val (s_field rfl rfl rfl rfl) rfl ?_
  refine g_val (s_load rfl rfl rfl rfl) rfl ?_
  refine g_val (s_len rfl rfl) rfl ?_
  refine g_val (s_conv rfl rfl (by simp only [inI, kMin, kMax, List.length_map]; omega)) rfl ?_
  refine g_val (s_gtr rfl rfl rfl) rfl ?_
  refine g_nil ?_
  refine vc_cond rfl (fun hc24 => ?_) (fun hc24 => ?_)
  replace hc24 := of_decide_eq_true hc24
  simp only [List.length_map] at hc24
  rw [if_neg (by simpa using hc16), if_pos hc24]
  refine vc_rseq mixed ?_
  refine g_val (s_move rfl rfl) rfl ?_
  refine g_cw (s_callH [] [] (c_Reader_fail b1 e1 21) (evArgs_cons rfl (evArgs_cons rfl evArgs_nil)) ⟨rfl, trivial⟩ rfl (okVL_nil _) rfl rfl rfl) rfl ?_
  refine g_nil ?_
  refine vc_rseq mixed ?_
  refine g_val (s_assign rfl rfl) rfl ?_
  refine g_nil ?_
  exact vc_ret (ret_hand [] [] _ (.cons (.tmp rfl) .nil) trivial (.nl (by decide) (by decide)) (lehp_cons rfl (leB_same _) (lehp_nil _ _)) rfl)
  replace hc24 := of_decide_eq_false hc24
  simp only [List.length_map, Int.not_lt] at hc24
  refine vc_skip ?_
  rw [if_neg (by simpa using hc16), if_neg (by omega)]
  refine vc_rseq mixed ?_
  refine g_val (s_move rfl rfl) rfl ?_
  refine g_val (s_nilCheck rfl rfl rfl) rfl ?_
  refine g_val (s_field rfl rfl rfl rfl) rfl ?_
  refine g_val (s_load rfl rfl rfl rfl) rfl ?_
  refine g_val (s_move rfl rfl) rfl ?_
  refine g_val (s_slice none (some (.u64, n)) rfl trivial rfl rfl (by simp) (by simp; omega) (by simp [optN]; omega)) rfl ?_
  refine g_val (s_assign rfl rfl) rfl ?_
  refine g_nil ?_
  refine vc_rseq mixed ?_
  refine g_val (s_move rfl rfl) rfl ?_
  refine g_val (s_move rfl rfl) rfl ?_
  refine g_val (s_nilCheck rfl rfl rfl) rfl ?_
  refine g_val (s_field rfl rfl rfl rfl) rfl ?_
  refine g_val (s_load rfl rfl rfl rfl) rfl ?_
  refine g_val (s_move rfl rfl) rfl ?_
  refine g_val (s_slice (some (.u64, n)) none rfl rfl trivial rfl (by simp; omega) (by simp) (by simp [optN]; omega)) rfl ?_
  refine g_val (s_nilCheck rfl rfl rfl) rfl ?_
  refine g_val (s_field rfl rfl rfl rfl) rfl ?_
  refine g_sto (s_store rfl rfl rfl rfl rfl rfl) rfl ?_
  refine g_nil ?_
  refine vc_rseq mixed ?_
  refine g_val (s_move rfl rfl) rfl ?_
  refine g_val (s_assign rfl rfl) rfl ?_
  refine g_nil ?_
  exact vc_ret (ret_hand [] [] _ (.cons (.tmp rfl) .nil) trivial (.eq trivial (by simp [single, optN, bytesT, AV.view, AV.ren, List.map_take])) (lehp_cons rfl (leB_box (leL_cons (LeV.tt (by simp [optN, bytesT, take_map_len, List.map_drop])) (leL_cons (LeV.tt rfl) leL_nil))) (lehp_nil _ _)) rfl)

end Go.Eng

set_option maxHeartbeats 4000000
namespace Go.Eng
open Go.Proofs

/-- So many numbers, as far as there is no error. -/
def takeG : Nat → List Int → Int → List Int × List Int × Int
  | 0, b, e => ([], b, e)
  | k + 1, b, e => if e ≠ 0 then ([], b, e) else
    let r := numF b e 8
    let s := takeG k r.2.1 r.2.2
    (r.1 :: s.1, s.2)
def takePlaceR (b : List Int) (e : Int) : List Int × List Int × Int :=
  takeG (numF b e 256).1.toNat (numF b e 256).2.1 (numF b e 256).2.2

theorem numR_most : ∀ (b : List Int) (i : Nat) (n most : Int), 0 ≤ most → (numR b i n most).1 ≤ most
  | [], i, n, most, h => by simpa [numR] using h
  | c :: r, i, n, most, h => by
    have := numR_most r (i + 1) (numStep n i c) most h
    simp only [numR]
    (repeat' split) <;> first | exact h | assumption | (simp only; omega)
theorem numF_most (b : List Int) (e most : Int) (h : 0 ≤ most) : (numF b e most).1 ≤ most := by
  unfold numF
  split
  exact h
  exact numR_most b 0 0 most h

structure TakeJ (n : Nat) (B : Nat) (res : List Int × List Int × Int) (i : Nat) (acc b : List Int) (e : Int) : Prop where
  le : i ≤ n
  len : acc.length = i
  bl : b.length ≤ B
  fst : acc ++ (takeG (n - i) b e).1 = res.1
  snd : (takeG (n - i) b e).2 = res.2

theorem TakeJ.step {n B : Nat} {res : List Int × List Int × Int} {i : Nat} {acc b : List Int} (h : TakeJ n B res i acc b 0) (hi : i < n) : TakeJ n B res (i + 1) (acc ++ [(numF b 0 8).1]) (numF b 0 8).2.1 (numF b 0 8).2.2 := by
  have h1 := h.fst
  have h2 := h.snd
  rw [show n - i = (n - (i + 1)) + 1 by omega] at h1 h2
  simp only [takeG, ne_eq, not_true_eq_false, if_false] at h1 h2
  exact ⟨hi, by simp [h.len], Nat.le_trans (numF_len b 0 8) h.bl, by simpa using h1, h2⟩
theorem TakeJ.fin {n B : Nat} {res : List Int × List Int × Int} {i : Nat} {acc b : List Int} {e : Int} (h : TakeJ n B res i acc b e) (hi : n ≤ i ∨ e ≠ 0) : res = (acc, b, e) := by
  have h1 := h.fst
  have h2 := h.snd
  have : takeG (n - i) b e = ([], b, e) := by
    rcases hi with hi | hi
    rw [show n - i = 0 by omega]; rfl
    cases hk : n - i with
    | zero => rfl
    | succ k => simp only [takeG, if_pos hi]
  rw [this] at h1 h2
  simp only [List.append_nil] at h1
  obtain ⟨r1, r2⟩ := res
  simp only at h1 h2
  rw [h1, h2]

theorem c_mementoref16_takePlace_own (b : List Int) (e : Int) (hb : b.length ≤ 1000000000) : Con Try.prog 65 [.ref 1000 0] [(1000, .box (rdrA b e))] (.rows 0 1 0 (takePlaceR b e).1.length) [(0, .row 1 8 ((takePlaceR b e).1.map intC)), (1000, .box (rdrA (takePlaceR b e).2.1 (takePlaceR b e).2.2))] := by
  refine con_intro [1000] [0, 1000] Try.func65 rfl Try.ntmps65 Try.results65 rfl rfl ?_
  intro E
  have hlen := numF_len b e 256
  have hnn := numF_nn b e 256
  have hmost := numF_most b e 256 (by omega)
  have hinit : TakeJ (numF b e 256).1.toNat b.length (takePlaceR b e) 0 [] (numF b e 256).2.1 (numF b e 256).2.2 := ⟨Nat.zero_le _, rfl, hlen, rfl, rfl⟩
  generalize hr : numF b e 256 = r at *
  obtain ⟨n, b1, e1⟩ := r
  simp only at hlen hnn hmost hinit
  have hc : Con Try.prog 64 [.ref 1000 0, AI .u64 256] [(1000, .box (rdrA b e))] (AI .u64 n) [(1000, .box (rdrA b1 e1))] := by
    have := c_Reader_Num b e 256 hb
    rw [hr] at this
    exact this
  generalize hres : takePlaceR b e = res at *
  refine vc_rseq mixed ?_
  refine g_val (s_assign rfl rfl) rfl ?_
  refine g_nil ?_
  refine vc_rseq mixed ?_
  refine g_val (s_assign rfl rfl) rfl ?_
  refine g_nil ?_
  refine vc_ownnil (i := 3) 3 1 8 rfl rfl rfl ?_
  refine vc_rseq mixed ?_
  refine g_val (s_move rfl rfl) rfl ?_
  refine g_cw (s_callH [] [] hc (evArgs_cons rfl (evArgs_cons rfl evArgs_nil)) ⟨rfl, trivial⟩ rfl (okVL_nil _) rfl rfl rfl) rfl ?_
  refine g_val (s_assign rfl rfl) rfl ?_
  refine g_nil ?_
  refine vc_seq ?_
  refine vc_rseq mixed ?_
  refine g_val (s_assign rfl rfl) rfl ?_
  refine g_nil ?_
  refine vc_block ?_
  refine vc_while (α := Nat × List Int × List Int × Int) (fun s => ⟨[(0, .ref 1000 0), (3, .rows 3 1 0 s.2.1.length), (4, AI .u64 n), (5, AI .u64 s.1)], [(3, some (.row 1 8 (s.2.1.map intC))), (1000, some (.box (rdrA s.2.2.1 s.2.2.2)))], [3, 1000]⟩) (fun s => TakeJ n.toNat b.length res s.1 s.2.1 s.2.2.1 s.2.2.2) (fun s => n.toNat - s.1) (0, [], b1, e1) (leE_same (by repeat (first | exact letm_nil _ _ | refine letm_cons rfl ?_ ?_ | exact .same _ | exact .nl (by decide) (by decide) | exact .nn | exact .id' rfl | exact .id' (by simp; done))) (by repeat (first | exact lehp_nil _ _ | refine lehp_cons rfl ?_ ?_ | exact leB_same _ | exact leB_row (by first | rfl | (simp; done)) | exact leB_obj (by simp; done) | refine leB_box ?_ | exact leL_nil | refine leL_cons ?_ ?_ | exact .same _ | exact .nl (by decide) (by decide) | exact .nn | exact .id' rfl | exact .id' (by simp; done))) rfl) hinit (fun s hs => ?_)
  obtain ⟨i, acc, b2, e2⟩ := s
  simp only at hs
  have hs1 := hs.le
  have hs2 := hs.len
  have hs3 := hs.bl
  have hv1 := numF_nn b2 e2 8
  have hv2 := numF_most b2 e2 8 (by omega)
  refine vc_seq ?_
  refine vc_rseq mixed ?_
  refine g_val (s_move rfl rfl) rfl ?_
  refine g_val (s_move rfl rfl) rfl ?_
  refine g_val (s_lss rfl rfl rfl) rfl ?_
  refine g_val (s_move rfl rfl) rfl ?_
  refine g_probe (j := 11) rfl (fun c hg11 => ?_)
  cases c
  rw [← hg11]; replace hg11 := hg11.symm; replace hg11 := of_decide_eq_false hg11
  simp only [Int.not_lt] at hg11
  refine gn_val rfl rfl rfl rfl rfl rfl (by decide) ?_
  refine gn_val rfl rfl rfl rfl rfl rfl (by decide) ?_
  refine gn_val rfl rfl rfl rfl rfl rfl (by decide) ?_
  refine gn_val rfl rfl rfl rfl rfl rfl (by decide) ?_
  refine gn_val rfl rfl rfl rfl rfl rfl (by decide) ?_
  refine g_val (s_pickF rfl rfl rfl) rfl ?_
  refine g_nil ?_
  refine vc_cond rfl (fun h => by cases h) (fun _ => ?_)
  refine vc_exit ?_
  rw [hs.fin (by omega)]
  refine vc_rseq mixed ?_
  refine g_val (s_move rfl rfl) rfl ?_
  refine g_val (s_assign rfl rfl) rfl ?_
  refine g_nil ?_
  exact vc_ret (ret_hand [] [(0, 3)] _ (.cons (.tmp rfl) .nil) trivial (.eq (okV_nil _) rfl) (lehp_cons rfl (leB_row rfl) (lehp_cons rfl (leB_box (leL_cons (LeV.tt rfl) (leL_cons (LeV.tt rfl) leL_nil))) (lehp_nil _ _))) rfl)
  rw [← hg11]; replace hg11 := hg11.symm; replace hg11 := of_decide_eq_true hg11
  try simp only [List.length_map, ne_eq, Decidable.not_not, Int.not_lt, Int.not_le, ge_iff_le, gt_iff_lt, Bool.not_eq_true', Bool.not_eq_false', decide_eq_true_eq, decide_eq_false_iff_not] at hg11
  refine gq_val (s_move rfl rfl) rfl rfl rfl rfl ?_
  refine gq_val (s_nilCheck rfl rfl rfl) rfl rfl rfl rfl ?_
  refine gq_val (s_field rfl rfl rfl rfl) rfl rfl rfl rfl ?_
  refine gq_val (s_load rfl rfl rfl rfl) rfl rfl rfl rfl ?_
  refine gq_val (s_eql rfl rfl rfl) rfl rfl rfl rfl ?_
  refine g_val (s_pickT rfl rfl rfl) rfl ?_
  refine g_nil ?_
  refine vc_cond rfl (fun hc17 => ?_) (fun hc17 => ?_)
  replace hc17 := of_decide_eq_true hc17
  try simp only [List.length_map, ne_eq, Decidable.not_not, Int.not_lt, Int.not_le, ge_iff_le, gt_iff_lt, Bool.not_eq_true', Bool.not_eq_false', decide_eq_true_eq, decide_eq_false_iff_not] at hc17
  obtain rfl : e2 = 0 := hc17
  refine vc_skip ?_
  refine vc_seq ?_
  refine vc_block ?_
  refine vc_region mixed ?_
  refine g_val (s_move rfl rfl) rfl ?_
  refine g_val (s_move rfl rfl) rfl ?_
  refine g_cw (s_callH [] [] (c_Reader_Num b2 0 8 (by omega)) (evArgs_cons rfl (evArgs_cons rfl evArgs_nil)) ⟨rfl, trivial⟩ rfl (okVL_nil _) rfl rfl rfl) rfl ?_
  refine g_val (s_conv rfl rfl (by simp only [inI, kMin, kMax]; omega)) rfl ?_
  refine g_fz ((s_buildSlice 24 (evArgs_cons rfl evArgs_nil) rfl rfl rfl rfl).fzE rfl) rfl ?_
  refine g_app (s_append 25 rfl rfl rfl rfl rfl (by simp) rfl rfl (by (try simp only [List.length_cons, List.length_nil]); omega)) rfl ?_
  refine g_val (s_assign rfl rfl) rfl ?_
  refine g_nil ?_
  refine vc_region mixed ?_
  refine g_val (s_move rfl rfl) rfl ?_
  refine g_val (s_add rfl rfl rfl (by simp only [inI, kMin, kMax]; omega)) rfl ?_
  refine g_val (s_assign rfl rfl) rfl ?_
  refine g_nil ?_
  exact ⟨(i + 1, acc ++ [(numF b2 0 8).1], (numF b2 0 8).2.1, (numF b2 0 8).2.2), hs.step (by omega), by simp only; omega, by
  simp only [List.length_append, List.length_cons, List.length_nil]
  exact (leE_gen [] [(3, 25)] (by repeat (first | exact letm_nil _ _ | refine letm_cons rfl ?_ ?_ | exact LeV.tt rfl | exact .eq (okV_nil _) rfl | exact LeV.tt (by rw [List.take_of_length_le (by simp)]; simp [intC]) | exact .eq (okV_nil _) (by rw [List.take_of_length_le (by simp)]; simp [intC]))) (by repeat (first | exact lehp_nil _ _ | refine lehp_cons rfl ?_ ?_ | exact leB_row (by first | rfl | (rw [List.take_of_length_le (by simp)]; simp [intC])) | exact leB_obj (by rw [List.take_of_length_le (by simp)]; simp [intC]) | refine leB_box ?_ | exact leL_nil | refine leL_cons ?_ ?_ | exact LeV.tt rfl | exact .eq (okV_nil _) rfl | exact LeV.tt (by rw [List.take_of_length_le (by simp)]; simp [intC]) | exact .eq (okV_nil _) (by rw [List.take_of_length_le (by simp)]; simp [intC]))) trivial rfl)⟩
  replace hc17 := of_decide_eq_false hc17
  try simp only [List.length_map, ne_eq, Decidable.not_not, Int.not_lt, Int.not_le, ge_iff_le, gt_iff_lt, Bool.not_eq_true', Bool.not_eq_false', decide_eq_true_eq, decide_eq_false_iff_not] at hc17
  refine vc_exit ?_
  rw [hs.fin (by omega)]
  refine vc_rseq mixed ?_
  refine g_val (s_move rfl rfl) rfl ?_
  refine g_val (s_assign rfl rfl) rfl ?_
  refine g_nil ?_
  exact vc_ret (ret_hand [] [(0, 3)] _ (.cons (.tmp rfl) .nil) trivial (.eq (okV_nil _) rfl) (lehp_cons rfl (leB_row rfl) (lehp_cons rfl (leB_box (leL_cons (LeV.tt rfl) (leL_cons (LeV.tt rfl) leL_nil))) (lehp_nil _ _))) rfl)

end Go.Eng

set_option maxHeartbeats 4000000
namespace Go.Eng
open Go.Proofs

theorem lumpR_len (b : List Int) (e most : Int) : (lumpR b e most).2.1.length ≤ b.length ∧ (lumpR b e most).1.length ≤ b.length := by
  have := numF_len b e (max most 0)
  unfold lumpR
  (repeat' split) <;> simp <;> omega

def takeI : Nat → List Int → Int → List Item × List Int × Int
  | 0, b, e => ([], b, e)
  | k + 1, b, e => if e ≠ 0 then ([], b, e) else
    let r := numF b e 256
    let s := lumpR r.2.1 r.2.2 32
    let u := takeI k s.2.1 s.2.2
    (⟨r.1, s.1⟩ :: u.1, u.2)
def takeItemsR (b : List Int) (e : Int) : List Item × List Int × Int :=
  takeI (numF b e 8).1.toNat (numF b e 8).2.1 (numF b e 8).2.2

structure TakeK (n : Nat) (B : Nat) (res : List Item × List Int × Int) (i : Nat) (acc : List Item) (b : List Int) (e : Int) : Prop where
  le : i ≤ n
  len : acc.length = i
  bl : b.length ≤ B
  fst : acc ++ (takeI (n - i) b e).1 = res.1
  snd : (takeI (n - i) b e).2 = res.2

theorem TakeK.step {n B : Nat} {res : List Item × List Int × Int} {i : Nat} {acc : List Item} {b : List Int} (h : TakeK n B res i acc b 0) (hi : i < n) :
    TakeK n B res (i + 1) (acc ++ [⟨(numF b 0 256).1, (lumpR (numF b 0 256).2.1 (numF b 0 256).2.2 32).1⟩]) (lumpR (numF b 0 256).2.1 (numF b 0 256).2.2 32).2.1 (lumpR (numF b 0 256).2.1 (numF b 0 256).2.2 32).2.2 := by
  have h1 := h.fst
  have h2 := h.snd
  rw [show n - i = (n - (i + 1)) + 1 by omega] at h1 h2
  simp only [takeI, ne_eq, not_true_eq_false, if_false] at h1 h2
  exact ⟨hi, by simp [h.len], Nat.le_trans (Nat.le_trans (lumpR_len _ _ _).1 (numF_len b 0 256)) h.bl, by simpa using h1, h2⟩
theorem TakeK.fin {n B : Nat} {res : List Item × List Int × Int} {i : Nat} {acc : List Item} {b : List Int} {e : Int} (h : TakeK n B res i acc b e) (hi : n ≤ i ∨ e ≠ 0) : res = (acc, b, e) := by
  have h1 := h.fst
  have h2 := h.snd
  have : takeI (n - i) b e = ([], b, e) := by
    rcases hi with hi | hi
    rw [show n - i = 0 by omega]; rfl
    cases hk : n - i with
    | zero => rfl
    | succ k => simp only [takeI, if_pos hi]
  rw [this] at h1 h2
  simp only [List.append_nil] at h1
  obtain ⟨r1, r2⟩ := res
  simp only at h1 h2
  rw [h1, h2]

theorem c_mementoref13_TakeItems_own (b : List Int) (e : Int) (hb : b.length ≤ 1000000000) : Con Try.prog 66 [.ref 1000 0] [(1000, .box (rdrA b e))] (.rows 0 2 0 (takeItemsR b e).1.length) [(0, .row 2 32 ((takeItemsR b e).1.map itemC)), (1000, .box (rdrA (takeItemsR b e).2.1 (takeItemsR b e).2.2))] := by
  refine con_intro [1000] [0, 1000] Try.func66 rfl Try.ntmps66 Try.results66 rfl rfl ?_
  intro E
  have hlen := numF_len b e 8
  have hnn := numF_nn b e 8
  have hmost := numF_most b e 8 (by omega)
  have hinit : TakeK (numF b e 8).1.toNat b.length (takeItemsR b e) 0 [] (numF b e 8).2.1 (numF b e 8).2.2 := ⟨Nat.zero_le _, rfl, hlen, rfl, rfl⟩
  generalize hr : numF b e 8 = r at *
  obtain ⟨n, b1, e1⟩ := r
  simp only at hlen hnn hmost hinit
  have hc : Con Try.prog 64 [.ref 1000 0, AI .u64 8] [(1000, .box (rdrA b e))] (AI .u64 n) [(1000, .box (rdrA b1 e1))] := by
    have := c_Reader_Num b e 8 hb
    rw [hr] at this
    exact this
  generalize hres : takeItemsR b e = res at *
  refine vc_rseq mixed ?_
  refine g_val (s_assign rfl rfl) rfl ?_
  refine g_nil ?_
  refine vc_rseq mixed ?_
  refine g_val (s_assign rfl rfl) rfl ?_
  refine g_nil ?_
  refine vc_ownnil (i := 3) 3 2 32 rfl rfl rfl ?_
  refine vc_rseq mixed ?_
  refine g_val (s_move rfl rfl) rfl ?_
  refine g_cw (s_callH [] [] hc (evArgs_cons rfl (evArgs_cons rfl evArgs_nil)) ⟨rfl, trivial⟩ rfl (okVL_nil _) rfl rfl rfl) rfl ?_
  refine g_val (s_assign rfl rfl) rfl ?_
  refine g_nil ?_
  refine vc_seq ?_
  refine vc_rseq mixed ?_
  refine g_val (s_assign rfl rfl) rfl ?_
  refine g_nil ?_
  refine vc_block ?_
  refine vc_while (α := Nat × List Item × List Int × Int) (fun s => ⟨[(0, .ref 1000 0), (3, .rows 3 2 0 s.2.1.length), (4, AI .u64 n), (5, AI .u64 s.1)], [(3, some (.row 2 32 (s.2.1.map itemC))), (1000, some (.box (rdrA s.2.2.1 s.2.2.2)))], [3, 1000]⟩) (fun s => TakeK n.toNat b.length res s.1 s.2.1 s.2.2.1 s.2.2.2) (fun s => n.toNat - s.1) (0, [], b1, e1) (leE_same (by repeat (first | exact letm_nil _ _ | refine letm_cons rfl ?_ ?_ | exact .same _ | exact .nl (by decide) (by decide) | exact .nn | exact .id' rfl | exact .id' (by simp; done))) (by repeat (first | exact lehp_nil _ _ | refine lehp_cons rfl ?_ ?_ | exact leB_same _ | exact leB_row (by first | rfl | (simp; done)) | exact leB_obj (by simp; done) | refine leB_box ?_ | exact leL_nil | refine leL_cons ?_ ?_ | exact .same _ | exact .nl (by decide) (by decide) | exact .nn | exact .id' rfl | exact .id' (by simp; done))) rfl) hinit (fun s hs => ?_)
  obtain ⟨i, acc, b2, e2⟩ := s
  simp only at hs
  have hs1 := hs.le
  have hs2 := hs.len
  have hs3 := hs.bl
  refine vc_seq ?_
  refine vc_rseq mixed ?_
  refine g_val (s_move rfl rfl) rfl ?_
  refine g_val (s_move rfl rfl) rfl ?_
  refine g_val (s_lss rfl rfl rfl) rfl ?_
  refine g_val (s_move rfl rfl) rfl ?_
  refine g_probe (j := 12) rfl (fun c hg12 => ?_)
  cases c
  rw [← hg12]; replace hg12 := hg12.symm; replace hg12 := of_decide_eq_false hg12
  simp only [Int.not_lt] at hg12
  refine gn_val rfl rfl rfl rfl rfl rfl (by decide) ?_
  refine gn_val rfl rfl rfl rfl rfl rfl (by decide) ?_
  refine gn_val rfl rfl rfl rfl rfl rfl (by decide) ?_
  refine gn_val rfl rfl rfl rfl rfl rfl (by decide) ?_
  refine gn_val rfl rfl rfl rfl rfl rfl (by decide) ?_
  refine g_val (s_pickF rfl rfl rfl) rfl ?_
  refine g_nil ?_
  refine vc_cond rfl (fun h => by cases h) (fun _ => ?_)
  refine vc_exit ?_
  rw [hs.fin (by omega)]
  refine vc_rseq mixed ?_
  refine g_val (s_move rfl rfl) rfl ?_
  refine g_val (s_assign rfl rfl) rfl ?_
  refine g_nil ?_
  exact vc_ret (ret_hand [] [(0, 3)] _ (.cons (.tmp rfl) .nil) trivial (.eq (okV_nil _) rfl) (lehp_cons rfl (leB_row rfl) (lehp_cons rfl (leB_box (leL_cons (LeV.tt rfl) (leL_cons (LeV.tt rfl) leL_nil))) (lehp_nil _ _))) rfl)
  rw [← hg12]; replace hg12 := hg12.symm; replace hg12 := of_decide_eq_true hg12
  try simp only [List.length_map, ne_eq, Decidable.not_not, Int.not_lt, Int.not_le, ge_iff_le, gt_iff_lt, Bool.not_eq_true', Bool.not_eq_false', decide_eq_true_eq, decide_eq_false_iff_not] at hg12
  refine gq_val (s_move rfl rfl) rfl rfl rfl rfl ?_
  refine gq_val (s_nilCheck rfl rfl rfl) rfl rfl rfl rfl ?_
  refine gq_val (s_field rfl rfl rfl rfl) rfl rfl rfl rfl ?_
  refine gq_val (s_load rfl rfl rfl rfl) rfl rfl rfl rfl ?_
  refine gq_val (s_eql rfl rfl rfl) rfl rfl rfl rfl ?_
  refine g_val (s_pickT rfl rfl rfl) rfl ?_
  refine g_nil ?_
  refine vc_cond rfl (fun hc18 => ?_) (fun hc18 => ?_)
  replace hc18 := of_decide_eq_true hc18
  try simp only [List.length_map, ne_eq, Decidable.not_not, Int.not_lt, Int.not_le, ge_iff_le, gt_iff_lt, Bool.not_eq_true', Bool.not_eq_false', decide_eq_true_eq, decide_eq_false_iff_not] at hc18
  obtain rfl : e2 = 0 := hc18
  have hv1 := numF_nn b2 0 256
  have hv2 := numF_most b2 0 256 (by omega)
  have hv3 := numF_len b2 0 256
  have hv4 := lumpR_len (numF b2 0 256).2.1 (numF b2 0 256).2.2 32
  refine vc_skip ?_
  refine vc_seq ?_
  refine vc_block ?_
  refine vc_rseq mixed ?_
  refine g_val (s_move rfl rfl) rfl ?_
  refine g_cw (s_callH [] [] (c_Reader_Num b2 0 256 (by omega)) (evArgs_cons rfl (evArgs_cons rfl evArgs_nil)) ⟨rfl, trivial⟩ rfl (okVL_nil _) rfl rfl rfl) rfl ?_
  refine g_val (s_conv rfl rfl (by simp only [inI, kMin, kMax]; omega)) rfl ?_
  refine g_val (s_assign rfl rfl) rfl ?_
  refine g_nil ?_
  refine vc_region mixed ?_
  refine g_val (s_move rfl rfl) rfl ?_
  refine g_val (s_move rfl rfl) rfl ?_
  refine g_val (s_move rfl rfl) rfl ?_
  refine g_cw (s_callH [] [] (c_Reader_Lump (numF b2 0 256).2.1 (numF b2 0 256).2.2 32 (by omega)) (evArgs_cons rfl (evArgs_cons rfl evArgs_nil)) ⟨rfl, trivial⟩ rfl (okVL_nil _) rfl rfl rfl) rfl ?_
  refine g_fz ((s_appendN 28 rfl rfl rfl rfl (by simp only [List.length_map]; omega)).fzE rfl) rfl ?_
  refine g_val (s_build (evArgs_cons rfl (evArgs_cons rfl evArgs_nil)) rfl rfl rfl) rfl ?_
  refine g_fz ((s_buildSlice 30 (evArgs_cons rfl evArgs_nil) rfl rfl rfl rfl).fzE rfl) rfl ?_
  refine g_app (s_append 31 rfl rfl rfl rfl rfl (by simp) rfl rfl (by (try simp only [List.length_cons, List.length_nil]); omega)) rfl ?_
  refine g_val (s_assign rfl rfl) rfl ?_
  refine g_nil ?_
  refine vc_region mixed ?_
  refine g_val (s_move rfl rfl) rfl ?_
  refine g_val (s_add rfl rfl rfl (by simp only [inI, kMin, kMax]; omega)) rfl ?_
  refine g_val (s_assign rfl rfl) rfl ?_
  refine g_nil ?_
  exact ⟨(i + 1, acc ++ [⟨(numF b2 0 256).1, (lumpR (numF b2 0 256).2.1 (numF b2 0 256).2.2 32).1⟩], (lumpR (numF b2 0 256).2.1 (numF b2 0 256).2.2 32).2.1, (lumpR (numF b2 0 256).2.1 (numF b2 0 256).2.2 32).2.2), hs.step (by omega), by simp only; omega, by
  simp only [List.length_append, List.length_cons, List.length_nil]
  exact (leE_gen [] [(3, 31)] (by repeat (first | exact letm_nil _ _ | refine letm_cons rfl ?_ ?_ | exact LeV.tt rfl | exact .eq (okV_nil _) rfl | exact LeV.tt (by rw [List.take_of_length_le (by simp)]; simp [itemC, bytesT, i64]) | exact .eq (okV_nil _) (by rw [List.take_of_length_le (by simp)]; simp [itemC, bytesT, i64]))) (by repeat (first | exact lehp_nil _ _ | refine lehp_cons rfl ?_ ?_ | exact leB_row (by first | rfl | (rw [List.take_of_length_le (by simp)]; simp [itemC, bytesT, i64])) | exact leB_obj (by rw [List.take_of_length_le (by simp)]; simp [itemC, bytesT, i64]) | refine leB_box ?_ | exact leL_nil | refine leL_cons ?_ ?_ | exact LeV.tt rfl | exact .eq (okV_nil _) rfl | exact LeV.tt (by rw [List.take_of_length_le (by simp)]; simp [itemC, bytesT, i64]) | exact .eq (okV_nil _) (by rw [List.take_of_length_le (by simp)]; simp [itemC, bytesT, i64]))) trivial rfl)⟩
  replace hc18 := of_decide_eq_false hc18
  try simp only [List.length_map, ne_eq, Decidable.not_not, Int.not_lt, Int.not_le, ge_iff_le, gt_iff_lt, Bool.not_eq_true', Bool.not_eq_false', decide_eq_true_eq, decide_eq_false_iff_not] at hc18
  refine vc_exit ?_
  rw [hs.fin (by omega)]
  refine vc_rseq mixed ?_
  refine g_val (s_move rfl rfl) rfl ?_
  refine g_val (s_assign rfl rfl) rfl ?_
  refine g_nil ?_
  exact vc_ret (ret_hand [] [(0, 3)] _ (.cons (.tmp rfl) .nil) trivial (.eq (okV_nil _) rfl) (lehp_cons rfl (leB_row rfl) (lehp_cons rfl (leB_box (leL_cons (LeV.tt rfl) (leL_cons (LeV.tt rfl) leL_nil))) (lehp_nil _ _))) rfl)

end Go.Eng

set_option maxHeartbeats 4000000
namespace Go.Eng
open Go.Proofs

theorem c_mementoref16_PutCmd (c : VolCmd) : Con Try.prog 19 [sC (cmdC c)] [] (.tup [.t (bytesT (if cmdRight c then cmdB c else [])), AI .i64 (if cmdRight c then 0 else 23)]) [] := by
  by_cases h : cmdRight c
  rw [if_pos h, if_pos h]; exact c_mementoref16_PutCmd_ok c h
  rw [if_neg h, if_neg h]; exact c_mementoref16_PutCmd_err c h

def cmdZ : VolCmd := ⟨0, 0, 0, 0, 0, [], 0, 0, 0, []⟩
def big : Int := 1099511627776
def readG (b : List Int) : VolCmd × List Int × Int :=
  let r1 := numF b 0 8
  let r2 := numF r1.2.1 r1.2.2 8
  let r3 := numF r2.2.1 r2.2.2 big
  let r4 := numF r3.2.1 r3.2.2 big
  let r5 := numF r4.2.1 r4.2.2 big
  let r6 := numF r5.2.1 r5.2.2 big
  let r7 := numF r6.2.1 r6.2.2 big
  let r8 := numF r7.2.1 r7.2.2 big
  let p := takePlaceR r8.2.1 r8.2.2
  let q := takeItemsR p.2.1 p.2.2
  (⟨r1.1, r2.1, r3.1, r4.1, r5.1, p.1, r6.1, r7.1, r8.1, q.1⟩, q.2)
def readF (b : List Int) : VolCmd × Int :=
  if (readG b).2.2 ≠ 0 ∨ ¬ cmdRight (readG b).1 ∨ cmdB (readG b).1 ≠ b then (cmdZ, 20) else ((readG b).1, 0)

theorem takeG_len : ∀ (k : Nat) (b : List Int) (e : Int), (takeG k b e).2.1.length ≤ b.length
  | 0, b, e => by simp [takeG]
  | k + 1, b, e => by
    simp only [takeG]
    split
    exact Nat.le_refl _
    exact Nat.le_trans (takeG_len k _ _) (numF_len b e 8)
theorem takePlaceR_len (b : List Int) (e : Int) : (takePlaceR b e).2.1.length ≤ b.length := Nat.le_trans (takeG_len _ _ _) (numF_len b e 256)

theorem c_mementoref16_ReadCmd (b : List Int) (hb : b.length ≤ 1000000000) : Con Try.prog 44 [.t (bytesT b)] [] (.tup [sC (cmdC (readF b).1), AI .i64 (readF b).2]) [] := by
  refine con_intro [] [] Try.func44 rfl Try.ntmps44 Try.results44 rfl rfl ?_
  intro E
  refine vc_okT (i := 0) rfl fun ok0 => ?_
  have hg : ∃ g, readG b = g := ⟨_, rfl⟩
  unfold readF
  obtain ⟨g, hg⟩ := hg
  rw [hg]
  unfold readG at hg
  simp only at hg
  have hl1 := numF_len b 0 8
  have hn1 := numF_nn b 0 8
  have hm1 := numF_most b 0 8 (by first | omega | (simp only [big]; omega))
  have hc1 := c_Reader_Num b 0 8 (by omega)
  generalize numF b 0 8 = r1 at *
  obtain ⟨n1, b1, e1⟩ := r1
  try simp only [big] at hl1 hn1 hm1 hc1
  have hl2 := numF_len b1 e1 8
  have hn2 := numF_nn b1 e1 8
  have hm2 := numF_most b1 e1 8 (by first | omega | (simp only [big]; omega))
  have hc2 := c_Reader_Num b1 e1 8 (by omega)
  generalize numF b1 e1 8 = r2 at *
  obtain ⟨n2, b2, e2⟩ := r2
  try simp only [big] at hl2 hn2 hm2 hc2
  have hl3 := numF_len b2 e2 big
  have hn3 := numF_nn b2 e2 big
  have hm3 := numF_most b2 e2 big (by first | omega | (simp only [big]; omega))
  have hc3 := c_Reader_Num b2 e2 big (by omega)
  generalize numF b2 e2 big = r3 at *
  obtain ⟨n3, b3, e3⟩ := r3
  try simp only [big] at hl3 hn3 hm3 hc3
  have hl4 := numF_len b3 e3 big
  have hn4 := numF_nn b3 e3 big
  have hm4 := numF_most b3 e3 big (by first | omega | (simp only [big]; omega))
  have hc4 := c_Reader_Num b3 e3 big (by omega)
  generalize numF b3 e3 big = r4 at *
  obtain ⟨n4, b4, e4⟩ := r4
  try simp only [big] at hl4 hn4 hm4 hc4
  have hl5 := numF_len b4 e4 big
  have hn5 := numF_nn b4 e4 big
  have hm5 := numF_most b4 e4 big (by first | omega | (simp only [big]; omega))
  have hc5 := c_Reader_Num b4 e4 big (by omega)
  generalize numF b4 e4 big = r5 at *
  obtain ⟨n5, b5, e5⟩ := r5
  try simp only [big] at hl5 hn5 hm5 hc5
  have hl6 := numF_len b5 e5 big
  have hn6 := numF_nn b5 e5 big
  have hm6 := numF_most b5 e5 big (by first | omega | (simp only [big]; omega))
  have hc6 := c_Reader_Num b5 e5 big (by omega)
  generalize numF b5 e5 big = r6 at *
  obtain ⟨n6, b6, e6⟩ := r6
  try simp only [big] at hl6 hn6 hm6 hc6
  have hl7 := numF_len b6 e6 big
  have hn7 := numF_nn b6 e6 big
  have hm7 := numF_most b6 e6 big (by first | omega | (simp only [big]; omega))
  have hc7 := c_Reader_Num b6 e6 big (by omega)
  generalize numF b6 e6 big = r7 at *
  obtain ⟨n7, b7, e7⟩ := r7
  try simp only [big] at hl7 hn7 hm7 hc7
  have hl8 := numF_len b7 e7 big
  have hn8 := numF_nn b7 e7 big
  have hm8 := numF_most b7 e7 big (by first | omega | (simp only [big]; omega))
  have hc8 := c_Reader_Num b7 e7 big (by omega)
  generalize numF b7 e7 big = r8 at *
  obtain ⟨n8, b8, e8⟩ := r8
  try simp only [big] at hl8 hn8 hm8 hc8
  have hcp := c_mementoref16_takePlace_own b8 e8 (by omega)
  have hlp := takePlaceR_len b8 e8
  generalize takePlaceR b8 e8 = rp at *
  obtain ⟨p, b9, e9⟩ := rp
  have hcq := c_mementoref13_TakeItems_own b9 e9 (by simp only at hlp; omega)
  generalize takeItemsR b9 e9 = rq at *
  obtain ⟨q, b10, e10⟩ := rq
  simp only at hcp hcq hg
  refine vc_rseq mixed ?_
  refine g_new (s_alloc 2 rfl rfl) rfl ?_
  refine g_val (s_assign rfl rfl) rfl ?_
  refine g_nil ?_
  refine vc_rseq mixed ?_
  refine g_val (s_move rfl rfl) rfl ?_
  refine g_val (s_build (evArgs_cons rfl evArgs_nil) rfl rfl rfl) rfl ?_
  refine g_new (s_box 10 rfl rfl rfl rfl) rfl ?_
  refine g_val (s_assign rfl rfl) rfl ?_
  refine g_nil ?_
  refine vc_rseq mixed ?_
  refine g_new (s_alloc 5 rfl rfl) rfl ?_
  refine g_nil ?_
  refine vc_rseq mixed ?_
  refine g_val (s_move rfl rfl) rfl ?_
  refine g_cw (s_callH [] [(1000, 10)] hc1 (evArgs_cons rfl (evArgs_cons rfl evArgs_nil)) ⟨rfl, trivial⟩ rfl (okVL_nil _) rfl rfl rfl) rfl ?_
  refine g_val (s_conv rfl rfl (by simp only [inI, kMin, kMax]; omega)) rfl ?_
  refine g_val (s_field rfl rfl rfl rfl) rfl ?_
  refine g_sto (s_store rfl rfl rfl rfl rfl rfl) rfl ?_
  refine g_nil ?_
  refine vc_rseq mixed ?_
  refine g_val (s_move rfl rfl) rfl ?_
  refine g_cw (s_callH [] [(1000, 10)] hc2 (evArgs_cons rfl (evArgs_cons rfl evArgs_nil)) ⟨rfl, trivial⟩ rfl (okVL_nil _) rfl rfl rfl) rfl ?_
  refine g_val (s_conv rfl rfl (by simp only [inI, kMin, kMax]; omega)) rfl ?_
  refine g_val (s_field rfl rfl rfl rfl) rfl ?_
  refine g_sto (s_store rfl rfl rfl rfl rfl rfl) rfl ?_
  refine g_nil ?_
  refine vc_rseq mixed ?_
  refine g_val (s_move rfl rfl) rfl ?_
  refine g_cw (s_callH [] [(1000, 10)] hc3 (evArgs_cons rfl (evArgs_cons rfl evArgs_nil)) ⟨rfl, trivial⟩ rfl (okVL_nil _) rfl rfl rfl) rfl ?_
  refine g_val (s_conv rfl rfl (by simp only [inI, kMin, kMax]; omega)) rfl ?_
  refine g_val (s_field rfl rfl rfl rfl) rfl ?_
  refine g_sto (s_store rfl rfl rfl rfl rfl rfl) rfl ?_
  refine g_nil ?_
  refine vc_rseq mixed ?_
  refine g_val (s_move rfl rfl) rfl ?_
  refine g_cw (s_callH [] [(1000, 10)] hc4 (evArgs_cons rfl (evArgs_cons rfl evArgs_nil)) ⟨rfl, trivial⟩ rfl (okVL_nil _) rfl rfl rfl) rfl ?_
  refine g_val (s_conv rfl rfl (by simp only [inI, kMin, kMax]; omega)) rfl ?_
  refine g_val (s_field rfl rfl rfl rfl) rfl ?_
  refine g_sto (s_store rfl rfl rfl rfl rfl rfl) rfl ?_
  refine g_nil ?_
  refine vc_rseq mixed ?_
  refine g_val (s_move rfl rfl) rfl ?_
  refine g_cw (s_callH [] [(1000, 10)] hc5 (evArgs_cons rfl (evArgs_cons rfl evArgs_nil)) ⟨rfl, trivial⟩ rfl (okVL_nil _) rfl rfl rfl) rfl ?_
  refine g_val (s_conv rfl rfl (by simp only [inI, kMin, kMax]; omega)) rfl ?_
  refine g_val (s_field rfl rfl rfl rfl) rfl ?_
  refine g_sto (s_store rfl rfl rfl rfl rfl rfl) rfl ?_
  refine g_nil ?_
  refine vc_rseq mixed ?_
  refine g_val (s_move rfl rfl) rfl ?_
  refine g_cw (s_callH [] [(1000, 10)] hc6 (evArgs_cons rfl (evArgs_cons rfl evArgs_nil)) ⟨rfl, trivial⟩ rfl (okVL_nil _) rfl rfl rfl) rfl ?_
  refine g_val (s_conv rfl rfl (by simp only [inI, kMin, kMax]; omega)) rfl ?_
  refine g_val (s_field rfl rfl rfl rfl) rfl ?_
  refine g_sto (s_store rfl rfl rfl rfl rfl rfl) rfl ?_
  refine g_nil ?_
  refine vc_rseq mixed ?_
  refine g_val (s_move rfl rfl) rfl ?_
  refine g_cw (s_callH [] [(1000, 10)] hc7 (evArgs_cons rfl (evArgs_cons rfl evArgs_nil)) ⟨rfl, trivial⟩ rfl (okVL_nil _) rfl rfl rfl) rfl ?_
  refine g_val (s_conv rfl rfl (by simp only [inI, kMin, kMax]; omega)) rfl ?_
  refine g_val (s_field rfl rfl rfl rfl) rfl ?_
  refine g_sto (s_store rfl rfl rfl rfl rfl rfl) rfl ?_
  refine g_nil ?_
  refine vc_rseq mixed ?_
  refine g_val (s_move rfl rfl) rfl ?_
  refine g_cw (s_callH [] [(1000, 10)] hc8 (evArgs_cons rfl (evArgs_cons rfl evArgs_nil)) ⟨rfl, trivial⟩ rfl (okVL_nil _) rfl rfl rfl) rfl ?_
  refine g_val (s_conv rfl rfl (by simp only [inI, kMin, kMax]; omega)) rfl ?_
  refine g_val (s_field rfl rfl rfl rfl) rfl ?_
  refine g_sto (s_store rfl rfl rfl rfl rfl rfl) rfl ?_
  refine g_nil ?_
  refine vc_rseq mixed ?_
  refine g_val (s_move rfl rfl) rfl ?_
  refine g_nb (s_callH [] [(1000, 10), (0, 44)] hcp (evArgs_cons rfl evArgs_nil) ⟨rfl, trivial⟩ rfl (okVL_nil _) rfl rfl rfl) rfl ?_
  refine g_val (s_field rfl rfl rfl rfl) rfl ?_
  refine g_sto (s_store rfl rfl rfl rfl rfl rfl) rfl ?_
  refine g_nil ?_
  refine vc_rseq mixed ?_
  refine g_val (s_move rfl rfl) rfl ?_
  refine g_nb (s_callH [] [(1000, 10), (0, 47)] hcq (evArgs_cons rfl evArgs_nil) ⟨rfl, trivial⟩ rfl (okVL_nil _) rfl rfl rfl) rfl ?_
  refine g_val (s_field rfl rfl rfl rfl) rfl ?_
  refine g_sto (s_store rfl rfl rfl rfl rfl rfl) rfl ?_
  refine g_nil ?_
  refine vc_le ⟨[(0, .t (bytesT b)), (2, .ref 2 0), (4, .ref 10 0), (5, .ref 5 0)], [(5, some (.box ((cmdC ⟨n1, n2, n3, n4, n5, p, n6, n7, n8, q⟩).map .t))), (2, some (.box ((cmdC cmdZ).map .t))), (10, some (.box (rdrA b10 e10)))], [5, 2, 10]⟩ (leE_gen [(44, _), (47, _)] [] (by repeat (first | exact letm_nil _ _ | refine letm_cons rfl ?_ ?_ | exact LeV.tt rfl | exact .eq trivial rfl)) (by repeat (first | exact lehp_nil _ _ | refine lehp_cons rfl ?_ ?_ | refine leB_box ?_ | exact leL_nil | refine leL_cons ?_ ?_ | exact LeV.tt rfl | exact .nl (by decide) (by decide) | exact .eq (okV_nil _) rfl | exact LeV.row rfl (by simp))) ⟨rfl, rfl, trivial⟩ rfl) ?_
  refine vc_rseq mixed ?_
  refine g_val (s_loadA rfl rfl rfl rfl rfl) rfl ?_
  refine g_val (s_call [] (c_mementoref16_PutCmd ⟨n1, n2, n3, n4, n5, p, n6, n7, n8, q⟩) (evArgs_cons rfl evArgs_nil) trivial rfl (okVL_nil _) rfl (.inl rfl) rfl) rfl ?_
  refine g_val (s_move rfl rfl) rfl ?_
  refine g_val (s_extract rfl rfl rfl) rfl ?_
  refine g_val (s_extract rfl rfl rfl) rfl ?_
  refine g_val (s_assign rfl rfl) rfl ?_
  refine g_val (s_assign rfl rfl) rfl ?_
  refine g_nil ?_
  refine vc_seq ?_
  refine vc_okT (i := 6) rfl fun ok6 => ?_
  refine vc_rseq mixed ?_
  refine g_val (s_move rfl rfl) rfl ?_
  refine g_val (s_nilCheck rfl rfl rfl) rfl ?_
  refine g_val (s_field rfl rfl rfl rfl) rfl ?_
  refine g_val (s_load rfl rfl rfl rfl) rfl ?_
  refine g_val (s_neq rfl rfl rfl) rfl ?_
  refine g_val (s_move rfl rfl) rfl ?_
  refine g_probe (j := 59) rfl (fun c hg59 => ?_)
  cases c
  rw [← hg59]; replace hg59 := hg59.symm; replace hg59 := of_decide_eq_false hg59
  simp only [ne_eq, Decidable.not_not] at hg59
  refine gq_val (s_move rfl rfl) rfl rfl rfl rfl ?_
  refine gq_val (s_neq rfl rfl rfl) rfl rfl rfl rfl ?_
  refine g_val (s_pickF rfl rfl rfl) rfl ?_
  refine g_val (s_move rfl rfl) rfl ?_
  refine g_probe (j := 63) rfl (fun c hg63 => ?_)
  cases c
  rw [← hg63]; replace hg63 := hg63.symm; replace hg63 := of_decide_eq_false hg63
  simp only [ne_eq, Decidable.not_not] at hg63
  refine gq_val (s_move rfl rfl) rfl rfl rfl rfl ?_
  refine gq_val (s_str rfl rfl) rfl rfl rfl rfl ?_
  refine gq_val (s_move rfl rfl) rfl rfl rfl rfl ?_
  refine gq_val (s_str rfl rfl) rfl rfl rfl rfl ?_
  refine gq_val (s_neqS rfl rfl (by first | assumption | exact okT.bytes (by assumption)) (by first | assumption | exact okT.bytes (by assumption)) rfl) rfl rfl rfl rfl ?_
  refine g_val (s_pickF rfl rfl rfl) rfl ?_
  refine g_nil ?_
  refine vc_cond rfl (fun hc69 => ?_) (fun hc69 => ?_)
  replace hc69 := of_decide_eq_true hc69
  simp only [ne_eq] at hc69
  subst hg
  have hbad : e10 ≠ 0 ∨ ¬ cmdRight (⟨n1, n2, n3, n4, n5, p, n6, n7, n8, q⟩ : VolCmd) ∨ cmdB (⟨n1, n2, n3, n4, n5, p, n6, n7, n8, q⟩ : VolCmd) ≠ b := by
    by_cases h1 : e10 = 0
    by_cases hcr : cmdRight (⟨n1, n2, n3, n4, n5, p, n6, n7, n8, q⟩ : VolCmd)
    simp only [if_pos hcr] at *
    focus (first | (right; right; assumption) | (exfalso; simp_all; done))
    exact .inr (.inl hcr)
    exact .inl h1
  rw [if_pos hbad]
  refine vc_rseq mixed ?_
  refine g_val (s_build evArgs_nil rfl rfl rfl) rfl ?_
  refine g_sto (s_store rfl rfl rfl rfl rfl rfl) rfl ?_
  refine g_val (s_assign rfl rfl) rfl ?_
  refine g_nil ?_
  exact vc_ret (ret_le [] _ (.cons (.agg rfl rfl rfl rfl) (.cons (.tmp rfl) .nil)) trivial (by repeat (first | exact leL_nil | refine leL_cons ?_ ?_ | exact LeV.tt rfl | exact .nl (by decide) (by decide) | exact .nn | refine LeV.tupL ?_ | refine LeV.aggL ?_ | exact .eq (by first | exact trivial | (simp [AV.okV, okR, lkB]; done) | (simp [AV.okV, okR, lkB]; omega)) (by first | rfl | (simp [AV.view, viewR, lkB, AV.ren, List.take_of_length_le]; done) | (simp [AV.view, viewR, lkB, AV.ren, List.take_of_length_le]; done)))) rfl)
  replace hc69 := of_decide_eq_false hc69
  simp only [ne_eq, Decidable.not_not] at hc69
  refine vc_skip ?_
  subst hg
  have hcr : cmdRight (⟨n1, n2, n3, n4, n5, p, n6, n7, n8, q⟩ : VolCmd) := by
    by_cases hcr : cmdRight (⟨n1, n2, n3, n4, n5, p, n6, n7, n8, q⟩ : VolCmd)
    exact hcr
    exfalso; simp only [if_neg hcr] at *; simp_all
  simp only [if_pos hcr] at *
  rw [if_neg (by simp only [not_or, Decidable.not_not]; exact ⟨by assumption, hcr, by assumption⟩)]
  refine vc_rseq mixed ?_
  refine g_val (s_loadA rfl rfl rfl rfl rfl) rfl ?_
  refine g_sto (s_store rfl rfl rfl rfl rfl rfl) rfl ?_
  refine g_val (s_assign rfl rfl) rfl ?_
  refine g_nil ?_
  exact vc_ret (ret_le [] _ (.cons (.agg rfl rfl rfl rfl) (.cons (.tmp rfl) .nil)) trivial (by repeat (first | exact leL_nil | refine leL_cons ?_ ?_ | exact LeV.tt rfl | exact .nl (by decide) (by decide) | exact .nn | refine LeV.tupL ?_ | refine LeV.aggL ?_ | exact .eq (by first | exact trivial | (simp [AV.okV, okR, lkB]; done) | (simp [AV.okV, okR, lkB]; omega)) (by first | rfl | (simp [AV.view, viewR, lkB, AV.ren, List.take_of_length_le]; done) | (simp [AV.view, viewR, lkB, AV.ren, List.take_of_length_le]; done)))) rfl)
  rw [← hg63]; replace hg63 := hg63.symm; replace hg63 := of_decide_eq_true hg63
  simp only [ne_eq] at hg63
  refine gn_val rfl rfl rfl rfl rfl rfl (by decide) ?_
  refine gn_val rfl rfl rfl rfl rfl rfl (by decide) ?_
  refine gn_val rfl rfl rfl rfl rfl rfl (by decide) ?_
  refine gn_val rfl rfl rfl rfl rfl rfl (by decide) ?_
  refine gn_val rfl rfl rfl rfl rfl rfl (by decide) ?_
  refine g_val (s_pickT rfl rfl rfl) rfl ?_
  refine g_nil ?_
  refine vc_cond rfl (fun _ => ?_) (fun h => by cases h)
  subst hg
  have hbad : e10 ≠ 0 ∨ ¬ cmdRight (⟨n1, n2, n3, n4, n5, p, n6, n7, n8, q⟩ : VolCmd) ∨ cmdB (⟨n1, n2, n3, n4, n5, p, n6, n7, n8, q⟩ : VolCmd) ≠ b := by
    by_cases h1 : e10 = 0
    by_cases hcr : cmdRight (⟨n1, n2, n3, n4, n5, p, n6, n7, n8, q⟩ : VolCmd)
    simp only [if_pos hcr] at *
    focus (first | (right; right; assumption) | (exfalso; simp_all; done))
    exact .inr (.inl hcr)
    exact .inl h1
  rw [if_pos hbad]
  refine vc_rseq mixed ?_
  refine g_val (s_build evArgs_nil rfl rfl rfl) rfl ?_
  refine g_sto (s_store rfl rfl rfl rfl rfl rfl) rfl ?_
  refine g_val (s_assign rfl rfl) rfl ?_
  refine g_nil ?_
  exact vc_ret (ret_le [] _ (.cons (.agg rfl rfl rfl rfl) (.cons (.tmp rfl) .nil)) trivial (by repeat (first | exact leL_nil | refine leL_cons ?_ ?_ | exact LeV.tt rfl | exact .nl (by decide) (by decide) | exact .nn | refine LeV.tupL ?_ | refine LeV.aggL ?_ | exact .eq (by first | exact trivial | (simp [AV.okV, okR, lkB]; done) | (simp [AV.okV, okR, lkB]; omega)) (by first | rfl | (simp [AV.view, viewR, lkB, AV.ren, List.take_of_length_le]; done) | (simp [AV.view, viewR, lkB, AV.ren, List.take_of_length_le]; done)))) rfl)
  rw [← hg59]; replace hg59 := hg59.symm; replace hg59 := of_decide_eq_true hg59
  simp only [ne_eq] at hg59
  refine gn_val rfl rfl rfl rfl rfl rfl (by decide) ?_
  refine gn_val rfl rfl rfl rfl rfl rfl (by decide) ?_
  refine g_val (s_pickT rfl rfl rfl) rfl ?_
  refine g_val (s_move rfl rfl) rfl ?_
  refine gn_val rfl rfl rfl rfl rfl rfl (by decide) ?_
  refine gn_val rfl rfl rfl rfl rfl rfl (by decide) ?_
  refine gn_val rfl rfl rfl rfl rfl rfl (by decide) ?_
  refine gn_val rfl rfl rfl rfl rfl rfl (by decide) ?_
  refine gn_val rfl rfl rfl rfl rfl rfl (by decide) ?_
  refine g_val (s_pickT rfl rfl rfl) rfl ?_
  refine g_nil ?_
  refine vc_cond rfl (fun _ => ?_) (fun h => by cases h)
  subst hg
  have hbad : e10 ≠ 0 ∨ ¬ cmdRight (⟨n1, n2, n3, n4, n5, p, n6, n7, n8, q⟩ : VolCmd) ∨ cmdB (⟨n1, n2, n3, n4, n5, p, n6, n7, n8, q⟩ : VolCmd) ≠ b := by
    by_cases h1 : e10 = 0
    by_cases hcr : cmdRight (⟨n1, n2, n3, n4, n5, p, n6, n7, n8, q⟩ : VolCmd)
    simp only [if_pos hcr] at *
    focus (first | (right; right; assumption) | (exfalso; simp_all; done))
    exact .inr (.inl hcr)
    exact .inl h1
  rw [if_pos hbad]
  refine vc_rseq mixed ?_
  refine g_val (s_build evArgs_nil rfl rfl rfl) rfl ?_
  refine g_sto (s_store rfl rfl rfl rfl rfl rfl) rfl ?_
  refine g_val (s_assign rfl rfl) rfl ?_
  refine g_nil ?_
  exact vc_ret (ret_le [] _ (.cons (.agg rfl rfl rfl rfl) (.cons (.tmp rfl) .nil)) trivial (by repeat (first | exact leL_nil | refine leL_cons ?_ ?_ | exact LeV.tt rfl | exact .nl (by decide) (by decide) | exact .nn | refine LeV.tupL ?_ | refine LeV.aggL ?_ | exact .eq (by first | exact trivial | (simp [AV.okV, okR, lkB]; done) | (simp [AV.okV, okR, lkB]; omega)) (by first | rfl | (simp [AV.view, viewR, lkB, AV.ren, List.take_of_length_le]; done) | (simp [AV.view, viewR, lkB, AV.ren, List.take_of_length_le]; done)))) rfl)

end Go.Eng

set_option maxHeartbeats 4000000
namespace Go.Eng
open Go.Proofs

def volsT (l : List Volume) : T := .sl 11 136 (l.map volC)
def mA (l : List Volume) : List AV := [.t (volsT l)]

def findV (l : List Volume) (id : Int) : Int := match l.findIdx? (fun v => decide (v.id = id)) with | some i => i | none => -1
theorem findV_none {l : List Volume} {id : Int} (h : ∀ j : Nat, j < l.length → ∀ z, l[j]? = some z → z.id ≠ id) : findV l id = -1 := by
  unfold findV
  rw [List.findIdx?_eq_none_iff.2]
  intro x hx
  obtain ⟨j, hj⟩ := List.mem_iff_getElem?.1 hx
  simpa using h j (List.getElem?_eq_some_iff.1 hj).1 x hj
theorem findV_some {l : List Volume} {id : Int} {i : Nat} {x : Volume} (h : ∀ j : Nat, j < i → ∀ z, l[j]? = some z → z.id ≠ id) (hx : l[i]? = some x) (hid : x.id = id) : findV l id = i := by
  unfold findV
  obtain ⟨hlt, hxx⟩ := List.getElem?_eq_some_iff.1 hx
  have : l.findIdx? (fun v => decide (v.id = id)) = some i := by
    rw [List.findIdx?_eq_some_iff_getElem]
    refine ⟨hlt, by rw [hxx]; simpa using hid, fun j hj => ?_⟩
    have := h j hj l[j] (List.getElem?_eq_getElem (by omega))
    simpa using this
  rw [this]
theorem findV_cases (l : List Volume) (id : Int) : (findV l id = -1 ∧ ∀ x ∈ l, x.id ≠ id) ∨ ∃ (i : Nat) (x : Volume), findV l id = i ∧ l[i]? = some x ∧ x.id = id := by
  unfold findV
  cases h : l.findIdx? (fun v => decide (v.id = id)) with
  | none =>
    rw [List.findIdx?_eq_none_iff] at h
    exact .inl ⟨rfl, fun x hx => by simpa using h x hx⟩
  | some i =>
    rw [List.findIdx?_eq_some_iff_getElem] at h
    obtain ⟨h1, h2, h3⟩ := h
    exact .inr ⟨i, l[i], rfl, List.getElem?_eq_getElem h1, by simpa using h2⟩

theorem c_Machine_find (l : List Volume) (id : Int) (hl : l.length ≤ 1000000) : Con Try.prog 39 [.ref 1000 0, AI .i64 id] [(1000, .box (mA l))] (AI .i64 (findV l id)) [(1000, .box (mA l))] := by
  refine con_intro [1000] [1000] Try.func39 rfl Try.ntmps39 Try.results39 rfl rfl ?_
  intro E
  refine vc_rseq mixed ?_
  refine g_val (s_assign rfl rfl) rfl ?_
  refine g_nil ?_
  refine vc_seq ?_
  refine vc_rseq mixed ?_
  refine g_val (s_assign rfl rfl) rfl ?_
  refine g_nil ?_
  refine vc_block ?_
  refine vc_up l.length (fun i => ⟨[(0, .ref 1000 0), (1, AI .i64 id), (5, AI .i64 i)], [(1000, some (.box (mA l)))], [1000]⟩) (fun i => ∀ j : Nat, j < i → ∀ z, l[j]? = some z → z.id ≠ id) (leE_same (by repeat (first | exact letm_nil _ _ | refine letm_cons rfl ?_ ?_ | exact .same _ | exact .nl (by decide) (by decide) | exact .nn | exact .id' rfl | exact .id' (by simp; done))) (by repeat (first | exact lehp_nil _ _ | refine lehp_cons rfl ?_ ?_ | exact leB_same _ | exact leB_row (by first | rfl | (simp; done)) | exact leB_obj (by simp; done) | refine leB_box ?_ | exact leL_nil | refine leL_cons ?_ ?_ | exact .same _ | exact .nl (by decide) (by decide) | exact .nn | exact .id' rfl | exact .id' (by simp; done))) rfl) (fun j h => by omega) (fun i hi hJ => ?_)
  refine vc_seq ?_
  refine vc_rseq mixed ?_
  refine g_val (s_move rfl rfl) rfl ?_
  refine g_val (s_move rfl rfl) rfl ?_
  refine g_val (s_nilCheck rfl rfl rfl) rfl ?_
  refine g_val (s_field rfl rfl rfl rfl) rfl ?_
  refine g_val (s_load rfl rfl rfl rfl) rfl ?_
  refine g_val (s_len rfl rfl) rfl ?_
  refine g_val (s_lss rfl rfl rfl) rfl ?_
  refine g_nil ?_
  refine vc_cond rfl (fun hc12 => ?_) (fun hc12 => ?_)
  replace hc12 := of_decide_eq_true hc12
  simp only [List.length_map] at hc12
  obtain ⟨x, hx⟩ := get_of_lt (l := l) (i := i) (by omega)
  refine vc_skip ?_
  refine vc_seq ?_
  refine vc_block ?_
  refine vc_rseq mixed ?_
  refine g_val (s_move rfl rfl) rfl ?_
  refine g_val (s_nilCheck rfl rfl rfl) rfl ?_
  refine g_val (s_field rfl rfl rfl rfl) rfl ?_
  refine g_val (s_load rfl rfl rfl rfl) rfl ?_
  refine g_val (s_move rfl rfl) rfl ?_
  refine g_val (s_index rfl rfl rfl (by omega) (idx_map hx)) rfl ?_
  refine g_val (s_fieldT rfl rfl rfl rfl rfl) rfl ?_
  refine g_val (s_loadT rfl rfl rfl) rfl ?_
  refine g_val (s_move rfl rfl) rfl ?_
  refine g_val (s_eql rfl rfl rfl) rfl ?_
  refine g_nil ?_
  refine vc_cond rfl (fun hc24 => ?_) (fun hc24 => ?_)
  replace hc24 := of_decide_eq_true hc24
  rw [findV_some hJ hx hc24]
  refine vc_rseq mixed ?_
  refine g_val (s_move rfl rfl) rfl ?_
  refine g_val (s_assign rfl rfl) rfl ?_
  refine g_nil ?_
  exact vc_ret (ret_hand [] [] _ (.cons (.tmp rfl) .nil) trivial (.eq (okV_nil _) rfl) (lehp_cons rfl (leB_same _) (lehp_nil _ _)) rfl)
  replace hc24 := of_decide_eq_false hc24
  refine vc_skip ?_
  refine vc_region mixed ?_
  refine g_val (s_move rfl rfl) rfl ?_
  refine g_val (s_add rfl rfl rfl (by simp only [inI, kMin, kMax]; omega)) rfl ?_
  refine g_val (s_assign rfl rfl) rfl ?_
  refine g_nil ?_
  exact ⟨by omega, fun j hj z hz => by rcases Nat.lt_succ_iff_lt_or_eq.1 hj with h | rfl; exact hJ j h z hz; rw [hx] at hz; injection hz with hz; subst hz; exact hc24, (leE_same (by repeat (first | exact letm_nil _ _ | refine letm_cons rfl ?_ ?_ | exact .same _ | exact .nl (by decide) (by decide) | exact .nn | exact .id' rfl | exact .id' (by simp; done))) (by repeat (first | exact lehp_nil _ _ | refine lehp_cons rfl ?_ ?_ | exact leB_same _ | exact leB_row (by first | rfl | (simp; done)) | exact leB_obj (by simp; done) | refine leB_box ?_ | exact leL_nil | refine leL_cons ?_ ?_ | exact .same _ | exact .nl (by decide) (by decide) | exact .nn | exact .id' rfl | exact .id' (by simp; done))) rfl)⟩
  replace hc12 := of_decide_eq_false hc12
  simp only [List.length_map, Int.not_lt] at hc12
  refine vc_exit ?_
  rw [findV_none (fun j hj => hJ j (by omega))]
  refine vc_rseq mixed ?_
  refine g_val (s_assign rfl rfl) rfl ?_
  refine g_nil ?_
  exact vc_ret (ret_hand [] [] _ (.cons (.tmp rfl) .nil) trivial (.eq (okV_nil _) rfl) (lehp_cons rfl (leB_same _) (lehp_nil _ _)) rfl)

def volG (l : List Volume) (id : Int) : Volume × Bool := if findV l id < 0 then (volZ, false) else (l.getD (findV l id).toNat volZ, true)

theorem c_Machine_Volume (l : List Volume) (id : Int) (hl : l.length ≤ 1000000) : Con Try.prog 18 [.ref 1000 0, AI .i64 id] [(1000, .box (mA l))] (.tup [sC (volC (volG l id).1), AB (volG l id).2]) [(1000, .box (mA l))] := by
  refine con_intro [1000] [1000] Try.func18 rfl Try.ntmps18 Try.results18 rfl rfl ?_
  intro E
  have hg : ∃ g, findV l id = g := ⟨_, rfl⟩
  obtain ⟨g, hg⟩ := hg
  have hf := c_Machine_find l id hl
  have hcs := findV_cases l id
  unfold volG
  rw [hg] at hf hcs ⊢
  refine vc_rseq mixed ?_
  refine g_new (s_alloc 4 rfl rfl) rfl ?_
  refine g_val (s_assign rfl rfl) rfl ?_
  refine g_nil ?_
  refine vc_rseq mixed ?_
  refine g_val (s_move rfl rfl) rfl ?_
  refine g_val (s_move rfl rfl) rfl ?_
  refine g_cw (s_callH [] [] hf (evArgs_cons rfl (evArgs_cons rfl evArgs_nil)) ⟨rfl, trivial⟩ rfl (okVL_nil _) rfl rfl rfl) rfl ?_
  refine g_val (s_assign rfl rfl) rfl ?_
  refine g_nil ?_
  refine vc_seq ?_
  refine vc_rseq mixed ?_
  refine g_val (s_move rfl rfl) rfl ?_
  refine g_val (s_lss rfl rfl rfl) rfl ?_
  refine g_nil ?_
  refine vc_cond rfl (fun hc11 => ?_) (fun hc11 => ?_)
  replace hc11 := of_decide_eq_true hc11
  rw [if_pos (by omega)]
  refine vc_rseq mixed ?_
  refine g_val (s_build evArgs_nil rfl rfl rfl) rfl ?_
  refine g_sto (s_store rfl rfl rfl rfl rfl rfl) rfl ?_
  refine g_val (s_assign rfl rfl) rfl ?_
  refine g_nil ?_
  exact vc_ret (ret_hand [] [] _ (.cons (.agg rfl rfl rfl rfl) (.cons (.tmp rfl) .nil)) trivial (by repeat (first | exact leL_nil | refine leL_cons ?_ ?_ | exact LeV.tt rfl | exact .nl (by decide) (by decide) | exact .nn | refine LeV.tupL ?_ | refine LeV.aggL ?_ | exact .eq (by first | exact trivial | (simp [AV.okV, okR, lkB]; done) | (simp [AV.okV, okR, lkB]; omega)) (by first | rfl | (simp [AV.view, viewR, lkB, AV.ren, List.take_of_length_le]; done) | (simp [AV.view, viewR, lkB, AV.ren, List.take_of_length_le]; done)))) (lehp_cons rfl (leB_same _) (lehp_nil _ _)) rfl)
  replace hc11 := of_decide_eq_false hc11
  simp only [Int.not_lt] at hc11
  refine vc_skip ?_
  rw [if_neg (by omega)]
  obtain ⟨i, x, rfl, hx, hid⟩ : ∃ (i : Nat) (x : Volume), g = i ∧ l[i]? = some x ∧ x.id = id := by
    rcases hcs with ⟨h, _⟩ | h
    omega
    exact h
  have hxd : l.getD ((i : Int).toNat) volZ = x := by rw [List.getD_eq_getElem?_getD]; simp [hx]
  rw [hxd]
  refine vc_rseq mixed ?_
  refine g_val (s_move rfl rfl) rfl ?_
  refine g_val (s_nilCheck rfl rfl rfl) rfl ?_
  refine g_val (s_field rfl rfl rfl rfl) rfl ?_
  refine g_val (s_load rfl rfl rfl rfl) rfl ?_
  refine g_val (s_move rfl rfl) rfl ?_
  refine g_val (s_index rfl rfl rfl (by omega) (idx_map hx)) rfl ?_
  refine g_val (s_loadTA rfl rfl rfl) rfl ?_
  refine g_sto (s_store rfl rfl rfl rfl rfl rfl) rfl ?_
  refine g_val (s_assign rfl rfl) rfl ?_
  refine g_nil ?_
  exact vc_ret (ret_hand [] [] _ (.cons (.agg rfl rfl rfl rfl) (.cons (.tmp rfl) .nil)) trivial (by repeat (first | exact leL_nil | refine leL_cons ?_ ?_ | exact LeV.tt rfl | exact .nl (by decide) (by decide) | exact .nn | refine LeV.tupL ?_ | refine LeV.aggL ?_ | exact .eq (by first | exact trivial | (simp [AV.okV, okR, lkB]; done) | (simp [AV.okV, okR, lkB]; omega)) (by first | rfl | (simp [AV.view, viewR, lkB, AV.ren, List.take_of_length_le]; done) | (simp [AV.view, viewR, lkB, AV.ren, List.take_of_length_le]; done)))) (lehp_cons rfl (leB_same _) (lehp_nil _ _)) rfl)

end Go.Eng

set_option maxHeartbeats 4000000
namespace Go.Eng
open Go.Proofs

def newF (c : VolCmd) : Volume × Int := if cmdOK c then (volN c, 0) else (volZ, 23)
theorem c_mementoref16_New (c : VolCmd) : Con Try.prog 22 [sC (cmdC c)] [] (.tup [sC (volC (newF c).1), AI .i64 (newF c).2]) [] := by
  unfold newF
  by_cases h : cmdOK c
  rw [if_pos h]; exact c_mementoref16_New_ok c h
  rw [if_neg h]; exact c_mementoref16_New_err c h
theorem c_volume_New (c : VolCmd) : Con Try.prog 14 [sC (cmdC c)] [] (.tup [sC (volC (newF c).1), AI .i64 (newF c).2]) [] := by
  unfold newF
  by_cases h : cmdOK c
  rw [if_pos h]; exact c_volume_New_ok c h
  rw [if_neg h]; exact c_volume_New_err c h

def insV (l : List Volume) (v : Volume) : List Volume := l.takeWhile (fun z => decide (z.id < v.id)) ++ [v] ++ l.dropWhile (fun z => decide (z.id < v.id))
theorem insV_eq : ∀ {l : List Volume} {v : Volume} {k : Nat}, (∀ j : Nat, j < k → ∀ z, l[j]? = some z → z.id < v.id) → (∀ z, l[k]? = some z → ¬ z.id < v.id) → k ≤ l.length → insV l v = l.take k ++ [v] ++ l.drop k
  | [], x, k, h1, h2, h3 => by
    have : k = 0 := by simpa using h3
    subst this
    rfl
  | a :: l, x, 0, h1, h2, h3 => by
    have := h2 a rfl
    simp [insV, List.takeWhile_cons, List.dropWhile_cons, this]
  | a :: l, x, k + 1, h1, h2, h3 => by
    have ha := h1 0 (by omega) a rfl
    have ih := insV_eq (l := l) (v := x) (k := k) (fun j hj z hz => h1 (j + 1) (by omega) z (by simpa using hz)) (fun z hz => h2 z (by simpa using hz)) (by simpa using h3)
    simp only [insV] at ih ⊢
    simp only [List.takeWhile_cons, List.dropWhile_cons, ha, decide_true, if_true, List.take_succ_cons, List.drop_succ_cons, List.cons_append]
    rw [ih]

def applyC (l : List Volume) (c : VolCmd) : List Volume × Reply :=
  if c.kind = 1 then (if 0 ≤ findV l c.vol then (l, repE 29) else if cmdOK c then (insV l (volN c), repE 0) else (l, repE 23))
  else if findV l c.vol < 0 then (l, repE 28)
  else (l.set (findV l c.vol).toNat (doF (l.getD (findV l c.vol).toNat volZ) c).1, (doF (l.getD (findV l c.vol).toNat volZ) c).2)
def applyF (l : List Volume) (b : List Int) : List Volume × Reply := if (readF b).2 ≠ 0 then (l, repE 20) else applyC l (readF b).1

theorem c_Machine_Apply (l : List Volume) (b : List Int) (hl : l.length ≤ 1000000) (hs : ∀ v ∈ l, volSmall v) (hb : b.length ≤ 1000000000) : Con Try.prog 21 [.ref 1000 0, .t (bytesT b)] [(1000, .box (mA l))] (sC (repC (applyF l b).2)) [(1000, .box (mA (applyF l b).1))] := by
  refine con_intro [1000] [1000] Try.func21 rfl Try.ntmps21 Try.results21 rfl rfl ?_
  intro E
  have hrd := c_mementoref16_ReadCmd b hb
  unfold applyF
  generalize readF b = rc at *
  obtain ⟨c, e⟩ := rc
  simp only at hrd ⊢
  unfold applyC
  have hnw := c_mementoref16_New c
  unfold newF at hnw
  have hcs := findV_cases l c.vol
  have hf := c_Machine_find l c.vol hl
  generalize findV l c.vol = g at *
  refine vc_rseq mixed ?_
  refine g_new (s_alloc 4 rfl rfl) rfl ?_
  refine g_nil ?_
  refine vc_rseq mixed ?_
  refine g_val (s_move rfl rfl) rfl ?_
  refine g_val (s_call [] (hrd) (evArgs_cons rfl evArgs_nil) trivial rfl (okVL_nil _) rfl (.inl rfl) rfl) rfl ?_
  refine g_val (s_move rfl rfl) rfl ?_
  refine g_val (s_extract rfl rfl rfl) rfl ?_
  refine g_val (s_extract rfl rfl rfl) rfl ?_
  refine g_new (s_alloc 5 rfl rfl) rfl ?_
  refine g_sto (s_store rfl rfl rfl rfl rfl rfl) rfl ?_
  refine g_val (s_assign rfl rfl) rfl ?_
  refine g_nil ?_
  refine vc_seq ?_
  refine vc_rseq mixed ?_
  refine g_val (s_move rfl rfl) rfl ?_
  refine g_val (s_neq rfl rfl rfl) rfl ?_
  refine g_nil ?_
  refine vc_cond rfl (fun hc19 => ?_) (fun hc19 => ?_)
  replace hc19 := of_decide_eq_true hc19
  simp only [ne_eq] at hc19
  rw [if_pos hc19]
  refine vc_rseq mixed ?_
  refine g_val (s_build (evArgs_cons rfl evArgs_nil) rfl rfl rfl) rfl ?_
  refine g_sto (s_store rfl rfl rfl rfl rfl rfl) rfl ?_
  refine g_nil ?_
  exact vc_ret (ret_hand [] [] _ (.cons (.agg rfl rfl rfl rfl) .nil) trivial (by repeat (first | exact leL_nil | refine leL_cons ?_ ?_ | exact LeV.tt rfl | exact .nl (by decide) (by decide) | exact .nn | refine LeV.tupL ?_ | refine LeV.aggL ?_ | exact .eq (by first | exact trivial | (simp [AV.okV, okR, lkB]; done) | (simp [AV.okV, okR, lkB]; omega)) (by first | rfl | (simp [AV.view, viewR, lkB, AV.ren, List.take_of_length_le]; done) | (simp [AV.view, viewR, lkB, AV.ren, List.take_of_length_le]; done)))) (lehp_cons rfl (leB_same _) (lehp_nil _ _)) rfl)
  replace hc19 := of_decide_eq_false hc19
  simp only [ne_eq, Decidable.not_not] at hc19
  refine vc_skip ?_
  rw [if_neg (by simpa using hc19)]
  refine vc_rseq mixed ?_
  refine g_val (s_move rfl rfl) rfl ?_
  refine g_val (s_field rfl rfl rfl rfl) rfl ?_
  refine g_val (s_load rfl rfl rfl rfl) rfl ?_
  refine g_cw (s_callH [] [] hf (evArgs_cons rfl (evArgs_cons rfl evArgs_nil)) ⟨rfl, trivial⟩ rfl (okVL_nil _) rfl rfl rfl) rfl ?_
  refine g_val (s_assign rfl rfl) rfl ?_
  refine g_nil ?_
  refine vc_rseq mixed ?_
  refine g_val (s_move rfl rfl) rfl ?_
  refine g_val (s_nilCheck rfl rfl rfl) rfl ?_
  refine g_val (s_field rfl rfl rfl rfl) rfl ?_
  refine g_val (s_load rfl rfl rfl rfl) rfl ?_
  refine g_new (s_appendN 29 rfl rfl rfl rfl (by simp only [List.length_map]; omega)) rfl ?_
  refine g_val (s_assign rfl rfl) rfl ?_
  refine g_nil ?_
  refine vc_seq ?_
  refine vc_rseq mixed ?_
  refine g_val (s_field rfl rfl rfl rfl) rfl ?_
  refine g_val (s_load rfl rfl rfl rfl) rfl ?_
  refine g_val (s_eql rfl rfl rfl) rfl ?_
  refine g_nil ?_
  refine vc_cond rfl (fun hc32 => ?_) (fun hc32 => ?_)
  replace hc32 := of_decide_eq_true hc32
  refine vc_seq ?_
  rw [if_pos hc32]
  refine vc_rseq mixed ?_
  refine g_val (s_move rfl rfl) rfl ?_
  refine g_val (s_geq rfl rfl rfl) rfl ?_
  refine g_nil ?_
  refine vc_cond rfl (fun hc34 => ?_) (fun hc34 => ?_)
  replace hc34 := of_decide_eq_true hc34
  rw [if_pos (by omega)]
  refine vc_rseq mixed ?_
  refine g_val (s_build (evArgs_cons rfl evArgs_nil) rfl rfl rfl) rfl ?_
  refine g_sto (s_store rfl rfl rfl rfl rfl rfl) rfl ?_
  refine g_nil ?_
  exact vc_ret (ret_hand [] [] _ (.cons (.agg rfl rfl rfl rfl) .nil) trivial (by repeat (first | exact leL_nil | refine leL_cons ?_ ?_ | exact LeV.tt rfl | exact .nl (by decide) (by decide) | exact .nn | refine LeV.tupL ?_ | refine LeV.aggL ?_ | exact .eq (by first | exact trivial | (simp [AV.okV, okR, lkB]; done) | (simp [AV.okV, okR, lkB]; omega)) (by first | rfl | (simp [AV.view, viewR, lkB, AV.ren, List.take_of_length_le]; done) | (simp [AV.view, viewR, lkB, AV.ren, List.take_of_length_le]; done)))) (lehp_cons rfl (leB_same _) (lehp_nil _ _)) rfl)
  replace hc34 := of_decide_eq_false hc34
  simp only [Int.not_le] at hc34
  refine vc_skip ?_
  rw [if_neg (by omega)]
  refine vc_freezeE 8 rfl rfl (by simp) ?_
  refine vc_rseq mixed ?_
  refine g_val (s_loadA rfl rfl rfl rfl rfl) rfl ?_
  refine g_val (s_call [] (hnw) (evArgs_cons rfl evArgs_nil) trivial rfl (okVL_nil _) rfl (.inl rfl) rfl) rfl ?_
  refine g_val (s_move rfl rfl) rfl ?_
  refine g_val (s_extract rfl rfl rfl) rfl ?_
  refine g_val (s_extract rfl rfl rfl) rfl ?_
  refine g_new (s_alloc 9 rfl rfl) rfl ?_
  refine g_sto (s_store rfl rfl rfl rfl rfl rfl) rfl ?_
  refine g_val (s_assign rfl rfl) rfl ?_
  refine g_nil ?_
  refine vc_seq ?_
  refine vc_rseq mixed ?_
  refine g_val (s_move rfl rfl) rfl ?_
  refine g_val (s_neq rfl rfl rfl) rfl ?_
  refine g_nil ?_
  refine vc_cond rfl (fun hc42 => ?_) (fun hc42 => ?_)
  replace hc42 := of_decide_eq_true hc42
  simp only [ne_eq] at hc42
  have hno : ¬ cmdOK c := by intro h; simp [h] at hc42
  simp only [if_neg hno]
  refine vc_rseq mixed ?_
  refine g_val (s_move rfl rfl) rfl ?_
  refine g_val (s_build (evArgs_cons rfl evArgs_nil) rfl rfl rfl) rfl ?_
  refine g_sto (s_store rfl rfl rfl rfl rfl rfl) rfl ?_
  refine g_nil ?_
  exact vc_ret (ret_hand [] [] _ (.cons (.agg rfl rfl rfl rfl) .nil) trivial (by repeat (first | exact leL_nil | refine leL_cons ?_ ?_ | exact LeV.tt rfl | exact .nl (by decide) (by decide) | exact .nn | refine LeV.tupL ?_ | refine LeV.aggL ?_ | exact .eq (by first | exact trivial | (simp [AV.okV, okR, lkB]; done) | (simp [AV.okV, okR, lkB]; omega)) (by first | rfl | (simp [AV.view, viewR, lkB, AV.ren, List.take_of_length_le]; done) | (simp [AV.view, viewR, lkB, AV.ren, List.take_of_length_le]; simp [repC, repE, bytesT, i64])))) (lehp_cons rfl (leB_same _) (lehp_nil _ _)) rfl)
  replace hc42 := of_decide_eq_false hc42
  simp only [ne_eq, Decidable.not_not] at hc42
  refine vc_skip ?_
  have hok : cmdOK c := by
    refine Decidable.byContradiction fun h => ?_
    simp [h] at hc42
  simp only [if_pos hok]
  refine vc_rseq mixed ?_
  refine g_val (s_assign rfl rfl) rfl ?_
  refine g_nil ?_
  refine vc_seq ?_
  refine vc_block ?_
  refine vc_up l.length (fun i => ⟨[(0, .ref 1000 0), (4, .ref 4 0), (5, .ref 5 0), (7, AI .i64 i), (8, .t (volsT l)), (9, .ref 9 0)], [(4, some (.box ((repC (repE 0)).map .t))), (5, some (.box ((cmdC c).map .t))), (9, some (.box ((volC (volN c)).map .t))), (1000, some (.box (mA l)))], [4, 5, 9, 1000]⟩) (fun i => ∀ j : Nat, j < i → ∀ z, l[j]? = some z → z.id < c.vol) (leE_same (by repeat (first | exact letm_nil _ _ | refine letm_cons rfl ?_ ?_ | exact .same _ | exact .nl (by decide) (by decide) | exact .nn | exact .id' rfl | exact .id' (by simp; done))) (by repeat (first | exact lehp_nil _ _ | refine lehp_cons rfl ?_ ?_ | exact leB_same _ | exact leB_row (by first | rfl | (simp; done)) | exact leB_obj (by simp; done) | refine leB_box ?_ | exact leL_nil | refine leL_cons ?_ ?_ | exact .same _ | exact .nl (by decide) (by decide) | exact .nn | exact .id' rfl | exact .id' (by simp; done))) rfl) (fun j h => by omega) (fun i hi hJ => ?_)
  refine vc_seq ?_
  refine vc_rseq mixed ?_
  refine d_val (s_move rfl rfl) rfl ?_
  refine d_val (s_move rfl rfl) rfl ?_
  refine d_val (s_len rfl rfl) rfl ?_
  refine d_val (s_lss rfl rfl rfl) rfl ?_
  refine d_val (s_move rfl rfl) rfl ?_
  refine g_probe (j := 49) rfl (fun c hg49 => ?_)
  cases c
  rw [← hg49]; replace hg49 := hg49.symm; replace hg49 := of_decide_eq_false hg49
  simp only [List.length_map, Int.not_lt] at hg49
  refine dn_val rfl rfl rfl rfl rfl rfl (by decide) ?_
  refine dn_val rfl rfl rfl rfl rfl rfl (by decide) ?_
  refine dn_val rfl rfl rfl rfl rfl rfl (by decide) ?_
  refine dn_val rfl rfl rfl rfl rfl rfl (by decide) ?_
  refine dn_val rfl rfl rfl rfl rfl rfl (by decide) ?_
  refine dn_val rfl rfl rfl rfl rfl rfl (by decide) ?_
  refine dn_val rfl rfl rfl rfl rfl rfl (by decide) ?_
  refine dn_val rfl rfl rfl rfl rfl rfl (by decide) ?_
  refine d_val (s_pickF rfl rfl rfl) rfl ?_
  refine d_nil rfl ?_
  refine vc_cond rfl (fun h => by cases h) (fun _ => ?_)
  refine vc_exit ?_
  have hins := insV_eq (l := l) (v := volN c) (k := i) hJ (fun z hz => by first | (exfalso; have := (List.getElem?_eq_some_iff.1 hz).1; simp at *; omega) | (rw [hx] at hz; injection hz with hz; subst hz; simp only [volN]; omega)) (by omega)
  refine vc_rseq mixed ?_
  refine d_val (s_move rfl rfl) rfl ?_
  refine d_val (s_move rfl rfl) rfl ?_
  refine d_val (s_move rfl rfl) rfl ?_
  refine d_val (s_slice none (some (.i64, (i : Int))) rfl trivial rfl rfl (by simp) (by simp) (by simp [optN]; omega)) rfl ?_
  refine d_new (s_appendN 65 rfl rfl rfl rfl (by simp [optN]; omega)) rfl ?_
  refine d_val (s_loadA rfl rfl rfl rfl rfl) rfl ?_
  refine d_fz ((s_buildSlice 67 (evArgs_cons rfl evArgs_nil) rfl rfl rfl rfl).fzE rfl) rfl ?_
  refine d_app (s_append 68 rfl rfl rfl rfl rfl (by simp [optN]) rfl rfl (by simp [optN]; omega)) rfl ?_
  refine d_val (s_move rfl rfl) rfl ?_
  refine d_val (s_move rfl rfl) rfl ?_
  refine d_val (s_slice (some (.i64, (i : Int))) none rfl rfl trivial rfl (by simp) (by simp) (by simp [optN]; omega)) rfl ?_
  refine d_fa ((s_append 72 rfl rfl rfl rfl rfl (by simp [optN]) rfl rfl (by simp [optN]; omega)).fzA (by simp [optN]) rfl) rfl ?_
  refine d_val (s_nilCheck rfl rfl rfl) rfl ?_
  refine d_val (s_field rfl rfl rfl rfl) rfl ?_
  refine d_sto (s_store rfl rfl rfl rfl rfl rfl) rfl ?_
  refine d_nil rfl ?_
  refine vc_rseq mixed ?_
  refine g_val (s_build evArgs_nil rfl rfl rfl) rfl ?_
  refine g_sto (s_store rfl rfl rfl rfl rfl rfl) rfl ?_
  refine g_nil ?_
  exact vc_ret (ret_hand [] [] _ (.cons (.agg rfl rfl rfl rfl) .nil) trivial (by repeat (first | exact leL_nil | refine leL_cons ?_ ?_ | exact LeV.tt rfl | exact .nl (by decide) (by decide) | exact .nn | refine LeV.tupL ?_ | refine LeV.aggL ?_ | exact .eq (by first | exact trivial | (simp [AV.okV, okR, lkB]; done) | (simp [AV.okV, okR, lkB]; omega)) (by first | rfl | (simp [AV.view, viewR, lkB, AV.ren, List.take_of_length_le]; done) | (simp [AV.view, viewR, lkB, AV.ren, List.take_of_length_le]; simp [repC, repE, bytesT, i64])))) (lehp_cons rfl (leB_box (leL_cons (LeV.tt (by rw [hins]; simp [optN, volsT, List.map_take, List.map_drop, List.take_of_length_le]; exact List.take_of_length_le (by simp; omega))) leL_nil)) (lehp_nil _ _)) rfl)
  rw [← hg49]; replace hg49 := hg49.symm; replace hg49 := of_decide_eq_true hg49
  simp only [List.length_map] at hg49
  obtain ⟨x, hx⟩ := get_of_lt (l := l) (i := i) (by omega)
  refine dq_val (s_move rfl rfl) rfl rfl rfl rfl ?_
  refine dq_val (s_move rfl rfl) rfl rfl rfl rfl ?_
  refine dq_val (s_index rfl rfl rfl (by omega) (idx_map hx)) rfl rfl rfl rfl ?_
  refine dq_val (s_fieldT rfl rfl rfl rfl rfl) rfl rfl rfl rfl ?_
  refine dq_val (s_loadT rfl rfl rfl) rfl rfl rfl rfl ?_
  refine dq_val (s_field rfl rfl rfl rfl) rfl rfl rfl rfl ?_
  refine dq_val (s_load rfl rfl rfl rfl) rfl rfl rfl rfl ?_
  refine dq_val (s_lss rfl rfl rfl) rfl rfl rfl rfl ?_
  refine d_val (s_pickT rfl rfl rfl) rfl ?_
  refine d_nil rfl ?_
  refine vc_cond rfl (fun hc58 => ?_) (fun hc58 => ?_)
  replace hc58 := of_decide_eq_true hc58
  refine vc_skip ?_
  refine vc_block ?_
  refine vc_region mixed ?_
  refine g_val (s_move rfl rfl) rfl ?_
  refine g_val (s_add rfl rfl rfl (by simp only [inI, kMin, kMax]; omega)) rfl ?_
  refine g_val (s_assign rfl rfl) rfl ?_
  refine g_nil ?_
  exact ⟨by omega, fun j hj z hz => by rcases Nat.lt_succ_iff_lt_or_eq.1 hj with h | rfl; exact hJ j h z hz; rw [hx] at hz; injection hz with hz; subst hz; exact hc58, (leE_same (by repeat (first | exact letm_nil _ _ | refine letm_cons rfl ?_ ?_ | exact .same _ | exact .nl (by decide) (by decide) | exact .nn | exact .id' rfl | exact .id' (by simp; done))) (by repeat (first | exact lehp_nil _ _ | refine lehp_cons rfl ?_ ?_ | exact leB_same _ | exact leB_row (by first | rfl | (simp; done)) | exact leB_obj (by simp; done) | refine leB_box ?_ | exact leL_nil | refine leL_cons ?_ ?_ | exact .same _ | exact .nl (by decide) (by decide) | exact .nn | exact .id' rfl | exact .id' (by simp; done))) rfl)⟩
  replace hc58 := of_decide_eq_false hc58
  simp only [Int.not_lt] at hc58
  refine vc_exit ?_
  have hins := insV_eq (l := l) (v := volN c) (k := i) hJ (fun z hz => by first | (exfalso; have := (List.getElem?_eq_some_iff.1 hz).1; simp at *; omega) | (rw [hx] at hz; injection hz with hz; subst hz; simp only [volN]; omega)) (by omega)
  refine vc_rseq mixed ?_
  refine d_val (s_move rfl rfl) rfl ?_
  refine d_val (s_move rfl rfl) rfl ?_
  refine d_val (s_move rfl rfl) rfl ?_
  refine d_val (s_slice none (some (.i64, (i : Int))) rfl trivial rfl rfl (by simp) (by simp) (by simp [optN]; omega)) rfl ?_
  refine d_new (s_appendN 65 rfl rfl rfl rfl (by simp [optN]; omega)) rfl ?_
  refine d_val (s_loadA rfl rfl rfl rfl rfl) rfl ?_
  refine d_fz ((s_buildSlice 67 (evArgs_cons rfl evArgs_nil) rfl rfl rfl rfl).fzE rfl) rfl ?_
  refine d_app (s_append 68 rfl rfl rfl rfl rfl (by simp [optN]) rfl rfl (by simp [optN]; omega)) rfl ?_
  refine d_val (s_move rfl rfl) rfl ?_
  refine d_val (s_move rfl rfl) rfl ?_
  refine d_val (s_slice (some (.i64, (i : Int))) none rfl rfl trivial rfl (by simp) (by simp) (by simp [optN]; omega)) rfl ?_
  refine d_fa ((s_append 72 rfl rfl rfl rfl rfl (by simp [optN]) rfl rfl (by simp [optN]; omega)).fzA (by simp [optN]) rfl) rfl ?_
  refine d_val (s_nilCheck rfl rfl rfl) rfl ?_
  refine d_val (s_field rfl rfl rfl rfl) rfl ?_
  refine d_sto (s_store rfl rfl rfl rfl rfl rfl) rfl ?_
  refine d_nil rfl ?_
  refine vc_rseq mixed ?_
  refine g_val (s_build evArgs_nil rfl rfl rfl) rfl ?_
  refine g_sto (s_store rfl rfl rfl rfl rfl rfl) rfl ?_
  refine g_nil ?_
  exact vc_ret (ret_hand [] [] _ (.cons (.agg rfl rfl rfl rfl) .nil) trivial (by repeat (first | exact leL_nil | refine leL_cons ?_ ?_ | exact LeV.tt rfl | exact .nl (by decide) (by decide) | exact .nn | refine LeV.tupL ?_ | refine LeV.aggL ?_ | exact .eq (by first | exact trivial | (simp [AV.okV, okR, lkB]; done) | (simp [AV.okV, okR, lkB]; omega)) (by first | rfl | (simp [AV.view, viewR, lkB, AV.ren, List.take_of_length_le]; done) | (simp [AV.view, viewR, lkB, AV.ren, List.take_of_length_le]; simp [repC, repE, bytesT, i64])))) (lehp_cons rfl (leB_box (leL_cons (LeV.tt (by rw [hins]; simp [optN, volsT, List.map_take, List.map_drop, List.take_of_length_le]; exact List.take_of_length_le (by simp; omega))) leL_nil)) (lehp_nil _ _)) rfl)
  replace hc32 := of_decide_eq_false hc32
  refine vc_skip ?_
  refine vc_seq ?_
  rw [if_neg hc32]
  refine vc_rseq mixed ?_
  refine g_val (s_move rfl rfl) rfl ?_
  refine g_val (s_lss rfl rfl rfl) rfl ?_
  refine g_nil ?_
  refine vc_cond rfl (fun hc77 => ?_) (fun hc77 => ?_)
  replace hc77 := of_decide_eq_true hc77
  rw [if_pos (by omega)]
  refine vc_rseq mixed ?_
  refine g_val (s_build (evArgs_cons rfl evArgs_nil) rfl rfl rfl) rfl ?_
  refine g_sto (s_store rfl rfl rfl rfl rfl rfl) rfl ?_
  refine g_nil ?_
  exact vc_ret (ret_hand [] [] _ (.cons (.agg rfl rfl rfl rfl) .nil) trivial (by repeat (first | exact leL_nil | refine leL_cons ?_ ?_ | exact LeV.tt rfl | exact .nl (by decide) (by decide) | exact .nn | refine LeV.tupL ?_ | refine LeV.aggL ?_ | exact .eq (by first | exact trivial | (simp [AV.okV, okR, lkB]; done) | (simp [AV.okV, okR, lkB]; omega)) (by first | rfl | (simp [AV.view, viewR, lkB, AV.ren, List.take_of_length_le]; done) | (simp [AV.view, viewR, lkB, AV.ren, List.take_of_length_le]; done)))) (lehp_cons rfl (leB_same _) (lehp_nil _ _)) rfl)
  replace hc77 := of_decide_eq_false hc77
  simp only [Int.not_lt] at hc77
  refine vc_skip ?_
  rw [if_neg (by omega)]
  obtain ⟨i, x, rfl, hx, hid⟩ : ∃ (i : Nat) (x : Volume), g = i ∧ l[i]? = some x ∧ x.id = c.vol := by
    rcases hcs with ⟨h, _⟩ | h
    omega
    exact h
  have hxd : l.getD ((i : Int).toNat) volZ = x := by rw [List.getD_eq_getElem?_getD]; simp [hx]
  have hil := (List.getElem?_eq_some_iff.1 hx).1
  rw [hxd]
  refine vc_rseq mixed ?_
  refine d_val (s_move rfl rfl) rfl ?_
  refine d_val (s_move rfl rfl) rfl ?_
  refine d_val (s_indexR rfl rfl rfl (by omega) (by first | omega | (simp only [List.length_map]; omega))) rfl ?_
  refine d_val (s_loadRA rfl rfl (idx_map0 hx) rfl rfl) rfl ?_
  refine d_val (s_loadA rfl rfl rfl rfl rfl) rfl ?_
  refine d_val (s_call [] (c_mementoref16_Do x c (hs x (List.mem_of_getElem? hx))) (evArgs_cons rfl (evArgs_cons rfl evArgs_nil)) trivial rfl (okVL_nil _) rfl (.inl rfl) rfl) rfl ?_
  refine d_val (s_move rfl rfl) rfl ?_
  refine d_val (s_extract rfl rfl rfl) rfl ?_
  refine d_val (s_extract rfl rfl rfl) rfl ?_
  refine d_new (s_alloc 11 rfl rfl) rfl ?_
  refine d_new (s_alloc 12 rfl rfl) rfl ?_
  refine d_sto (s_store rfl rfl rfl rfl rfl rfl) rfl ?_
  refine d_sto (s_store rfl rfl rfl rfl rfl rfl) rfl ?_
  refine d_nil rfl ?_
  refine vc_rseq mixed ?_
  refine g_val (s_move rfl rfl) rfl ?_
  refine g_val (s_move rfl rfl) rfl ?_
  refine g_val (s_loadA rfl rfl rfl rfl rfl) rfl ?_
  refine g_val (s_indexR rfl rfl rfl (by omega) (by first | omega | (simp only [List.length_map]; omega))) rfl ?_
  refine g_sto (s_storeR rfl rfl rfl rfl rfl (idx_map0 hx) rfl) rfl ?_
  refine g_nil ?_
  refine vc_freezeE 8 rfl rfl (by simp) ?_
  refine vc_rseq mixed ?_
  refine g_val (s_move rfl rfl) rfl ?_
  refine g_val (s_move rfl rfl) rfl ?_
  refine g_val (s_nilCheck rfl rfl rfl) rfl ?_
  refine g_val (s_field rfl rfl rfl rfl) rfl ?_
  refine g_sto (s_store rfl rfl rfl rfl rfl rfl) rfl ?_
  refine g_nil ?_
  refine vc_rseq mixed ?_
  refine g_val (s_loadA rfl rfl rfl rfl rfl) rfl ?_
  refine g_sto (s_store rfl rfl rfl rfl rfl rfl) rfl ?_
  refine g_nil ?_
  exact vc_ret (ret_hand [] [] _ (.cons (.agg rfl rfl rfl rfl) .nil) trivial (by repeat (first | exact leL_nil | refine leL_cons ?_ ?_ | exact LeV.tt rfl | exact .nl (by decide) (by decide) | exact .nn | refine LeV.tupL ?_ | refine LeV.aggL ?_ | exact .eq (by first | exact trivial | (simp [AV.okV, okR, lkB]; done) | (simp [AV.okV, okR, lkB]; omega)) (by first | rfl | (simp [AV.view, viewR, lkB, AV.ren, List.take_of_length_le]; done) | (simp [AV.view, viewR, lkB, AV.ren, List.take_of_length_le]; done)))) (lehp_cons rfl (leB_box (leL_cons (LeV.tt (by simp [volsT, List.map_set]; rfl)) leL_nil)) (lehp_nil _ _)) rfl)

end Go.Eng

set_option maxHeartbeats 4000000
namespace Go.Eng
open Go.Proofs

def seatG (blocks size : Int) : List Int → List Item → List Item
  | [], acc => acc
  | k :: l, acc => if acc.length < 8 then (if acc.any (fun x => decide (x.block = k % max blocks 1)) then seatG blocks size l acc else seatG blocks size l (acc ++ [⟨k % max blocks 1, dataF size k⟩])) else acc
def seatItems (blocks size : Int) (l : List Int) : List Item := seatG blocks size l []
theorem seatG_full {blocks size : Int} {l : List Int} {acc : List Item} (h : ¬ acc.length < 8) : seatG blocks size l acc = acc := by
  cases l with
  | nil => rfl
  | cons k l => simp only [seatG, if_neg h]

theorem c_mementoseat_Items (blocks size : Int) (l : List Int) (hs : size ≤ 1000000) : Con Try.prog 13 [AI .i64 blocks, AI .i64 size, .t (bytesT l)] [] (.t (itemsT (seatItems blocks size l))) [] := by
  refine con_intro [] [] Try.func13 rfl Try.ntmps13 Try.results13 rfl rfl ?_
  intro E
  refine vc_okT (i := 2) rfl fun ok2 => ?_
  have hll := ok2.len
  rw [List.length_map] at hll
  refine vc_rseq mixed ?_
  refine g_val (s_assign rfl rfl) rfl ?_
  refine g_nil ?_
  refine vc_rseq mixed ?_
  refine g_val (s_assign rfl rfl) rfl ?_
  refine g_nil ?_
  refine vc_seq ?_
  refine vc_ownnil (i := 7) 7 2 32 rfl rfl rfl ?_
  refine vc_rseq mixed ?_
  refine g_val (s_assign rfl rfl) rfl ?_
  refine g_nil ?_
  refine vc_block ?_
  refine vc_while (α := Nat × List Item) (fun s => ⟨[(0, AI .i64 blocks), (1, AI .i64 size), (2, .t (bytesT l)), (7, .rows 7 2 0 s.2.length), (8, AI .i64 s.1)], [(7, some (.row 2 32 (s.2.map itemC)))], [7]⟩) (fun s => s.1 ≤ l.length ∧ s.2.length ≤ 8 ∧ seatG blocks size (l.drop s.1) s.2 = seatItems blocks size l) (fun s => l.length - s.1) (0, []) (leE_same (by repeat (first | exact letm_nil _ _ | refine letm_cons rfl ?_ ?_ | exact .same _ | exact .nl (by decide) (by decide) | exact .nn | exact .id' rfl | exact .id' (by simp; done))) (by repeat (first | exact lehp_nil _ _ | refine lehp_cons rfl ?_ ?_ | exact leB_same _ | exact leB_row (by first | rfl | (simp; done)) | exact leB_obj (by simp; done) | refine leB_box ?_ | exact leL_nil | refine leL_cons ?_ ?_ | exact .same _ | exact .nl (by decide) (by decide) | exact .nn | exact .id' rfl | exact .id' (by simp; done))) rfl) ⟨Nat.zero_le _, Nat.zero_le _, rfl⟩ (fun s ⟨hs1, hs2, hs3⟩ => ?_)
  obtain ⟨i, acc⟩ := s
  simp only at hs1 hs2 hs3
  refine vc_seq ?_
  refine vc_rseq mixed ?_
  refine g_val (s_move rfl rfl) rfl ?_
  refine g_val (s_move rfl rfl) rfl ?_
  refine g_val (s_len rfl rfl) rfl ?_
  refine g_val (s_lss rfl rfl rfl) rfl ?_
  refine g_val (s_move rfl rfl) rfl ?_
  refine g_probe (j := 16) rfl (fun c hg16 => ?_)
  cases c
  rw [← hg16]; replace hg16 := hg16.symm; replace hg16 := of_decide_eq_false hg16
  simp only [List.length_map, Int.not_lt] at hg16
  refine gn_val rfl rfl rfl rfl rfl rfl (by decide) ?_
  refine gn_val rfl rfl rfl rfl rfl rfl (by decide) ?_
  refine gn_val rfl rfl rfl rfl rfl rfl (by decide) ?_
  refine g_val (s_pickF rfl rfl rfl) rfl ?_
  refine g_nil ?_
  refine vc_cond rfl (fun h => by cases h) (fun _ => ?_)
  refine vc_exit ?_
  have hfin : acc = seatItems blocks size l := by
    rw [← hs3]
    by_cases h8 : acc.length < 8
    rw [List.drop_of_length_le (by omega)]; rfl
    rw [seatG_full h8]
  refine vc_rseq mixed ?_
  refine g_val (s_move rfl rfl) rfl ?_
  refine g_val (s_assign rfl rfl) rfl ?_
  refine g_nil ?_
  exact vc_ret (ret_le [(7, _)] _ (.cons (.tmp rfl) .nil) ⟨rfl, trivial⟩ (.eq (by simp [single, AV.okV, okR, lkB]) (by simp [single, AV.view, viewR, lkB, AV.ren, itemsT, take_map_len, hfin])) rfl)
  rw [← hg16]; replace hg16 := hg16.symm; replace hg16 := of_decide_eq_true hg16
  simp only [List.length_map] at hg16
  refine gq_val (s_move rfl rfl) rfl rfl rfl rfl ?_
  refine gq_val (s_lenR rfl rfl (by simp) rfl) rfl rfl rfl rfl ?_
  refine gq_val (s_lss rfl rfl rfl) rfl rfl rfl rfl ?_
  refine g_val (s_pickT rfl rfl rfl) rfl ?_
  refine g_nil ?_
  refine vc_cond rfl (fun hc20 => ?_) (fun hc20 => ?_)
  replace hc20 := of_decide_eq_true hc20
  try simp only [List.length_map, ne_eq, Decidable.not_not, Int.not_lt, Int.not_le, ge_iff_le, gt_iff_lt, Bool.not_eq_true', Bool.not_eq_false', decide_eq_true_eq, decide_eq_false_iff_not] at hc20
  obtain ⟨k, hk⟩ := get_of_lt (l := l) (i := i) (by omega)
  have hkr := ok2.bytes k (List.mem_of_getElem? hk)
  have hst : seatG blocks size (l.drop i) acc = (if acc.any (fun x => decide (x.block = k % max blocks 1)) then seatG blocks size (l.drop (i + 1)) acc else seatG blocks size (l.drop (i + 1)) (acc ++ [⟨k % max blocks 1, dataF size k⟩])) := by
    obtain ⟨h1, h2⟩ := List.getElem?_eq_some_iff.1 hk
    rw [List.drop_eq_getElem_cons h1, h2]
    simp only [seatG]
    rw [if_pos (by omega)]
  refine vc_skip ?_
  refine vc_seq ?_
  refine vc_block ?_
  refine vc_rseq mixed ?_
  refine g_val (s_move rfl rfl) rfl ?_
  refine g_val (s_move rfl rfl) rfl ?_
  refine g_val (s_index rfl rfl rfl (by omega) (idx_map hk)) rfl ?_
  refine g_val (s_loadT rfl rfl rfl) rfl ?_
  refine g_val (s_conv rfl rfl (by simp only [inI, kMin, kMax]; omega)) rfl ?_
  refine g_val (s_move rfl rfl) rfl ?_
  refine g_val (s_max rfl rfl rfl) rfl ?_
  refine g_val (s_rem rfl rfl rfl (by omega) (by omega)) rfl ?_
  refine g_val (s_assign rfl rfl) rfl ?_
  refine g_nil ?_
  refine vc_rseq mixed ?_
  refine g_val (s_assign rfl rfl) rfl ?_
  refine g_nil ?_
  refine vc_seq ?_
  refine vc_rseq mixed ?_
  refine g_val (s_assign rfl rfl) rfl ?_
  refine g_nil ?_
  refine vc_block ?_
  refine vc_up acc.length (fun j => ⟨[(0, AI .i64 blocks), (1, AI .i64 size), (2, .t (bytesT l)), (7, .rows 7 2 0 acc.length), (8, AI .i64 i), (9, AI .i64 (k % max blocks 1)), (10, AB ((acc.take j).any (fun x => decide (x.block = k % max blocks 1)))), (11, AI .i64 j)], [(7, some (.row 2 32 (acc.map itemC)))], [7]⟩) (fun j => True) (leE_same (by repeat (first | exact letm_nil _ _ | refine letm_cons rfl ?_ ?_ | exact .same _ | exact .nl (by decide) (by decide) | exact .nn | exact .id' rfl | exact .id' (by simp; done))) (by repeat (first | exact lehp_nil _ _ | refine lehp_cons rfl ?_ ?_ | exact leB_same _ | exact leB_row (by first | rfl | (simp; done)) | exact leB_obj (by simp; done) | refine leB_box ?_ | exact leL_nil | refine leL_cons ?_ ?_ | exact .same _ | exact .nl (by decide) (by decide) | exact .nn | exact .id' rfl | exact .id' (by simp; done))) rfl) trivial (fun j hj _ => ?_)
  refine vc_seq ?_
  refine vc_rseq mixed ?_
  refine g_val (s_move rfl rfl) rfl ?_
  refine g_val (s_move rfl rfl) rfl ?_
  refine g_val (s_lenR rfl rfl (by first | omega | (simp; done) | (simp; omega)) rfl) rfl ?_
  refine g_val (s_lss rfl rfl rfl) rfl ?_
  refine g_nil ?_
  refine vc_cond rfl (fun hc34 => ?_) (fun hc34 => ?_)
  replace hc34 := of_decide_eq_true hc34
  obtain ⟨x, hx⟩ := get_of_lt (l := acc) (i := j) (by omega)
  refine vc_skip ?_
  refine vc_seq ?_
  refine vc_block ?_
  refine vc_region mixed ?_
  refine g_val (s_move rfl rfl) rfl ?_
  refine g_val (s_move rfl rfl) rfl ?_
  refine g_probe (j := 38) rfl (fun c hg38 => ?_)
  cases c
  rw [← hg38]; replace hg38 := hg38.symm
  refine gq_val (s_move rfl rfl) rfl rfl rfl rfl ?_
  refine gq_val (s_move rfl rfl) rfl rfl rfl rfl ?_
  refine gq_val (s_indexR rfl rfl rfl (by omega) (by first | omega | (simp only [List.length_map]; omega))) rfl rfl rfl rfl ?_
  refine gq_val (s_fieldR rfl rfl rfl rfl) rfl rfl rfl rfl ?_
  refine gq_val (s_loadR rfl rfl (idx_map0 hx) rfl rfl) rfl rfl rfl rfl ?_
  refine gq_val (s_move rfl rfl) rfl rfl rfl rfl ?_
  refine gq_val (s_eql rfl rfl rfl) rfl rfl rfl rfl ?_
  refine g_val (s_pickF rfl rfl rfl) rfl ?_
  refine g_val (s_assign rfl rfl) rfl ?_
  refine g_nil ?_
  refine vc_region mixed ?_
  refine g_val (s_move rfl rfl) rfl ?_
  refine g_val (s_add rfl rfl rfl (by simp only [inI, kMin, kMax]; omega)) rfl ?_
  refine g_val (s_assign rfl rfl) rfl ?_
  refine g_nil ?_
  exact ⟨by omega, trivial, (leE_same (by repeat (first | exact letm_nil _ _ | refine letm_cons rfl ?_ ?_ | exact .same _ | exact .nl (by decide) (by decide) | exact .nn | exact .id' rfl | exact .id' (by rw [take_snoc hx]; simp_all))) (by repeat (first | exact lehp_nil _ _ | refine lehp_cons rfl ?_ ?_ | exact leB_same _ | exact leB_row (by first | rfl | (rw [take_snoc hx]; simp_all)) | exact leB_obj (by rw [take_snoc hx]; simp_all) | refine leB_box ?_ | exact leL_nil | refine leL_cons ?_ ?_ | exact .same _ | exact .nl (by decide) (by decide) | exact .nn | exact .id' rfl | exact .id' (by rw [take_snoc hx]; simp_all))) rfl)⟩
  rw [← hg38]; replace hg38 := hg38.symm
  refine gn_val rfl rfl rfl rfl rfl rfl (by decide) ?_
  refine gn_val rfl rfl rfl rfl rfl rfl (by decide) ?_
  refine gn_val rfl rfl rfl rfl rfl rfl (by decide) ?_
  refine gn_val rfl rfl rfl rfl rfl rfl (by decide) ?_
  refine gn_val rfl rfl rfl rfl rfl rfl (by decide) ?_
  refine gn_val rfl rfl rfl rfl rfl rfl (by decide) ?_
  refine gn_val rfl rfl rfl rfl rfl rfl (by decide) ?_
  refine g_val (s_pickT rfl rfl rfl) rfl ?_
  refine g_val (s_assign rfl rfl) rfl ?_
  refine g_nil ?_
  refine vc_region mixed ?_
  refine g_val (s_move rfl rfl) rfl ?_
  refine g_val (s_add rfl rfl rfl (by simp only [inI, kMin, kMax]; omega)) rfl ?_
  refine g_val (s_assign rfl rfl) rfl ?_
  refine g_nil ?_
  exact ⟨by omega, trivial, (leE_same (by repeat (first | exact letm_nil _ _ | refine letm_cons rfl ?_ ?_ | exact .same _ | exact .nl (by decide) (by decide) | exact .nn | exact .id' rfl | exact .id' (by rw [take_snoc hx]; simp_all))) (by repeat (first | exact lehp_nil _ _ | refine lehp_cons rfl ?_ ?_ | exact leB_same _ | exact leB_row (by first | rfl | (rw [take_snoc hx]; simp_all)) | exact leB_obj (by rw [take_snoc hx]; simp_all) | refine leB_box ?_ | exact leL_nil | refine leL_cons ?_ ?_ | exact .same _ | exact .nl (by decide) (by decide) | exact .nn | exact .id' rfl | exact .id' (by rw [take_snoc hx]; simp_all))) rfl)⟩
  replace hc34 := of_decide_eq_false hc34
  simp only [Int.not_lt] at hc34
  refine vc_exit ?_
  obtain rfl : j = acc.length := by omega
  rw [List.take_length]
  refine vc_rseq mixed ?_
  refine g_val (s_move rfl rfl) rfl ?_
  refine g_val (s_not rfl rfl) rfl ?_
  refine g_nil ?_
  refine vc_cond rfl (fun hc48 => ?_) (fun hc48 => ?_)
  simp only [Bool.not_eq_true'] at hc48
  refine vc_region mixed ?_
  refine g_val (s_move rfl rfl) rfl ?_
  refine g_val (s_move rfl rfl) rfl ?_
  refine g_val (s_move rfl rfl) rfl ?_
  refine g_val (s_move rfl rfl) rfl ?_
  refine g_val (s_move rfl rfl) rfl ?_
  refine g_val (s_index rfl rfl rfl (by omega) (idx_map hk)) rfl ?_
  refine g_val (s_loadT rfl rfl rfl) rfl ?_
  refine g_val (s_call [] (c_mementoseat_Data size k hs) (evArgs_cons rfl (evArgs_cons rfl evArgs_nil)) trivial rfl (okVL_nil _) rfl (.inl rfl) rfl) rfl ?_
  refine g_val (s_build (evArgs_cons rfl (evArgs_cons rfl evArgs_nil)) rfl rfl rfl) rfl ?_
  refine g_fz ((s_buildSlice 58 (evArgs_cons rfl evArgs_nil) rfl rfl rfl rfl).fzE rfl) rfl ?_
  refine g_app (s_append 59 rfl rfl rfl rfl rfl (by simp) rfl rfl (by (try simp only [List.length_cons, List.length_nil]); omega)) rfl ?_
  refine g_val (s_assign rfl rfl) rfl ?_
  refine g_nil ?_
  refine vc_region mixed ?_
  refine g_val (s_move rfl rfl) rfl ?_
  refine g_val (s_add rfl rfl rfl (by simp only [inI, kMin, kMax]; omega)) rfl ?_
  refine g_val (s_assign rfl rfl) rfl ?_
  refine g_nil ?_
  first
  | exact ⟨(i + 1, acc ++ [⟨k % max blocks 1, dataF size k⟩]), ⟨by simp only; omega, by simp only [List.length_append, List.length_cons, List.length_nil]; omega, by simp only; rw [← hs3, hst, if_neg (by simp only [hc48]; decide)]⟩, by simp only; omega, by
      simp only [List.length_append, List.length_cons, List.length_nil]
      exact (leE_gen [] [(7, 59)] (by repeat (first | exact letm_nil _ _ | refine letm_cons rfl ?_ ?_ | exact LeV.tt rfl | exact .eq (okV_nil _) rfl | exact LeV.tt (by rw [List.take_of_length_le (by simp)]; simp [itemC, i64, bytesT]) | exact .eq (okV_nil _) (by rw [List.take_of_length_le (by simp)]; simp [itemC, i64, bytesT]))) (by repeat (first | exact lehp_nil _ _ | refine lehp_cons rfl ?_ ?_ | exact leB_row (by first | rfl | (rw [List.take_of_length_le (by simp)]; simp [itemC, i64, bytesT])) | exact leB_obj (by rw [List.take_of_length_le (by simp)]; simp [itemC, i64, bytesT]) | refine leB_box ?_ | exact leL_nil | refine leL_cons ?_ ?_ | exact LeV.tt rfl | exact .eq (okV_nil _) rfl | exact LeV.tt (by rw [List.take_of_length_le (by simp)]; simp [itemC, i64, bytesT]) | exact .eq (okV_nil _) (by rw [List.take_of_length_le (by simp)]; simp [itemC, i64, bytesT]))) trivial rfl)⟩
  | exact ⟨(i + 1, acc), ⟨by simp only; omega, hs2, by simp only; rw [← hs3, hst, if_pos hc48]⟩, by simp only; omega, (leE_same (by repeat (first | exact letm_nil _ _ | refine letm_cons rfl ?_ ?_ | exact .same _ | exact .nl (by decide) (by decide) | exact .nn | exact .id' rfl | exact .id' (by simp; done))) (by repeat (first | exact lehp_nil _ _ | refine lehp_cons rfl ?_ ?_ | exact leB_same _ | exact leB_row (by first | rfl | (simp; done)) | exact leB_obj (by simp; done) | refine leB_box ?_ | exact leL_nil | refine leL_cons ?_ ?_ | exact .same _ | exact .nl (by decide) (by decide) | exact .nn | exact .id' rfl | exact .id' (by simp; done))) rfl)⟩
  simp only [Bool.not_eq_false'] at hc48
  refine vc_skip ?_
  refine vc_region mixed ?_
  refine g_val (s_move rfl rfl) rfl ?_
  refine g_val (s_add rfl rfl rfl (by simp only [inI, kMin, kMax]; omega)) rfl ?_
  refine g_val (s_assign rfl rfl) rfl ?_
  refine g_nil ?_
  first
  | exact ⟨(i + 1, acc ++ [⟨k % max blocks 1, dataF size k⟩]), ⟨by simp only; omega, by simp only [List.length_append, List.length_cons, List.length_nil]; omega, by simp only; rw [← hs3, hst, if_neg (by simp only [hc48]; decide)]⟩, by simp only; omega, by
      simp only [List.length_append, List.length_cons, List.length_nil]
      exact (leE_gen [] [(7, 59)] (by repeat (first | exact letm_nil _ _ | refine letm_cons rfl ?_ ?_ | exact LeV.tt rfl | exact .eq (okV_nil _) rfl | exact LeV.tt (by rw [List.take_of_length_le (by simp)]; simp [itemC, i64, bytesT]) | exact .eq (okV_nil _) (by rw [List.take_of_length_le (by simp)]; simp [itemC, i64, bytesT]))) (by repeat (first | exact lehp_nil _ _ | refine lehp_cons rfl ?_ ?_ | exact leB_row (by first | rfl | (rw [List.take_of_length_le (by simp)]; simp [itemC, i64, bytesT])) | exact leB_obj (by rw [List.take_of_length_le (by simp)]; simp [itemC, i64, bytesT]) | refine leB_box ?_ | exact leL_nil | refine leL_cons ?_ ?_ | exact LeV.tt rfl | exact .eq (okV_nil _) rfl | exact LeV.tt (by rw [List.take_of_length_le (by simp)]; simp [itemC, i64, bytesT]) | exact .eq (okV_nil _) (by rw [List.take_of_length_le (by simp)]; simp [itemC, i64, bytesT]))) trivial rfl)⟩
  | exact ⟨(i + 1, acc), ⟨by simp only; omega, hs2, by simp only; rw [← hs3, hst, if_pos hc48]⟩, by simp only; omega, (leE_same (by repeat (first | exact letm_nil _ _ | refine letm_cons rfl ?_ ?_ | exact .same _ | exact .nl (by decide) (by decide) | exact .nn | exact .id' rfl | exact .id' (by simp; done))) (by repeat (first | exact lehp_nil _ _ | refine lehp_cons rfl ?_ ?_ | exact leB_same _ | exact leB_row (by first | rfl | (simp; done)) | exact leB_obj (by simp; done) | refine leB_box ?_ | exact leL_nil | refine leL_cons ?_ ?_ | exact .same _ | exact .nl (by decide) (by decide) | exact .nn | exact .id' rfl | exact .id' (by simp; done))) rfl)⟩
  replace hc20 := of_decide_eq_false hc20
  simp only [Int.not_lt] at hc20
  refine vc_exit ?_
  have hfin : acc = seatItems blocks size l := by
    rw [← hs3]
    by_cases h8 : acc.length < 8
    rw [List.drop_of_length_le (by omega)]; rfl
    rw [seatG_full h8]
  refine vc_rseq mixed ?_
  refine g_val (s_move rfl rfl) rfl ?_
  refine g_val (s_assign rfl rfl) rfl ?_
  refine g_nil ?_
  exact vc_ret (ret_le [(7, _)] _ (.cons (.tmp rfl) .nil) ⟨rfl, trivial⟩ (.eq (by simp [single, AV.okV, okR, lkB]) (by simp [single, AV.view, viewR, lkB, AV.ren, itemsT, take_map_len, hfin])) rfl)

def createC (vol blocks size per total : Int) : VolCmd :=
  ⟨1, vol % 3, blocks % 9 + 1, size % 3 + 1, per % (blocks % 9 + 1) + 1, (List.range (chunksN (blocks % 9 + 1) (per % (blocks % 9 + 1) + 1)).toNat).map (fun i : Nat => 1 + ((i : Int) + per) % 2), total, 0, 0, []⟩

theorem c_mementoseat_Create (vol blocks size per total : Int) : Con Try.prog 23 [AI .u8 vol, AI .u8 blocks, AI .u8 size, AI .u8 per, AI .i64 total] [] (sC (cmdC (createC vol blocks size per total))) [] := by
  refine con_intro [] [] Try.func23 rfl Try.ntmps23 Try.results23 rfl rfl ?_
  intro E
  refine vc_int (t := 0) rfl fun h0 => ?_
  refine vc_int (t := 1) rfl fun h1 => ?_
  refine vc_int (t := 2) rfl fun h2 => ?_
  refine vc_int (t := 3) rfl fun h3 => ?_
  simp only [inI, kMin, kMax] at h0 h1 h2 h3
  unfold createC
  obtain ⟨B, hBB⟩ : ∃ B, blocks % 9 + 1 = B := ⟨_, rfl⟩
  obtain ⟨Q, hQQ⟩ : ∃ Q, per % (blocks % 9 + 1) + 1 = Q := ⟨_, rfl⟩
  rw [hQQ]
  have hB : 1 ≤ B ∧ B ≤ 9 := by omega
  have hQ0 := hQQ
  rw [hBB] at hQ0 ⊢
  have hP0 := Int.emod_nonneg per (b := B) (by omega)
  have hP1 := Int.emod_lt_of_pos per (b := B) (by omega)
  have hP : 1 ≤ Q ∧ Q ≤ 9 := by omega
  have hch : chunksN B Q ≤ 17 ∧ 0 ≤ chunksN B Q := by
    unfold chunksN
    refine ⟨?_, Int.ediv_nonneg (by omega) (by omega)⟩
    have := Int.ediv_le_self (a := B + Q - 1) Q (by omega)
    omega
  refine vc_rseq mixed ?_
  refine g_new (s_alloc 10 rfl rfl) rfl ?_
  refine g_nil ?_
  refine vc_rseq mixed ?_
  refine g_val (s_move rfl rfl) rfl ?_
  refine g_val (s_rem rfl rfl rfl (by omega) (by omega)) rfl ?_
  refine g_val (s_conv rfl rfl (by simp only [inI, kMin, kMax]; omega)) rfl ?_
  refine g_val (s_move rfl rfl) rfl ?_
  refine g_val (s_rem rfl rfl rfl (by omega) (by omega)) rfl ?_
  refine g_val (s_conv rfl rfl (by simp only [inI, kMin, kMax]; omega)) rfl ?_
  refine g_val (s_add rfl rfl rfl (by simp only [inI, kMin, kMax]; omega)) rfl ?_
  refine g_val (s_move rfl rfl) rfl ?_
  refine g_val (s_rem rfl rfl rfl (by omega) (by omega)) rfl ?_
  refine g_val (s_conv rfl rfl (by simp only [inI, kMin, kMax]; omega)) rfl ?_
  refine g_val (s_add rfl rfl rfl (by simp only [inI, kMin, kMax]; omega)) rfl ?_
  refine g_val (s_move rfl rfl) rfl ?_
  refine g_val (s_build (evArgs_cons rfl (evArgs_cons rfl (evArgs_cons rfl (evArgs_cons rfl (evArgs_cons rfl evArgs_nil))))) rfl rfl rfl) rfl ?_
  refine g_new (s_alloc 11 rfl rfl) rfl ?_
  refine g_sto (s_store rfl rfl rfl rfl rfl rfl) rfl ?_
  refine g_nil ?_
  refine vc_rseq mixed ?_
  refine g_val (s_move rfl rfl) rfl ?_
  refine g_val (s_conv rfl rfl (by simp only [inI, kMin, kMax]; omega)) rfl ?_
  refine g_val (s_field rfl rfl rfl rfl) rfl ?_
  refine g_val (s_load rfl rfl rfl rfl) rfl ?_
  refine g_val (s_rem rfl rfl rfl (by omega) (by omega)) rfl ?_
  refine g_val (s_add rfl rfl rfl (by simp only [inI, kMin, kMax]; omega)) rfl ?_
  refine g_val (s_field rfl rfl rfl rfl) rfl ?_
  refine g_sto (s_store rfl rfl rfl rfl rfl rfl) rfl ?_
  refine g_nil ?_
  refine vc_seq ?_
  refine vc_ownnilB (q0 := 11) 5 5 1 8 rfl rfl rfl rfl ?_
  refine vc_rseq mixed ?_
  refine g_val (s_assign rfl rfl) rfl ?_
  refine g_nil ?_
  refine vc_block ?_
  refine vc_up (chunksN B Q).toNat (fun i => ⟨[(3, AI .u8 per), (10, .ref 10 0), (11, .ref 11 0), (12, AI .i64 i)], [(10, some (.box ((cmdC cmdZ).map .t))), (11, some (.box [AI .i64 1, AI .i64 (vol % 3), AI .i64 B, AI .i64 (size % 3 + 1), AI .i64 Q, .rows 5 1 0 i, AI .i64 total, AI .i64 0, AI .i64 0, .t (itemsT [])])), (5, some (.row 1 8 (((List.range i).map (fun i : Nat => 1 + ((i : Int) + per) % 2)).map intC)))], [5, 10, 11]⟩) (fun i => True) (leE_same (by repeat (first | exact letm_nil _ _ | refine letm_cons rfl ?_ ?_ | exact .same _ | exact .nl (by decide) (by decide) | exact .nn | exact .id' rfl | exact .id' (by first | (simp [hBB, hQ0]; done) | (simp [hBB]; done)))) (by repeat (first | exact lehp_nil _ _ | refine lehp_cons rfl ?_ ?_ | exact leB_same _ | exact leB_row (by first | rfl | (first | (simp [hBB, hQ0]; done) | (simp [hBB]; done))) | exact leB_obj (by first | (simp [hBB, hQ0]; done) | (simp [hBB]; done)) | refine leB_box ?_ | exact leL_nil | refine leL_cons ?_ ?_ | exact .same _ | exact .nl (by decide) (by decide) | exact .nn | exact .id' rfl | exact .id' (by first | (simp [hBB, hQ0]; done) | (simp [hBB]; done)))) rfl) trivial (fun i hi _ => ?_)
  refine vc_seq ?_
  refine vc_rseq mixed ?_
  refine g_val (s_move rfl rfl) rfl ?_
  refine g_val (s_field rfl rfl rfl rfl) rfl ?_
  refine g_val (s_load rfl rfl rfl rfl) rfl ?_
  refine g_val (s_field rfl rfl rfl rfl) rfl ?_
  refine g_val (s_load rfl rfl rfl rfl) rfl ?_
  refine g_val (s_call [] (c_mementoref16_Chunks B Q (by omega) (by omega) (by omega) (by omega)) (evArgs_cons rfl (evArgs_cons rfl evArgs_nil)) trivial rfl (okVL_nil _) rfl (.inl rfl) rfl) rfl ?_
  refine g_val (s_lss rfl rfl rfl) rfl ?_
  refine g_nil ?_
  refine vc_cond rfl (fun hc39 => ?_) (fun hc39 => ?_)
  replace hc39 := of_decide_eq_true hc39
  refine vc_skip ?_
  refine vc_seq ?_
  refine vc_block ?_
  refine vc_region mixed ?_
  refine g_val (s_field rfl rfl rfl rfl) rfl ?_
  refine g_val (s_load rfl rfl rfl rfl) rfl ?_
  refine g_val (s_move rfl rfl) rfl ?_
  refine g_val (s_move rfl rfl) rfl ?_
  refine g_val (s_conv rfl rfl (by simp only [inI, kMin, kMax]; omega)) rfl ?_
  refine g_val (s_add rfl rfl rfl (by simp only [inI, kMin, kMax]; omega)) rfl ?_
  refine g_val (s_rem rfl rfl rfl (by omega) (by omega)) rfl ?_
  refine g_val (s_add rfl rfl rfl (by simp only [inI, kMin, kMax]; omega)) rfl ?_
  refine g_fz ((s_buildSlice 50 (evArgs_cons rfl evArgs_nil) rfl rfl rfl rfl).fzE rfl) rfl ?_
  refine g_app (s_append 51 rfl rfl rfl rfl rfl (by simp) rfl rfl (by (try simp only [List.length_cons, List.length_nil]); omega)) rfl ?_
  refine g_val (s_field rfl rfl rfl rfl) rfl ?_
  refine g_sto (s_store rfl rfl rfl rfl rfl rfl) rfl ?_
  refine g_nil ?_
  refine vc_region mixed ?_
  refine g_val (s_move rfl rfl) rfl ?_
  refine g_val (s_add rfl rfl rfl (by simp only [inI, kMin, kMax]; omega)) rfl ?_
  refine g_val (s_assign rfl rfl) rfl ?_
  refine g_nil ?_
  exact ⟨by omega, trivial, (leE_gen [] [(5, 51)] (by repeat (first | exact letm_nil _ _ | refine letm_cons rfl ?_ ?_ | exact LeV.tt rfl | exact .eq (okV_nil _) rfl | exact LeV.tt (by rw [List.range_succ, List.map_append, List.map_append, List.take_of_length_le (by simp)]; rfl) | exact .eq (okV_nil _) (by rw [List.range_succ, List.map_append, List.map_append, List.take_of_length_le (by simp)]; rfl))) (by repeat (first | exact lehp_nil _ _ | refine lehp_cons rfl ?_ ?_ | exact leB_row (by first | rfl | (rw [List.range_succ, List.map_append, List.map_append, List.take_of_length_le (by simp)]; rfl)) | exact leB_obj (by rw [List.range_succ, List.map_append, List.map_append, List.take_of_length_le (by simp)]; rfl) | refine leB_box ?_ | exact leL_nil | refine leL_cons ?_ ?_ | exact LeV.tt rfl | exact .eq (okV_nil _) rfl | exact LeV.tt (by rw [List.range_succ, List.map_append, List.map_append, List.take_of_length_le (by simp)]; rfl) | exact .eq (okV_nil _) (by rw [List.range_succ, List.map_append, List.map_append, List.take_of_length_le (by simp)]; rfl))) trivial rfl)⟩
  replace hc39 := of_decide_eq_false hc39
  simp only [Int.not_lt] at hc39
  refine vc_exit ?_
  obtain rfl : i = (chunksN B Q).toNat := by omega
  refine vc_rseq mixed ?_
  refine g_val (s_loadA rfl rfl rfl rfl rfl) rfl ?_
  refine g_sto (s_store rfl rfl rfl rfl rfl rfl) rfl ?_
  refine g_nil ?_
  exact vc_ret (ret_le [(5, _)] _ (.cons (.agg rfl rfl rfl rfl) .nil) ⟨rfl, trivial⟩ (by repeat (first | exact leL_nil | refine leL_cons ?_ ?_ | exact LeV.tt rfl | exact .nl (by decide) (by decide) | exact .nn | refine LeV.tupL ?_ | refine LeV.aggL ?_ | exact .eq (by first | exact trivial | (simp [AV.okV, okR, lkB]; done) | (simp [AV.okV, okR, lkB]; omega)) (by first | rfl | (simp [AV.view, viewR, lkB, AV.ren, List.take_of_length_le]; done) | (simp [AV.view, viewR, lkB, AV.ren, List.take_of_length_le]; simp [intsT]; done)))) rfl)

end Go.Eng

set_option maxHeartbeats 4000000
namespace Go.Eng
open Go.Proofs

def seatX (v : Volume) (what a b c : Int) : VolCmd :=
  if what % 10 ≤ 3 then { cmdZ with vol := v.id, kind := 2, items := seatItems v.blocks v.size [a, b, c] }
  else if what % 10 = 4 then { cmdZ with vol := v.id, kind := 3, time := a % ((v.writes.length : Int) + 2) }
  else if what % 10 = 5 then { cmdZ with vol := v.id, kind := 4, time := a % ((v.writes.length : Int) + 2) }
  else if what % 10 = 6 then { cmdZ with vol := v.id, kind := 5, time := a % ((v.writes.length : Int) + 2) }
  else if what % 10 = 7 then { cmdZ with vol := v.id, kind := 8 }
  else if what % 10 = 8 then { cmdZ with vol := v.id, kind := 6, index := max (v.next - c % 5 / 4) 0, items := seatItems v.blocks v.size [a, b] }
  else { cmdZ with vol := v.id, kind := 7 }
def seatCmd (v : Volume) (th : Bool) (what a b c : Int) : VolCmd :=
  if th = false then createC (IntKind.u8.wrap v.id) a b c (if c % 4 = 0 then c / 4 % 3 + 1 else 0)
  else if v.hidden = true ∧ what % 10 < 5 then { cmdZ with vol := v.id, kind := 6, index := v.next, items := seatItems v.blocks v.size [a, b, c] }
  else seatX v what a b c

theorem c_mementoseat_Cmd (v : Volume) (th : Bool) (what a b c : Int) (hv : volSmall v) (hsz : v.size ≤ 1000000) : Con Try.prog 20 [sC (volC v), AB th, AI .u8 what, AI .u8 a, AI .u8 b, AI .u8 c] [] (sC (cmdC (seatCmd v th what a b c))) [] := by
  refine con_intro [] [] Try.func20 rfl Try.ntmps20 Try.results20 rfl rfl ?_
  intro E
  refine vc_int (t := 2) rfl fun h2 => ?_
  refine vc_int (t := 3) rfl fun h3 => ?_
  refine vc_int (t := 4) rfl fun h4 => ?_
  refine vc_int (t := 5) rfl fun h5 => ?_
  simp only [inI, kMin, kMax] at h2 h3 h4 h5
  have hv1 := hv.writes
  have hv3 := hv.next
  refine vc_rseq mixed ?_
  refine g_new (s_box 6 rfl rfl rfl rfl) rfl ?_
  refine g_new (s_alloc 12 rfl rfl) rfl ?_
  refine g_nil ?_
  refine vc_seq ?_
  refine vc_rseq mixed ?_
  refine g_val (s_move rfl rfl) rfl ?_
  refine g_val (s_not rfl rfl) rfl ?_
  refine g_nil ?_
  refine vc_cond rfl (fun hc16 => ?_) (fun hc16 => ?_)
  simp only [Bool.not_eq_true'] at hc16
  have hth : th = false := by simpa using hc16
  refine vc_rseq mixed ?_
  refine g_val (s_assign rfl rfl) rfl ?_
  refine g_nil ?_
  refine vc_seq ?_
  refine vc_rseq mixed ?_
  refine g_val (s_move rfl rfl) rfl ?_
  refine g_val (s_rem rfl rfl rfl (by omega) (by omega)) rfl ?_
  refine g_val (s_eql rfl rfl rfl) rfl ?_
  refine g_nil ?_
  refine vc_cond rfl (fun hc19 => ?_) (fun hc19 => ?_)
  replace hc19 := of_decide_eq_true hc19
  refine vc_region mixed ?_
  refine g_val (s_move rfl rfl) rfl ?_
  refine g_val (s_quo rfl rfl rfl (by omega) (by omega)) rfl ?_
  refine g_val (s_rem rfl rfl rfl (by omega) (by omega)) rfl ?_
  refine g_val (s_conv rfl rfl (by simp only [inI, kMin, kMax]; omega)) rfl ?_
  refine g_val (s_add rfl rfl rfl (by simp only [inI, kMin, kMax]; omega)) rfl ?_
  refine g_val (s_assign rfl rfl) rfl ?_
  refine g_nil ?_
  refine vc_rseq mixed ?_
  refine g_val (s_field rfl rfl rfl rfl) rfl ?_
  refine g_val (s_load rfl rfl rfl rfl) rfl ?_
  refine g_val (s_convW rfl rfl) rfl ?_
  refine g_val (s_move rfl rfl) rfl ?_
  refine g_val (s_move rfl rfl) rfl ?_
  refine g_val (s_move rfl rfl) rfl ?_
  refine g_val (s_move rfl rfl) rfl ?_
  refine g_val (s_call [] (c_mementoseat_Create (IntKind.u8.wrap v.id) a b c _) (evArgs_cons rfl (evArgs_cons rfl (evArgs_cons rfl (evArgs_cons rfl (evArgs_cons rfl evArgs_nil))))) trivial rfl (okVL_nil _) rfl (.inl rfl) rfl) rfl ?_
  refine g_sto (s_store rfl rfl rfl rfl rfl rfl) rfl ?_
  refine g_nil ?_
  rw [show seatCmd v th what a b c = createC (IntKind.u8.wrap v.id) a b c _ from if_pos hth]
  first
    | (rw [if_pos (by omega)]; exact vc_ret (ret_le [] _ (.cons (.agg rfl rfl rfl rfl) .nil) trivial (by repeat (first | exact leL_nil | refine leL_cons ?_ ?_ | exact LeV.tt rfl | exact .nl (by decide) (by decide) | exact .nn | refine LeV.tupL ?_ | refine LeV.aggL ?_ | exact .eq (by first | exact trivial | (simp [AV.okV, okR, lkB]; done) | (simp [AV.okV, okR, lkB]; omega)) (by first | rfl | (simp [AV.view, viewR, lkB, AV.ren, List.take_of_length_le]; done) | (simp [AV.view, viewR, lkB, AV.ren, List.take_of_length_le]; done)))) rfl))
    | (rw [if_neg (by omega)]; exact vc_ret (ret_le [] _ (.cons (.agg rfl rfl rfl rfl) .nil) trivial (by repeat (first | exact leL_nil | refine leL_cons ?_ ?_ | exact LeV.tt rfl | exact .nl (by decide) (by decide) | exact .nn | refine LeV.tupL ?_ | refine LeV.aggL ?_ | exact .eq (by first | exact trivial | (simp [AV.okV, okR, lkB]; done) | (simp [AV.okV, okR, lkB]; omega)) (by first | rfl | (simp [AV.view, viewR, lkB, AV.ren, List.take_of_length_le]; done) | (simp [AV.view, viewR, lkB, AV.ren, List.take_of_length_le]; done)))) rfl))
  replace hc19 := of_decide_eq_false hc19
  refine vc_skip ?_
  refine vc_rseq mixed ?_
  refine g_val (s_field rfl rfl rfl rfl) rfl ?_
  refine g_val (s_load rfl rfl rfl rfl) rfl ?_
  refine g_val (s_convW rfl rfl) rfl ?_
  refine g_val (s_move rfl rfl) rfl ?_
  refine g_val (s_move rfl rfl) rfl ?_
  refine g_val (s_move rfl rfl) rfl ?_
  refine g_val (s_move rfl rfl) rfl ?_
  refine g_val (s_call [] (c_mementoseat_Create (IntKind.u8.wrap v.id) a b c _) (evArgs_cons rfl (evArgs_cons rfl (evArgs_cons rfl (evArgs_cons rfl (evArgs_cons rfl evArgs_nil))))) trivial rfl (okVL_nil _) rfl (.inl rfl) rfl) rfl ?_
  refine g_sto (s_store rfl rfl rfl rfl rfl rfl) rfl ?_
  refine g_nil ?_
  rw [show seatCmd v th what a b c = createC (IntKind.u8.wrap v.id) a b c _ from if_pos hth]
  first
    | (rw [if_pos (by omega)]; exact vc_ret (ret_le [] _ (.cons (.agg rfl rfl rfl rfl) .nil) trivial (by repeat (first | exact leL_nil | refine leL_cons ?_ ?_ | exact LeV.tt rfl | exact .nl (by decide) (by decide) | exact .nn | refine LeV.tupL ?_ | refine LeV.aggL ?_ | exact .eq (by first | exact trivial | (simp [AV.okV, okR, lkB]; done) | (simp [AV.okV, okR, lkB]; omega)) (by first | rfl | (simp [AV.view, viewR, lkB, AV.ren, List.take_of_length_le]; done) | (simp [AV.view, viewR, lkB, AV.ren, List.take_of_length_le]; done)))) rfl))
    | (rw [if_neg (by omega)]; exact vc_ret (ret_le [] _ (.cons (.agg rfl rfl rfl rfl) .nil) trivial (by repeat (first | exact leL_nil | refine leL_cons ?_ ?_ | exact LeV.tt rfl | exact .nl (by decide) (by decide) | exact .nn | refine LeV.tupL ?_ | refine LeV.aggL ?_ | exact .eq (by first | exact trivial | (simp [AV.okV, okR, lkB]; done) | (simp [AV.okV, okR, lkB]; omega)) (by first | rfl | (simp [AV.view, viewR, lkB, AV.ren, List.take_of_length_le]; done) | (simp [AV.view, viewR, lkB, AV.ren, List.take_of_length_le]; done)))) rfl))
  simp only [Bool.not_eq_false'] at hc16
  refine vc_skip ?_
  have hth : th = true := by simpa using hc16
  refine vc_rseq mixed ?_
  refine g_val (s_field rfl rfl rfl rfl) rfl ?_
  refine g_val (s_load rfl rfl rfl rfl) rfl ?_
  refine g_val (s_build (evArgs_cons rfl evArgs_nil) rfl rfl rfl) rfl ?_
  refine g_new (s_alloc 14 rfl rfl) rfl ?_
  refine g_sto (s_store rfl rfl rfl rfl rfl rfl) rfl ?_
  refine g_nil ?_
  refine vc_cut (⟨[(2, AI .u8 what), (3, AI .u8 a), (4, AI .u8 b), (5, AI .u8 c), (6, .ref 6 0), (12, .ref 12 0), (14, .ref 14 0)], [(6, some (.box ((volC v).map .t))), (12, some (.box ((cmdC cmdZ).map .t))), (14, some (.box ((cmdC (seatX v what a b c)).map .t)))], [6, 12, 14]⟩) ?_ ?_
  refine vc_rseq mixed ?_
  refine g_val (s_move rfl rfl) rfl ?_
  refine g_val (s_rem rfl rfl rfl (by omega) (by omega)) rfl ?_
  refine g_nil ?_
  refine vc_block ?_
  refine vc_seq ?_
  refine vc_rseq mixed ?_
  refine g_val (s_eql rfl rfl rfl) rfl ?_
  refine g_val (s_assign rfl rfl) rfl ?_
  refine g_nil ?_
  refine vc_cond rfl (fun hc39 => ?_) (fun hc39 => ?_)
  replace hc39 := of_decide_eq_true hc39
  refine vc_skip ?_
  refine vc_cond rfl (fun _ => ?_) (fun h => by have h := of_decide_eq_false h; omega)
  rw [show seatX v what a b c = { cmdZ with vol := v.id, kind := 2, items := seatItems v.blocks v.size [a, b, c] } from if_pos (by omega)]
  refine vc_region mixed ?_
  refine g_val (s_field rfl rfl rfl rfl) rfl ?_
  refine g_val (s_load rfl rfl rfl rfl) rfl ?_
  refine g_val (s_field rfl rfl rfl rfl) rfl ?_
  refine g_val (s_load rfl rfl rfl rfl) rfl ?_
  refine g_val (s_move rfl rfl) rfl ?_
  refine g_val (s_move rfl rfl) rfl ?_
  refine g_val (s_move rfl rfl) rfl ?_
  refine g_fz ((s_buildSlice 51 (evArgs_cons rfl (evArgs_cons rfl (evArgs_cons rfl evArgs_nil))) rfl rfl rfl rfl).fzE rfl) rfl ?_
  refine g_val (s_call [] (c_mementoseat_Items v.blocks v.size [a, b, c] hsz) (evArgs_cons rfl (evArgs_cons rfl (evArgs_cons rfl evArgs_nil))) trivial rfl (okVL_nil _) rfl (.inl rfl) rfl) rfl ?_
  refine g_val (s_field rfl rfl rfl rfl) rfl ?_
  refine g_sto (s_store rfl rfl rfl rfl rfl rfl) rfl ?_
  refine g_val (s_field rfl rfl rfl rfl) rfl ?_
  refine g_sto (s_store rfl rfl rfl rfl rfl rfl) rfl ?_
  refine g_nil ?_
  exact (leE_same (by repeat (first | exact letm_nil _ _ | refine letm_cons rfl ?_ ?_ | exact .same _ | exact .nl (by decide) (by decide) | exact .nn | exact .id' rfl | exact .id' (by simp; done))) (by repeat (first | exact lehp_nil _ _ | refine lehp_cons rfl ?_ ?_ | exact leB_same _ | exact leB_row (by first | rfl | (simp; done)) | exact leB_obj (by simp; done) | refine leB_box ?_ | exact leL_nil | refine leL_cons ?_ ?_ | exact .same _ | exact .nl (by decide) (by decide) | exact .nn | exact .id' rfl | exact .id' (by simp; done))) rfl)
  replace hc39 := of_decide_eq_false hc39
  refine vc_rseq mixed ?_
  refine g_val (s_eql rfl rfl rfl) rfl ?_
  refine g_val (s_assign rfl rfl) rfl ?_
  refine g_nil ?_
  refine vc_cond rfl (fun hc39 => ?_) (fun hc39 => ?_)
  replace hc39 := of_decide_eq_true hc39
  refine vc_skip ?_
  refine vc_cond rfl (fun _ => ?_) (fun h => by have h := of_decide_eq_false h; omega)
  rw [show seatX v what a b c = { cmdZ with vol := v.id, kind := 2, items := seatItems v.blocks v.size [a, b, c] } from if_pos (by omega)]
  refine vc_region mixed ?_
  refine g_val (s_field rfl rfl rfl rfl) rfl ?_
  refine g_val (s_load rfl rfl rfl rfl) rfl ?_
  refine g_val (s_field rfl rfl rfl rfl) rfl ?_
  refine g_val (s_load rfl rfl rfl rfl) rfl ?_
  refine g_val (s_move rfl rfl) rfl ?_
  refine g_val (s_move rfl rfl) rfl ?_
  refine g_val (s_move rfl rfl) rfl ?_
  refine g_fz ((s_buildSlice 51 (evArgs_cons rfl (evArgs_cons rfl (evArgs_cons rfl evArgs_nil))) rfl rfl rfl rfl).fzE rfl) rfl ?_
  refine g_val (s_call [] (c_mementoseat_Items v.blocks v.size [a, b, c] hsz) (evArgs_cons rfl (evArgs_cons rfl (evArgs_cons rfl evArgs_nil))) trivial rfl (okVL_nil _) rfl (.inl rfl) rfl) rfl ?_
  refine g_val (s_field rfl rfl rfl rfl) rfl ?_
  refine g_sto (s_store rfl rfl rfl rfl rfl rfl) rfl ?_
  refine g_val (s_field rfl rfl rfl rfl) rfl ?_
  refine g_sto (s_store rfl rfl rfl rfl rfl rfl) rfl ?_
  refine g_nil ?_
  exact (leE_same (by repeat (first | exact letm_nil _ _ | refine letm_cons rfl ?_ ?_ | exact .same _ | exact .nl (by decide) (by decide) | exact .nn | exact .id' rfl | exact .id' (by simp; done))) (by repeat (first | exact lehp_nil _ _ | refine lehp_cons rfl ?_ ?_ | exact leB_same _ | exact leB_row (by first | rfl | (simp; done)) | exact leB_obj (by simp; done) | refine leB_box ?_ | exact leL_nil | refine leL_cons ?_ ?_ | exact .same _ | exact .nl (by decide) (by decide) | exact .nn | exact .id' rfl | exact .id' (by simp; done))) rfl)
  replace hc39 := of_decide_eq_false hc39
  refine vc_rseq mixed ?_
  refine g_val (s_eql rfl rfl rfl) rfl ?_
  refine g_val (s_assign rfl rfl) rfl ?_
  refine g_nil ?_
  refine vc_cond rfl (fun hc39 => ?_) (fun hc39 => ?_)
  replace hc39 := of_decide_eq_true hc39
  refine vc_skip ?_
  refine vc_cond rfl (fun _ => ?_) (fun h => by have h := of_decide_eq_false h; omega)
  rw [show seatX v what a b c = { cmdZ with vol := v.id, kind := 2, items := seatItems v.blocks v.size [a, b, c] } from if_pos (by omega)]
  refine vc_region mixed ?_
  refine g_val (s_field rfl rfl rfl rfl) rfl ?_
  refine g_val (s_load rfl rfl rfl rfl) rfl ?_
  refine g_val (s_field rfl rfl rfl rfl) rfl ?_
  refine g_val (s_load rfl rfl rfl rfl) rfl ?_
  refine g_val (s_move rfl rfl) rfl ?_
  refine g_val (s_move rfl rfl) rfl ?_
  refine g_val (s_move rfl rfl) rfl ?_
  refine g_fz ((s_buildSlice 51 (evArgs_cons rfl (evArgs_cons rfl (evArgs_cons rfl evArgs_nil))) rfl rfl rfl rfl).fzE rfl) rfl ?_
  refine g_val (s_call [] (c_mementoseat_Items v.blocks v.size [a, b, c] hsz) (evArgs_cons rfl (evArgs_cons rfl (evArgs_cons rfl evArgs_nil))) trivial rfl (okVL_nil _) rfl (.inl rfl) rfl) rfl ?_
  refine g_val (s_field rfl rfl rfl rfl) rfl ?_
  refine g_sto (s_store rfl rfl rfl rfl rfl rfl) rfl ?_
  refine g_val (s_field rfl rfl rfl rfl) rfl ?_
  refine g_sto (s_store rfl rfl rfl rfl rfl rfl) rfl ?_
  refine g_nil ?_
  exact (leE_same (by repeat (first | exact letm_nil _ _ | refine letm_cons rfl ?_ ?_ | exact .same _ | exact .nl (by decide) (by decide) | exact .nn | exact .id' rfl | exact .id' (by simp; done))) (by repeat (first | exact lehp_nil _ _ | refine lehp_cons rfl ?_ ?_ | exact leB_same _ | exact leB_row (by first | rfl | (simp; done)) | exact leB_obj (by simp; done) | refine leB_box ?_ | exact leL_nil | refine leL_cons ?_ ?_ | exact .same _ | exact .nl (by decide) (by decide) | exact .nn | exact .id' rfl | exact .id' (by simp; done))) rfl)
  replace hc39 := of_decide_eq_false hc39
  refine vc_region mixed ?_
  refine g_val (s_eql rfl rfl rfl) rfl ?_
  refine g_val (s_assign rfl rfl) rfl ?_
  refine g_nil ?_
  refine vc_cond rfl (fun hc39 => ?_) (fun hc39 => ?_)
  replace hc39 := of_decide_eq_true hc39
  rw [show seatX v what a b c = { cmdZ with vol := v.id, kind := 2, items := seatItems v.blocks v.size [a, b, c] } from if_pos (by omega)]
  refine vc_region mixed ?_
  refine g_val (s_field rfl rfl rfl rfl) rfl ?_
  refine g_val (s_load rfl rfl rfl rfl) rfl ?_
  refine g_val (s_field rfl rfl rfl rfl) rfl ?_
  refine g_val (s_load rfl rfl rfl rfl) rfl ?_
  refine g_val (s_move rfl rfl) rfl ?_
  refine g_val (s_move rfl rfl) rfl ?_
  refine g_val (s_move rfl rfl) rfl ?_
  refine g_fz ((s_buildSlice 51 (evArgs_cons rfl (evArgs_cons rfl (evArgs_cons rfl evArgs_nil))) rfl rfl rfl rfl).fzE rfl) rfl ?_
  refine g_val (s_call [] (c_mementoseat_Items v.blocks v.size [a, b, c] hsz) (evArgs_cons rfl (evArgs_cons rfl (evArgs_cons rfl evArgs_nil))) trivial rfl (okVL_nil _) rfl (.inl rfl) rfl) rfl ?_
  refine g_val (s_field rfl rfl rfl rfl) rfl ?_
  refine g_sto (s_store rfl rfl rfl rfl rfl rfl) rfl ?_
  refine g_val (s_field rfl rfl rfl rfl) rfl ?_
  refine g_sto (s_store rfl rfl rfl rfl rfl rfl) rfl ?_
  refine g_nil ?_
  exact (leE_same (by repeat (first | exact letm_nil _ _ | refine letm_cons rfl ?_ ?_ | exact .same _ | exact .nl (by decide) (by decide) | exact .nn | exact .id' rfl | exact .id' (by simp; done))) (by repeat (first | exact lehp_nil _ _ | refine lehp_cons rfl ?_ ?_ | exact leB_same _ | exact leB_row (by first | rfl | (simp; done)) | exact leB_obj (by simp; done) | refine leB_box ?_ | exact leL_nil | refine leL_cons ?_ ?_ | exact .same _ | exact .nl (by decide) (by decide) | exact .nn | exact .id' rfl | exact .id' (by simp; done))) rfl)
  replace hc39 := of_decide_eq_false hc39
  refine vc_rseq mixed ?_
  refine g_val (s_eql rfl rfl rfl) rfl ?_
  refine g_val (s_assign rfl rfl) rfl ?_
  refine g_nil ?_
  refine vc_cond rfl (fun hc55 => ?_) (fun hc55 => ?_)
  replace hc55 := of_decide_eq_true hc55
  rw [show seatX v what a b c = { cmdZ with vol := v.id, kind := 3, time := a % ((v.writes.length : Int) + 2) } from by unfold seatX; (repeat' split) <;> first | rfl | (exfalso; omega)]
  refine vc_region mixed ?_
  refine d_val (s_move rfl rfl) rfl ?_
  refine d_val (s_conv rfl rfl (by simp only [inI, kMin, kMax]; omega)) rfl ?_
  refine d_val (s_loadA rfl rfl rfl rfl rfl) rfl ?_
  refine d_val (s_call [] (c_mementoref16_Len v) (evArgs_cons rfl evArgs_nil) trivial rfl (okVL_nil _) rfl (.inl rfl) rfl) rfl ?_
  refine d_val (s_add rfl rfl rfl (by simp only [inI, kMin, kMax]; omega)) rfl ?_
  refine d_val (s_rem rfl rfl rfl (by omega) (by omega)) rfl ?_
  refine d_val (s_field rfl rfl rfl rfl) rfl ?_
  refine d_sto (s_store rfl rfl rfl rfl rfl rfl) rfl ?_
  refine d_val (s_field rfl rfl rfl rfl) rfl ?_
  refine d_sto (s_store rfl rfl rfl rfl rfl rfl) rfl ?_
  refine d_nil rfl ?_
  exact (leE_same (by repeat (first | exact letm_nil _ _ | refine letm_cons rfl ?_ ?_ | exact .same _ | exact .nl (by decide) (by decide) | exact .nn | exact .id' rfl | exact .id' (by simp; done))) (by repeat (first | exact lehp_nil _ _ | refine lehp_cons rfl ?_ ?_ | exact leB_same _ | exact leB_row (by first | rfl | (simp; done)) | exact leB_obj (by simp; done) | refine leB_box ?_ | exact leL_nil | refine leL_cons ?_ ?_ | exact .same _ | exact .nl (by decide) (by decide) | exact .nn | exact .id' rfl | exact .id' (by simp; done))) rfl)
  replace hc55 := of_decide_eq_false hc55
  refine vc_rseq mixed ?_
  refine g_val (s_eql rfl rfl rfl) rfl ?_
  refine g_val (s_assign rfl rfl) rfl ?_
  refine g_nil ?_
  refine vc_cond rfl (fun hc65 => ?_) (fun hc65 => ?_)
  replace hc65 := of_decide_eq_true hc65
  rw [show seatX v what a b c = { cmdZ with vol := v.id, kind := 4, time := a % ((v.writes.length : Int) + 2) } from by unfold seatX; (repeat' split) <;> first | rfl | (exfalso; omega)]
  refine vc_region mixed ?_
  refine d_val (s_move rfl rfl) rfl ?_
  refine d_val (s_conv rfl rfl (by simp only [inI, kMin, kMax]; omega)) rfl ?_
  refine d_val (s_loadA rfl rfl rfl rfl rfl) rfl ?_
  refine d_val (s_call [] (c_mementoref16_Len v) (evArgs_cons rfl evArgs_nil) trivial rfl (okVL_nil _) rfl (.inl rfl) rfl) rfl ?_
  refine d_val (s_add rfl rfl rfl (by simp only [inI, kMin, kMax]; omega)) rfl ?_
  refine d_val (s_rem rfl rfl rfl (by omega) (by omega)) rfl ?_
  refine d_val (s_field rfl rfl rfl rfl) rfl ?_
  refine d_sto (s_store rfl rfl rfl rfl rfl rfl) rfl ?_
  refine d_val (s_field rfl rfl rfl rfl) rfl ?_
  refine d_sto (s_store rfl rfl rfl rfl rfl rfl) rfl ?_
  refine d_nil rfl ?_
  exact (leE_same (by repeat (first | exact letm_nil _ _ | refine letm_cons rfl ?_ ?_ | exact .same _ | exact .nl (by decide) (by decide) | exact .nn | exact .id' rfl | exact .id' (by simp; done))) (by repeat (first | exact lehp_nil _ _ | refine lehp_cons rfl ?_ ?_ | exact leB_same _ | exact leB_row (by first | rfl | (simp; done)) | exact leB_obj (by simp; done) | refine leB_box ?_ | exact leL_nil | refine leL_cons ?_ ?_ | exact .same _ | exact .nl (by decide) (by decide) | exact .nn | exact .id' rfl | exact .id' (by simp; done))) rfl)
  replace hc65 := of_decide_eq_false hc65
  refine vc_rseq mixed ?_
  refine g_val (s_eql rfl rfl rfl) rfl ?_
  refine g_val (s_assign rfl rfl) rfl ?_
  refine g_nil ?_
  refine vc_cond rfl (fun hc75 => ?_) (fun hc75 => ?_)
  replace hc75 := of_decide_eq_true hc75
  rw [show seatX v what a b c = { cmdZ with vol := v.id, kind := 5, time := a % ((v.writes.length : Int) + 2) } from by unfold seatX; (repeat' split) <;> first | rfl | (exfalso; omega)]
  refine vc_region mixed ?_
  refine d_val (s_move rfl rfl) rfl ?_
  refine d_val (s_conv rfl rfl (by simp only [inI, kMin, kMax]; omega)) rfl ?_
  refine d_val (s_loadA rfl rfl rfl rfl rfl) rfl ?_
  refine d_val (s_call [] (c_mementoref16_Len v) (evArgs_cons rfl evArgs_nil) trivial rfl (okVL_nil _) rfl (.inl rfl) rfl) rfl ?_
  refine d_val (s_add rfl rfl rfl (by simp only [inI, kMin, kMax]; omega)) rfl ?_
  refine d_val (s_rem rfl rfl rfl (by omega) (by omega)) rfl ?_
  refine d_val (s_field rfl rfl rfl rfl) rfl ?_
  refine d_sto (s_store rfl rfl rfl rfl rfl rfl) rfl ?_
  refine d_val (s_field rfl rfl rfl rfl) rfl ?_
  refine d_sto (s_store rfl rfl rfl rfl rfl rfl) rfl ?_
  refine d_nil rfl ?_
  exact (leE_same (by repeat (first | exact letm_nil _ _ | refine letm_cons rfl ?_ ?_ | exact .same _ | exact .nl (by decide) (by decide) | exact .nn | exact .id' rfl | exact .id' (by simp; done))) (by repeat (first | exact lehp_nil _ _ | refine lehp_cons rfl ?_ ?_ | exact leB_same _ | exact leB_row (by first | rfl | (simp; done)) | exact leB_obj (by simp; done) | refine leB_box ?_ | exact leL_nil | refine leL_cons ?_ ?_ | exact .same _ | exact .nl (by decide) (by decide) | exact .nn | exact .id' rfl | exact .id' (by simp; done))) rfl)
  replace hc75 := of_decide_eq_false hc75
  refine vc_rseq mixed ?_
  refine g_val (s_eql rfl rfl rfl) rfl ?_
  refine g_val (s_assign rfl rfl) rfl ?_
  refine g_nil ?_
  refine vc_cond rfl (fun hc85 => ?_) (fun hc85 => ?_)
  replace hc85 := of_decide_eq_true hc85
  rw [show seatX v what a b c = { cmdZ with vol := v.id, kind := 8 } from by unfold seatX; (repeat' split) <;> first | rfl | (exfalso; omega)]
  refine vc_region mixed ?_
  refine g_val (s_field rfl rfl rfl rfl) rfl ?_
  refine g_sto (s_store rfl rfl rfl rfl rfl rfl) rfl ?_
  refine g_nil ?_
  exact (leE_same (by repeat (first | exact letm_nil _ _ | refine letm_cons rfl ?_ ?_ | exact .same _ | exact .nl (by decide) (by decide) | exact .nn | exact .id' rfl | exact .id' (by simp; done))) (by repeat (first | exact lehp_nil _ _ | refine lehp_cons rfl ?_ ?_ | exact leB_same _ | exact leB_row (by first | rfl | (simp; done)) | exact leB_obj (by simp; done) | refine leB_box ?_ | exact leL_nil | refine leL_cons ?_ ?_ | exact .same _ | exact .nl (by decide) (by decide) | exact .nn | exact .id' rfl | exact .id' (by simp; done))) rfl)
  replace hc85 := of_decide_eq_false hc85
  refine vc_rseq mixed ?_
  refine g_val (s_eql rfl rfl rfl) rfl ?_
  refine g_val (s_assign rfl rfl) rfl ?_
  refine g_nil ?_
  refine vc_cond rfl (fun hc88 => ?_) (fun hc88 => ?_)
  replace hc88 := of_decide_eq_true hc88
  rw [show seatX v what a b c = { cmdZ with vol := v.id, kind := 6, index := max (v.next - c % 5 / 4) 0, items := seatItems v.blocks v.size [a, b] } from by unfold seatX; (repeat' split) <;> first | rfl | (exfalso; omega)]
  refine vc_region mixed ?_
  refine d_val (s_field rfl rfl rfl rfl) rfl ?_
  refine d_val (s_load rfl rfl rfl rfl) rfl ?_
  refine d_val (s_move rfl rfl) rfl ?_
  refine d_val (s_rem rfl rfl rfl (by omega) (by omega)) rfl ?_
  refine d_val (s_conv rfl rfl (by simp only [inI, kMin, kMax]; omega)) rfl ?_
  refine d_val (s_quo rfl rfl rfl (by omega) (by omega)) rfl ?_
  refine d_val (s_sub rfl rfl rfl (by simp only [inI, kMin, kMax]; omega)) rfl ?_
  refine d_val (s_max rfl rfl rfl) rfl ?_
  refine d_val (s_field rfl rfl rfl rfl) rfl ?_
  refine d_val (s_load rfl rfl rfl rfl) rfl ?_
  refine d_val (s_field rfl rfl rfl rfl) rfl ?_
  refine d_val (s_load rfl rfl rfl rfl) rfl ?_
  refine d_val (s_move rfl rfl) rfl ?_
  refine d_val (s_move rfl rfl) rfl ?_
  refine d_fz ((s_buildSlice 104 (evArgs_cons rfl (evArgs_cons rfl evArgs_nil)) rfl rfl rfl rfl).fzE rfl) rfl ?_
  refine d_val (s_call [] (c_mementoseat_Items v.blocks v.size [a, b] hsz) (evArgs_cons rfl (evArgs_cons rfl (evArgs_cons rfl evArgs_nil))) trivial rfl (okVL_nil _) rfl (.inl rfl) rfl) rfl ?_
  refine d_val (s_field rfl rfl rfl rfl) rfl ?_
  refine d_sto (s_store rfl rfl rfl rfl rfl rfl) rfl ?_
  refine d_val (s_field rfl rfl rfl rfl) rfl ?_
  refine d_sto (s_store rfl rfl rfl rfl rfl rfl) rfl ?_
  refine d_val (s_field rfl rfl rfl rfl) rfl ?_
  refine d_sto (s_store rfl rfl rfl rfl rfl rfl) rfl ?_
  refine d_nil rfl ?_
  exact (leE_same (by repeat (first | exact letm_nil _ _ | refine letm_cons rfl ?_ ?_ | exact .same _ | exact .nl (by decide) (by decide) | exact .nn | exact .id' rfl | exact .id' (by simp; done))) (by repeat (first | exact lehp_nil _ _ | refine lehp_cons rfl ?_ ?_ | exact leB_same _ | exact leB_row (by first | rfl | (simp; done)) | exact leB_obj (by simp; done) | refine leB_box ?_ | exact leL_nil | refine leL_cons ?_ ?_ | exact .same _ | exact .nl (by decide) (by decide) | exact .nn | exact .id' rfl | exact .id' (by simp; done))) rfl)
  replace hc88 := of_decide_eq_false hc88
  rw [show seatX v what a b c = { cmdZ with vol := v.id, kind := 7 } from by unfold seatX; (repeat' split) <;> first | rfl | (exfalso; omega)]
  refine vc_region mixed ?_
  refine g_val (s_field rfl rfl rfl rfl) rfl ?_
  refine g_sto (s_store rfl rfl rfl rfl rfl rfl) rfl ?_
  refine g_nil ?_
  exact (leE_same (by repeat (first | exact letm_nil _ _ | refine letm_cons rfl ?_ ?_ | exact .same _ | exact .nl (by decide) (by decide) | exact .nn | exact .id' rfl | exact .id' (by simp; done))) (by repeat (first | exact lehp_nil _ _ | refine lehp_cons rfl ?_ ?_ | exact leB_same _ | exact leB_row (by first | rfl | (simp; done)) | exact leB_obj (by simp; done) | refine leB_box ?_ | exact leL_nil | refine leL_cons ?_ ?_ | exact .same _ | exact .nl (by decide) (by decide) | exact .nn | exact .id' rfl | exact .id' (by simp; done))) rfl)
  refine vc_seq ?_
  refine vc_rseq mixed ?_
  refine g_val (s_field rfl rfl rfl rfl) rfl ?_
  refine g_val (s_load rfl rfl rfl rfl) rfl ?_
  refine g_val (s_move rfl rfl) rfl ?_
  refine g_probe (j := 111) rfl (fun c hg111 => ?_)
  cases c
  rw [← hg111]; replace hg111 := hg111.symm
  refine gn_val rfl rfl rfl rfl rfl rfl (by decide) ?_
  refine gn_val rfl rfl rfl rfl rfl rfl (by decide) ?_
  refine gn_val rfl rfl rfl rfl rfl rfl (by decide) ?_
  refine g_val (s_pickF rfl rfl rfl) rfl ?_
  refine g_nil ?_
  refine vc_cond rfl (fun h => by cases h) (fun _ => ?_)
  refine vc_skip ?_
  refine vc_rseq mixed ?_
  refine g_val (s_loadA rfl rfl rfl rfl rfl) rfl ?_
  refine g_sto (s_store rfl rfl rfl rfl rfl rfl) rfl ?_
  refine g_nil ?_
  first
  | (rw [show seatCmd v th what a b c = { cmdZ with vol := v.id, kind := 6, index := v.next, items := seatItems v.blocks v.size [a, b, c] } from by unfold seatCmd; rw [if_neg (by simp [hth]), if_pos ⟨by first | assumption | simp_all, by omega⟩]]; exact vc_ret (ret_le [] _ (.cons (.agg rfl rfl rfl rfl) .nil) trivial (by repeat (first | exact leL_nil | refine leL_cons ?_ ?_ | exact LeV.tt rfl | exact .nl (by decide) (by decide) | exact .nn | refine LeV.tupL ?_ | refine LeV.aggL ?_ | exact .eq (by first | exact trivial | (simp [AV.okV, okR, lkB]; done) | (simp [AV.okV, okR, lkB]; omega)) (by first | rfl | (simp [AV.view, viewR, lkB, AV.ren, List.take_of_length_le]; done) | (simp [AV.view, viewR, lkB, AV.ren, List.take_of_length_le]; done)))) rfl))
  | (rw [show seatCmd v th what a b c = seatX v what a b c from by unfold seatCmd; rw [if_neg (by simp [hth]), if_neg (by first | (intro h; have := h.2; omega) | simp_all)]]; exact vc_ret (ret_le [] _ (.cons (.agg rfl rfl rfl rfl) .nil) trivial (by repeat (first | exact leL_nil | refine leL_cons ?_ ?_ | exact LeV.tt rfl | exact .nl (by decide) (by decide) | exact .nn | refine LeV.tupL ?_ | refine LeV.aggL ?_ | exact .eq (by first | exact trivial | (simp [AV.okV, okR, lkB]; done) | (simp [AV.okV, okR, lkB]; omega)) (by first | rfl | (simp [AV.view, viewR, lkB, AV.ren, List.take_of_length_le]; done) | (simp [AV.view, viewR, lkB, AV.ren, List.take_of_length_le]; done)))) rfl))
  rw [← hg111]; replace hg111 := hg111.symm
  refine gq_val (s_move rfl rfl) rfl rfl rfl rfl ?_
  refine gq_val (s_rem rfl rfl rfl (by omega) (by omega)) rfl rfl rfl rfl ?_
  refine gq_val (s_lss rfl rfl rfl) rfl rfl rfl rfl ?_
  refine g_val (s_pickT rfl rfl rfl) rfl ?_
  refine g_nil ?_
  refine vc_cond rfl (fun hc115 => ?_) (fun hc115 => ?_)
  replace hc115 := of_decide_eq_true hc115
  refine vc_region mixed ?_
  refine d_val (s_field rfl rfl rfl rfl) rfl ?_
  refine d_val (s_load rfl rfl rfl rfl) rfl ?_
  refine d_val (s_field rfl rfl rfl rfl) rfl ?_
  refine d_val (s_load rfl rfl rfl rfl) rfl ?_
  refine d_val (s_field rfl rfl rfl rfl) rfl ?_
  refine d_val (s_load rfl rfl rfl rfl) rfl ?_
  refine d_val (s_field rfl rfl rfl rfl) rfl ?_
  refine d_val (s_load rfl rfl rfl rfl) rfl ?_
  refine d_val (s_move rfl rfl) rfl ?_
  refine d_val (s_move rfl rfl) rfl ?_
  refine d_val (s_move rfl rfl) rfl ?_
  refine d_fz ((s_buildSlice 127 (evArgs_cons rfl (evArgs_cons rfl (evArgs_cons rfl evArgs_nil))) rfl rfl rfl rfl).fzE rfl) rfl ?_
  refine d_val (s_call [] (c_mementoseat_Items v.blocks v.size [a, b, c] hsz) (evArgs_cons rfl (evArgs_cons rfl (evArgs_cons rfl evArgs_nil))) trivial rfl (okVL_nil _) rfl (.inl rfl) rfl) rfl ?_
  refine d_val (s_build (evArgs_cons rfl (evArgs_cons rfl (evArgs_cons rfl (evArgs_cons rfl evArgs_nil)))) rfl rfl rfl) rfl ?_
  refine d_sto (s_store rfl rfl rfl rfl rfl rfl) rfl ?_
  refine d_nil rfl ?_
  refine vc_rseq mixed ?_
  refine g_val (s_loadA rfl rfl rfl rfl rfl) rfl ?_
  refine g_sto (s_store rfl rfl rfl rfl rfl rfl) rfl ?_
  refine g_nil ?_
  first
  | (rw [show seatCmd v th what a b c = { cmdZ with vol := v.id, kind := 6, index := v.next, items := seatItems v.blocks v.size [a, b, c] } from by unfold seatCmd; rw [if_neg (by simp [hth]), if_pos ⟨by first | assumption | simp_all, by omega⟩]]; exact vc_ret (ret_le [] _ (.cons (.agg rfl rfl rfl rfl) .nil) trivial (by repeat (first | exact leL_nil | refine leL_cons ?_ ?_ | exact LeV.tt rfl | exact .nl (by decide) (by decide) | exact .nn | refine LeV.tupL ?_ | refine LeV.aggL ?_ | exact .eq (by first | exact trivial | (simp [AV.okV, okR, lkB]; done) | (simp [AV.okV, okR, lkB]; omega)) (by first | rfl | (simp [AV.view, viewR, lkB, AV.ren, List.take_of_length_le]; done) | (simp [AV.view, viewR, lkB, AV.ren, List.take_of_length_le]; done)))) rfl))
  | (rw [show seatCmd v th what a b c = seatX v what a b c from by unfold seatCmd; rw [if_neg (by simp [hth]), if_neg (by first | (intro h; have := h.2; omega) | simp_all)]]; exact vc_ret (ret_le [] _ (.cons (.agg rfl rfl rfl rfl) .nil) trivial (by repeat (first | exact leL_nil | refine leL_cons ?_ ?_ | exact LeV.tt rfl | exact .nl (by decide) (by decide) | exact .nn | refine LeV.tupL ?_ | refine LeV.aggL ?_ | exact .eq (by first | exact trivial | (simp [AV.okV, okR, lkB]; done) | (simp [AV.okV, okR, lkB]; omega)) (by first | rfl | (simp [AV.view, viewR, lkB, AV.ren, List.take_of_length_le]; done) | (simp [AV.view, viewR, lkB, AV.ren, List.take_of_length_le]; done)))) rfl))
  replace hc115 := of_decide_eq_false hc115
  simp only [Int.not_lt] at hc115
  refine vc_skip ?_
  refine vc_rseq mixed ?_
  refine g_val (s_loadA rfl rfl rfl rfl rfl) rfl ?_
  refine g_sto (s_store rfl rfl rfl rfl rfl rfl) rfl ?_
  refine g_nil ?_
  first
  | (rw [show seatCmd v th what a b c = { cmdZ with vol := v.id, kind := 6, index := v.next, items := seatItems v.blocks v.size [a, b, c] } from by unfold seatCmd; rw [if_neg (by simp [hth]), if_pos ⟨by first | assumption | simp_all, by omega⟩]]; exact vc_ret (ret_le [] _ (.cons (.agg rfl rfl rfl rfl) .nil) trivial (by repeat (first | exact leL_nil | refine leL_cons ?_ ?_ | exact LeV.tt rfl | exact .nl (by decide) (by decide) | exact .nn | refine LeV.tupL ?_ | refine LeV.aggL ?_ | exact .eq (by first | exact trivial | (simp [AV.okV, okR, lkB]; done) | (simp [AV.okV, okR, lkB]; omega)) (by first | rfl | (simp [AV.view, viewR, lkB, AV.ren, List.take_of_length_le]; done) | (simp [AV.view, viewR, lkB, AV.ren, List.take_of_length_le]; done)))) rfl))
  | (rw [show seatCmd v th what a b c = seatX v what a b c from by unfold seatCmd; rw [if_neg (by simp [hth]), if_neg (by first | (intro h; have := h.2; omega) | simp_all)]]; exact vc_ret (ret_le [] _ (.cons (.agg rfl rfl rfl rfl) .nil) trivial (by repeat (first | exact leL_nil | refine leL_cons ?_ ?_ | exact LeV.tt rfl | exact .nl (by decide) (by decide) | exact .nn | refine LeV.tupL ?_ | refine LeV.aggL ?_ | exact .eq (by first | exact trivial | (simp [AV.okV, okR, lkB]; done) | (simp [AV.okV, okR, lkB]; omega)) (by first | rfl | (simp [AV.view, viewR, lkB, AV.ren, List.take_of_length_le]; done) | (simp [AV.view, viewR, lkB, AV.ren, List.take_of_length_le]; done)))) rfl))

end Go.Eng

set_option maxHeartbeats 4000000
namespace Go.Eng

/-- What holds of each volume that calls make. -/
structure VR (k : Nat) (v : Volume) : Prop where
  shape : shapeOK v.id v.blocks v.size v.per v.place v.total
  next : 0 ≤ v.next ∧ v.next ≤ v.total
  hid : v.hidden = false → v.next = v.total
  hpin : v.hidden = true → v.pins = [] ∧ v.floor = 0 ∧ 0 < v.total
  floor : 0 ≤ v.floor ∧ v.floor ≤ v.writes.length
  pins : ∀ p ∈ v.pins, v.floor ≤ p ∧ p ≤ v.writes.length
  sorted : v.pins.Pairwise (· ≤ ·)
  wr : ∀ (i : Nat) (w : Write), v.writes[i]? = some w → w.seq = i + 1 ∧ itemsOK v.blocks v.size w.items
  nw : v.writes.length ≤ k
  np : v.pins.length ≤ k

theorem VR.small {k : Nat} {v : Volume} (h : VR k v) (hk : k ≤ 1000000) : volSmall v := by
  have h1 := h.nw; have h2 := h.np; have h3 := h.next
  obtain ⟨s1, s2, s3, s4, s5, s6, s7, s8, s9, s10, s11, s12⟩ := h.shape
  exact ⟨by omega, by omega, by omega⟩

theorem VR.mono {k k' : Nat} {v : Volume} (h : VR k v) (hk : k ≤ k') : VR k' v := { h with nw := by have := h.nw; omega, np := by have := h.np; omega }

theorem foldl_min_le (l : List Int) : ∀ (a : Int), l.foldl min a ≤ a ∧ ∀ x ∈ l, l.foldl min a ≤ x := by
  induction l with
  | nil => intro a; simp
  | cons y l ih =>
    intro a
    obtain ⟨h1, h2⟩ := ih (min a y)
    refine ⟨by simp only [List.foldl_cons]; omega, fun x hx => ?_⟩
    rcases List.mem_cons.1 hx with rfl | hx
    · simp only [List.foldl_cons]; omega
    · exact h2 x hx

theorem lowV_le (v : Volume) : lowV v ≤ v.writes.length ∧ ∀ p ∈ v.pins, lowV v ≤ p := foldl_min_le v.pins v.writes.length

theorem insPin_mem {l : List Int} {x z : Int} (h : z ∈ insPin l x) : z = x ∨ z ∈ l := by
  simp only [insPin, List.append_assoc, List.mem_append, List.mem_singleton] at h
  rcases h with h | h | h
  · exact .inr ((List.takeWhile_prefix _).subset h)
  · exact .inl h
  · exact .inr ((List.dropWhile_suffix _).subset h)

theorem insPin_len (l : List Int) (x : Int) : (insPin l x).length = l.length + 1 := by
  have := congrArg List.length (List.takeWhile_append_dropWhile (p := fun z => decide (z ≤ x)) (l := l))
  simp only [List.length_append] at this
  simp only [insPin, List.length_append, List.length_cons, List.length_nil]
  omega

theorem insPin_sorted : ∀ {l : List Int} {x : Int}, l.Pairwise (· ≤ ·) → (insPin l x).Pairwise (· ≤ ·)
  | [], x, _ => by simp [insPin]
  | a :: l, x, h => by
    obtain ⟨h1, h2⟩ := List.pairwise_cons.1 h
    by_cases ha : a ≤ x
    · have ih := insPin_sorted (x := x) h2
      have e : insPin (a :: l) x = a :: insPin l x := by simp [insPin, List.takeWhile_cons, List.dropWhile_cons, ha]
      rw [e, List.pairwise_cons]
      refine ⟨fun z hz => ?_, ih⟩
      rcases insPin_mem hz with rfl | hz
      · exact ha
      · exact h1 z hz
    · have e : insPin (a :: l) x = x :: a :: l := by simp [insPin, List.takeWhile_cons, List.dropWhile_cons, ha]
      rw [e, List.pairwise_cons]
      refine ⟨fun z hz => ?_, h⟩
      rcases List.mem_cons.1 hz with rfl | hz
      · omega
      · have := h1 z hz; omega

theorem VR.writeV {k : Nat} {v : Volume} (h : VR k v) {l : List Item} (hl : itemsOK v.blocks v.size l) : VR (k + 1) (writeV v l) := by
  have hlen : (Eng.writeV v l).writes.length = v.writes.length + 1 := by simp [Eng.writeV]
  refine { shape := h.shape, next := h.next, hid := h.hid, hpin := h.hpin, floor := ?_, pins := fun p hp => ?_, sorted := h.sorted, wr := fun i w hw => ?_, nw := ?_, np := ?_ }
  · have := h.floor; rw [hlen]; exact ⟨this.1, by simp only [Eng.writeV]; omega⟩
  · have := h.pins p hp; rw [hlen]; exact ⟨this.1, by omega⟩
  · simp only [Eng.writeV] at hw
    rw [List.getElem?_append] at hw
    split at hw
    · exact h.wr i w hw
    · rename_i hge
      have : i = v.writes.length := by
        have := (List.getElem?_eq_some_iff.1 hw).1
        simp at this; omega
      subst this
      simp at hw
      subst hw
      exact ⟨rfl, hl⟩
  · rw [hlen]; have := h.nw; omega
  · have := h.np; simp only [Eng.writeV]; omega

theorem VR.doneF {k : Nat} {v : Volume} (h : VR k v) (c : VolCmd) (he : (doneF v c).2 = 0) : VR (k + 1) (doneF v c).1 := by
  have hf := h.floor
  have hn := h.nw
  have hp := h.np
  have hlow := lowV_le v
  unfold Eng.doneF at he ⊢
  split at he
  · cases he
  rename_i hh
  rw [if_neg hh]
  split at he
  · rename_i hk
    rw [if_pos hk]
    split at he
    · rename_i hi; rw [if_pos hi]; exact h.writeV hi
    · cases he
  rename_i hk2
  rw [if_neg hk2]
  split at he
  · rename_i hk
    rw [if_pos hk]
    split at he
    · cases he
    rename_i h1
    rw [if_neg h1]
    split at he
    · cases he
    rename_i h2
    rw [if_neg h2]
    exact { h with hpin := fun hh' => absurd ⟨.inr (.inl hk), hh'⟩ hh, floor := ⟨by simp only; omega, by simp only; omega⟩, pins := fun p hp' => ⟨by have := hlow.2 p hp'; simp only; omega, (h.pins p hp').2⟩, nw := by simp only; omega, np := by simp only; omega }
  rename_i hk3
  rw [if_neg hk3]
  split at he
  · rename_i hk
    rw [if_pos hk]
    split at he
    · cases he
    rename_i h1
    rw [if_neg h1]
    split at he
    · cases he
    rename_i h2
    rw [if_neg h2]
    exact { h with hpin := fun hh' => absurd ⟨.inr (.inr (.inl hk)), hh'⟩ hh, pins := fun p hp' => (by rcases insPin_mem hp' with rfl | hp'; exact ⟨by simp only; omega, by simp only; omega⟩; exact h.pins p hp'), sorted := insPin_sorted h.sorted, nw := by simp only; omega, np := by simp only [insPin_len]; omega }
  rename_i hk4
  rw [if_neg hk4]
  split at he
  · rename_i hk
    rw [if_pos hk]
    split at he
    · rename_i hm
      rw [if_pos hm]
      have hl := List.length_erase_of_mem hm
      exact { h with hpin := fun hh' => absurd ⟨.inr (.inr (.inr hk)), hh'⟩ hh, pins := fun p hp' => h.pins p (List.erase_subset hp'), sorted := h.sorted.sublist (List.erase_sublist), nw := by simp only; omega, np := by simp only [hl]; omega }
    · cases he
  rename_i hk5
  rw [if_neg hk5]
  split at he
  · rename_i hk
    rw [if_pos hk]
    split at he
    · cases he
    rename_i h1
    rw [if_neg h1]
    split at he
    · rename_i h2; rw [if_pos h2]; exact h.mono (by omega)
    rename_i h2
    rw [if_neg h2]
    split at he
    · cases he
    rename_i h3
    rw [if_neg h3]
    split at he
    · rename_i hi
      rw [if_pos hi]
      have hw := h.writeV hi
      have hnx := h.next
      refine { hw with next := ⟨by simp only; omega, ?_⟩, hid := fun hh' => absurd hh' h1 }
      simp only [not_or, Decidable.not_not] at h3
      show v.next + 1 ≤ v.total
      omega
    · cases he
  rename_i hk6
  rw [if_neg hk6]
  split at he
  · rename_i hk
    rw [if_pos hk]
    split at he
    · cases he
    rename_i h1
    rw [if_neg h1]
    simp only [not_or, Decidable.not_not, Bool.not_eq_false] at h1
    obtain ⟨g1, g2, g3⟩ := h.hpin h1.1
    exact { h with hid := fun _ => h1.2, hpin := fun hh' => (by cases hh'), floor := ⟨by simp only; omega, by simp only; omega⟩, pins := fun p hp' => (by simp only [g1] at hp'; cases hp'), nw := by simp only; omega, np := by simp only; omega }
  rename_i hk7
  rw [if_neg hk7]
  split at he
  · rename_i hk; rw [if_pos hk]; exact h.mono (by omega)
  · cases he

theorem VR.doF {k : Nat} {v : Volume} (h : VR k v) (c : VolCmd) : VR (k + 1) (doF v c).1 := by
  unfold Eng.doF
  split
  · exact h.mono (by omega)
  · rename_i h0
    exact h.doneF c (by simpa using h0)

theorem VR.new {k : Nat} (c : VolCmd) (h : cmdOK c) : VR k (volN c) := by
  have hs := h
  obtain ⟨s1, s2, s3, s4, s5, s6, s7, s8, s9, s10, s11, s12⟩ := hs
  refine { shape := h, next := ⟨by simp [volN], by simpa [volN] using s10⟩, hid := fun hh => ?_, hpin := fun hh => ⟨rfl, rfl, by simpa [volN] using hh⟩, floor := ⟨by simp [volN], by simp [volN]⟩, pins := fun p hp => (by cases hp), sorted := List.Pairwise.nil, wr := fun i w hw => (by simp [volN] at hw), nw := by simp [volN], np := by simp [volN] }
  simp [volN] at hh ⊢
  omega

/-- The machine. -/
structure MR (k : Nat) (m : List Volume) : Prop where
  len : m.length ≤ k
  vr : ∀ v ∈ m, VR k v

theorem insV_mem {l : List Volume} {x z : Volume} (h : z ∈ insV l x) : z = x ∨ z ∈ l := by
  simp only [insV, List.append_assoc, List.mem_append, List.mem_singleton] at h
  rcases h with h | h | h
  · exact .inr ((List.takeWhile_prefix _).subset h)
  · exact .inl h
  · exact .inr ((List.dropWhile_suffix _).subset h)
theorem insV_len (l : List Volume) (x : Volume) : (insV l x).length = l.length + 1 := by
  have := congrArg List.length (List.takeWhile_append_dropWhile (p := fun z : Volume => decide (z.id < x.id)) (l := l))
  simp only [List.length_append] at this
  simp only [insV, List.length_append, List.length_cons, List.length_nil]
  omega

theorem MR.apply {k : Nat} {m : List Volume} (h : MR k m) (b : List Int) : MR (k + 1) (applyF m b).1 := by
  have h0 : MR (k + 1) m := ⟨by have := h.len; omega, fun v hv => (h.vr v hv).mono (by omega)⟩
  unfold applyF
  split
  · exact h0
  unfold applyC
  split
  · split
    · exact h0
    · split
      · rename_i hc
        refine ⟨by simp only [insV_len]; have := h.len; omega, fun v hv => ?_⟩
        rcases insV_mem hv with rfl | hv
        · exact VR.new _ hc
        · exact h0.vr v hv
      · exact h0
  · split
    · exact h0
    · rename_i hge
      rcases findV_cases m (readF b).1.vol with ⟨h1, _⟩ | ⟨i, x, h1, h2, _⟩
      · omega
      · refine ⟨by simp only [List.length_set]; have := h.len; omega, fun v hv => ?_⟩
        rcases List.mem_or_eq_of_mem_set hv with hv | rfl
        · exact h0.vr v hv
        · have hx : m.getD (findV m (readF b).1.vol).toNat volZ = x := by rw [h1, List.getD_eq_getElem?_getD]; simp [h2]
          rw [hx]
          exact (h.vr x (List.mem_of_getElem? h2)).doF _

theorem volG_cases (m : List Volume) (id : Int) : ((volG m id).1 = volZ ∧ (volG m id).2 = false) ∨ ((volG m id).1 ∈ m ∧ (volG m id).2 = true ∧ (volG m id).1.id = id) := by
  unfold volG
  rcases findV_cases m id with ⟨h1, _⟩ | ⟨i, x, h1, h2, h3⟩
  · rw [if_pos (by omega)]; exact .inl (by simp)
  · rw [if_neg (by omega)]
    have hx : m.getD (findV m id).toNat volZ = x := by rw [h1, List.getD_eq_getElem?_getD]; simp [h2]
    simp only [hx]
    exact .inr ⟨List.mem_of_getElem? h2, by simp, h3⟩

theorem volZ_small : volSmall volZ := ⟨by simp [volZ], by simp [volZ], by simp [volZ]⟩

def putC (c : VolCmd) : List Int := if cmdRight c then cmdB c else []
theorem putC_len (c : VolCmd) : (putC c).length ≤ 10000000 := by
  unfold putC
  split
  · rename_i h
    have h1 := numsF_len [c.kind, c.vol, c.blocks, c.size, c.per, c.total, c.time, c.index]
    have h2 := placeB_len h.small.1
    have h3 := itemsB_len h.small.2
    simp only [cmdB, headB, List.length_append, List.length_cons, List.length_nil] at *
    omega
  · simp

def seatStep (m : List Volume) (w a b c : Int) : List Volume := (applyF m (putC (seatCmd (volG m 0).1 (volG m 0).2 w a b c))).1
def seatL : List Int → List Volume → List Volume
  | w :: a :: b :: c :: l, m => seatL l (seatStep m w a b c)
  | _, m => m
def seatVol (l : List Int) : Volume := match seatL l [] with | [] => (newF (createC 0 3 1 1 0)).1 | v :: _ => v

theorem seatL_short {l : List Int} (h : l.length < 4) (m : List Volume) : seatL l m = m := by
  match l, h with
  | [], _ => rfl
  | [_], _ => rfl
  | [_, _], _ => rfl
  | [_, _, _], _ => rfl
  | _ :: _ :: _ :: _ :: _, h => exfalso; simp at h; omega

theorem MR.seatL : ∀ (n : Nat) (l : List Int) (k : Nat) (m : List Volume), l.length ≤ n → MR k m → MR (k + l.length) (seatL l m)
  | 0, l, k, m, hl, h => by
    have : l = [] := List.eq_nil_of_length_eq_zero (by omega)
    subst this
    exact h
  | n + 1, l, k, m, hl, h => by
    match l with
    | [] => exact h
    | [_] => exact ⟨by have := h.len; simp [Eng.seatL]; omega, fun v hv => (h.vr v hv).mono (by omega)⟩
    | [_, _] => exact ⟨by have := h.len; simp [Eng.seatL]; omega, fun v hv => (h.vr v hv).mono (by omega)⟩
    | [_, _, _] => exact ⟨by have := h.len; simp [Eng.seatL]; omega, fun v hv => (h.vr v hv).mono (by omega)⟩
    | w :: a :: b :: c :: l =>
      have := MR.seatL n l (k + 1) (seatStep m w a b c) (by simp at hl; omega) (h.apply _)
      simp only [Eng.seatL]
      exact ⟨by have := this.len; simp; omega, fun v hv => (this.vr v hv).mono (by simp; omega)⟩

theorem seatVol_VR (l : List Int) : VR (l.length) (seatVol l) := by
  have h := MR.seatL l.length l 0 [] (Nat.le_refl _) ⟨Nat.le_refl _, fun v hv => (by cases hv)⟩
  unfold seatVol
  cases hm : seatL l [] with
  | nil =>
    simp only
    have hc : cmdOK (createC 0 3 1 1 0) := by decide
    unfold newF
    rw [if_pos hc]
    exact VR.new _ hc
  | cons v m =>
    simp only
    have := h.vr v (by rw [hm]; exact List.mem_cons_self ..)
    exact this.mono (by omega)

end Go.Eng

set_option maxHeartbeats 4000000
namespace Go.Eng
open Go.Proofs

theorem c_mementoseat_Volume (l : List Int) (hl : l.length ≤ 1000) : Con Try.prog 6 [.t (bytesT l)] [] (sC (volC (seatVol l))) [] := by
  refine con_intro [] [] Try.func6 rfl Try.ntmps6 Try.results6 rfl rfl ?_
  intro E
  refine vc_okT (i := 0) rfl fun ok0 => ?_
  refine vc_rseq mixed ?_
  refine g_new (s_alloc 2 rfl rfl) rfl ?_
  refine g_nil ?_
  refine vc_rseq mixed ?_
  refine g_val (s_build evArgs_nil rfl rfl rfl) rfl ?_
  refine g_new (s_box 12 rfl rfl rfl rfl) rfl ?_
  refine g_val (s_assign rfl rfl) rfl ?_
  refine g_nil ?_
  refine vc_seq ?_
  refine vc_rseq mixed ?_
  refine g_val (s_assign rfl rfl) rfl ?_
  refine g_nil ?_
  refine vc_block ?_
  refine vc_while (α := Nat × List Volume) (fun s => ⟨[(0, .t (bytesT l)), (2, .ref 2 0), (3, .ref 12 0), (4, AI .i64 s.1)], [(2, some (.box ((volC volZ).map .t))), (12, some (.box (mA s.2)))], [2, 12]⟩) (fun s => s.1 ≤ 1004 ∧ MR s.1 s.2 ∧ seatL (l.drop s.1) s.2 = seatL l []) (fun s => 1008 - s.1) (0, []) (leE_same (by repeat (first | exact letm_nil _ _ | refine letm_cons rfl ?_ ?_ | exact .same _ | exact .nl (by decide) (by decide) | exact .nn | exact .id' rfl | exact .id' (by simp; done))) (by repeat (first | exact lehp_nil _ _ | refine lehp_cons rfl ?_ ?_ | exact leB_same _ | exact leB_row (by first | rfl | (simp; done)) | exact leB_obj (by simp; done) | refine leB_box ?_ | exact leL_nil | refine leL_cons ?_ ?_ | exact .same _ | exact .nl (by decide) (by decide) | exact .nn | exact .id' rfl | exact .id' (by simp; done))) rfl) ⟨Nat.zero_le _, ⟨Nat.le_refl _, fun v hv => by cases hv⟩, rfl⟩ (fun s ⟨hs1, hs2, hs3⟩ => ?_)
  obtain ⟨i, m⟩ := s
  simp only at hs1 hs2 hs3
  refine vc_seq ?_
  refine vc_rseq mixed ?_
  refine g_val (s_move rfl rfl) rfl ?_
  refine g_val (s_add rfl rfl rfl (by simp only [inI, kMin, kMax]; omega)) rfl ?_
  refine g_val (s_move rfl rfl) rfl ?_
  refine g_val (s_len rfl rfl) rfl ?_
  refine g_val (s_lss rfl rfl rfl) rfl ?_
  refine g_nil ?_
  refine vc_cond rfl (fun hc17 => ?_) (fun hc17 => ?_)
  replace hc17 := of_decide_eq_true hc17
  simp only [List.length_map] at hc17
  obtain ⟨xw, hxw⟩ := get_of_lt (l := l) (i := i) (by omega)
  obtain ⟨xa, hxa⟩ := get_of_lt (l := l) (i := i + 1) (by omega)
  obtain ⟨xb, hxb⟩ := get_of_lt (l := l) (i := i + 2) (by omega)
  obtain ⟨xc, hxc⟩ := get_of_lt (l := l) (i := i + 3) (by omega)
  have hdrop : l.drop i = xw :: xa :: xb :: xc :: l.drop (i + 4) := by
    obtain ⟨h1, e1⟩ := List.getElem?_eq_some_iff.1 hxw
    obtain ⟨h2, e2⟩ := List.getElem?_eq_some_iff.1 hxa
    obtain ⟨h3, e3⟩ := List.getElem?_eq_some_iff.1 hxb
    obtain ⟨h4, e4⟩ := List.getElem?_eq_some_iff.1 hxc
    rw [List.drop_eq_getElem_cons h1, List.drop_eq_getElem_cons h2, List.drop_eq_getElem_cons h3, List.drop_eq_getElem_cons h4, e1, e2, e3, e4]
  have hml := hs2.len
  have hg : volSmall (volG m 0).1 ∧ (volG m 0).1.size ≤ 1000000 := by
    rcases volG_cases m 0 with ⟨h1, _⟩ | ⟨h1, _, _⟩
    rw [h1]; exact ⟨volZ_small, by decide⟩
    have hv := hs2.vr _ h1
    obtain ⟨s1, s2, s3, s4, s5, s6, s7⟩ := hv.shape
    exact ⟨hv.small (by omega), by omega⟩
  refine vc_skip ?_
  refine vc_seq ?_
  refine vc_block ?_
  refine vc_rseq mixed ?_
  refine g_val (s_move rfl rfl) rfl ?_
  refine g_cw (s_callH [] [(1000, 12)] (c_Machine_Volume m 0 (by omega)) (evArgs_cons rfl (evArgs_cons rfl evArgs_nil)) ⟨rfl, trivial⟩ rfl (okVL_nil _) rfl rfl rfl) rfl ?_
  refine g_val (s_move rfl rfl) rfl ?_
  refine g_val (s_extract rfl rfl rfl) rfl ?_
  refine g_val (s_extract rfl rfl rfl) rfl ?_
  refine g_new (s_alloc 5 rfl rfl) rfl ?_
  refine g_sto (s_store rfl rfl rfl rfl rfl rfl) rfl ?_
  refine g_val (s_assign rfl rfl) rfl ?_
  refine g_nil ?_
  refine vc_rseq mixed ?_
  refine d_val (s_loadA rfl rfl rfl rfl rfl) rfl ?_
  refine d_val (s_move rfl rfl) rfl ?_
  refine d_val (s_move rfl rfl) rfl ?_
  refine d_val (s_move rfl rfl) rfl ?_
  refine d_val (s_index rfl rfl rfl (by omega) (idx_map hxw)) rfl ?_
  refine d_val (s_loadT rfl rfl rfl) rfl ?_
  refine d_val (s_move rfl rfl) rfl ?_
  refine d_val (s_move rfl rfl) rfl ?_
  refine d_val (s_add rfl rfl rfl (by simp only [inI, kMin, kMax]; omega)) rfl ?_
  refine d_val (s_index rfl rfl rfl (by omega) (idx_map (by rw [show ((i : Int) + 1).toNat = i + 1 by omega]; exact hxa))) rfl ?_
  refine d_val (s_loadT rfl rfl rfl) rfl ?_
  refine d_val (s_move rfl rfl) rfl ?_
  refine d_val (s_move rfl rfl) rfl ?_
  refine d_val (s_add rfl rfl rfl (by simp only [inI, kMin, kMax]; omega)) rfl ?_
  refine d_val (s_index rfl rfl rfl (by omega) (idx_map (by rw [show ((i : Int) + 2).toNat = i + 2 by omega]; exact hxb))) rfl ?_
  refine d_val (s_loadT rfl rfl rfl) rfl ?_
  refine d_val (s_move rfl rfl) rfl ?_
  refine d_val (s_move rfl rfl) rfl ?_
  refine d_val (s_add rfl rfl rfl (by simp only [inI, kMin, kMax]; omega)) rfl ?_
  refine d_val (s_index rfl rfl rfl (by omega) (idx_map (by rw [show ((i : Int) + 3).toNat = i + 3 by omega]; exact hxc))) rfl ?_
  refine d_val (s_loadT rfl rfl rfl) rfl ?_
  refine d_val (s_call [] (c_mementoseat_Cmd (volG m 0).1 (volG m 0).2 xw xa xb xc hg.1 hg.2) (evArgs_cons rfl (evArgs_cons rfl (evArgs_cons rfl (evArgs_cons rfl (evArgs_cons rfl (evArgs_cons rfl evArgs_nil)))))) trivial rfl (okVL_nil _) rfl (.inl rfl) rfl) rfl ?_
  refine d_val (s_call [] (c_mementoref16_PutCmd (seatCmd (volG m 0).1 (volG m 0).2 xw xa xb xc)) (evArgs_cons rfl evArgs_nil) trivial rfl (okVL_nil _) rfl (.inl rfl) rfl) rfl ?_
  refine d_val (s_move rfl rfl) rfl ?_
  refine d_val (s_extract rfl rfl rfl) rfl ?_
  refine d_val (s_extract rfl rfl rfl) rfl ?_
  refine d_val (s_assign rfl rfl) rfl ?_
  refine d_val (s_assign rfl rfl) rfl ?_
  refine d_nil rfl ?_
  refine vc_region mixed ?_
  refine g_val (s_move rfl rfl) rfl ?_
  refine g_val (s_move rfl rfl) rfl ?_
  refine g_cw (s_callH [] [(1000, 12)] (c_Machine_Apply m (putC (seatCmd (volG m 0).1 (volG m 0).2 xw xa xb xc)) (by omega) (fun v hv => (hs2.vr v hv).small (by omega)) (by have := putC_len (seatCmd (volG m 0).1 (volG m 0).2 xw xa xb xc); omega)) (evArgs_cons rfl (evArgs_cons rfl evArgs_nil)) ⟨rfl, trivial⟩ rfl (okVL_nil _) rfl rfl rfl) rfl ?_
  refine g_nil ?_
  refine vc_region mixed ?_
  refine g_val (s_move rfl rfl) rfl ?_
  refine g_val (s_add rfl rfl rfl (by simp only [inI, kMin, kMax]; omega)) rfl ?_
  refine g_val (s_assign rfl rfl) rfl ?_
  refine g_nil ?_
  exact ⟨(i + 4, seatStep m xw xa xb xc), ⟨by simp only; omega, ⟨by have := (hs2.apply (putC (seatCmd (volG m 0).1 (volG m 0).2 xw xa xb xc))).len; simp only [seatStep]; omega, fun v hv => ((hs2.apply (putC (seatCmd (volG m 0).1 (volG m 0).2 xw xa xb xc))).vr v hv).mono (by omega)⟩, by simp only; rw [← hs3, hdrop]; rfl⟩, by simp only; omega, (leE_same (by repeat (first | exact letm_nil _ _ | refine letm_cons rfl ?_ ?_ | exact .same _ | exact .nl (by decide) (by decide) | exact .nn | exact .id' rfl | exact .id' (by simp; done))) (by repeat (first | exact lehp_nil _ _ | refine lehp_cons rfl ?_ ?_ | exact leB_same _ | exact leB_row (by first | rfl | (simp; done)) | exact leB_obj (by simp; done) | refine leB_box ?_ | exact leL_nil | refine leL_cons ?_ ?_ | exact .same _ | exact .nl (by decide) (by decide) | exact .nn | exact .id' rfl | exact .id' (by simp; done))) rfl)⟩
  replace hc17 := of_decide_eq_false hc17
  simp only [List.length_map, Int.not_lt] at hc17
  refine vc_exit ?_
  refine vc_seq ?_
  rw [seatL_short (by simp; omega)] at hs3
  refine vc_rseq mixed ?_
  refine g_val (s_move rfl rfl) rfl ?_
  refine g_val (s_nilCheck rfl rfl rfl) rfl ?_
  refine g_val (s_field rfl rfl rfl rfl) rfl ?_
  refine g_val (s_load rfl rfl rfl rfl) rfl ?_
  refine g_val (s_len rfl rfl) rfl ?_
  refine g_val (s_eql rfl rfl rfl) rfl ?_
  refine g_nil ?_
  refine vc_cond rfl (fun hc59 => ?_) (fun hc59 => ?_)
  replace hc59 := of_decide_eq_true hc59
  simp only [List.length_map] at hc59
  have hnil : m = [] := by
    cases m with
    | nil => rfl
    | cons => simp at hc59; omega
  have hsv : seatVol l = (newF (createC 0 3 1 1 0)).1 := by unfold seatVol; rw [← hs3, hnil]
  rw [hsv]
  refine vc_rseq mixed ?_
  refine g_val (s_call [] (c_mementoseat_Create 0 3 1 1 0) (evArgs_cons rfl (evArgs_cons rfl (evArgs_cons rfl (evArgs_cons rfl (evArgs_cons rfl evArgs_nil))))) trivial rfl (okVL_nil _) rfl (.inl rfl) rfl) rfl ?_
  refine g_val (s_call [] (c_mementoref16_New (createC 0 3 1 1 0)) (evArgs_cons rfl evArgs_nil) trivial rfl (okVL_nil _) rfl (.inl rfl) rfl) rfl ?_
  refine g_val (s_move rfl rfl) rfl ?_
  refine g_val (s_extract rfl rfl rfl) rfl ?_
  refine g_val (s_extract rfl rfl rfl) rfl ?_
  refine g_new (s_alloc 9 rfl rfl) rfl ?_
  refine g_sto (s_store rfl rfl rfl rfl rfl rfl) rfl ?_
  refine g_val (s_assign rfl rfl) rfl ?_
  refine g_nil ?_
  refine vc_rseq mixed ?_
  refine g_val (s_loadA rfl rfl rfl rfl rfl) rfl ?_
  refine g_sto (s_store rfl rfl rfl rfl rfl rfl) rfl ?_
  refine g_nil ?_
  exact vc_ret (ret_le [] _ (.cons (.agg rfl rfl rfl rfl) .nil) trivial (by repeat (first | exact leL_nil | refine leL_cons ?_ ?_ | exact LeV.tt rfl | exact .nl (by decide) (by decide) | exact .nn | refine LeV.tupL ?_ | refine LeV.aggL ?_ | exact .eq (by first | exact trivial | (simp [AV.okV, okR, lkB]; done) | (simp [AV.okV, okR, lkB]; omega)) (by first | rfl | (simp [AV.view, viewR, lkB, AV.ren, List.take_of_length_le]; done) | (simp [AV.view, viewR, lkB, AV.ren, List.take_of_length_le]; done)))) rfl)
  replace hc59 := of_decide_eq_false hc59
  simp only [List.length_map] at hc59
  refine vc_skip ?_
  obtain ⟨v, m', rfl⟩ : ∃ v m', m = v :: m' := by
    cases m with
    | nil => simp at hc59
    | cons v m' => exact ⟨v, m', rfl⟩
  have hsv : seatVol l = v := by unfold seatVol; rw [← hs3]
  rw [hsv]
  refine vc_rseq mixed ?_
  refine g_val (s_move rfl rfl) rfl ?_
  refine g_val (s_nilCheck rfl rfl rfl) rfl ?_
  refine g_val (s_field rfl rfl rfl rfl) rfl ?_
  refine g_val (s_load rfl rfl rfl rfl) rfl ?_
  refine g_val (s_index rfl rfl rfl (by omega) (rfl)) rfl ?_
  refine g_val (s_loadTA rfl rfl rfl) rfl ?_
  refine g_sto (s_store rfl rfl rfl rfl rfl rfl) rfl ?_
  refine g_nil ?_
  exact vc_ret (ret_le [] _ (.cons (.agg rfl rfl rfl rfl) .nil) trivial (by repeat (first | exact leL_nil | refine leL_cons ?_ ?_ | exact LeV.tt rfl | exact .nl (by decide) (by decide) | exact .nn | refine LeV.tupL ?_ | refine LeV.aggL ?_ | exact .eq (by first | exact trivial | (simp [AV.okV, okR, lkB]; done) | (simp [AV.okV, okR, lkB]; omega)) (by first | rfl | (simp [AV.view, viewR, lkB, AV.ren, List.take_of_length_le]; done) | (simp [AV.view, viewR, lkB, AV.ren, List.take_of_length_le]; done)))) rfl)

end Go.Eng

set_option maxHeartbeats 4000000
namespace Go.Eng
open Go.Proofs

/-- A volume whose pins and writes are rows of one's own. -/
def volOA (v : Volume) (kp kw : Nat) : List AV := [.t (i64 v.id), .t (i64 v.blocks), .t (i64 v.size), .t (i64 v.per), .t (intsT v.place), .t (i64 v.total), .t (i64 v.next), .t (bT v.hidden), .t (i64 v.floor), .rows kp 1 0 v.pins.length, .rows kw 2 0 v.writes.length]

theorem c_volume_copied_own (v : Volume) : Con Try.prog 24 [sC (volC v)] [] (.agg (volOA v 0 1)) [(0, .row 1 8 (v.pins.map intC)), (1, .row 2 32 (v.writes.map writeC))] := by
  refine con_intro [] [0, 1] Try.func24 rfl Try.ntmps24 Try.results24 rfl rfl ?_
  intro E
  refine vc_okA (i := 0) (j := 10) rfl rfl fun okw => ?_
  have hlw := okw.len
  rw [List.length_map] at hlw
  refine vc_rseq mixed ?_
  refine g_new (s_box 1 rfl rfl rfl rfl) rfl ?_
  refine g_new (s_alloc 2 rfl rfl) rfl ?_
  refine g_nil ?_
  refine vc_rseq mixed ?_
  refine d_val (s_field rfl rfl rfl rfl) rfl ?_
  refine d_val (s_load rfl rfl rfl rfl) rfl ?_
  refine d_val (s_call [] (c_Clone_int v.place) (evArgs_cons rfl evArgs_nil) trivial rfl (okVL_nil _) rfl (.inl rfl) rfl) rfl ?_
  refine d_val (s_field rfl rfl rfl rfl) rfl ?_
  refine d_val (s_load rfl rfl rfl rfl) rfl ?_
  refine d_new (s_callH [] [(0, 9)] (c_Clone_i64_own v.pins) (evArgs_cons rfl evArgs_nil) trivial rfl (okVL_nil _) rfl rfl rfl) rfl ?_
  refine d_val (s_field rfl rfl rfl rfl) rfl ?_
  refine d_val (s_load rfl rfl rfl rfl) rfl ?_
  refine d_new (s_callH [] [(0, 12)] (c_Clone_Write_own v.writes) (evArgs_cons rfl evArgs_nil) trivial rfl (okVL_nil _) rfl rfl rfl) rfl ?_
  refine d_val (s_field rfl rfl rfl rfl) rfl ?_
  refine d_sto (s_store rfl rfl rfl rfl rfl rfl) rfl ?_
  refine d_val (s_field rfl rfl rfl rfl) rfl ?_
  refine d_sto (s_store rfl rfl rfl rfl rfl rfl) rfl ?_
  refine d_val (s_field rfl rfl rfl rfl) rfl ?_
  refine d_sto (s_store rfl rfl rfl rfl rfl rfl) rfl ?_
  refine d_nil rfl ?_
  refine vc_seq ?_
  refine vc_rseq mixed ?_
  refine g_val (s_field rfl rfl rfl rfl) rfl ?_
  refine g_val (s_load rfl rfl rfl rfl) rfl ?_
  refine g_val (s_lenR rfl rfl (by simp) rfl) rfl ?_
  refine g_val (s_move rfl rfl) rfl ?_
  refine g_nil ?_
  refine vc_block ?_
  refine vc_up v.writes.length (fun i => ⟨[(1, .ref 1 0), (2, .ref 2 0), (18, AI .i64 v.writes.length), (19, AI .i64 i)], [(1, some (.box (volOA v 9 12))), (2, some (.box ((volC volZ).map .t))), (9, some (.row 1 8 (v.pins.map intC))), (12, some (.row 2 32 (v.writes.map writeC)))], [1, 2, 9, 12]⟩) (fun i => True) (leE_same (by repeat (first | exact letm_nil _ _ | refine letm_cons rfl ?_ ?_ | exact .same _ | exact .nl (by decide) (by decide) | exact .nn | exact .id' rfl | exact .id' (by simp; done))) (by repeat (first | exact lehp_nil _ _ | refine lehp_cons rfl ?_ ?_ | exact leB_same _ | exact leB_row (by first | rfl | (simp; done)) | exact leB_obj (by simp; done) | refine leB_box ?_ | exact leL_nil | refine leL_cons ?_ ?_ | exact .same _ | exact .nl (by decide) (by decide) | exact .nn | exact .id' rfl | exact .id' (by simp; done))) rfl) trivial (fun i hi _ => ?_)
  refine vc_rseq mixed ?_
  refine g_val (s_lss rfl rfl rfl) rfl ?_
  refine g_nil ?_
  refine vc_seq ?_
  refine vc_cond rfl (fun hc20 => ?_) (fun hc20 => ?_)
  replace hc20 := of_decide_eq_true hc20
  obtain ⟨x, hx⟩ := get_of_lt (l := v.writes) (i := i) (by omega)
  refine vc_skip ?_
  refine vc_seq ?_
  refine vc_block ?_
  refine vc_rseq mixed ?_
  refine g_val (s_move rfl rfl) rfl ?_
  refine g_val (s_assign rfl rfl) rfl ?_
  refine g_nil ?_
  refine vc_region mixed ?_
  refine d_val (s_field rfl rfl rfl rfl) rfl ?_
  refine d_val (s_load rfl rfl rfl rfl) rfl ?_
  refine d_val (s_move rfl rfl) rfl ?_
  refine d_val (s_field rfl rfl rfl rfl) rfl ?_
  refine d_val (s_load rfl rfl rfl rfl) rfl ?_
  refine d_val (s_move rfl rfl) rfl ?_
  refine d_val (s_indexR rfl rfl rfl (by omega) (by first | omega | (simp only [List.length_map]; omega))) rfl ?_
  refine d_val (s_fieldR rfl rfl rfl rfl) rfl ?_
  refine d_val (s_loadR rfl rfl (idx_map0 hx) rfl rfl) rfl ?_
  refine d_val (s_call [] (c_volume_items x.items) (evArgs_cons rfl evArgs_nil) trivial rfl (okVL_nil _) rfl (.inl rfl) rfl) rfl ?_
  refine d_val (s_indexR rfl rfl rfl (by omega) (by first | omega | (simp only [List.length_map]; omega))) rfl ?_
  refine d_val (s_fieldR rfl rfl rfl rfl) rfl ?_
  refine d_sto (s_storeR rfl rfl rfl rfl rfl (idx_map0 hx) rfl) rfl ?_
  refine d_nil rfl ?_
  refine vc_region mixed ?_
  refine g_val (s_add rfl rfl rfl (by simp only [inI, kMin, kMax]; omega)) rfl ?_
  refine g_val (s_move rfl rfl) rfl ?_
  refine g_nil ?_
  exact ⟨by omega, trivial, (leE_same (by repeat (first | exact letm_nil _ _ | refine letm_cons rfl ?_ ?_ | exact .same _ | exact .nl (by decide) (by decide) | exact .nn | exact .id' rfl | exact .id' (by rw [Nat.zero_add]; exact set_same (idx_map hx)))) (by repeat (first | exact lehp_nil _ _ | refine lehp_cons rfl ?_ ?_ | exact leB_same _ | exact leB_row (by first | rfl | (rw [Nat.zero_add]; exact set_same (idx_map hx))) | exact leB_obj (by rw [Nat.zero_add]; exact set_same (idx_map hx)) | refine leB_box ?_ | exact leL_nil | refine leL_cons ?_ ?_ | exact .same _ | exact .nl (by decide) (by decide) | exact .nn | exact .id' rfl | exact .id' (by rw [Nat.zero_add]; exact set_same (idx_map hx)))) rfl)⟩
  replace hc20 := of_decide_eq_false hc20
  simp only [Int.not_lt] at hc20
  refine vc_exit ?_
  refine vc_rseq mixed ?_
  refine g_val (s_loadA rfl rfl rfl rfl rfl) rfl ?_
  refine g_sto (s_store rfl rfl rfl rfl rfl rfl) rfl ?_
  refine g_nil ?_
  exact vc_ret (ret_hand [] [(0, 9), (1, 12)] _ (.cons (.agg rfl rfl rfl rfl) .nil) trivial (.eq (okV_nil _) rfl) (lehp_cons rfl (leB_row rfl) (lehp_cons rfl (leB_row rfl) (lehp_nil _ _))) rfl)

end Go.Eng

set_option maxHeartbeats 4000000
namespace Go.Eng
open Go.Proofs

/-- A volume whose writes are a row of one's own. -/
def volWA (v : Volume) (kw : Nat) : List AV := [.t (i64 v.id), .t (i64 v.blocks), .t (i64 v.size), .t (i64 v.per), .t (intsT v.place), .t (i64 v.total), .t (i64 v.next), .t (bT v.hidden), .t (i64 v.floor), .t (intsT v.pins), .rows kw 2 0 v.writes.length]
/-- A volume whose pins are a row of one's own. -/
def volPA (v : Volume) (kp : Nat) : List AV := [.t (i64 v.id), .t (i64 v.blocks), .t (i64 v.size), .t (i64 v.per), .t (intsT v.place), .t (i64 v.total), .t (i64 v.next), .t (bT v.hidden), .t (i64 v.floor), .rows kp 1 0 v.pins.length, .t (writesT v.writes)]

def writeF (v : Volume) (l : List Item) : Volume × Int := if itemsOK v.blocks v.size l then (writeV v l, 0) else (v, 23)

theorem c_volume_write_ok (v : Volume) (l : List Item) (h0 : itemsOK v.blocks v.size l) (hw : v.writes.length ≤ 1000000) : Con Try.prog 25 [.agg (volWA v 1000), .t (itemsT l)] [(1000, .row 2 32 (v.writes.map writeC))] (.tup [sC (volC (writeV v l)), AI .i64 0]) [] := by
  refine con_intro [1000] [] Try.func25 rfl Try.ntmps25 Try.results25 rfl rfl ?_
  intro E
  refine vc_rseq mixed ?_
  refine g_new (s_box 2 rfl rfl rfl rfl) rfl ?_
  refine g_new (s_alloc 4 rfl rfl) rfl ?_
  refine g_val (s_assign rfl rfl) rfl ?_
  refine g_nil ?_
  refine vc_seq ?_
  refine vc_rseq mixed ?_
  refine g_val (s_field rfl rfl rfl rfl) rfl ?_
  refine g_val (s_load rfl rfl rfl rfl) rfl ?_
  refine g_val (s_field rfl rfl rfl rfl) rfl ?_
  refine g_val (s_load rfl rfl rfl rfl) rfl ?_
  refine g_val (s_move rfl rfl) rfl ?_
  refine g_val (s_call [] (c_volume_ItemsRight v.blocks v.size l) (evArgs_cons rfl (evArgs_cons rfl (evArgs_cons rfl evArgs_nil))) trivial rfl (okVL_nil _) rfl (.inl rfl) rfl) rfl ?_
  refine g_val (s_not rfl rfl) rfl ?_
  refine g_nil ?_
  refine vc_cond rfl (fun h => by simp [h0] at h) (fun _ => ?_)
  refine vc_skip ?_
  refine vc_rseq mixed ?_
  refine d_val (s_field rfl rfl rfl rfl) rfl ?_
  refine d_val (s_load rfl rfl rfl rfl) rfl ?_
  refine d_val (s_loadA rfl rfl rfl rfl rfl) rfl ?_
  refine d_val (s_callH [(1000, _)] [] (c_volume_Len v) (evArgs_cons rfl evArgs_nil) ⟨rfl, trivial⟩ (by simp [volWA, AV.viewL, AV.view, viewR, lkB, AV.renL, AV.ren, sC, volC, writesT, take_map_len]) (by simp [volWA, AV.okVL, AV.okV, okR, lkB]) rfl rfl rfl) rfl ?_
  refine d_val (s_add rfl rfl rfl (by simp only [inI, kMin, kMax]; omega)) rfl ?_
  refine d_val (s_move rfl rfl) rfl ?_
  refine d_val (s_call [] (c_volume_items l) (evArgs_cons rfl evArgs_nil) trivial rfl (okVL_nil _) rfl (.inl rfl) rfl) rfl ?_
  refine d_val (s_build (evArgs_cons rfl (evArgs_cons rfl evArgs_nil)) rfl rfl rfl) rfl ?_
  refine d_fz ((s_buildSlice 22 (evArgs_cons rfl evArgs_nil) rfl rfl rfl rfl).fzE rfl) rfl ?_
  refine d_app (s_append 23 rfl rfl rfl rfl rfl (by simp) rfl rfl (by simp; omega)) rfl ?_
  refine d_val (s_field rfl rfl rfl rfl) rfl ?_
  refine d_sto (s_store rfl rfl rfl rfl rfl rfl) rfl ?_
  refine d_nil rfl ?_
  refine vc_rseq mixed ?_
  refine g_val (s_loadA rfl rfl rfl rfl rfl) rfl ?_
  refine g_sto (s_store rfl rfl rfl rfl rfl rfl) rfl ?_
  refine g_val (s_assign rfl rfl) rfl ?_
  refine g_nil ?_
  exact vc_ret (ret_le [(23, _)] _ (.cons (.agg rfl rfl rfl rfl) (.cons (.tmp rfl) .nil)) ⟨rfl, trivial⟩ (by repeat (first | exact leL_nil | refine leL_cons ?_ ?_ | exact LeV.tt rfl | exact .nl (by decide) (by decide) | exact .nn | refine LeV.tupL ?_ | refine LeV.aggL ?_ | exact .eq (by first | exact trivial | (simp [AV.okV, okR, lkB]; done) | (simp [AV.okV, okR, lkB]; omega)) (by first | rfl | (simp [AV.view, viewR, lkB, AV.ren, List.take_of_length_le]; done) | (simp [AV.view, viewR, lkB, AV.ren, List.take_of_length_le]; simp [writesT, writeV, writeC, i64, take_map_len]; done)))) rfl)

theorem c_volume_write_err (v : Volume) (l : List Item) (h0 : ¬ itemsOK v.blocks v.size l) : Con Try.prog 25 [.agg (volWA v 1000), .t (itemsT l)] [(1000, .row 2 32 (v.writes.map writeC))] (.tup [sC (volC v), AI .i64 23]) [] := by
  refine con_intro [1000] [] Try.func25 rfl Try.ntmps25 Try.results25 rfl rfl ?_
  intro E
  refine vc_rseq mixed ?_
  refine g_new (s_box 2 rfl rfl rfl rfl) rfl ?_
  refine g_new (s_alloc 4 rfl rfl) rfl ?_
  refine g_val (s_assign rfl rfl) rfl ?_
  refine g_nil ?_
  refine vc_seq ?_
  refine vc_rseq mixed ?_
  refine g_val (s_field rfl rfl rfl rfl) rfl ?_
  refine g_val (s_load rfl rfl rfl rfl) rfl ?_
  refine g_val (s_field rfl rfl rfl rfl) rfl ?_
  refine g_val (s_load rfl rfl rfl rfl) rfl ?_
  refine g_val (s_move rfl rfl) rfl ?_
  refine g_val (s_call [] (c_volume_ItemsRight v.blocks v.size l) (evArgs_cons rfl (evArgs_cons rfl (evArgs_cons rfl evArgs_nil))) trivial rfl (okVL_nil _) rfl (.inl rfl) rfl) rfl ?_
  refine g_val (s_not rfl rfl) rfl ?_
  refine g_nil ?_
  refine vc_cond rfl (fun _ => ?_) (fun h => by simp [h0] at h)
  refine vc_rseq mixed ?_
  refine g_val (s_loadA rfl rfl rfl rfl rfl) rfl ?_
  refine g_sto (s_store rfl rfl rfl rfl rfl rfl) rfl ?_
  refine g_val (s_assign rfl rfl) rfl ?_
  refine g_nil ?_
  exact vc_ret (ret_le [(1000, _)] _ (.cons (.agg rfl rfl rfl rfl) (.cons (.tmp rfl) .nil)) ⟨rfl, trivial⟩ (by repeat (first | exact leL_nil | refine leL_cons ?_ ?_ | exact LeV.tt rfl | exact .nl (by decide) (by decide) | exact .nn | refine LeV.tupL ?_ | refine LeV.aggL ?_ | exact .eq (by first | exact trivial | (simp [AV.okV, okR, lkB]; done) | (simp [AV.okV, okR, lkB]; omega)) (by first | rfl | (simp [AV.view, viewR, lkB, AV.ren, List.take_of_length_le]; done) | (simp [AV.view, viewR, lkB, AV.ren, List.take_of_length_le]; simp [writesT, take_map_len]; done)))) rfl)
theorem c_volume_write (v : Volume) (l : List Item) (hw : v.writes.length ≤ 1000000) : Con Try.prog 25 [.agg (volWA v 1000), .t (itemsT l)] [(1000, .row 2 32 (v.writes.map writeC))] (.tup [sC (volC (writeF v l).1), AI .i64 (writeF v l).2]) [] := by
  unfold writeF
  by_cases h : itemsOK v.blocks v.size l
  rw [if_pos h]; exact c_volume_write_ok v l h hw
  rw [if_neg h]; exact c_volume_write_err v l h

theorem c_volume_pins_prune (v : Volume) (c : VolCmd) (hk : c.kind = 3) : Con Try.prog 26 [sC (volC v), sC (cmdC c)] [] (.tup [sC (volC (doneF v c).1), AI .i64 (doneF v c).2]) [] := by
  refine con_intro [] [] Try.func26 rfl Try.ntmps26 Try.results26 rfl rfl ?_
  intro E
  refine vc_rseq mixed ?_
  refine g_new (s_box 2 rfl rfl rfl rfl) rfl ?_
  refine g_new (s_box 3 rfl rfl rfl rfl) rfl ?_
  refine g_new (s_alloc 4 rfl rfl) rfl ?_
  refine g_val (s_assign rfl rfl) rfl ?_
  refine g_nil ?_
  refine vc_seq ?_
  refine vc_rseq mixed ?_
  refine g_val (s_field rfl rfl rfl rfl) rfl ?_
  refine g_val (s_load rfl rfl rfl rfl) rfl ?_
  refine g_nil ?_
  refine vc_cond rfl (fun hc10 => ?_) (fun hc10 => ?_)
  refine vc_rseq mixed ?_
  refine g_val (s_loadA rfl rfl rfl rfl rfl) rfl ?_
  refine g_sto (s_store rfl rfl rfl rfl rfl rfl) rfl ?_
  refine g_val (s_assign rfl rfl) rfl ?_
  refine g_nil ?_
  rw [show doneF v c = (v, 28) from by unfold doneF; (repeat' split) <;> first | rfl | (exfalso; omega) | (exfalso; simp_all; done) | (exfalso; simp_all; omega)]; exact vc_ret (ret_le [] _ (.cons (.agg rfl rfl rfl rfl) (.cons (.tmp rfl) .nil)) trivial (by repeat (first | exact leL_nil | refine leL_cons ?_ ?_ | exact LeV.tt rfl | exact .nl (by decide) (by decide) | exact .nn | refine LeV.tupL ?_ | refine LeV.aggL ?_ | exact .eq (by first | exact trivial | (simp [AV.okV, okR, lkB]; done) | (simp [AV.okV, okR, lkB]; omega)) (by first | rfl | (simp [AV.view, viewR, lkB, AV.ren, List.take_of_length_le]; done) | (simp [AV.view, viewR, lkB, AV.ren, List.take_of_length_le]; done)))) rfl)
  refine vc_skip ?_
  refine vc_seq ?_
  refine vc_rseq mixed ?_
  refine g_val (s_field rfl rfl rfl rfl) rfl ?_
  refine g_val (s_load rfl rfl rfl rfl) rfl ?_
  refine g_nil ?_
  refine vc_block ?_
  refine vc_rseq mixed ?_
  refine g_val (s_eql rfl rfl rfl) rfl ?_
  refine g_val (s_assign rfl rfl) rfl ?_
  refine g_nil ?_
  refine vc_cond rfl (fun _ => ?_) (fun h => by simp [hk] at h)
  refine vc_seq ?_
  refine vc_rseq mixed ?_
  refine d_val (s_loadA rfl rfl rfl rfl rfl) rfl ?_
  refine d_val (s_field rfl rfl rfl rfl) rfl ?_
  refine d_val (s_load rfl rfl rfl rfl) rfl ?_
  refine d_val (s_loadA rfl rfl rfl rfl rfl) rfl ?_
  refine d_val (s_call [] (c_volume_Low v) (evArgs_cons rfl evArgs_nil) trivial rfl (okVL_nil _) rfl (.inl rfl) rfl) rfl ?_
  refine d_val (s_call [] (c_volume_time v c.time (lowV v)) (evArgs_cons rfl (evArgs_cons rfl (evArgs_cons rfl evArgs_nil))) trivial rfl (okVL_nil _) rfl (.inl rfl) rfl) rfl ?_
  refine d_val (s_assign rfl rfl) rfl ?_
  refine d_nil rfl ?_
  refine vc_rseq mixed ?_
  refine g_val (s_move rfl rfl) rfl ?_
  refine g_val (s_neq rfl rfl rfl) rfl ?_
  refine g_nil ?_
  refine vc_cond rfl (fun hc38 => ?_) (fun hc38 => ?_)
  replace hc38 := of_decide_eq_true hc38
  simp only [ne_eq] at hc38
  refine vc_rseq mixed ?_
  refine g_val (s_loadA rfl rfl rfl rfl rfl) rfl ?_
  refine g_val (s_move rfl rfl) rfl ?_
  refine g_sto (s_store rfl rfl rfl rfl rfl rfl) rfl ?_
  refine g_val (s_assign rfl rfl) rfl ?_
  refine g_nil ?_
  by_cases h1 : c.time < v.floor
  rw [if_pos h1]; rw [show doneF v c = (v, 30) from by unfold doneF; (repeat' split) <;> first | rfl | (exfalso; omega) | (exfalso; simp_all; done) | (exfalso; simp_all; omega)]; exact vc_ret (ret_le [] _ (.cons (.agg rfl rfl rfl rfl) (.cons (.tmp rfl) .nil)) trivial (by repeat (first | exact leL_nil | refine leL_cons ?_ ?_ | exact LeV.tt rfl | exact .nl (by decide) (by decide) | exact .nn | refine LeV.tupL ?_ | refine LeV.aggL ?_ | exact .eq (by first | exact trivial | (simp [AV.okV, okR, lkB]; done) | (simp [AV.okV, okR, lkB]; omega)) (by first | rfl | (simp [AV.view, viewR, lkB, AV.ren, List.take_of_length_le]; done) | (simp [AV.view, viewR, lkB, AV.ren, List.take_of_length_le]; done)))) rfl)
  rw [if_neg h1] at hc38 ⊢
  by_cases h2 : lowV v < c.time
  rw [if_pos h2]; rw [show doneF v c = (v, 31) from by unfold doneF; (repeat' split) <;> first | rfl | (exfalso; omega) | (exfalso; simp_all; done) | (exfalso; simp_all; omega)]; exact vc_ret (ret_le [] _ (.cons (.agg rfl rfl rfl rfl) (.cons (.tmp rfl) .nil)) trivial (by repeat (first | exact leL_nil | refine leL_cons ?_ ?_ | exact LeV.tt rfl | exact .nl (by decide) (by decide) | exact .nn | refine LeV.tupL ?_ | refine LeV.aggL ?_ | exact .eq (by first | exact trivial | (simp [AV.okV, okR, lkB]; done) | (simp [AV.okV, okR, lkB]; omega)) (by first | rfl | (simp [AV.view, viewR, lkB, AV.ren, List.take_of_length_le]; done) | (simp [AV.view, viewR, lkB, AV.ren, List.take_of_length_le]; done)))) rfl)
  rw [if_neg h2] at hc38; omega
  replace hc38 := of_decide_eq_false hc38
  simp only [ne_eq, Decidable.not_not] at hc38
  refine vc_skip ?_
  have h1 : ¬ c.time < v.floor := by intro h1; rw [if_pos h1] at hc38; omega
  have h2 : ¬ lowV v < c.time := by intro h2; rw [if_neg h1, if_pos h2] at hc38; omega
  refine vc_region mixed ?_
  refine g_val (s_field rfl rfl rfl rfl) rfl ?_
  refine g_val (s_load rfl rfl rfl rfl) rfl ?_
  refine g_val (s_field rfl rfl rfl rfl) rfl ?_
  refine g_sto (s_store rfl rfl rfl rfl rfl rfl) rfl ?_
  refine g_nil ?_
  refine vc_rseq mixed ?_
  refine g_val (s_loadA rfl rfl rfl rfl rfl) rfl ?_
  refine g_sto (s_store rfl rfl rfl rfl rfl rfl) rfl ?_
  refine g_val (s_assign rfl rfl) rfl ?_
  refine g_nil ?_
  rw [show doneF v c = ({ v with floor := c.time }, 0) from by unfold doneF; (repeat' split) <;> first | rfl | (exfalso; omega) | (exfalso; simp_all; done) | (exfalso; simp_all; omega)]; exact vc_ret (ret_le [] _ (.cons (.agg rfl rfl rfl rfl) (.cons (.tmp rfl) .nil)) trivial (by repeat (first | exact leL_nil | refine leL_cons ?_ ?_ | exact LeV.tt rfl | exact .nl (by decide) (by decide) | exact .nn | refine LeV.tupL ?_ | refine LeV.aggL ?_ | exact .eq (by first | exact trivial | (simp [AV.okV, okR, lkB]; done) | (simp [AV.okV, okR, lkB]; omega)) (by first | rfl | (simp [AV.view, viewR, lkB, AV.ren, List.take_of_length_le]; done) | (simp [AV.view, viewR, lkB, AV.ren, List.take_of_length_le]; done)))) rfl)

end Go.Eng

set_option maxHeartbeats 4000000
namespace Go.Eng
open Go.Proofs

structure Ver where
  seq : Int
  data : List Int
deriving DecidableEq
def verC (v : Ver) : List T := [i64 v.seq, bytesT v.data]
def versT (l : List Ver) : T := .sl 2 32 (l.map verC)

theorem c_hist_behind_1 (l : List Ver) (t : Int) (i : Nat) (x : Ver) (hx : l[i]? = some x) : Con Try.prog 71 [AI .i64 i, .ref 1000 0, .ref 1001 0] [(1000, .box [.t (versT l)]), (1001, .box [AI .i64 t])] (AB (decide (t < x.seq))) [(1000, .box [.t (versT l)]), (1001, .box [AI .i64 t])] := by
  refine con_intro [1000, 1001] [1000, 1001] Try.func71 rfl Try.ntmps71 Try.results71 rfl rfl ?_
  intro E
  refine vc_rseq mixed ?_
  refine g_val (s_assign rfl rfl) rfl ?_
  refine g_nil ?_
  refine vc_rseq mixed ?_
  refine d_val (s_load rfl rfl rfl rfl) rfl ?_
  refine d_val (s_move rfl rfl) rfl ?_
  refine d_val (s_index rfl rfl rfl (by omega) (idx_map hx)) rfl ?_
  refine d_val (s_fieldT rfl rfl rfl rfl rfl) rfl ?_
  refine d_val (s_loadT rfl rfl rfl) rfl ?_
  refine d_val (s_load rfl rfl rfl rfl) rfl ?_
  refine d_val (s_gtr rfl rfl rfl) rfl ?_
  refine d_val (s_assign rfl rfl) rfl ?_
  refine d_nil rfl ?_
  exact vc_ret (ret_hand [] [] _ (.cons (.tmp rfl) .nil) trivial (.eq (okV_nil _) rfl) (lehp_cons rfl (leB_same _) (lehp_cons rfl (leB_same _) (lehp_nil _ _))) rfl)

theorem c_sort_Search (n r g : Nat) [FnC Try.prog g] (x y : T) (hr : r ≤ n) (hn : n ≤ 1000000000) (hg : ∀ i : Nat, i < n → Con Try.prog g [AI .i64 i, .ref 1000 0, .ref 1001 0] [(1000, .box [.t x]), (1001, .box [.t y])] (AB (decide (r ≤ i))) [(1000, .box [.t x]), (1001, .box [.t y])]) :
    Con Try.prog 70 [AI .i64 n, .fn g [.ref 1000 0, .ref 1001 0]] [(1000, .box [.t x]), (1001, .box [.t y])] (AI .i64 r) [(1000, .box [.t x]), (1001, .box [.t y])] := by
  refine con_intro [1000, 1001] [1000, 1001] Try.func70 rfl Try.ntmps70 Try.results70 rfl rfl ?_
  intro E
  refine vc_rseq mixed ?_
  refine g_val (s_assign rfl rfl) rfl ?_
  refine g_nil ?_
  refine vc_rseq mixed ?_
  refine g_val (s_move rfl rfl) rfl ?_
  refine g_val (s_assign rfl rfl) rfl ?_
  refine g_val (s_assign rfl rfl) rfl ?_
  refine g_nil ?_
  refine vc_seq ?_
  refine vc_block ?_
  refine vc_while (α := Nat × Nat) (fun s => ⟨[(1, .fn g [.ref 1000 0, .ref 1001 0]), (5, AI .i64 s.1), (6, AI .i64 s.2)], [(1000, some (.box [.t x])), (1001, some (.box [.t y]))], [1000, 1001]⟩) (fun s => s.1 ≤ r ∧ r ≤ s.2 ∧ s.2 ≤ n) (fun s => s.2 - s.1) (0, n) (leE_same (by repeat (first | exact letm_nil _ _ | refine letm_cons rfl ?_ ?_ | exact .same _ | exact .nl (by decide) (by decide) | exact .nn | exact .id' rfl | exact .id' (by simp; done))) (by repeat (first | exact lehp_nil _ _ | refine lehp_cons rfl ?_ ?_ | exact leB_same _ | exact leB_row (by first | rfl | (simp; done)) | exact leB_obj (by simp; done) | refine leB_box ?_ | exact leL_nil | refine leL_cons ?_ ?_ | exact .same _ | exact .nl (by decide) (by decide) | exact .nn | exact .id' rfl | exact .id' (by simp; done))) rfl) ⟨Nat.zero_le _, hr, Nat.le_refl _⟩ (fun s ⟨hs1, hs2, hs3⟩ => ?_)
  obtain ⟨i, j⟩ := s
  simp only at hs1 hs2 hs3
  refine vc_seq ?_
  refine vc_rseq mixed ?_
  refine g_val (s_move rfl rfl) rfl ?_
  refine g_val (s_move rfl rfl) rfl ?_
  refine g_val (s_lss rfl rfl rfl) rfl ?_
  refine g_nil ?_
  refine vc_cond rfl (fun hc11 => ?_) (fun hc11 => ?_)
  replace hc11 := of_decide_eq_true hc11
  try simp only [List.length_map, ne_eq, Decidable.not_not, Int.not_lt, Int.not_le, ge_iff_le, gt_iff_lt, Bool.not_eq_true', Bool.not_eq_false', decide_eq_true_eq, decide_eq_false_iff_not] at hc11
  refine vc_skip ?_
  refine vc_block ?_
  have hsh : shrI .u64 ((i : Int) + (j : Int)) 1 = (((i + j) / 2 : Nat) : Int) := by simp [shrI, IntKind.bits]
  refine vc_rseq mixed ?_
  refine g_val (s_move rfl rfl) rfl ?_
  refine g_val (s_move rfl rfl) rfl ?_
  refine g_val (s_add rfl rfl rfl (by simp only [inI, kMin, kMax]; omega)) rfl ?_
  refine g_val (s_conv rfl rfl (by simp only [inI, kMin, kMax]; omega)) rfl ?_
  refine g_val (s_shrB rfl rfl rfl (by omega) (by omega)) rfl ?_
  refine g_val (s_conv rfl rfl (by rw [hsh]; simp only [inI, kMin, kMax]; omega)) rfl ?_
  refine g_val (s_assign rfl rfl) rfl ?_
  refine g_nil ?_
  rw [hsh]
  refine vc_rseq mixed ?_
  refine g_val (s_move rfl rfl) rfl ?_
  refine g_val (s_move rfl rfl) rfl ?_
  refine g_c2 (s_callV [] [] (hg ((i + j) / 2) (by omega)) rfl (evArgs_cons rfl evArgs_nil) ⟨rfl, rfl, trivial⟩ rfl (okVL_nil _) rfl rfl rfl) rfl ?_
  refine g_val (s_not rfl rfl) rfl ?_
  refine g_nil ?_
  refine vc_cond rfl (fun hc21 => ?_) (fun hc21 => ?_)
  simp only [Bool.not_eq_true', decide_eq_false_iff_not] at hc21
  refine vc_region mixed ?_
  refine g_val (s_move rfl rfl) rfl ?_
  refine g_val (s_add rfl rfl rfl (by simp only [inI, kMin, kMax]; omega)) rfl ?_
  refine g_val (s_assign rfl rfl) rfl ?_
  refine g_nil ?_
  first
  | exact ⟨((i + j) / 2 + 1, j), ⟨by simp only; omega, hs2, hs3⟩, by simp only; omega, (leE_same (by repeat (first | exact letm_nil _ _ | refine letm_cons rfl ?_ ?_ | exact .same _ | exact .nl (by decide) (by decide) | exact .nn | exact .id' rfl | exact .id' (by simp; done))) (by repeat (first | exact lehp_nil _ _ | refine lehp_cons rfl ?_ ?_ | exact leB_same _ | exact leB_row (by first | rfl | (simp; done)) | exact leB_obj (by simp; done) | refine leB_box ?_ | exact leL_nil | refine leL_cons ?_ ?_ | exact .same _ | exact .nl (by decide) (by decide) | exact .nn | exact .id' rfl | exact .id' (by simp; done))) rfl)⟩
  | exact ⟨(i, (i + j) / 2), ⟨hs1, by simp only; omega, by simp only; omega⟩, by simp only; omega, (leE_same (by repeat (first | exact letm_nil _ _ | refine letm_cons rfl ?_ ?_ | exact .same _ | exact .nl (by decide) (by decide) | exact .nn | exact .id' rfl | exact .id' (by simp; done))) (by repeat (first | exact lehp_nil _ _ | refine lehp_cons rfl ?_ ?_ | exact leB_same _ | exact leB_row (by first | rfl | (simp; done)) | exact leB_obj (by simp; done) | refine leB_box ?_ | exact leL_nil | refine leL_cons ?_ ?_ | exact .same _ | exact .nl (by decide) (by decide) | exact .nn | exact .id' rfl | exact .id' (by simp; done))) rfl)⟩
  simp only [Bool.not_eq_false', decide_eq_true_eq] at hc21
  refine vc_region mixed ?_
  refine g_val (s_move rfl rfl) rfl ?_
  refine g_val (s_assign rfl rfl) rfl ?_
  refine g_nil ?_
  first
  | exact ⟨((i + j) / 2 + 1, j), ⟨by simp only; omega, hs2, hs3⟩, by simp only; omega, (leE_same (by repeat (first | exact letm_nil _ _ | refine letm_cons rfl ?_ ?_ | exact .same _ | exact .nl (by decide) (by decide) | exact .nn | exact .id' rfl | exact .id' (by simp; done))) (by repeat (first | exact lehp_nil _ _ | refine lehp_cons rfl ?_ ?_ | exact leB_same _ | exact leB_row (by first | rfl | (simp; done)) | exact leB_obj (by simp; done) | refine leB_box ?_ | exact leL_nil | refine leL_cons ?_ ?_ | exact .same _ | exact .nl (by decide) (by decide) | exact .nn | exact .id' rfl | exact .id' (by simp; done))) rfl)⟩
  | exact ⟨(i, (i + j) / 2), ⟨hs1, by simp only; omega, by simp only; omega⟩, by simp only; omega, (leE_same (by repeat (first | exact letm_nil _ _ | refine letm_cons rfl ?_ ?_ | exact .same _ | exact .nl (by decide) (by decide) | exact .nn | exact .id' rfl | exact .id' (by simp; done))) (by repeat (first | exact lehp_nil _ _ | refine lehp_cons rfl ?_ ?_ | exact leB_same _ | exact leB_row (by first | rfl | (simp; done)) | exact leB_obj (by simp; done) | refine leB_box ?_ | exact leL_nil | refine leL_cons ?_ ?_ | exact .same _ | exact .nl (by decide) (by decide) | exact .nn | exact .id' rfl | exact .id' (by simp; done))) rfl)⟩
  replace hc11 := of_decide_eq_false hc11
  simp only [Int.not_lt] at hc11
  refine vc_exit ?_
  obtain rfl : i = r := by omega
  refine vc_rseq mixed ?_
  refine g_val (s_move rfl rfl) rfl ?_
  refine g_val (s_assign rfl rfl) rfl ?_
  refine g_nil ?_
  exact vc_ret (ret_hand [] [] _ (.cons (.tmp rfl) .nil) trivial (.eq (okV_nil _) rfl) (lehp_cons rfl (leB_same _) (lehp_cons rfl (leB_same _) (lehp_nil _ _))) rfl)

def behN (l : List Ver) (t : Int) : Nat := (l.takeWhile (fun v => decide (v.seq ≤ t))).length
theorem beh_iff : ∀ {l : List Ver} {t : Int} {i : Nat} {x : Ver}, l.Pairwise (fun a b => a.seq ≤ b.seq) → l[i]? = some x → (x.seq ≤ t ↔ i < behN l t)
  | [], t, i, x, _, hx => by simp at hx
  | a :: l, t, i, x, hs, hx => by
    obtain ⟨h1, h2⟩ := List.pairwise_cons.1 hs
    by_cases ha : a.seq ≤ t
    have e : behN (a :: l) t = behN l t + 1 := by simp [behN, List.takeWhile_cons, ha]
    rw [e]
    cases i with
    | zero => simp at hx; subst hx; simp [ha]
    | succ i =>
      rw [beh_iff h2 (by simpa using hx)]
      omega
    have e : behN (a :: l) t = 0 := by simp [behN, List.takeWhile_cons, ha]
    rw [e]
    cases i with
    | zero => simp at hx; subst hx; simp [ha]
    | succ i =>
      have := h1 x (List.mem_of_getElem? (by simpa using hx))
      omega
theorem behN_le (l : List Ver) (t : Int) : behN l t ≤ l.length := (List.takeWhile_prefix _).length_le

theorem c_hist_behind (l : List Ver) (t : Int) (hs : l.Pairwise (fun a b => a.seq ≤ b.seq)) (hl : l.length ≤ 1000000000) : Con Try.prog 55 [.t (versT l), AI .i64 t] [] (AI .i64 (behN l t)) [] := by
  refine con_intro [] [] Try.func55 rfl Try.ntmps55 Try.results55 rfl rfl ?_
  intro E
  refine vc_rseq mixed ?_
  refine g_new (s_box 2 rfl rfl rfl rfl) rfl ?_
  refine g_new (s_box 3 rfl rfl rfl rfl) rfl ?_
  refine g_val (s_assign rfl rfl) rfl ?_
  refine g_nil ?_
  refine vc_rseq mixed ?_
  refine g_val (s_load rfl rfl rfl rfl) rfl ?_
  refine g_val (s_len rfl rfl) rfl ?_
  refine g_val (s_makeFunc (evArgs_cons rfl (evArgs_cons rfl evArgs_nil)) rfl) rfl ?_
  refine g_c2 (s_callH [] [(1000, 2), (1001, 3)] (c_sort_Search (l.map verC).length (behN l t) 71 (versT l) (.k (.int .i64 t)) (by rw [List.length_map]; exact behN_le l t) (by rw [List.length_map]; exact hl) (fun i hi => by
  rw [List.length_map] at hi
  obtain ⟨x, hx⟩ := get_of_lt hi
  have := c_hist_behind_1 l t i x hx
  rw [show decide (behN l t ≤ i) = decide (t < x.seq) from by have := beh_iff (t := t) hs hx; rw [decide_eq_decide]; omega]
  exact this)) (evArgs_cons rfl (evArgs_cons rfl evArgs_nil)) ⟨rfl, rfl, trivial⟩ rfl (okVL_nil _) rfl rfl rfl) rfl ?_
  refine g_val (s_assign rfl rfl) rfl ?_
  refine g_nil ?_
  exact vc_ret (ret_of _ (.cons (.tmp rfl) .nil) rfl rfl)

def atF (l : List Ver) (t : Int) : List Int × Bool := if behN l t = 0 then ([], false) else (((l[behN l t - 1]?).map (·.data)).getD [], true)

theorem c_hist_At (l : List Ver) (t : Int) (hs : l.Pairwise (fun a b => a.seq ≤ b.seq)) (hl : l.length ≤ 1000000000) : Con Try.prog 32 [.t (versT l), AI .i64 t] [] (.tup [.t (bytesT (atF l t).1), AB (atF l t).2]) [] := by
  refine con_intro [] [] Try.func32 rfl Try.ntmps32 Try.results32 rfl rfl ?_
  intro E
  have hle := behN_le l t
  refine vc_rseq mixed ?_
  refine g_val (s_assign rfl rfl) rfl ?_
  refine g_val (s_assign rfl rfl) rfl ?_
  refine g_nil ?_
  refine vc_rseq mixed ?_
  refine g_val (s_move rfl rfl) rfl ?_
  refine g_val (s_move rfl rfl) rfl ?_
  refine g_val (s_call [] (c_hist_behind l t hs hl) (evArgs_cons rfl (evArgs_cons rfl evArgs_nil)) trivial rfl (okVL_nil _) rfl (.inl rfl) rfl) rfl ?_
  refine g_val (s_assign rfl rfl) rfl ?_
  refine g_nil ?_
  refine vc_seq ?_
  refine vc_rseq mixed ?_
  refine g_val (s_move rfl rfl) rfl ?_
  refine g_val (s_eql rfl rfl rfl) rfl ?_
  refine g_nil ?_
  refine vc_cond rfl (fun hc11 => ?_) (fun hc11 => ?_)
  replace hc11 := of_decide_eq_true hc11
  have e : atF l t = ([], false) := if_pos (by omega)
  rw [e]
  refine vc_rseq mixed ?_
  refine g_val (s_assign rfl rfl) rfl ?_
  refine g_val (s_assign rfl rfl) rfl ?_
  refine g_nil ?_
  exact vc_ret (ret_le [] _ (.cons (.tmp rfl) (.cons (.tmp rfl) .nil)) trivial (LeV.tupL (leL_cons (.nl (by decide) (by decide)) (leL_cons (LeV.tt rfl) leL_nil))) rfl)
  replace hc11 := of_decide_eq_false hc11
  refine vc_skip ?_
  obtain ⟨x, hx⟩ := get_of_lt (l := l) (i := behN l t - 1) (by omega)
  have e : atF l t = (x.data, true) := by unfold atF; rw [if_neg (by omega), hx]; rfl
  rw [e]
  refine vc_rseq mixed ?_
  refine g_val (s_move rfl rfl) rfl ?_
  refine g_val (s_move rfl rfl) rfl ?_
  refine g_val (s_sub rfl rfl rfl (by simp only [inI, kMin, kMax]; omega)) rfl ?_
  refine g_val (s_index rfl rfl rfl (by omega) (idx_map (by rw [show ((behN l t : Int) - 1).toNat = behN l t - 1 by omega]; exact hx))) rfl ?_
  refine g_val (s_fieldT rfl rfl rfl rfl rfl) rfl ?_
  refine g_val (s_loadT rfl rfl rfl) rfl ?_
  refine g_val (s_call [] (c_Clone_byte x.data) (evArgs_cons rfl evArgs_nil) trivial rfl (okVL_nil _) rfl (.inl rfl) rfl) rfl ?_
  refine g_val (s_assign rfl rfl) rfl ?_
  refine g_val (s_assign rfl rfl) rfl ?_
  refine g_nil ?_
  exact vc_ret (ret_le [] _ (.cons (.tmp rfl) (.cons (.tmp rfl) .nil)) trivial (LeV.tupL (leL_cons (LeV.tt rfl) (leL_cons (LeV.tt rfl) leL_nil))) rfl)

end Go.Eng

namespace Go.Proofs
open Go.Shelf
def Try.srt_ren : Go.Shelf.Ren := ⟨fun | 5 => 50 | 8 => 69 | 7 => 68 | 19 => 87 | 20 => 88 | 10 => 78 | 11 => 79 | 12 => 80 | 13 => 81 | 14 => 82 | 15 => 83 | 16 => 84 | 17 => 85 | 18 => 86 | 30 => 90 | 31 => 91 | 32 => 92 | 33 => 93 | 34 => 94 | 35 => 95 | 40 => 96 | n => n, fun | 23 => 25 | 25 => 2 | 3 => 3 | 32 => 119 | 22 => 25 | 0 => 0 | 44 => 136 | 46 => 109 | 4 => 4 | 36 => 128 | 35 => 127 | 41 => 133 | 5 => 5 | 9 => 9 | 53 => 138 | 57 => 142 | 63 => 145 | 64 => 146 | n => n, fun | n => n⟩
theorem Try.srt : Go.Proofs.SlLaysM.n5 Try.prog Try.srt_ren := {
  mixed := by kernel_rfl
  f5 := ⟨Try.f50.name, by decide, Try.func50.trans (congrArg some (by kernel_rfl))⟩
  f7 := ⟨Try.f68.name, by decide, Try.func68.trans (congrArg some (by kernel_rfl))⟩
  f8 := Try.func69.trans (congrArg some (by kernel_rfl))
  f10 := ⟨Try.f78.name, by decide, Try.func78.trans (congrArg some (by kernel_rfl))⟩
  f11 := ⟨Try.f79.name, by decide, Try.func79.trans (congrArg some (by kernel_rfl))⟩
  f12 := ⟨Try.f80.name, by decide, Try.func80.trans (congrArg some (by kernel_rfl))⟩
  f13 := ⟨Try.f81.name, by decide, Try.func81.trans (congrArg some (by kernel_rfl))⟩
  f14 := ⟨Try.f82.name, by decide, Try.func82.trans (congrArg some (by kernel_rfl))⟩
  f15 := ⟨Try.f83.name, by decide, Try.func83.trans (congrArg some (by kernel_rfl))⟩
  f16 := ⟨Try.f84.name, by decide, Try.func84.trans (congrArg some (by kernel_rfl))⟩
  f17 := ⟨Try.f85.name, by decide, Try.func85.trans (congrArg some (by kernel_rfl))⟩
  f18 := ⟨Try.f86.name, by decide, Try.func86.trans (congrArg some (by kernel_rfl))⟩
  f19 := Try.func87.trans (congrArg some (by kernel_rfl))
  f20 := Try.func88.trans (congrArg some (by kernel_rfl))
  f30 := ⟨Try.f90.name, by decide, Try.func90.trans (congrArg some (by kernel_rfl))⟩
  f31 := Try.func91.trans (congrArg some (by kernel_rfl))
  f32 := Try.func92.trans (congrArg some (by kernel_rfl))
  f33 := ⟨Try.f93.name, by decide, Try.func93.trans (congrArg some (by kernel_rfl))⟩
  f34 := ⟨Try.f94.name, by decide, Try.func94.trans (congrArg some (by kernel_rfl))⟩
  f35 := ⟨Try.f95.name, by decide, Try.func95.trans (congrArg some (by kernel_rfl))⟩
  f40 := ⟨Try.f96.name, by decide, Try.func96.trans (congrArg some (by kernel_rfl))⟩
  t0 := Try.underlying0
  a0 := Try.isAgg0
  z0 := Try.sizeOf0
  v0 := Try.zeroValue0
  t3 := Try.underlying3
  a3 := Try.isAgg3
  z3 := Try.sizeOf3
  v3 := Try.zeroValue3
  t4 := Try.underlying4
  a4 := Try.isAgg4
  z4 := Try.sizeOf4
  v4 := Try.zeroValue4
  t5 := Try.underlying5
  a5 := Try.isAgg5
  z5 := Try.sizeOf5
  v5 := Try.zeroValue5
  t9 := Try.underlying9
  a9 := Try.isAgg9
  z9 := Try.sizeOf9
  v9 := Try.zeroValue9
  t22 := Try.underlying25
  a22 := Try.isAgg25
  z22 := Try.sizeOf25
  v22 := Try.zeroValue25
  t23 := Try.underlying25
  a23 := Try.isAgg25
  z23 := Try.sizeOf25
  v23 := Try.zeroValue25
  t25 := Try.underlying2
  a25 := Try.isAgg2
  z25 := Try.sizeOf2
  v25 := Try.zeroValue2
  t32 := Try.underlying119
  a32 := Try.isAgg119
  z32 := Try.sizeOf119
  v32 := Try.zeroValue119
  t35 := Try.underlying127
  a35 := Try.isAgg127
  z35 := Try.sizeOf127
  v35 := Try.zeroValue127
  t36 := Try.underlying128
  a36 := Try.isAgg128
  z36 := Try.sizeOf128
  v36 := Try.zeroValue128
  t41 := Try.underlying133
  a41 := Try.isAgg133
  z41 := Try.sizeOf133
  v41 := Try.zeroValue133
  t44 := Try.underlying136
  a44 := Try.isAgg136
  z44 := Try.sizeOf136
  v44 := Try.zeroValue136
  t46 := Try.underlying109
  a46 := Try.isAgg109
  z46 := Try.sizeOf109
  v46 := Try.zeroValue109
  t53 := Try.underlying138
  a53 := Try.isAgg138
  z53 := Try.sizeOf138
  v53 := Try.zeroValue138
  t57 := Try.underlying142
  a57 := Try.isAgg142
  z57 := Try.sizeOf142
  v57 := Try.zeroValue142
  t63 := Try.underlying145
  a63 := Try.isAgg145
  z63 := Try.sizeOf145
  v63 := Try.zeroValue145
  t64 := Try.underlying146
  a64 := Try.isAgg146
  z64 := Try.sizeOf146
  v64 := Try.zeroValue146 }
end Go.Proofs

set_option maxHeartbeats 4000000
namespace Go.Eng
open Go.Proofs

theorem c_Sort_i64 (l : List Int) (h0 : 0 < l.length) (hl : l.length ≤ 1000000000) : Con Try.prog 50 [.rows 1000 1 0 l.length] [(1000, .row 1 8 (l.map intC))] (.tup []) [(1000, .row 1 8 ((sortI l).map intC))] :=
  con_sort (fun blk off cap zs w h1 h2 h3 => by
    have := AnyM.slices_Sort_int Try.srt blk off cap zs w h1 h2 h3
    exact this) l h0 hl

theorem insPin_perm (l : List Int) (x : Int) : (insPin l x).Perm (l ++ [x]) := by
  have h := List.takeWhile_append_dropWhile (p := fun z => decide (z ≤ x)) (l := l)
  unfold insPin
  conv => rhs; rw [← h]
  rw [List.append_assoc, List.append_assoc]
  exact (List.perm_append_comm (l₁ := [x])).append_left _

theorem sortI_ins {l : List Int} (h : l.Pairwise (· ≤ ·)) (x : Int) : sortI (l ++ [x]) = insPin l x := by
  have h1 : (sortI (l ++ [x])).Pairwise (· ≤ ·) := by
    have := List.pairwise_mergeSort (le := fun x y : Int => decide (x ≤ y)) (by intro a b c h1 h2; simp at *; omega) (by intro a b; simp; omega) (l ++ [x])
    exact this.imp (by simp)
  exact (((List.mergeSort_perm _ _).trans (insPin_perm l x).symm).eq_of_pairwise (le := (· ≤ ·)) (fun a b _ _ h1 h2 => Int.le_antisymm h1 h2) h1 (insPin_sorted h))

theorem c_volume_pins_pin (v : Volume) (c : VolCmd) (hk : c.kind = 4) (hs : v.pins.Pairwise (· ≤ ·)) (hp : v.pins.length ≤ 1000000) : Con Try.prog 26 [.agg (volPA v 1000), sC (cmdC c)] [(1000, .row 1 8 (v.pins.map intC))] (.tup [sC (volC (doneF v c).1), AI .i64 (doneF v c).2]) [] := by
  refine con_intro [1000] [] Try.func26 rfl Try.ntmps26 Try.results26 rfl rfl ?_
  intro E
  refine vc_rseq mixed ?_
  refine g_new (s_box 2 rfl rfl rfl rfl) rfl ?_
  refine g_new (s_box 3 rfl rfl rfl rfl) rfl ?_
  refine g_new (s_alloc 4 rfl rfl) rfl ?_
  refine g_val (s_assign rfl rfl) rfl ?_
  refine g_nil ?_
  refine vc_seq ?_
  refine vc_rseq mixed ?_
  refine g_val (s_field rfl rfl rfl rfl) rfl ?_
  refine g_val (s_load rfl rfl rfl rfl) rfl ?_
  refine g_nil ?_
  refine vc_cond rfl (fun hc10 => ?_) (fun hc10 => ?_)
  refine vc_rseq mixed ?_
  refine g_val (s_loadA rfl rfl rfl rfl rfl) rfl ?_
  refine g_sto (s_store rfl rfl rfl rfl rfl rfl) rfl ?_
  refine g_val (s_assign rfl rfl) rfl ?_
  refine g_nil ?_
  rw [show doneF v c = (v, 28) from by unfold doneF; (repeat' split) <;> first | rfl | (exfalso; omega) | (exfalso; simp_all; done) | (exfalso; simp_all; omega)]; exact vc_ret (ret_le [(1000, _)] _ (.cons (.agg rfl rfl rfl rfl) (.cons (.tmp rfl) .nil)) ⟨rfl, trivial⟩ (by repeat (first | exact leL_nil | refine leL_cons ?_ ?_ | exact LeV.tt rfl | exact .nl (by decide) (by decide) | exact .nn | refine LeV.tupL ?_ | refine LeV.aggL ?_ | exact .eq (by first | exact trivial | (simp [AV.okV, okR, lkB]; done) | (simp [AV.okV, okR, lkB]; omega)) (by first | rfl | (simp [AV.view, viewR, lkB, AV.ren, List.take_of_length_le]; done) | (simp [AV.view, viewR, lkB, AV.ren, List.take_of_length_le]; simp [intsT, take_map_len]; done)))) rfl)
  refine vc_skip ?_
  refine vc_seq ?_
  refine vc_rseq mixed ?_
  refine g_val (s_field rfl rfl rfl rfl) rfl ?_
  refine g_val (s_load rfl rfl rfl rfl) rfl ?_
  refine g_nil ?_
  refine vc_block ?_
  refine vc_rseq mixed ?_
  refine g_val (s_eql rfl rfl rfl) rfl ?_
  refine g_val (s_assign rfl rfl) rfl ?_
  refine g_nil ?_
  refine vc_cond rfl (fun h => by simp [hk] at h) (fun _ => ?_)
  refine vc_rseq mixed ?_
  refine g_val (s_eql rfl rfl rfl) rfl ?_
  refine g_val (s_assign rfl rfl) rfl ?_
  refine g_nil ?_
  refine vc_cond rfl (fun _ => ?_) (fun h => by simp [hk] at h)
  refine vc_seq ?_
  refine vc_rseq mixed ?_
  refine d_val (s_loadA rfl rfl rfl rfl rfl) rfl ?_
  refine d_val (s_field rfl rfl rfl rfl) rfl ?_
  refine d_val (s_load rfl rfl rfl rfl) rfl ?_
  refine d_val (s_loadA rfl rfl rfl rfl rfl) rfl ?_
  refine d_val (s_callH [(1000, _)] [] (c_volume_Len v) (evArgs_cons rfl evArgs_nil) ⟨rfl, trivial⟩ (by simp [volPA, AV.viewL, AV.view, viewR, lkB, AV.renL, AV.ren, sC, volC, intsT, take_map_len]) (by simp [volPA, AV.okVL, AV.okV, okR, lkB]) rfl rfl rfl) rfl ?_
  refine d_val (s_callH [(1000, _)] [] (c_volume_time v c.time v.writes.length) (evArgs_cons rfl (evArgs_cons rfl (evArgs_cons rfl evArgs_nil))) ⟨rfl, trivial⟩ (by simp [volPA, AV.viewL, AV.view, viewR, lkB, AV.renL, AV.ren, sC, volC, intsT, take_map_len]; rfl) (by simp [volPA, AV.okVL, AV.okV, okR, lkB, AV.ren]) rfl rfl rfl) rfl ?_
  refine d_val (s_assign rfl rfl) rfl ?_
  refine d_nil rfl ?_
  refine vc_rseq mixed ?_
  refine g_val (s_move rfl rfl) rfl ?_
  refine g_val (s_neq rfl rfl rfl) rfl ?_
  refine g_nil ?_
  refine vc_cond rfl (fun hc53 => ?_) (fun hc53 => ?_)
  replace hc53 := of_decide_eq_true hc53
  simp only [ne_eq] at hc53
  refine vc_rseq mixed ?_
  refine g_val (s_loadA rfl rfl rfl rfl rfl) rfl ?_
  refine g_val (s_move rfl rfl) rfl ?_
  refine g_sto (s_store rfl rfl rfl rfl rfl rfl) rfl ?_
  refine g_val (s_assign rfl rfl) rfl ?_
  refine g_nil ?_
  by_cases h1 : c.time < v.floor
  rw [if_pos h1]; rw [show doneF v c = (v, 30) from by unfold doneF; (repeat' split) <;> first | rfl | (exfalso; omega) | (exfalso; simp_all; done) | (exfalso; simp_all; omega)]; exact vc_ret (ret_le [(1000, _)] _ (.cons (.agg rfl rfl rfl rfl) (.cons (.tmp rfl) .nil)) ⟨rfl, trivial⟩ (by repeat (first | exact leL_nil | refine leL_cons ?_ ?_ | exact LeV.tt rfl | exact .nl (by decide) (by decide) | exact .nn | refine LeV.tupL ?_ | refine LeV.aggL ?_ | exact .eq (by first | exact trivial | (simp [AV.okV, okR, lkB]; done) | (simp [AV.okV, okR, lkB]; omega)) (by first | rfl | (simp [AV.view, viewR, lkB, AV.ren, List.take_of_length_le]; done) | (simp [AV.view, viewR, lkB, AV.ren, List.take_of_length_le]; simp [intsT, take_map_len]; done)))) rfl)
  rw [if_neg h1] at hc53 ⊢
  by_cases h2 : (v.writes.length : Int) < c.time
  rw [if_pos h2]; rw [show doneF v c = (v, 31) from by unfold doneF; (repeat' split) <;> first | rfl | (exfalso; omega) | (exfalso; simp_all; done) | (exfalso; simp_all; omega)]; exact vc_ret (ret_le [(1000, _)] _ (.cons (.agg rfl rfl rfl rfl) (.cons (.tmp rfl) .nil)) ⟨rfl, trivial⟩ (by repeat (first | exact leL_nil | refine leL_cons ?_ ?_ | exact LeV.tt rfl | exact .nl (by decide) (by decide) | exact .nn | refine LeV.tupL ?_ | refine LeV.aggL ?_ | exact .eq (by first | exact trivial | (simp [AV.okV, okR, lkB]; done) | (simp [AV.okV, okR, lkB]; omega)) (by first | rfl | (simp [AV.view, viewR, lkB, AV.ren, List.take_of_length_le]; done) | (simp [AV.view, viewR, lkB, AV.ren, List.take_of_length_le]; simp [intsT, take_map_len]; done)))) rfl)
  rw [if_neg h2] at hc53; omega
  replace hc53 := of_decide_eq_false hc53
  simp only [ne_eq, Decidable.not_not] at hc53
  refine vc_skip ?_
  have h1 : ¬ c.time < v.floor := by intro h1; rw [if_pos h1] at hc53; omega
  have h2 : ¬ (v.writes.length : Int) < c.time := by intro h2; rw [if_neg h1, if_pos h2] at hc53; omega
  refine vc_rseq mixed ?_
  refine g_val (s_field rfl rfl rfl rfl) rfl ?_
  refine g_val (s_load rfl rfl rfl rfl) rfl ?_
  refine g_val (s_field rfl rfl rfl rfl) rfl ?_
  refine g_val (s_load rfl rfl rfl rfl) rfl ?_
  refine g_fz ((s_buildSlice 60 (evArgs_cons rfl evArgs_nil) rfl rfl rfl rfl).fzE rfl) rfl ?_
  refine g_app (s_append 61 rfl rfl rfl rfl rfl (by simp) rfl rfl (by simp; omega)) rfl ?_
  refine g_val (s_field rfl rfl rfl rfl) rfl ?_
  refine g_sto (s_store rfl rfl rfl rfl rfl rfl) rfl ?_
  refine g_nil ?_
  have hil := insPin_len v.pins c.time
  have hsrt := c_Sort_i64 (v.pins ++ [c.time]) (by simp) (by simp; omega)
  rw [sortI_ins hs] at hsrt
  have htk : (v.pins.map intC).take v.pins.length ++ [intC c.time] = (v.pins ++ [c.time]).map intC := by simp [take_map_len]
  refine vc_region mixed ?_
  refine g_val (s_field rfl rfl rfl rfl) rfl ?_
  refine g_val (s_load rfl rfl rfl rfl) rfl ?_
  refine g_cw (s_callH [] [(1000, 61)] hsrt (evArgs_cons rfl evArgs_nil) ⟨by rw [← htk]; rfl, trivial⟩ (by simp [AV.viewL, AV.view, viewR, lkB, AV.renL, AV.ren, rnL]) (okVL_nil _) rfl rfl rfl) rfl ?_
  refine g_nil ?_
  refine vc_rseq mixed ?_
  refine g_val (s_loadA rfl rfl rfl rfl rfl) rfl ?_
  refine g_sto (s_store rfl rfl rfl rfl rfl rfl) rfl ?_
  refine g_val (s_assign rfl rfl) rfl ?_
  refine g_nil ?_
  rw [show doneF v c = ({ v with pins := insPin v.pins c.time }, 0) from by unfold doneF; (repeat' split) <;> first | rfl | (exfalso; omega) | (exfalso; simp_all; done) | (exfalso; simp_all; omega)]; exact vc_ret (ret_le [(61, _)] _ (.cons (.agg rfl rfl rfl rfl) (.cons (.tmp rfl) .nil)) ⟨rfl, trivial⟩ (by repeat (first | exact leL_nil | refine leL_cons ?_ ?_ | exact LeV.tt rfl | exact .nl (by decide) (by decide) | exact .nn | refine LeV.tupL ?_ | refine LeV.aggL ?_ | exact .eq (by first | exact trivial | (simp [AV.okV, okR, lkB]; done) | (simp [AV.okV, okR, lkB]; omega)) (by first | rfl | (simp [AV.view, viewR, lkB, AV.ren, List.take_of_length_le]; done) | (simp [AV.view, viewR, lkB, AV.ren, List.take_of_length_le]; simp [intsT]; exact List.take_of_length_le (by simp; omega))))) rfl)

end Go.Eng
