/- The law mementolaw23.ExportWhich returns true for every input and leaves its arguments as they were; no condition beyond the row's own. Part 3. -/
import Derived.Test.YtliedpopdcjkeaaGreatM2
set_option linter.unusedVariables false
set_option linter.unusedSimpArgs false
set_option maxHeartbeats 1000000
namespace Go.Eng
open Go.Proofs

def lowV (v : Volume) : Int := v.pins.foldl min v.writes.length

theorem c_mementoref16_Low (v : Volume) : Con Tryz.prog 109 [sC (volC v)] [] (AI .i64 (lowV v)) [] := by
  refine con_intro [] [] Tryz.func109 rfl Tryz.ntmps109 Tryz.results109 rfl rfl ?_
  intro E
  refine vc_okA (i := 0) (j := 9) rfl rfl fun okp => ?_
  have hlp := okp.len
  rw [List.length_map] at hlp
  refine vc_rseq mixed ?_
  refine g_new (s_box 1 rfl rfl rfl rfl) rfl ?_
  refine g_val (s_assign rfl rfl) rfl ?_
  refine g_nil ?_
  refine vc_rseq mixed ?_
  refine g_val (s_loadA rfl rfl rfl rfl rfl) rfl ?_
  refine g_val (s_call [] (c_mementoref16_Len v) (evArgs_cons rfl evArgs_nil) trivial rfl (okVL_nil _) rfl (.inl rfl) rfl) rfl ?_
  refine g_val (s_assign rfl rfl) rfl ?_
  refine g_nil ?_
  refine vc_seq ?_
  refine vc_rseq mixed ?_
  refine g_val (s_assign rfl rfl) rfl ?_
  refine g_nil ?_
  refine vc_block ?_
  refine vc_up v.pins.length (fun i => ⟨[(1, .ref 1 0), (3, AI .i64 ((v.pins.take i).foldl min v.writes.length)), (4, AI .i64 i)], [(1, some (.box ((volC v).map .t)))], [1]⟩) (fun i => True) (leE_same (by repeat (first | exact letm_nil _ _ | refine letm_cons rfl ?_ ?_ | exact .same _ | exact .nl (by decide) (by decide) | exact .nn | exact .id' rfl | exact .id' (by simp; done))) (by repeat (first | exact lehp_nil _ _ | refine lehp_cons rfl ?_ ?_ | exact leB_same _ | exact leB_row (by first | rfl | (simp; done)) | exact leB_obj (by simp; done) | exact leB_nest (by first | rfl | (simp; done)) | refine leB_box ?_ | exact leL_nil | refine leL_cons ?_ ?_ | exact .same _ | exact .nl (by decide) (by decide) | exact .nn | exact .id' rfl | exact .id' (by simp; done))) rfl) trivial (fun i hi _ => ?_)
  refine vc_seq ?_
  refine vc_rseq mixed ?_
  refine g_val (s_move rfl rfl) rfl ?_
  refine g_val (s_field rfl rfl rfl rfl) rfl ?_
  refine g_val (s_load rfl rfl rfl rfl) rfl ?_
  refine g_val (s_len rfl rfl) rfl ?_
  refine g_val (s_lss rfl rfl rfl) rfl ?_
  refine g_nil ?_
  refine vc_cond rfl (fun hc11 => ?_) (fun hc11 => ?_)
  replace hc11 := of_decide_eq_true hc11
  simp only [List.length_map] at hc11
  obtain ⟨x, hx⟩ := get_of_lt (l := v.pins) (i := i) (by omega)
  refine vc_skip ?_
  refine vc_seq ?_
  refine vc_block ?_
  refine vc_region mixed ?_
  refine g_val (s_move rfl rfl) rfl ?_
  refine g_val (s_field rfl rfl rfl rfl) rfl ?_
  refine g_val (s_load rfl rfl rfl rfl) rfl ?_
  refine g_val (s_move rfl rfl) rfl ?_
  refine g_val (s_index rfl rfl rfl (by omega) (idx_map hx)) rfl ?_
  refine g_val (s_loadT rfl rfl rfl) rfl ?_
  refine g_val (s_min rfl rfl rfl) rfl ?_
  refine g_val (s_assign rfl rfl) rfl ?_
  refine g_nil ?_
  refine vc_region mixed ?_
  refine g_val (s_move rfl rfl) rfl ?_
  refine g_val (s_add rfl rfl rfl (by simp only [inI, kMin, kMax]; omega)) rfl ?_
  refine g_val (s_assign rfl rfl) rfl ?_
  refine g_nil ?_
  exact ⟨by omega, trivial, (leE_same (by repeat (first | exact letm_nil _ _ | refine letm_cons rfl ?_ ?_ | exact .same _ | exact .nl (by decide) (by decide) | exact .nn | exact .id' rfl | exact .id' (by simp only [foldl_take hx]; done))) (by repeat (first | exact lehp_nil _ _ | refine lehp_cons rfl ?_ ?_ | exact leB_same _ | exact leB_row (by first | rfl | (simp only [foldl_take hx]; done)) | exact leB_obj (by simp only [foldl_take hx]; done) | exact leB_nest (by first | rfl | (simp only [foldl_take hx]; done)) | refine leB_box ?_ | exact leL_nil | refine leL_cons ?_ ?_ | exact .same _ | exact .nl (by decide) (by decide) | exact .nn | exact .id' rfl | exact .id' (by simp only [foldl_take hx]; done))) rfl)⟩
  replace hc11 := of_decide_eq_false hc11
  simp only [List.length_map, Int.not_lt] at hc11
  refine vc_exit ?_
  refine vc_rseq mixed ?_
  refine g_val (s_move rfl rfl) rfl ?_
  refine g_val (s_assign rfl rfl) rfl ?_
  refine g_nil ?_
  exact vc_ret (ret_of _ (.cons (.tmp rfl) .nil) (by simp only [single, lowV]; rw [List.take_of_length_le (by omega)]) rfl)

def shapeEq (a b : Volume) : Prop := a.id = b.id ∧ a.blocks = b.blocks ∧ a.size = b.size ∧ a.per = b.per ∧ a.place = b.place ∧ a.total = b.total
instance (a b : Volume) : Decidable (shapeEq a b) := by unfold shapeEq; infer_instance

def chunksN (blocks per : Int) : Int := (blocks + per - 1) / per

theorem c_mementoref16_Chunks (blocks per : Int) (h1 : 1 ≤ blocks) (h2 : blocks ≤ 256) (h3 : 1 ≤ per) (h4 : per ≤ 256) : Con Tryz.prog 64 [AI .i64 blocks, AI .i64 per] [] (AI .i64 (chunksN blocks per)) [] := by
  refine con_intro [] [] Tryz.func64 rfl Tryz.ntmps64 Tryz.results64 rfl rfl ?_
  intro E
  refine vc_rseq mixed ?_
  refine g_val (s_assign rfl rfl) rfl ?_
  refine g_nil ?_
  refine vc_rseq mixed ?_
  refine g_val (s_move rfl rfl) rfl ?_
  refine g_val (s_move rfl rfl) rfl ?_
  refine g_val (s_add rfl rfl rfl (by simp only [inI, kMin, kMax]; omega)) rfl ?_
  refine g_val (s_sub rfl rfl rfl (by simp only [inI, kMin, kMax]; omega)) rfl ?_
  refine g_val (s_move rfl rfl) rfl ?_
  refine g_val (s_quo rfl rfl rfl (by omega) (by omega)) rfl ?_
  refine g_val (s_assign rfl rfl) rfl ?_
  refine g_nil ?_
  exact vc_ret (ret_of _ (.cons (.tmp rfl) .nil) (by simp [single, chunksN]) rfl)

def shapeOK (vol blocks size per : Int) (place : List Int) (total : Int) : Prop := 0 ≤ vol ∧ vol < 8 ∧ 1 ≤ blocks ∧ blocks ≤ 256 ∧ 1 ≤ size ∧ size ≤ 32 ∧ 1 ≤ per ∧ per ≤ blocks ∧ (place.length : Int) = chunksN blocks per ∧ 0 ≤ total ∧ total ≤ 1099511627776 ∧ ∀ z ∈ place, 1 ≤ z ∧ z ≤ 7
instance (vol blocks size per : Int) (place : List Int) (total : Int) : Decidable (shapeOK vol blocks size per place total) := by unfold shapeOK; infer_instance

theorem c_mementoref16_shape (c : VolCmd) : Con Tryz.prog 63 [sC (cmdC c)] [] (AB (decide (shapeOK c.vol c.blocks c.size c.per c.place c.total))) [] := by
  refine con_intro [] [] Tryz.func63 rfl Tryz.ntmps63 Tryz.results63 rfl rfl ?_
  intro E
  refine vc_okA (i := 0) (j := 5) rfl rfl fun okp => ?_
  have hlp := okp.len
  rw [List.length_map] at hlp
  refine vc_rseq mixed ?_
  refine g_new (s_box 1 rfl rfl rfl rfl) rfl ?_
  refine g_val (s_assign rfl rfl) rfl ?_
  refine g_nil ?_
  refine vc_seq ?_
  refine vc_rseq mixed ?_
  refine d_val (s_field rfl rfl rfl rfl) rfl ?_
  refine d_val (s_load rfl rfl rfl rfl) rfl ?_
  refine d_val (s_lss rfl rfl rfl) rfl ?_
  refine d_val (s_move rfl rfl) rfl ?_
  refine g_probe (j := 7) rfl (fun c hg7 => ?_)
  cases c
  rw [← hg7]; replace hg7 := hg7.symm; replace hg7 := of_decide_eq_false hg7
  simp only [Int.not_lt] at hg7
  refine dq_val (s_field rfl rfl rfl rfl) rfl rfl rfl rfl ?_
  refine dq_val (s_load rfl rfl rfl rfl) rfl rfl rfl rfl ?_
  refine dq_val (s_geq rfl rfl rfl) rfl rfl rfl rfl ?_
  refine d_val (s_pickF rfl rfl rfl) rfl ?_
  refine d_val (s_move rfl rfl) rfl ?_
  refine g_probe (j := 12) rfl (fun c hg12 => ?_)
  cases c
  rw [← hg12]; replace hg12 := hg12.symm; replace hg12 := of_decide_eq_false hg12
  simp only [Int.not_le] at hg12
  refine dq_val (s_field rfl rfl rfl rfl) rfl rfl rfl rfl ?_
  refine dq_val (s_load rfl rfl rfl rfl) rfl rfl rfl rfl ?_
  refine dq_val (s_lss rfl rfl rfl) rfl rfl rfl rfl ?_
  refine d_val (s_pickF rfl rfl rfl) rfl ?_
  refine d_val (s_move rfl rfl) rfl ?_
  refine g_probe (j := 17) rfl (fun c hg17 => ?_)
  cases c
  rw [← hg17]; replace hg17 := hg17.symm; replace hg17 := of_decide_eq_false hg17
  simp only [Int.not_lt] at hg17
  refine dq_val (s_field rfl rfl rfl rfl) rfl rfl rfl rfl ?_
  refine dq_val (s_load rfl rfl rfl rfl) rfl rfl rfl rfl ?_
  refine dq_val (s_gtr rfl rfl rfl) rfl rfl rfl rfl ?_
  refine d_val (s_pickF rfl rfl rfl) rfl ?_
  refine d_val (s_move rfl rfl) rfl ?_
  refine g_probe (j := 22) rfl (fun c hg22 => ?_)
  cases c
  rw [← hg22]; replace hg22 := hg22.symm; replace hg22 := of_decide_eq_false hg22
  simp only [Int.not_lt] at hg22
  refine dq_val (s_field rfl rfl rfl rfl) rfl rfl rfl rfl ?_
  refine dq_val (s_load rfl rfl rfl rfl) rfl rfl rfl rfl ?_
  refine dq_val (s_lss rfl rfl rfl) rfl rfl rfl rfl ?_
  refine d_val (s_pickF rfl rfl rfl) rfl ?_
  refine d_val (s_move rfl rfl) rfl ?_
  refine g_probe (j := 27) rfl (fun c hg27 => ?_)
  cases c
  rw [← hg27]; replace hg27 := hg27.symm; replace hg27 := of_decide_eq_false hg27
  simp only [Int.not_lt] at hg27
  refine dq_val (s_field rfl rfl rfl rfl) rfl rfl rfl rfl ?_
  refine dq_val (s_load rfl rfl rfl rfl) rfl rfl rfl rfl ?_
  refine dq_val (s_gtr rfl rfl rfl) rfl rfl rfl rfl ?_
  refine d_val (s_pickF rfl rfl rfl) rfl ?_
  refine d_val (s_move rfl rfl) rfl ?_
  refine g_probe (j := 32) rfl (fun c hg32 => ?_)
  cases c
  rw [← hg32]; replace hg32 := hg32.symm; replace hg32 := of_decide_eq_false hg32
  simp only [Int.not_lt] at hg32
  refine dq_val (s_field rfl rfl rfl rfl) rfl rfl rfl rfl ?_
  refine dq_val (s_load rfl rfl rfl rfl) rfl rfl rfl rfl ?_
  refine dq_val (s_lss rfl rfl rfl) rfl rfl rfl rfl ?_
  refine d_val (s_pickF rfl rfl rfl) rfl ?_
  refine d_val (s_move rfl rfl) rfl ?_
  refine g_probe (j := 37) rfl (fun c hg37 => ?_)
  cases c
  rw [← hg37]; replace hg37 := hg37.symm; replace hg37 := of_decide_eq_false hg37
  simp only [Int.not_lt] at hg37
  refine dq_val (s_field rfl rfl rfl rfl) rfl rfl rfl rfl ?_
  refine dq_val (s_load rfl rfl rfl rfl) rfl rfl rfl rfl ?_
  refine dq_val (s_field rfl rfl rfl rfl) rfl rfl rfl rfl ?_
  refine dq_val (s_load rfl rfl rfl rfl) rfl rfl rfl rfl ?_
  refine dq_val (s_gtr rfl rfl rfl) rfl rfl rfl rfl ?_
  refine d_val (s_pickF rfl rfl rfl) rfl ?_
  refine d_val (s_move rfl rfl) rfl ?_
  refine g_probe (j := 44) rfl (fun c hg44 => ?_)
  cases c
  rw [← hg44]; replace hg44 := hg44.symm; replace hg44 := of_decide_eq_false hg44
  simp only [Int.not_lt] at hg44
  refine dq_val (s_field rfl rfl rfl rfl) rfl rfl rfl rfl ?_
  refine dq_val (s_load rfl rfl rfl rfl) rfl rfl rfl rfl ?_
  refine dq_val (s_len rfl rfl) rfl rfl rfl rfl ?_
  refine dq_val (s_field rfl rfl rfl rfl) rfl rfl rfl rfl ?_
  refine dq_val (s_load rfl rfl rfl rfl) rfl rfl rfl rfl ?_
  refine dq_val (s_field rfl rfl rfl rfl) rfl rfl rfl rfl ?_
  refine dq_val (s_load rfl rfl rfl rfl) rfl rfl rfl rfl ?_
  refine dq_val (s_call [] (c_mementoref16_Chunks c.blocks c.per (by omega) (by omega) (by omega) (by omega)) (evArgs_cons rfl (evArgs_cons rfl evArgs_nil)) trivial rfl (okVL_nil _) rfl (.inl rfl) rfl) rfl rfl rfl rfl ?_
  refine dq_val (s_neq rfl rfl rfl) rfl rfl rfl rfl ?_
  refine d_val (s_pickF rfl rfl rfl) rfl ?_
  refine d_val (s_move rfl rfl) rfl ?_
  refine g_probe (j := 55) rfl (fun c hg55 => ?_)
  cases c
  rw [← hg55]; replace hg55 := hg55.symm; replace hg55 := of_decide_eq_false hg55
  simp only [List.length_map, ne_eq, Decidable.not_not] at hg55
  refine dq_val (s_field rfl rfl rfl rfl) rfl rfl rfl rfl ?_
  refine dq_val (s_load rfl rfl rfl rfl) rfl rfl rfl rfl ?_
  refine dq_val (s_lss rfl rfl rfl) rfl rfl rfl rfl ?_
  refine d_val (s_pickF rfl rfl rfl) rfl ?_
  refine d_val (s_move rfl rfl) rfl ?_
  refine g_probe (j := 60) rfl (fun c hg60 => ?_)
  cases c
  rw [← hg60]; replace hg60 := hg60.symm; replace hg60 := of_decide_eq_false hg60
  simp only [Int.not_lt] at hg60
  refine dq_val (s_field rfl rfl rfl rfl) rfl rfl rfl rfl ?_
  refine dq_val (s_load rfl rfl rfl rfl) rfl rfl rfl rfl ?_
  refine dq_val (s_gtr rfl rfl rfl) rfl rfl rfl rfl ?_
  refine d_val (s_pickF rfl rfl rfl) rfl ?_
  refine d_nil rfl ?_
  refine vc_cond rfl (fun hc64 => ?_) (fun hc64 => ?_)
  replace hc64 := of_decide_eq_true hc64
  refine vc_rseq mixed ?_
  refine g_val (s_assign rfl rfl) rfl ?_
  refine g_nil ?_
  exact vc_ret (ret_of _ (.cons (.tmp rfl) .nil) (by simp only [single]; rw [decide_eq_false]; rintro ⟨h1, h2, h3, h4, h5, h6, h7, h8, h9, h10, h11, h12⟩; omega) rfl)
  replace hc64 := of_decide_eq_false hc64
  simp only [Int.not_lt] at hc64
  refine vc_skip ?_
  refine vc_seq ?_
  refine vc_rseq mixed ?_
  refine g_val (s_assign rfl rfl) rfl ?_
  refine g_nil ?_
  refine vc_block ?_
  refine vc_up c.place.length (fun i => ⟨[(1, .ref 1 0), (3, AI .i64 i)], [(1, some (.box ((cmdC c).map .t)))], [1]⟩) (fun i => ∀ j : Nat, j < i → ∀ z, c.place[j]? = some z → 1 ≤ z ∧ z ≤ 7) (leE_same (by repeat (first | exact letm_nil _ _ | refine letm_cons rfl ?_ ?_ | exact .same _ | exact .nl (by decide) (by decide) | exact .nn | exact .id' rfl | exact .id' (by simp; done))) (by repeat (first | exact lehp_nil _ _ | refine lehp_cons rfl ?_ ?_ | exact leB_same _ | exact leB_row (by first | rfl | (simp; done)) | exact leB_obj (by simp; done) | exact leB_nest (by first | rfl | (simp; done)) | refine leB_box ?_ | exact leL_nil | refine leL_cons ?_ ?_ | exact .same _ | exact .nl (by decide) (by decide) | exact .nn | exact .id' rfl | exact .id' (by simp; done))) rfl) (fun j h => by omega) (fun i hi hJ => ?_)
  refine vc_seq ?_
  refine vc_rseq mixed ?_
  refine g_val (s_move rfl rfl) rfl ?_
  refine g_val (s_field rfl rfl rfl rfl) rfl ?_
  refine g_val (s_load rfl rfl rfl rfl) rfl ?_
  refine g_val (s_len rfl rfl) rfl ?_
  refine g_val (s_lss rfl rfl rfl) rfl ?_
  refine g_nil ?_
  refine vc_cond rfl (fun hc69 => ?_) (fun hc69 => ?_)
  replace hc69 := of_decide_eq_true hc69
  simp only [List.length_map] at hc69
  obtain ⟨x, hx⟩ := get_of_lt (l := c.place) (i := i) (by omega)
  refine vc_skip ?_
  refine vc_seq ?_
  refine vc_block ?_
  refine vc_rseq mixed ?_
  refine g_val (s_field rfl rfl rfl rfl) rfl ?_
  refine g_val (s_load rfl rfl rfl rfl) rfl ?_
  refine g_val (s_move rfl rfl) rfl ?_
  refine g_val (s_index rfl rfl rfl (by omega) (idx_map hx)) rfl ?_
  refine g_val (s_loadT rfl rfl rfl) rfl ?_
  refine g_val (s_lss rfl rfl rfl) rfl ?_
  refine g_val (s_move rfl rfl) rfl ?_
  refine g_probe (j := 78) rfl (fun c hg78 => ?_)
  cases c
  rw [← hg78]; replace hg78 := hg78.symm; replace hg78 := of_decide_eq_false hg78
  simp only [Int.not_lt] at hg78
  refine gq_val (s_field rfl rfl rfl rfl) rfl rfl rfl rfl ?_
  refine gq_val (s_load rfl rfl rfl rfl) rfl rfl rfl rfl ?_
  refine gq_val (s_move rfl rfl) rfl rfl rfl rfl ?_
  refine gq_val (s_index rfl rfl rfl (by omega) (idx_map hx)) rfl rfl rfl rfl ?_
  refine gq_val (s_loadT rfl rfl rfl) rfl rfl rfl rfl ?_
  refine gq_val (s_geq rfl rfl rfl) rfl rfl rfl rfl ?_
  refine g_val (s_pickF rfl rfl rfl) rfl ?_
  refine g_nil ?_
  refine vc_cond rfl (fun hc85 => ?_) (fun hc85 => ?_)
  replace hc85 := of_decide_eq_true hc85
  refine vc_rseq mixed ?_
  refine g_val (s_assign rfl rfl) rfl ?_
  refine g_nil ?_
  exact vc_ret (ret_of _ (.cons (.tmp rfl) .nil) (by simp only [single]; rw [decide_eq_false]; rintro ⟨h1, h2, h3, h4, h5, h6, h7, h8, h9, h10, h11, h12⟩; have := h12 x (List.mem_of_getElem? hx); omega) rfl)
  replace hc85 := of_decide_eq_false hc85
  simp only [Int.not_le] at hc85
  refine vc_skip ?_
  refine vc_region mixed ?_
  refine g_val (s_move rfl rfl) rfl ?_
  refine g_val (s_add rfl rfl rfl (by simp only [inI, kMin, kMax]; omega)) rfl ?_
  refine g_val (s_assign rfl rfl) rfl ?_
  refine g_nil ?_
  exact ⟨by omega, fun j hj z hz => by rcases Nat.lt_succ_iff_lt_or_eq.1 hj with h | rfl; exact hJ j h z hz; rw [hx] at hz; injection hz with hz; omega, (leE_same (by repeat (first | exact letm_nil _ _ | refine letm_cons rfl ?_ ?_ | exact .same _ | exact .nl (by decide) (by decide) | exact .nn | exact .id' rfl | exact .id' (by simp; done))) (by repeat (first | exact lehp_nil _ _ | refine lehp_cons rfl ?_ ?_ | exact leB_same _ | exact leB_row (by first | rfl | (simp; done)) | exact leB_obj (by simp; done) | exact leB_nest (by first | rfl | (simp; done)) | refine leB_box ?_ | exact leL_nil | refine leL_cons ?_ ?_ | exact .same _ | exact .nl (by decide) (by decide) | exact .nn | exact .id' rfl | exact .id' (by simp; done))) rfl)⟩
  rw [← hg78]; replace hg78 := hg78.symm; replace hg78 := of_decide_eq_true hg78
  refine gn_val rfl rfl rfl rfl rfl rfl (by decide) ?_
  refine gn_val rfl rfl rfl rfl rfl rfl (by decide) ?_
  refine gn_val rfl rfl rfl rfl rfl rfl (by decide) ?_
  refine gn_val rfl rfl rfl rfl rfl rfl (by decide) ?_
  refine gn_val rfl rfl rfl rfl rfl rfl (by decide) ?_
  refine gn_val rfl rfl rfl rfl rfl rfl (by decide) ?_
  refine g_val (s_pickT rfl rfl rfl) rfl ?_
  refine g_nil ?_
  refine vc_cond rfl (fun _ => ?_) (fun h => by cases h)
  refine vc_rseq mixed ?_
  refine g_val (s_assign rfl rfl) rfl ?_
  refine g_nil ?_
  exact vc_ret (ret_of _ (.cons (.tmp rfl) .nil) (by simp only [single]; rw [decide_eq_false]; rintro ⟨h1, h2, h3, h4, h5, h6, h7, h8, h9, h10, h11, h12⟩; have := h12 x (List.mem_of_getElem? hx); omega) rfl)
  replace hc69 := of_decide_eq_false hc69
  simp only [List.length_map, Int.not_lt] at hc69
  refine vc_exit ?_
  refine vc_rseq mixed ?_
  refine g_val (s_assign rfl rfl) rfl ?_
  refine g_nil ?_
  exact vc_ret (ret_of _ (.cons (.tmp rfl) .nil) (by simp only [single]; rw [decide_eq_true]; refine ⟨by omega, by omega, by omega, by omega, by omega, by omega, by omega, by omega, by omega, by omega, by omega, fun z hz => ?_⟩; obtain ⟨j, hj⟩ := List.mem_iff_getElem?.1 hz; exact hJ j (by have := (List.getElem?_eq_some_iff.1 hj).1; omega) z hj) rfl)
  rw [← hg60]; replace hg60 := hg60.symm; replace hg60 := of_decide_eq_true hg60
  refine dn_val rfl rfl rfl rfl rfl rfl (by decide) ?_
  refine dn_val rfl rfl rfl rfl rfl rfl (by decide) ?_
  refine dn_val rfl rfl rfl rfl rfl rfl (by decide) ?_
  refine d_val (s_pickT rfl rfl rfl) rfl ?_
  refine d_nil rfl ?_
  refine vc_cond rfl (fun _ => ?_) (fun h => by cases h)
  refine vc_rseq mixed ?_
  refine g_val (s_assign rfl rfl) rfl ?_
  refine g_nil ?_
  exact vc_ret (ret_of _ (.cons (.tmp rfl) .nil) (by simp only [single]; rw [decide_eq_false]; rintro ⟨h1, h2, h3, h4, h5, h6, h7, h8, h9, h10, h11, h12⟩; omega) rfl)
  rw [← hg55]; replace hg55 := hg55.symm; replace hg55 := of_decide_eq_true hg55
  simp only [List.length_map, ne_eq] at hg55
  refine dn_val rfl rfl rfl rfl rfl rfl (by decide) ?_
  refine dn_val rfl rfl rfl rfl rfl rfl (by decide) ?_
  refine dn_val rfl rfl rfl rfl rfl rfl (by decide) ?_
  refine d_val (s_pickT rfl rfl rfl) rfl ?_
  refine d_val (s_move rfl rfl) rfl ?_
  refine dn_val rfl rfl rfl rfl rfl rfl (by decide) ?_
  refine dn_val rfl rfl rfl rfl rfl rfl (by decide) ?_
  refine dn_val rfl rfl rfl rfl rfl rfl (by decide) ?_
  refine d_val (s_pickT rfl rfl rfl) rfl ?_
  refine d_nil rfl ?_
  refine vc_cond rfl (fun _ => ?_) (fun h => by cases h)
  refine vc_rseq mixed ?_
  refine g_val (s_assign rfl rfl) rfl ?_
  refine g_nil ?_
  exact vc_ret (ret_of _ (.cons (.tmp rfl) .nil) (by simp only [single]; rw [decide_eq_false]; rintro ⟨h1, h2, h3, h4, h5, h6, h7, h8, h9, h10, h11, h12⟩; omega) rfl)
  rw [← hg44]; replace hg44 := hg44.symm; replace hg44 := of_decide_eq_true hg44
  refine dn_val rfl rfl rfl rfl rfl rfl (by decide) ?_
  refine dn_val rfl rfl rfl rfl rfl rfl (by decide) ?_
  refine dn_val rfl rfl rfl rfl rfl rfl (by decide) ?_
  refine dn_val rfl rfl rfl rfl rfl rfl (by decide) ?_
  refine dn_val rfl rfl rfl rfl rfl rfl (by decide) ?_
  refine dn_val rfl rfl rfl rfl rfl rfl (by decide) ?_
  refine dn_val rfl rfl rfl rfl rfl rfl (by decide) ?_
  refine dn_val rfl rfl rfl rfl rfl rfl (by decide) ?_
  refine dn_val rfl rfl rfl rfl rfl rfl (by decide) ?_
  refine d_val (s_pickT rfl rfl rfl) rfl ?_
  refine d_val (s_move rfl rfl) rfl ?_
  refine dn_val rfl rfl rfl rfl rfl rfl (by decide) ?_
  refine dn_val rfl rfl rfl rfl rfl rfl (by decide) ?_
  refine dn_val rfl rfl rfl rfl rfl rfl (by decide) ?_
  refine d_val (s_pickT rfl rfl rfl) rfl ?_
  refine d_val (s_move rfl rfl) rfl ?_
  refine dn_val rfl rfl rfl rfl rfl rfl (by decide) ?_
  refine dn_val rfl rfl rfl rfl rfl rfl (by decide) ?_
  refine dn_val rfl rfl rfl rfl rfl rfl (by decide) ?_
  refine d_val (s_pickT rfl rfl rfl) rfl ?_
  refine d_nil rfl ?_
  refine vc_cond rfl (fun _ => ?_) (fun h => by cases h)
  refine vc_rseq mixed ?_
  refine g_val (s_assign rfl rfl) rfl ?_
  refine g_nil ?_
  exact vc_ret (ret_of _ (.cons (.tmp rfl) .nil) (by simp only [single]; rw [decide_eq_false]; rintro ⟨h1, h2, h3, h4, h5, h6, h7, h8, h9, h10, h11, h12⟩; omega) rfl)
  rw [← hg37]; replace hg37 := hg37.symm; replace hg37 := of_decide_eq_true hg37
  refine dn_val rfl rfl rfl rfl rfl rfl (by decide) ?_
  refine dn_val rfl rfl rfl rfl rfl rfl (by decide) ?_
  refine dn_val rfl rfl rfl rfl rfl rfl (by decide) ?_
  refine dn_val rfl rfl rfl rfl rfl rfl (by decide) ?_
  refine dn_val rfl rfl rfl rfl rfl rfl (by decide) ?_
  refine d_val (s_pickT rfl rfl rfl) rfl ?_
  refine d_val (s_move rfl rfl) rfl ?_
  refine dn_val rfl rfl rfl rfl rfl rfl (by decide) ?_
  refine dn_val rfl rfl rfl rfl rfl rfl (by decide) ?_
  refine dn_val rfl rfl rfl rfl rfl rfl (by decide) ?_
  refine dn_val rfl rfl rfl rfl rfl rfl (by decide) ?_
  refine dn_val rfl rfl rfl rfl rfl rfl (by decide) ?_
  refine dn_val rfl rfl rfl rfl rfl rfl (by decide) ?_
  refine dn_val rfl rfl rfl rfl rfl rfl (by decide) ?_
  refine dn_val rfl rfl rfl rfl rfl rfl (by decide) ?_
  refine dn_val rfl rfl rfl rfl rfl rfl (by decide) ?_
  refine d_val (s_pickT rfl rfl rfl) rfl ?_
  refine d_val (s_move rfl rfl) rfl ?_
  refine dn_val rfl rfl rfl rfl rfl rfl (by decide) ?_
  refine dn_val rfl rfl rfl rfl rfl rfl (by decide) ?_
  refine dn_val rfl rfl rfl rfl rfl rfl (by decide) ?_
  refine d_val (s_pickT rfl rfl rfl) rfl ?_
  refine d_val (s_move rfl rfl) rfl ?_
  refine dn_val rfl rfl rfl rfl rfl rfl (by decide) ?_
  refine dn_val rfl rfl rfl rfl rfl rfl (by decide) ?_
  refine dn_val rfl rfl rfl rfl rfl rfl (by decide) ?_
  refine d_val (s_pickT rfl rfl rfl) rfl ?_
  refine d_nil rfl ?_
  refine vc_cond rfl (fun _ => ?_) (fun h => by cases h)
  refine vc_rseq mixed ?_
  refine g_val (s_assign rfl rfl) rfl ?_
  refine g_nil ?_
  exact vc_ret (ret_of _ (.cons (.tmp rfl) .nil) (by simp only [single]; rw [decide_eq_false]; rintro ⟨h1, h2, h3, h4, h5, h6, h7, h8, h9, h10, h11, h12⟩; omega) rfl)
  rw [← hg32]; replace hg32 := hg32.symm; replace hg32 := of_decide_eq_true hg32
  refine dn_val rfl rfl rfl rfl rfl rfl (by decide) ?_
  refine dn_val rfl rfl rfl rfl rfl rfl (by decide) ?_
  refine dn_val rfl rfl rfl rfl rfl rfl (by decide) ?_
  refine d_val (s_pickT rfl rfl rfl) rfl ?_
  refine d_val (s_move rfl rfl) rfl ?_
  refine dn_val rfl rfl rfl rfl rfl rfl (by decide) ?_
  refine dn_val rfl rfl rfl rfl rfl rfl (by decide) ?_
  refine dn_val rfl rfl rfl rfl rfl rfl (by decide) ?_
  refine dn_val rfl rfl rfl rfl rfl rfl (by decide) ?_
  refine dn_val rfl rfl rfl rfl rfl rfl (by decide) ?_
  refine d_val (s_pickT rfl rfl rfl) rfl ?_
  refine d_val (s_move rfl rfl) rfl ?_
  refine dn_val rfl rfl rfl rfl rfl rfl (by decide) ?_
  refine dn_val rfl rfl rfl rfl rfl rfl (by decide) ?_
  refine dn_val rfl rfl rfl rfl rfl rfl (by decide) ?_
  refine dn_val rfl rfl rfl rfl rfl rfl (by decide) ?_
  refine dn_val rfl rfl rfl rfl rfl rfl (by decide) ?_
  refine dn_val rfl rfl rfl rfl rfl rfl (by decide) ?_
  refine dn_val rfl rfl rfl rfl rfl rfl (by decide) ?_
  refine dn_val rfl rfl rfl rfl rfl rfl (by decide) ?_
  refine dn_val rfl rfl rfl rfl rfl rfl (by decide) ?_
  refine d_val (s_pickT rfl rfl rfl) rfl ?_
  refine d_val (s_move rfl rfl) rfl ?_
  refine dn_val rfl rfl rfl rfl rfl rfl (by decide) ?_
  refine dn_val rfl rfl rfl rfl rfl rfl (by decide) ?_
  refine dn_val rfl rfl rfl rfl rfl rfl (by decide) ?_
  refine d_val (s_pickT rfl rfl rfl) rfl ?_
  refine d_val (s_move rfl rfl) rfl ?_
  refine dn_val rfl rfl rfl rfl rfl rfl (by decide) ?_
  refine dn_val rfl rfl rfl rfl rfl rfl (by decide) ?_
  refine dn_val rfl rfl rfl rfl rfl rfl (by decide) ?_
  refine d_val (s_pickT rfl rfl rfl) rfl ?_
  refine d_nil rfl ?_
  refine vc_cond rfl (fun _ => ?_) (fun h => by cases h)
  refine vc_rseq mixed ?_
  refine g_val (s_assign rfl rfl) rfl ?_
  refine g_nil ?_
  exact vc_ret (ret_of _ (.cons (.tmp rfl) .nil) (by simp only [single]; rw [decide_eq_false]; rintro ⟨h1, h2, h3, h4, h5, h6, h7, h8, h9, h10, h11, h12⟩; omega) rfl)
  rw [← hg27]; replace hg27 := hg27.symm; replace hg27 := of_decide_eq_true hg27
  refine dn_val rfl rfl rfl rfl rfl rfl (by decide) ?_
  refine dn_val rfl rfl rfl rfl rfl rfl (by decide) ?_
  refine dn_val rfl rfl rfl rfl rfl rfl (by decide) ?_
  refine d_val (s_pickT rfl rfl rfl) rfl ?_
  refine d_val (s_move rfl rfl) rfl ?_
  refine dn_val rfl rfl rfl rfl rfl rfl (by decide) ?_
  refine dn_val rfl rfl rfl rfl rfl rfl (by decide) ?_
  refine dn_val rfl rfl rfl rfl rfl rfl (by decide) ?_
  refine d_val (s_pickT rfl rfl rfl) rfl ?_
  refine d_val (s_move rfl rfl) rfl ?_
  refine dn_val rfl rfl rfl rfl rfl rfl (by decide) ?_
  refine dn_val rfl rfl rfl rfl rfl rfl (by decide) ?_
  refine dn_val rfl rfl rfl rfl rfl rfl (by decide) ?_
  refine dn_val rfl rfl rfl rfl rfl rfl (by decide) ?_
  refine dn_val rfl rfl rfl rfl rfl rfl (by decide) ?_
  refine d_val (s_pickT rfl rfl rfl) rfl ?_
  refine d_val (s_move rfl rfl) rfl ?_
  refine dn_val rfl rfl rfl rfl rfl rfl (by decide) ?_
  refine dn_val rfl rfl rfl rfl rfl rfl (by decide) ?_
  refine dn_val rfl rfl rfl rfl rfl rfl (by decide) ?_
  refine dn_val rfl rfl rfl rfl rfl rfl (by decide) ?_
  refine dn_val rfl rfl rfl rfl rfl rfl (by decide) ?_
  refine dn_val rfl rfl rfl rfl rfl rfl (by decide) ?_
  refine dn_val rfl rfl rfl rfl rfl rfl (by decide) ?_
  refine dn_val rfl rfl rfl rfl rfl rfl (by decide) ?_
  refine dn_val rfl rfl rfl rfl rfl rfl (by decide) ?_
  refine d_val (s_pickT rfl rfl rfl) rfl ?_
  refine d_val (s_move rfl rfl) rfl ?_
  refine dn_val rfl rfl rfl rfl rfl rfl (by decide) ?_
  refine dn_val rfl rfl rfl rfl rfl rfl (by decide) ?_
  refine dn_val rfl rfl rfl rfl rfl rfl (by decide) ?_
  refine d_val (s_pickT rfl rfl rfl) rfl ?_
  refine d_val (s_move rfl rfl) rfl ?_
  refine dn_val rfl rfl rfl rfl rfl rfl (by decide) ?_
  refine dn_val rfl rfl rfl rfl rfl rfl (by decide) ?_
  refine dn_val rfl rfl rfl rfl rfl rfl (by decide) ?_
  refine d_val (s_pickT rfl rfl rfl) rfl ?_
  refine d_nil rfl ?_
  refine vc_cond rfl (fun _ => ?_) (fun h => by cases h)
  refine vc_rseq mixed ?_
  refine g_val (s_assign rfl rfl) rfl ?_
  refine g_nil ?_
  exact vc_ret (ret_of _ (.cons (.tmp rfl) .nil) (by simp only [single]; rw [decide_eq_false]; rintro ⟨h1, h2, h3, h4, h5, h6, h7, h8, h9, h10, h11, h12⟩; omega) rfl)
  rw [← hg22]; replace hg22 := hg22.symm; replace hg22 := of_decide_eq_true hg22
  refine dn_val rfl rfl rfl rfl rfl rfl (by decide) ?_
  refine dn_val rfl rfl rfl rfl rfl rfl (by decide) ?_
  refine dn_val rfl rfl rfl rfl rfl rfl (by decide) ?_
  refine d_val (s_pickT rfl rfl rfl) rfl ?_
  refine d_val (s_move rfl rfl) rfl ?_
  refine dn_val rfl rfl rfl rfl rfl rfl (by decide) ?_
  refine dn_val rfl rfl rfl rfl rfl rfl (by decide) ?_
  refine dn_val rfl rfl rfl rfl rfl rfl (by decide) ?_
  refine d_val (s_pickT rfl rfl rfl) rfl ?_
  refine d_val (s_move rfl rfl) rfl ?_
  refine dn_val rfl rfl rfl rfl rfl rfl (by decide) ?_
  refine dn_val rfl rfl rfl rfl rfl rfl (by decide) ?_
  refine dn_val rfl rfl rfl rfl rfl rfl (by decide) ?_
  refine d_val (s_pickT rfl rfl rfl) rfl ?_
  refine d_val (s_move rfl rfl) rfl ?_
  refine dn_val rfl rfl rfl rfl rfl rfl (by decide) ?_
  refine dn_val rfl rfl rfl rfl rfl rfl (by decide) ?_
  refine dn_val rfl rfl rfl rfl rfl rfl (by decide) ?_
  refine dn_val rfl rfl rfl rfl rfl rfl (by decide) ?_
  refine dn_val rfl rfl rfl rfl rfl rfl (by decide) ?_
  refine d_val (s_pickT rfl rfl rfl) rfl ?_
  refine d_val (s_move rfl rfl) rfl ?_
  refine dn_val rfl rfl rfl rfl rfl rfl (by decide) ?_
  refine dn_val rfl rfl rfl rfl rfl rfl (by decide) ?_
  refine dn_val rfl rfl rfl rfl rfl rfl (by decide) ?_
  refine dn_val rfl rfl rfl rfl rfl rfl (by decide) ?_
  refine dn_val rfl rfl rfl rfl rfl rfl (by decide) ?_
  refine dn_val rfl rfl rfl rfl rfl rfl (by decide) ?_
  refine dn_val rfl rfl rfl rfl rfl rfl (by decide) ?_
  refine dn_val rfl rfl rfl rfl rfl rfl (by decide) ?_
  refine dn_val rfl rfl rfl rfl rfl rfl (by decide) ?_
  refine d_val (s_pickT rfl rfl rfl) rfl ?_
  refine d_val (s_move rfl rfl) rfl ?_
  refine dn_val rfl rfl rfl rfl rfl rfl (by decide) ?_
  refine dn_val rfl rfl rfl rfl rfl rfl (by decide) ?_
  refine dn_val rfl rfl rfl rfl rfl rfl (by decide) ?_
  refine d_val (s_pickT rfl rfl rfl) rfl ?_
  refine d_val (s_move rfl rfl) rfl ?_
  refine dn_val rfl rfl rfl rfl rfl rfl (by decide) ?_
  refine dn_val rfl rfl rfl rfl rfl rfl (by decide) ?_
  refine dn_val rfl rfl rfl rfl rfl rfl (by decide) ?_
  refine d_val (s_pickT rfl rfl rfl) rfl ?_
  refine d_nil rfl ?_
  refine vc_cond rfl (fun _ => ?_) (fun h => by cases h)
  refine vc_rseq mixed ?_
  refine g_val (s_assign rfl rfl) rfl ?_
  refine g_nil ?_
  exact vc_ret (ret_of _ (.cons (.tmp rfl) .nil) (by simp only [single]; rw [decide_eq_false]; rintro ⟨h1, h2, h3, h4, h5, h6, h7, h8, h9, h10, h11, h12⟩; omega) rfl)
  rw [← hg17]; replace hg17 := hg17.symm; replace hg17 := of_decide_eq_true hg17
  refine dn_val rfl rfl rfl rfl rfl rfl (by decide) ?_
  refine dn_val rfl rfl rfl rfl rfl rfl (by decide) ?_
  refine dn_val rfl rfl rfl rfl rfl rfl (by decide) ?_
  refine d_val (s_pickT rfl rfl rfl) rfl ?_
  refine d_val (s_move rfl rfl) rfl ?_
  refine dn_val rfl rfl rfl rfl rfl rfl (by decide) ?_
  refine dn_val rfl rfl rfl rfl rfl rfl (by decide) ?_
  refine dn_val rfl rfl rfl rfl rfl rfl (by decide) ?_
  refine d_val (s_pickT rfl rfl rfl) rfl ?_
  refine d_val (s_move rfl rfl) rfl ?_
  refine dn_val rfl rfl rfl rfl rfl rfl (by decide) ?_
  refine dn_val rfl rfl rfl rfl rfl rfl (by decide) ?_
  refine dn_val rfl rfl rfl rfl rfl rfl (by decide) ?_
  refine d_val (s_pickT rfl rfl rfl) rfl ?_
  refine d_val (s_move rfl rfl) rfl ?_
  refine dn_val rfl rfl rfl rfl rfl rfl (by decide) ?_
  refine dn_val rfl rfl rfl rfl rfl rfl (by decide) ?_
  refine dn_val rfl rfl rfl rfl rfl rfl (by decide) ?_
  refine d_val (s_pickT rfl rfl rfl) rfl ?_
  refine d_val (s_move rfl rfl) rfl ?_
  refine dn_val rfl rfl rfl rfl rfl rfl (by decide) ?_
  refine dn_val rfl rfl rfl rfl rfl rfl (by decide) ?_
  refine dn_val rfl rfl rfl rfl rfl rfl (by decide) ?_
  refine dn_val rfl rfl rfl rfl rfl rfl (by decide) ?_
  refine dn_val rfl rfl rfl rfl rfl rfl (by decide) ?_
  refine d_val (s_pickT rfl rfl rfl) rfl ?_
  refine d_val (s_move rfl rfl) rfl ?_
  refine dn_val rfl rfl rfl rfl rfl rfl (by decide) ?_
  refine dn_val rfl rfl rfl rfl rfl rfl (by decide) ?_
  refine dn_val rfl rfl rfl rfl rfl rfl (by decide) ?_
  refine dn_val rfl rfl rfl rfl rfl rfl (by decide) ?_
  refine dn_val rfl rfl rfl rfl rfl rfl (by decide) ?_
  refine dn_val rfl rfl rfl rfl rfl rfl (by decide) ?_
  refine dn_val rfl rfl rfl rfl rfl rfl (by decide) ?_
  refine dn_val rfl rfl rfl rfl rfl rfl (by decide) ?_
  refine dn_val rfl rfl rfl rfl rfl rfl (by decide) ?_
  refine d_val (s_pickT rfl rfl rfl) rfl ?_
  refine d_val (s_move rfl rfl) rfl ?_
  refine dn_val rfl rfl rfl rfl rfl rfl (by decide) ?_
  refine dn_val rfl rfl rfl rfl rfl rfl (by decide) ?_
  refine dn_val rfl rfl rfl rfl rfl rfl (by decide) ?_
  refine d_val (s_pickT rfl rfl rfl) rfl ?_
  refine d_val (s_move rfl rfl) rfl ?_
  refine dn_val rfl rfl rfl rfl rfl rfl (by decide) ?_
  refine dn_val rfl rfl rfl rfl rfl rfl (by decide) ?_
  refine dn_val rfl rfl rfl rfl rfl rfl (by decide) ?_
  refine d_val (s_pickT rfl rfl rfl) rfl ?_
  refine d_nil rfl ?_
  refine vc_cond rfl (fun _ => ?_) (fun h => by cases h)
  refine vc_rseq mixed ?_
  refine g_val (s_assign rfl rfl) rfl ?_
  refine g_nil ?_
  exact vc_ret (ret_of _ (.cons (.tmp rfl) .nil) (by simp only [single]; rw [decide_eq_false]; rintro ⟨h1, h2, h3, h4, h5, h6, h7, h8, h9, h10, h11, h12⟩; omega) rfl)
  rw [← hg12]; replace hg12 := hg12.symm; replace hg12 := of_decide_eq_true hg12
  refine dn_val rfl rfl rfl rfl rfl rfl (by decide) ?_
  refine dn_val rfl rfl rfl rfl rfl rfl (by decide) ?_
  refine dn_val rfl rfl rfl rfl rfl rfl (by decide) ?_
  refine d_val (s_pickT rfl rfl rfl) rfl ?_
  refine d_val (s_move rfl rfl) rfl ?_
  refine dn_val rfl rfl rfl rfl rfl rfl (by decide) ?_
  refine dn_val rfl rfl rfl rfl rfl rfl (by decide) ?_
  refine dn_val rfl rfl rfl rfl rfl rfl (by decide) ?_
  refine d_val (s_pickT rfl rfl rfl) rfl ?_
  refine d_val (s_move rfl rfl) rfl ?_
  refine dn_val rfl rfl rfl rfl rfl rfl (by decide) ?_
  refine dn_val rfl rfl rfl rfl rfl rfl (by decide) ?_
  refine dn_val rfl rfl rfl rfl rfl rfl (by decide) ?_
  refine d_val (s_pickT rfl rfl rfl) rfl ?_
  refine d_val (s_move rfl rfl) rfl ?_
  refine dn_val rfl rfl rfl rfl rfl rfl (by decide) ?_
  refine dn_val rfl rfl rfl rfl rfl rfl (by decide) ?_
  refine dn_val rfl rfl rfl rfl rfl rfl (by decide) ?_
  refine d_val (s_pickT rfl rfl rfl) rfl ?_
  refine d_val (s_move rfl rfl) rfl ?_
  refine dn_val rfl rfl rfl rfl rfl rfl (by decide) ?_
  refine dn_val rfl rfl rfl rfl rfl rfl (by decide) ?_
  refine dn_val rfl rfl rfl rfl rfl rfl (by decide) ?_
  refine d_val (s_pickT rfl rfl rfl) rfl ?_
  refine d_val (s_move rfl rfl) rfl ?_
  refine dn_val rfl rfl rfl rfl rfl rfl (by decide) ?_
  refine dn_val rfl rfl rfl rfl rfl rfl (by decide) ?_
  refine dn_val rfl rfl rfl rfl rfl rfl (by decide) ?_
  refine dn_val rfl rfl rfl rfl rfl rfl (by decide) ?_
  refine dn_val rfl rfl rfl rfl rfl rfl (by decide) ?_
  refine d_val (s_pickT rfl rfl rfl) rfl ?_
  refine d_val (s_move rfl rfl) rfl ?_
  refine dn_val rfl rfl rfl rfl rfl rfl (by decide) ?_
  refine dn_val rfl rfl rfl rfl rfl rfl (by decide) ?_
  refine dn_val rfl rfl rfl rfl rfl rfl (by decide) ?_
  refine dn_val rfl rfl rfl rfl rfl rfl (by decide) ?_
  refine dn_val rfl rfl rfl rfl rfl rfl (by decide) ?_
  refine dn_val rfl rfl rfl rfl rfl rfl (by decide) ?_
  refine dn_val rfl rfl rfl rfl rfl rfl (by decide) ?_
  refine dn_val rfl rfl rfl rfl rfl rfl (by decide) ?_
  refine dn_val rfl rfl rfl rfl rfl rfl (by decide) ?_
  refine d_val (s_pickT rfl rfl rfl) rfl ?_
  refine d_val (s_move rfl rfl) rfl ?_
  refine dn_val rfl rfl rfl rfl rfl rfl (by decide) ?_
  refine dn_val rfl rfl rfl rfl rfl rfl (by decide) ?_
  refine dn_val rfl rfl rfl rfl rfl rfl (by decide) ?_
  refine d_val (s_pickT rfl rfl rfl) rfl ?_
  refine d_val (s_move rfl rfl) rfl ?_
  refine dn_val rfl rfl rfl rfl rfl rfl (by decide) ?_
  refine dn_val rfl rfl rfl rfl rfl rfl (by decide) ?_
  refine dn_val rfl rfl rfl rfl rfl rfl (by decide) ?_
  refine d_val (s_pickT rfl rfl rfl) rfl ?_
  refine d_nil rfl ?_
  refine vc_cond rfl (fun _ => ?_) (fun h => by cases h)
  refine vc_rseq mixed ?_
  refine g_val (s_assign rfl rfl) rfl ?_
  refine g_nil ?_
  exact vc_ret (ret_of _ (.cons (.tmp rfl) .nil) (by simp only [single]; rw [decide_eq_false]; rintro ⟨h1, h2, h3, h4, h5, h6, h7, h8, h9, h10, h11, h12⟩; omega) rfl)
  rw [← hg7]; replace hg7 := hg7.symm; replace hg7 := of_decide_eq_true hg7
  refine dn_val rfl rfl rfl rfl rfl rfl (by decide) ?_
  refine dn_val rfl rfl rfl rfl rfl rfl (by decide) ?_
  refine dn_val rfl rfl rfl rfl rfl rfl (by decide) ?_
  refine d_val (s_pickT rfl rfl rfl) rfl ?_
  refine d_val (s_move rfl rfl) rfl ?_
  refine dn_val rfl rfl rfl rfl rfl rfl (by decide) ?_
  refine dn_val rfl rfl rfl rfl rfl rfl (by decide) ?_
  refine dn_val rfl rfl rfl rfl rfl rfl (by decide) ?_
  refine d_val (s_pickT rfl rfl rfl) rfl ?_
  refine d_val (s_move rfl rfl) rfl ?_
  refine dn_val rfl rfl rfl rfl rfl rfl (by decide) ?_
  refine dn_val rfl rfl rfl rfl rfl rfl (by decide) ?_
  refine dn_val rfl rfl rfl rfl rfl rfl (by decide) ?_
  refine d_val (s_pickT rfl rfl rfl) rfl ?_
  refine d_val (s_move rfl rfl) rfl ?_
  refine dn_val rfl rfl rfl rfl rfl rfl (by decide) ?_
  refine dn_val rfl rfl rfl rfl rfl rfl (by decide) ?_
  refine dn_val rfl rfl rfl rfl rfl rfl (by decide) ?_
  refine d_val (s_pickT rfl rfl rfl) rfl ?_
  refine d_val (s_move rfl rfl) rfl ?_
  refine dn_val rfl rfl rfl rfl rfl rfl (by decide) ?_
  refine dn_val rfl rfl rfl rfl rfl rfl (by decide) ?_
  refine dn_val rfl rfl rfl rfl rfl rfl (by decide) ?_
  refine d_val (s_pickT rfl rfl rfl) rfl ?_
  refine d_val (s_move rfl rfl) rfl ?_
  refine dn_val rfl rfl rfl rfl rfl rfl (by decide) ?_
  refine dn_val rfl rfl rfl rfl rfl rfl (by decide) ?_
  refine dn_val rfl rfl rfl rfl rfl rfl (by decide) ?_
  refine d_val (s_pickT rfl rfl rfl) rfl ?_
  refine d_val (s_move rfl rfl) rfl ?_
  refine dn_val rfl rfl rfl rfl rfl rfl (by decide) ?_
  refine dn_val rfl rfl rfl rfl rfl rfl (by decide) ?_
  refine dn_val rfl rfl rfl rfl rfl rfl (by decide) ?_
  refine dn_val rfl rfl rfl rfl rfl rfl (by decide) ?_
  refine dn_val rfl rfl rfl rfl rfl rfl (by decide) ?_
  refine d_val (s_pickT rfl rfl rfl) rfl ?_
  refine d_val (s_move rfl rfl) rfl ?_
  refine dn_val rfl rfl rfl rfl rfl rfl (by decide) ?_
  refine dn_val rfl rfl rfl rfl rfl rfl (by decide) ?_
  refine dn_val rfl rfl rfl rfl rfl rfl (by decide) ?_
  refine dn_val rfl rfl rfl rfl rfl rfl (by decide) ?_
  refine dn_val rfl rfl rfl rfl rfl rfl (by decide) ?_
  refine dn_val rfl rfl rfl rfl rfl rfl (by decide) ?_
  refine dn_val rfl rfl rfl rfl rfl rfl (by decide) ?_
  refine dn_val rfl rfl rfl rfl rfl rfl (by decide) ?_
  refine dn_val rfl rfl rfl rfl rfl rfl (by decide) ?_
  refine d_val (s_pickT rfl rfl rfl) rfl ?_
  refine d_val (s_move rfl rfl) rfl ?_
  refine dn_val rfl rfl rfl rfl rfl rfl (by decide) ?_
  refine dn_val rfl rfl rfl rfl rfl rfl (by decide) ?_
  refine dn_val rfl rfl rfl rfl rfl rfl (by decide) ?_
  refine d_val (s_pickT rfl rfl rfl) rfl ?_
  refine d_val (s_move rfl rfl) rfl ?_
  refine dn_val rfl rfl rfl rfl rfl rfl (by decide) ?_
  refine dn_val rfl rfl rfl rfl rfl rfl (by decide) ?_
  refine dn_val rfl rfl rfl rfl rfl rfl (by decide) ?_
  refine d_val (s_pickT rfl rfl rfl) rfl ?_
  refine d_nil rfl ?_
  refine vc_cond rfl (fun _ => ?_) (fun h => by cases h)
  refine vc_rseq mixed ?_
  refine g_val (s_assign rfl rfl) rfl ?_
  refine g_nil ?_
  exact vc_ret (ret_of _ (.cons (.tmp rfl) .nil) (by simp only [single]; rw [decide_eq_false]; rintro ⟨h1, h2, h3, h4, h5, h6, h7, h8, h9, h10, h11, h12⟩; omega) rfl)

end Go.Eng

set_option maxHeartbeats 1000000
namespace Go.Eng
open Go.Proofs

def idxF (p : Int → Bool) (l : List Int) : Int := match l.findIdx? p with | some i => i | none => -1

theorem findIdx_none {α : Type} {p : α → Bool} {l : List α} (h : ∀ j : Nat, j < l.length → ∀ z, l[j]? = some z → p z = false) : l.findIdx? p = none := by
  rw [List.findIdx?_eq_none_iff]
  intro z hz
  obtain ⟨j, hj⟩ := List.mem_iff_getElem?.1 hz
  exact h j (List.getElem?_eq_some_iff.1 hj).1 z hj
theorem findIdx_some {α : Type} {p : α → Bool} {l : List α} {i : Nat} {x : α} (hx : l[i]? = some x) (hp : p x = true) (h : ∀ j : Nat, j < i → ∀ z, l[j]? = some z → p z = false) : l.findIdx? p = some i := by
  obtain ⟨hi, he⟩ := List.getElem?_eq_some_iff.1 hx
  rw [List.findIdx?_eq_some_iff_getElem]
  refine ⟨hi, by rw [he]; exact hp, fun j hj => ?_⟩
  have := h j hj _ (List.getElem?_eq_getElem (by omega))
  simp [this]

theorem idxF_neg {p : Int → Bool} {l : List Int} : ¬ (0 ≤ idxF p l) ↔ ∀ z ∈ l, p z = false := by
  unfold idxF
  cases h : l.findIdx? p with
  | none => simpa using h
  | some i =>
    have := List.findIdx?_eq_some_iff_getElem.1 h
    obtain ⟨hi, h1, _⟩ := this
    constructor
    intro h2; exfalso; apply h2; simp
    intro h2; have := h2 _ (List.getElem_mem hi); rw [this] at h1; cases h1

end Go.Eng

set_option maxHeartbeats 1000000
namespace Go.Eng
open Go.Proofs

theorem take_map_len {α β : Type} (f : α → β) (l : List α) : (l.map f).take l.length = l.map f := List.take_of_length_le (by simp)

/-- The copy as data. -/
theorem c_Clone_int (l : List Int) : Con Tryz.prog 78 [.t (intsT l)] [] (.t (intsT l)) [] := by
  refine con_intro [] [] Tryz.func78 rfl Tryz.ntmps78 Tryz.results78 rfl rfl ?_
  intro E
  refine vc_okT (i := 0) rfl fun ok0 => ?_
  have hla := ok0.len
  refine vc_nil (t := 0) rfl (fun h0 => ?_) ?_
  refine vc_rseq mixed ?_
  refine g_val (s_assign rfl rfl) rfl ?_
  refine g_nil ?_
  refine vc_seq ?_
  refine vc_rseq mixed ?_
  refine g_val (s_move rfl rfl) rfl ?_
  refine g_val (s_eqlX rfl rfl rfl) rfl ?_
  refine g_nil ?_
  refine vc_cond rfl (fun _ => ?_) (fun h => by cases h)
  refine vc_rseq mixed ?_
  refine g_val (s_assign rfl rfl) rfl ?_
  refine g_nil ?_
  exact vc_ret (ret_le [] _ (.cons (.tmp rfl) .nil) trivial (by rw [show l = [] by simpa using h0]; exact .nl (by decide) (by decide)) rfl)
  refine vc_rseq mixed ?_
  refine g_val (s_assign rfl rfl) rfl ?_
  refine g_nil ?_
  refine vc_seq ?_
  refine vc_rseq mixed ?_
  refine g_val (s_move rfl rfl) rfl ?_
  refine g_val (s_eqlN rfl rfl rfl) rfl ?_
  refine g_nil ?_
  refine vc_cond rfl (fun h => by cases h) (fun _ => ?_)
  refine vc_skip ?_
  refine vc_le ⟨[(0, .t (intsT l))], [], []⟩ (leE_same (letm_cons rfl .nn (letm_nil _ _)) (lehp_nil _ _) rfl) ?_
  refine vc_rseq mixed ?_
  refine g_new (s_buildSlice 5 evArgs_nil rfl rfl rfl rfl) rfl ?_
  refine g_val (s_move rfl rfl) rfl ?_
  refine g_app (s_append 7 rfl rfl rfl rfl rfl (Nat.le_refl _) rfl rfl (by simpa using hla)) rfl ?_
  refine g_val (s_assign rfl rfl) rfl ?_
  refine g_nil ?_
  exact vc_ret (ret_le [(7, _)] _ (.cons (.tmp rfl) .nil) ⟨rfl, trivial⟩ (.eq (by simp [single, AV.okV, okR, lkB]) (by simp [single, AV.view, viewR, lkB, AV.ren, intsT, take_map_len])) rfl)

/-- The copy as a row of one's own. -/
theorem c_Clone_int_own (l : List Int) : Con Tryz.prog 78 [.t (intsT l)] [] (.rows 0 1 0 l.length) [(0, .row 1 8 (l.map intC))] := by
  refine con_intro [] [0] Tryz.func78 rfl Tryz.ntmps78 Tryz.results78 rfl rfl ?_
  intro E
  refine vc_okT (i := 0) rfl fun ok0 => ?_
  have hla := ok0.len
  refine vc_nil (t := 0) rfl (fun h0 => ?_) ?_
  have hl0 : l = [] := by simpa using h0
  subst hl0
  refine vc_rseq mixed ?_
  refine g_val (s_assign rfl rfl) rfl ?_
  refine g_nil ?_
  refine vc_seq ?_
  refine vc_rseq mixed ?_
  refine g_val (s_move rfl rfl) rfl ?_
  refine g_val (s_eqlX rfl rfl rfl) rfl ?_
  refine g_nil ?_
  refine vc_cond rfl (fun _ => ?_) (fun h => by cases h)
  refine vc_rseq mixed ?_
  refine g_val (s_assign rfl rfl) rfl ?_
  refine g_nil ?_
  refine vc_ownnil (i := 2) 0 1 8 rfl rfl rfl ?_
  exact vc_ret (ret_hand [] [] _ (.cons (.tmp rfl) .nil) trivial (.same _) (lehp_cons rfl (leB_row rfl) (lehp_nil _ _)) rfl)
  refine vc_rseq mixed ?_
  refine g_val (s_assign rfl rfl) rfl ?_
  refine g_nil ?_
  refine vc_seq ?_
  refine vc_rseq mixed ?_
  refine g_val (s_move rfl rfl) rfl ?_
  refine g_val (s_eqlN rfl rfl rfl) rfl ?_
  refine g_nil ?_
  refine vc_cond rfl (fun h => by cases h) (fun _ => ?_)
  refine vc_skip ?_
  refine vc_le ⟨[(0, .t (intsT l))], [], []⟩ (leE_same (letm_cons rfl .nn (letm_nil _ _)) (lehp_nil _ _) rfl) ?_
  refine vc_rseq mixed ?_
  refine g_new (s_buildSlice 5 evArgs_nil rfl rfl rfl rfl) rfl ?_
  refine g_val (s_move rfl rfl) rfl ?_
  refine g_app (s_append 7 rfl rfl rfl rfl rfl (Nat.le_refl _) rfl rfl (by simpa using hla)) rfl ?_
  refine g_val (s_assign rfl rfl) rfl ?_
  refine g_nil ?_
  exact vc_ret (ret_hand [] [(0, 7)] _ (.cons (.tmp rfl) .nil) trivial (.eq (okV_nil _) (by simp [single, AV.view_nil, AV.ren, rnG, rnL]; rfl)) (lehp_cons rfl (leB_row (by simp)) (lehp_nil _ _)) rfl)

/-- The copy as data. -/
theorem c_Clone_i64 (l : List Int) : Con Tryz.prog 142 [.t (intsT l)] [] (.t (intsT l)) [] := by
  refine con_intro [] [] Tryz.func142 rfl Tryz.ntmps142 Tryz.results142 rfl rfl ?_
  intro E
  refine vc_okT (i := 0) rfl fun ok0 => ?_
  have hla := ok0.len
  refine vc_nil (t := 0) rfl (fun h0 => ?_) ?_
  refine vc_rseq mixed ?_
  refine g_val (s_assign rfl rfl) rfl ?_
  refine g_nil ?_
  refine vc_seq ?_
  refine vc_rseq mixed ?_
  refine g_val (s_move rfl rfl) rfl ?_
  refine g_val (s_eqlX rfl rfl rfl) rfl ?_
  refine g_nil ?_
  refine vc_cond rfl (fun _ => ?_) (fun h => by cases h)
  refine vc_rseq mixed ?_
  refine g_val (s_assign rfl rfl) rfl ?_
  refine g_nil ?_
  exact vc_ret (ret_le [] _ (.cons (.tmp rfl) .nil) trivial (by rw [show l = [] by simpa using h0]; exact .nl (by decide) (by decide)) rfl)
  refine vc_rseq mixed ?_
  refine g_val (s_assign rfl rfl) rfl ?_
  refine g_nil ?_
  refine vc_seq ?_
  refine vc_rseq mixed ?_
  refine g_val (s_move rfl rfl) rfl ?_
  refine g_val (s_eqlN rfl rfl rfl) rfl ?_
  refine g_nil ?_
  refine vc_cond rfl (fun h => by cases h) (fun _ => ?_)
  refine vc_skip ?_
  refine vc_le ⟨[(0, .t (intsT l))], [], []⟩ (leE_same (letm_cons rfl .nn (letm_nil _ _)) (lehp_nil _ _) rfl) ?_
  refine vc_rseq mixed ?_
  refine g_new (s_buildSlice 5 evArgs_nil rfl rfl rfl rfl) rfl ?_
  refine g_val (s_move rfl rfl) rfl ?_
  refine g_app (s_append 7 rfl rfl rfl rfl rfl (Nat.le_refl _) rfl rfl (by simpa using hla)) rfl ?_
  refine g_val (s_assign rfl rfl) rfl ?_
  refine g_nil ?_
  exact vc_ret (ret_le [(7, _)] _ (.cons (.tmp rfl) .nil) ⟨rfl, trivial⟩ (.eq (by simp [single, AV.okV, okR, lkB]) (by simp [single, AV.view, viewR, lkB, AV.ren, intsT, take_map_len])) rfl)

/-- The copy as a row of one's own. -/
theorem c_Clone_i64_own (l : List Int) : Con Tryz.prog 142 [.t (intsT l)] [] (.rows 0 1 0 l.length) [(0, .row 1 8 (l.map intC))] := by
  refine con_intro [] [0] Tryz.func142 rfl Tryz.ntmps142 Tryz.results142 rfl rfl ?_
  intro E
  refine vc_okT (i := 0) rfl fun ok0 => ?_
  have hla := ok0.len
  refine vc_nil (t := 0) rfl (fun h0 => ?_) ?_
  have hl0 : l = [] := by simpa using h0
  subst hl0
  refine vc_rseq mixed ?_
  refine g_val (s_assign rfl rfl) rfl ?_
  refine g_nil ?_
  refine vc_seq ?_
  refine vc_rseq mixed ?_
  refine g_val (s_move rfl rfl) rfl ?_
  refine g_val (s_eqlX rfl rfl rfl) rfl ?_
  refine g_nil ?_
  refine vc_cond rfl (fun _ => ?_) (fun h => by cases h)
  refine vc_rseq mixed ?_
  refine g_val (s_assign rfl rfl) rfl ?_
  refine g_nil ?_
  refine vc_ownnil (i := 2) 0 1 8 rfl rfl rfl ?_
  exact vc_ret (ret_hand [] [] _ (.cons (.tmp rfl) .nil) trivial (.same _) (lehp_cons rfl (leB_row rfl) (lehp_nil _ _)) rfl)
  refine vc_rseq mixed ?_
  refine g_val (s_assign rfl rfl) rfl ?_
  refine g_nil ?_
  refine vc_seq ?_
  refine vc_rseq mixed ?_
  refine g_val (s_move rfl rfl) rfl ?_
  refine g_val (s_eqlN rfl rfl rfl) rfl ?_
  refine g_nil ?_
  refine vc_cond rfl (fun h => by cases h) (fun _ => ?_)
  refine vc_skip ?_
  refine vc_le ⟨[(0, .t (intsT l))], [], []⟩ (leE_same (letm_cons rfl .nn (letm_nil _ _)) (lehp_nil _ _) rfl) ?_
  refine vc_rseq mixed ?_
  refine g_new (s_buildSlice 5 evArgs_nil rfl rfl rfl rfl) rfl ?_
  refine g_val (s_move rfl rfl) rfl ?_
  refine g_app (s_append 7 rfl rfl rfl rfl rfl (Nat.le_refl _) rfl rfl (by simpa using hla)) rfl ?_
  refine g_val (s_assign rfl rfl) rfl ?_
  refine g_nil ?_
  exact vc_ret (ret_hand [] [(0, 7)] _ (.cons (.tmp rfl) .nil) trivial (.eq (okV_nil _) (by simp [single, AV.view_nil, AV.ren, rnG, rnL]; rfl)) (lehp_cons rfl (leB_row (by simp)) (lehp_nil _ _)) rfl)

/-- The copy as data. -/
theorem c_Clone_byte (l : List Int) : Con Tryz.prog 97 [.t (bytesT l)] [] (.t (bytesT l)) [] := by
  refine con_intro [] [] Tryz.func97 rfl Tryz.ntmps97 Tryz.results97 rfl rfl ?_
  intro E
  refine vc_okT (i := 0) rfl fun ok0 => ?_
  have hla := ok0.len
  refine vc_nil (t := 0) rfl (fun h0 => ?_) ?_
  refine vc_rseq mixed ?_
  refine g_val (s_assign rfl rfl) rfl ?_
  refine g_nil ?_
  refine vc_seq ?_
  refine vc_rseq mixed ?_
  refine g_val (s_move rfl rfl) rfl ?_
  refine g_val (s_eqlX rfl rfl rfl) rfl ?_
  refine g_nil ?_
  refine vc_cond rfl (fun _ => ?_) (fun h => by cases h)
  refine vc_rseq mixed ?_
  refine g_val (s_assign rfl rfl) rfl ?_
  refine g_nil ?_
  exact vc_ret (ret_le [] _ (.cons (.tmp rfl) .nil) trivial (by rw [show l = [] by simpa using h0]; exact .nl (by decide) (by decide)) rfl)
  refine vc_rseq mixed ?_
  refine g_val (s_assign rfl rfl) rfl ?_
  refine g_nil ?_
  refine vc_seq ?_
  refine vc_rseq mixed ?_
  refine g_val (s_move rfl rfl) rfl ?_
  refine g_val (s_eqlN rfl rfl rfl) rfl ?_
  refine g_nil ?_
  refine vc_cond rfl (fun h => by cases h) (fun _ => ?_)
  refine vc_skip ?_
  refine vc_le ⟨[(0, .t (bytesT l))], [], []⟩ (leE_same (letm_cons rfl .nn (letm_nil _ _)) (lehp_nil _ _) rfl) ?_
  refine vc_rseq mixed ?_
  refine g_new (s_buildSlice 5 evArgs_nil rfl rfl rfl rfl) rfl ?_
  refine g_val (s_move rfl rfl) rfl ?_
  refine g_app (s_append 7 rfl rfl rfl rfl rfl (Nat.le_refl _) rfl rfl (by simpa using hla)) rfl ?_
  refine g_val (s_assign rfl rfl) rfl ?_
  refine g_nil ?_
  exact vc_ret (ret_le [(7, _)] _ (.cons (.tmp rfl) .nil) ⟨rfl, trivial⟩ (.eq (by simp [single, AV.okV, okR, lkB]) (by simp [single, AV.view, viewR, lkB, AV.ren, bytesT, take_map_len])) rfl)

/-- The copy as a row of one's own. -/
theorem c_Clone_byte_own (l : List Int) : Con Tryz.prog 97 [.t (bytesT l)] [] (.rows 0 1 0 l.length) [(0, .row 1 1 (l.map byteC))] := by
  refine con_intro [] [0] Tryz.func97 rfl Tryz.ntmps97 Tryz.results97 rfl rfl ?_
  intro E
  refine vc_okT (i := 0) rfl fun ok0 => ?_
  have hla := ok0.len
  refine vc_nil (t := 0) rfl (fun h0 => ?_) ?_
  have hl0 : l = [] := by simpa using h0
  subst hl0
  refine vc_rseq mixed ?_
  refine g_val (s_assign rfl rfl) rfl ?_
  refine g_nil ?_
  refine vc_seq ?_
  refine vc_rseq mixed ?_
  refine g_val (s_move rfl rfl) rfl ?_
  refine g_val (s_eqlX rfl rfl rfl) rfl ?_
  refine g_nil ?_
  refine vc_cond rfl (fun _ => ?_) (fun h => by cases h)
  refine vc_rseq mixed ?_
  refine g_val (s_assign rfl rfl) rfl ?_
  refine g_nil ?_
  refine vc_ownnil (i := 2) 0 1 1 rfl rfl rfl ?_
  exact vc_ret (ret_hand [] [] _ (.cons (.tmp rfl) .nil) trivial (.same _) (lehp_cons rfl (leB_row rfl) (lehp_nil _ _)) rfl)
  refine vc_rseq mixed ?_
  refine g_val (s_assign rfl rfl) rfl ?_
  refine g_nil ?_
  refine vc_seq ?_
  refine vc_rseq mixed ?_
  refine g_val (s_move rfl rfl) rfl ?_
  refine g_val (s_eqlN rfl rfl rfl) rfl ?_
  refine g_nil ?_
  refine vc_cond rfl (fun h => by cases h) (fun _ => ?_)
  refine vc_skip ?_
  refine vc_le ⟨[(0, .t (bytesT l))], [], []⟩ (leE_same (letm_cons rfl .nn (letm_nil _ _)) (lehp_nil _ _) rfl) ?_
  refine vc_rseq mixed ?_
  refine g_new (s_buildSlice 5 evArgs_nil rfl rfl rfl rfl) rfl ?_
  refine g_val (s_move rfl rfl) rfl ?_
  refine g_app (s_append 7 rfl rfl rfl rfl rfl (Nat.le_refl _) rfl rfl (by simpa using hla)) rfl ?_
  refine g_val (s_assign rfl rfl) rfl ?_
  refine g_nil ?_
  exact vc_ret (ret_hand [] [(0, 7)] _ (.cons (.tmp rfl) .nil) trivial (.eq (okV_nil _) (by simp [single, AV.view_nil, AV.ren, rnG, rnL]; rfl)) (lehp_cons rfl (leB_row (by simp)) (lehp_nil _ _)) rfl)

/-- The copy as data. -/
theorem c_Clone_Item (l : List Item) : Con Tryz.prog 96 [.t (itemsT l)] [] (.t (itemsT l)) [] := by
  refine con_intro [] [] Tryz.func96 rfl Tryz.ntmps96 Tryz.results96 rfl rfl ?_
  intro E
  refine vc_okT (i := 0) rfl fun ok0 => ?_
  have hla := ok0.len
  refine vc_nil (t := 0) rfl (fun h0 => ?_) ?_
  refine vc_rseq mixed ?_
  refine g_val (s_assign rfl rfl) rfl ?_
  refine g_nil ?_
  refine vc_seq ?_
  refine vc_rseq mixed ?_
  refine g_val (s_move rfl rfl) rfl ?_
  refine g_val (s_eqlX rfl rfl rfl) rfl ?_
  refine g_nil ?_
  refine vc_cond rfl (fun _ => ?_) (fun h => by cases h)
  refine vc_rseq mixed ?_
  refine g_val (s_assign rfl rfl) rfl ?_
  refine g_nil ?_
  exact vc_ret (ret_le [] _ (.cons (.tmp rfl) .nil) trivial (by rw [show l = [] by simpa using h0]; exact .nl (by decide) (by decide)) rfl)
  refine vc_rseq mixed ?_
  refine g_val (s_assign rfl rfl) rfl ?_
  refine g_nil ?_
  refine vc_seq ?_
  refine vc_rseq mixed ?_
  refine g_val (s_move rfl rfl) rfl ?_
  refine g_val (s_eqlN rfl rfl rfl) rfl ?_
  refine g_nil ?_
  refine vc_cond rfl (fun h => by cases h) (fun _ => ?_)
  refine vc_skip ?_
  refine vc_le ⟨[(0, .t (itemsT l))], [], []⟩ (leE_same (letm_cons rfl .nn (letm_nil _ _)) (lehp_nil _ _) rfl) ?_
  refine vc_rseq mixed ?_
  refine g_new (s_buildSlice 5 evArgs_nil rfl rfl rfl rfl) rfl ?_
  refine g_val (s_move rfl rfl) rfl ?_
  refine g_app (s_append 7 rfl rfl rfl rfl rfl (Nat.le_refl _) rfl rfl (by simpa using hla)) rfl ?_
  refine g_val (s_assign rfl rfl) rfl ?_
  refine g_nil ?_
  exact vc_ret (ret_le [(7, _)] _ (.cons (.tmp rfl) .nil) ⟨rfl, trivial⟩ (.eq (by simp [single, AV.okV, okR, lkB]) (by simp [single, AV.view, viewR, lkB, AV.ren, itemsT, take_map_len])) rfl)

/-- The copy as a row of one's own. -/
theorem c_Clone_Item_own (l : List Item) : Con Tryz.prog 96 [.t (itemsT l)] [] (.rows 0 2 0 l.length) [(0, .row 2 32 (l.map itemC))] := by
  refine con_intro [] [0] Tryz.func96 rfl Tryz.ntmps96 Tryz.results96 rfl rfl ?_
  intro E
  refine vc_okT (i := 0) rfl fun ok0 => ?_
  have hla := ok0.len
  refine vc_nil (t := 0) rfl (fun h0 => ?_) ?_
  have hl0 : l = [] := by simpa using h0
  subst hl0
  refine vc_rseq mixed ?_
  refine g_val (s_assign rfl rfl) rfl ?_
  refine g_nil ?_
  refine vc_seq ?_
  refine vc_rseq mixed ?_
  refine g_val (s_move rfl rfl) rfl ?_
  refine g_val (s_eqlX rfl rfl rfl) rfl ?_
  refine g_nil ?_
  refine vc_cond rfl (fun _ => ?_) (fun h => by cases h)
  refine vc_rseq mixed ?_
  refine g_val (s_assign rfl rfl) rfl ?_
  refine g_nil ?_
  refine vc_ownnil (i := 2) 0 2 32 rfl rfl rfl ?_
  exact vc_ret (ret_hand [] [] _ (.cons (.tmp rfl) .nil) trivial (.same _) (lehp_cons rfl (leB_row rfl) (lehp_nil _ _)) rfl)
  refine vc_rseq mixed ?_
  refine g_val (s_assign rfl rfl) rfl ?_
  refine g_nil ?_
  refine vc_seq ?_
  refine vc_rseq mixed ?_
  refine g_val (s_move rfl rfl) rfl ?_
  refine g_val (s_eqlN rfl rfl rfl) rfl ?_
  refine g_nil ?_
  refine vc_cond rfl (fun h => by cases h) (fun _ => ?_)
  refine vc_skip ?_
  refine vc_le ⟨[(0, .t (itemsT l))], [], []⟩ (leE_same (letm_cons rfl .nn (letm_nil _ _)) (lehp_nil _ _) rfl) ?_
  refine vc_rseq mixed ?_
  refine g_new (s_buildSlice 5 evArgs_nil rfl rfl rfl rfl) rfl ?_
  refine g_val (s_move rfl rfl) rfl ?_
  refine g_app (s_append 7 rfl rfl rfl rfl rfl (Nat.le_refl _) rfl rfl (by simpa using hla)) rfl ?_
  refine g_val (s_assign rfl rfl) rfl ?_
  refine g_nil ?_
  exact vc_ret (ret_hand [] [(0, 7)] _ (.cons (.tmp rfl) .nil) trivial (.eq (okV_nil _) (by simp [single, AV.view_nil, AV.ren, rnG, rnL]; rfl)) (lehp_cons rfl (leB_row (by simp)) (lehp_nil _ _)) rfl)

/-- The copy as data. -/
theorem c_Clone_Write (l : List Write) : Con Tryz.prog 143 [.t (writesT l)] [] (.t (writesT l)) [] := by
  refine con_intro [] [] Tryz.func143 rfl Tryz.ntmps143 Tryz.results143 rfl rfl ?_
  intro E
  refine vc_okT (i := 0) rfl fun ok0 => ?_
  have hla := ok0.len
  refine vc_nil (t := 0) rfl (fun h0 => ?_) ?_
  refine vc_rseq mixed ?_
  refine g_val (s_assign rfl rfl) rfl ?_
  refine g_nil ?_
  refine vc_seq ?_
  refine vc_rseq mixed ?_
  refine g_val (s_move rfl rfl) rfl ?_
  refine g_val (s_eqlX rfl rfl rfl) rfl ?_
  refine g_nil ?_
  refine vc_cond rfl (fun _ => ?_) (fun h => by cases h)
  refine vc_rseq mixed ?_
  refine g_val (s_assign rfl rfl) rfl ?_
  refine g_nil ?_
  exact vc_ret (ret_le [] _ (.cons (.tmp rfl) .nil) trivial (by rw [show l = [] by simpa using h0]; exact .nl (by decide) (by decide)) rfl)
  refine vc_rseq mixed ?_
  refine g_val (s_assign rfl rfl) rfl ?_
  refine g_nil ?_
  refine vc_seq ?_
  refine vc_rseq mixed ?_
  refine g_val (s_move rfl rfl) rfl ?_
  refine g_val (s_eqlN rfl rfl rfl) rfl ?_
  refine g_nil ?_
  refine vc_cond rfl (fun h => by cases h) (fun _ => ?_)
  refine vc_skip ?_
  refine vc_le ⟨[(0, .t (writesT l))], [], []⟩ (leE_same (letm_cons rfl .nn (letm_nil _ _)) (lehp_nil _ _) rfl) ?_
  refine vc_rseq mixed ?_
  refine g_new (s_buildSlice 5 evArgs_nil rfl rfl rfl rfl) rfl ?_
  refine g_val (s_move rfl rfl) rfl ?_
  refine g_app (s_append 7 rfl rfl rfl rfl rfl (Nat.le_refl _) rfl rfl (by simpa using hla)) rfl ?_
  refine g_val (s_assign rfl rfl) rfl ?_
  refine g_nil ?_
  exact vc_ret (ret_le [(7, _)] _ (.cons (.tmp rfl) .nil) ⟨rfl, trivial⟩ (.eq (by simp [single, AV.okV, okR, lkB]) (by simp [single, AV.view, viewR, lkB, AV.ren, writesT, take_map_len])) rfl)

/-- The copy as a row of one's own. -/
theorem c_Clone_Write_own (l : List Write) : Con Tryz.prog 143 [.t (writesT l)] [] (.rows 0 2 0 l.length) [(0, .row 2 32 (l.map writeC))] := by
  refine con_intro [] [0] Tryz.func143 rfl Tryz.ntmps143 Tryz.results143 rfl rfl ?_
  intro E
  refine vc_okT (i := 0) rfl fun ok0 => ?_
  have hla := ok0.len
  refine vc_nil (t := 0) rfl (fun h0 => ?_) ?_
  have hl0 : l = [] := by simpa using h0
  subst hl0
  refine vc_rseq mixed ?_
  refine g_val (s_assign rfl rfl) rfl ?_
  refine g_nil ?_
  refine vc_seq ?_
  refine vc_rseq mixed ?_
  refine g_val (s_move rfl rfl) rfl ?_
  refine g_val (s_eqlX rfl rfl rfl) rfl ?_
  refine g_nil ?_
  refine vc_cond rfl (fun _ => ?_) (fun h => by cases h)
  refine vc_rseq mixed ?_
  refine g_val (s_assign rfl rfl) rfl ?_
  refine g_nil ?_
  refine vc_ownnil (i := 2) 0 2 32 rfl rfl rfl ?_
  exact vc_ret (ret_hand [] [] _ (.cons (.tmp rfl) .nil) trivial (.same _) (lehp_cons rfl (leB_row rfl) (lehp_nil _ _)) rfl)
  refine vc_rseq mixed ?_
  refine g_val (s_assign rfl rfl) rfl ?_
  refine g_nil ?_
  refine vc_seq ?_
  refine vc_rseq mixed ?_
  refine g_val (s_move rfl rfl) rfl ?_
  refine g_val (s_eqlN rfl rfl rfl) rfl ?_
  refine g_nil ?_
  refine vc_cond rfl (fun h => by cases h) (fun _ => ?_)
  refine vc_skip ?_
  refine vc_le ⟨[(0, .t (writesT l))], [], []⟩ (leE_same (letm_cons rfl .nn (letm_nil _ _)) (lehp_nil _ _) rfl) ?_
  refine vc_rseq mixed ?_
  refine g_new (s_buildSlice 5 evArgs_nil rfl rfl rfl rfl) rfl ?_
  refine g_val (s_move rfl rfl) rfl ?_
  refine g_app (s_append 7 rfl rfl rfl rfl rfl (Nat.le_refl _) rfl rfl (by simpa using hla)) rfl ?_
  refine g_val (s_assign rfl rfl) rfl ?_
  refine g_nil ?_
  exact vc_ret (ret_hand [] [(0, 7)] _ (.cons (.tmp rfl) .nil) trivial (.eq (okV_nil _) (by simp [single, AV.view_nil, AV.ren, rnG, rnL]; rfl)) (lehp_cons rfl (leB_row (by simp)) (lehp_nil _ _)) rfl)

end Go.Eng

set_option maxHeartbeats 1000000
namespace Go.Eng
open Go.Proofs

/-! ### Items -/
def itemsOK (blocks size : Int) (l : List Item) : Prop := 1 ≤ l.length ∧ l.length ≤ 8 ∧ (∀ x ∈ l, 0 ≤ x.block ∧ x.block < blocks ∧ (x.data.length : Int) = size) ∧ (l.map (·.block)).Nodup
instance (blocks size : Int) (l : List Item) : Decidable (itemsOK blocks size l) := by unfold itemsOK; infer_instance

theorem itemsOK_iff {blocks size : Int} {l : List Item} : itemsOK blocks size l ↔ (1 ≤ l.length ∧ l.length ≤ 8 ∧ (∀ (i : Nat) (x : Item), l[i]? = some x → (0 ≤ x.block ∧ x.block < blocks ∧ (x.data.length : Int) = size) ∧ ∀ (k : Nat) (y : Item), k < i → l[k]? = some y → y.block ≠ x.block)) := by
  unfold itemsOK
  constructor
  rintro ⟨h1, h2, h3, h4⟩
  refine ⟨h1, h2, fun i x hx => ⟨h3 x (List.mem_of_getElem? hx), fun k y hk hy e => ?_⟩⟩
  obtain ⟨hlt, hxe⟩ := List.getElem?_eq_some_iff.1 hx
  obtain ⟨hlt2, hye⟩ := List.getElem?_eq_some_iff.1 hy
  have := List.pairwise_iff_getElem.1 h4 k i (by simpa using hlt2) (by simpa using hlt) hk
  simp only [List.getElem_map, hxe, hye] at this
  exact this e
  rintro ⟨h1, h2, h3⟩
  refine ⟨h1, h2, fun x hx => ?_, ?_⟩
  obtain ⟨i, hi⟩ := List.mem_iff_getElem?.1 hx
  exact (h3 i x hi).1
  refine List.pairwise_iff_getElem.2 fun k i hk hi hlt => ?_
  rw [List.length_map] at hk hi
  simp only [List.getElem_map]
  exact (h3 i _ (List.getElem?_eq_getElem hi)).2 k _ hlt (List.getElem?_eq_getElem hk)

theorem c_mementoref13_ItemsRight (blocks size : Int) (l : List Item) : Con Tryz.prog 92 [AI .i64 blocks, AI .i64 size, .t (itemsT l)] [] (AB (decide (itemsOK blocks size l))) [] := by
  refine con_intro [] [] Tryz.func92 rfl Tryz.ntmps92 Tryz.results92 rfl rfl ?_
  intro E
  refine vc_okT (i := 2) rfl fun ok0 => ?_
  have hla := ok0.len
  rw [List.length_map] at hla
  refine vc_rseq mixed ?_
  refine g_val (s_assign rfl rfl) rfl ?_
  refine g_nil ?_
  refine vc_seq ?_
  refine vc_rseq mixed ?_
  refine g_val (s_move rfl rfl) rfl ?_
  refine g_val (s_len rfl rfl) rfl ?_
  refine g_val (s_lss rfl rfl rfl) rfl ?_
  refine g_val (s_move rfl rfl) rfl ?_
  refine g_probe (j := 12) rfl (fun c hg12 => ?_)
  cases c
  rw [← hg12]; replace hg12 := hg12.symm; replace hg12 := of_decide_eq_false hg12
  simp only [List.length_map, Int.not_lt] at hg12
  refine gq_val (s_move rfl rfl) rfl rfl rfl rfl ?_
  refine gq_val (s_len rfl rfl) rfl rfl rfl rfl ?_
  refine gq_val (s_gtr rfl rfl rfl) rfl rfl rfl rfl ?_
  refine g_val (s_pickF rfl rfl rfl) rfl ?_
  refine g_nil ?_
  refine vc_cond rfl (fun hc16 => ?_) (fun hc16 => ?_)
  replace hc16 := of_decide_eq_true hc16
  simp only [List.length_map] at hc16
  refine vc_rseq mixed ?_
  refine g_val (s_assign rfl rfl) rfl ?_
  refine g_nil ?_
  exact vc_ret (ret_of _ (.cons (.tmp rfl) .nil) (by simp only [single]; rw [decide_eq_false]; rintro ⟨h1, h2, h3⟩; omega) rfl)
  replace hc16 := of_decide_eq_false hc16
  simp only [List.length_map, Int.not_lt] at hc16
  refine vc_skip ?_
  refine vc_seq ?_
  refine vc_rseq mixed ?_
  refine g_val (s_assign rfl rfl) rfl ?_
  refine g_nil ?_
  refine vc_block ?_
  refine vc_up l.length (fun i => ⟨[(0, AI .i64 blocks), (1, AI .i64 size), (2, .t (itemsT l)), (7, AI .i64 i)], [], []⟩) (fun i => ∀ (j : Nat) (x : Item), j < i → l[j]? = some x → (0 ≤ x.block ∧ x.block < blocks ∧ (x.data.length : Int) = size) ∧ ∀ (k : Nat) (y : Item), k < j → l[k]? = some y → y.block ≠ x.block) (leE_same (by repeat (first | exact letm_nil _ _ | refine letm_cons rfl ?_ ?_ | exact .same _ | exact .nl (by decide) (by decide) | exact .nn | exact .id' rfl | exact .id' (by simp; done))) (by repeat (first | exact lehp_nil _ _ | refine lehp_cons rfl ?_ ?_ | exact leB_same _ | exact leB_row (by first | rfl | (simp; done)) | exact leB_obj (by simp; done) | exact leB_nest (by first | rfl | (simp; done)) | refine leB_box ?_ | exact leL_nil | refine leL_cons ?_ ?_ | exact .same _ | exact .nl (by decide) (by decide) | exact .nn | exact .id' rfl | exact .id' (by simp; done))) rfl) (fun j x h => by omega) (fun i hi hJ => ?_)
  refine vc_seq ?_
  refine vc_rseq mixed ?_
  refine g_val (s_move rfl rfl) rfl ?_
  refine g_val (s_move rfl rfl) rfl ?_
  refine g_val (s_len rfl rfl) rfl ?_
  refine g_val (s_lss rfl rfl rfl) rfl ?_
  refine g_nil ?_
  refine vc_cond rfl (fun hc20 => ?_) (fun hc20 => ?_)
  replace hc20 := of_decide_eq_true hc20
  simp only [List.length_map] at hc20
  obtain ⟨x, hx⟩ := get_of_lt (l := l) (i := i) (by omega)
  refine vc_skip ?_
  refine vc_seq ?_
  refine vc_block ?_
  refine vc_seq ?_
  refine vc_rseq mixed ?_
  refine g_val (s_move rfl rfl) rfl ?_
  refine g_val (s_move rfl rfl) rfl ?_
  refine g_val (s_index rfl rfl rfl (by omega) (idx_map hx)) rfl ?_
  refine g_val (s_fieldT rfl rfl rfl rfl rfl) rfl ?_
  refine g_val (s_loadT rfl rfl rfl) rfl ?_
  refine g_val (s_lss rfl rfl rfl) rfl ?_
  refine g_val (s_move rfl rfl) rfl ?_
  refine g_probe (j := 29) rfl (fun c hg29 => ?_)
  cases c
  rw [← hg29]; replace hg29 := hg29.symm; replace hg29 := of_decide_eq_false hg29
  simp only [Int.not_lt] at hg29
  refine gq_val (s_move rfl rfl) rfl rfl rfl rfl ?_
  refine gq_val (s_move rfl rfl) rfl rfl rfl rfl ?_
  refine gq_val (s_index rfl rfl rfl (by omega) (idx_map hx)) rfl rfl rfl rfl ?_
  refine gq_val (s_fieldT rfl rfl rfl rfl rfl) rfl rfl rfl rfl ?_
  refine gq_val (s_loadT rfl rfl rfl) rfl rfl rfl rfl ?_
  refine gq_val (s_move rfl rfl) rfl rfl rfl rfl ?_
  refine gq_val (s_geq rfl rfl rfl) rfl rfl rfl rfl ?_
  refine g_val (s_pickF rfl rfl rfl) rfl ?_
  refine g_val (s_move rfl rfl) rfl ?_
  refine g_probe (j := 38) rfl (fun c hg38 => ?_)
  cases c
  rw [← hg38]; replace hg38 := hg38.symm; replace hg38 := of_decide_eq_false hg38
  simp only [Int.not_le] at hg38
  refine gq_val (s_move rfl rfl) rfl rfl rfl rfl ?_
  refine gq_val (s_move rfl rfl) rfl rfl rfl rfl ?_
  refine gq_val (s_index rfl rfl rfl (by omega) (idx_map hx)) rfl rfl rfl rfl ?_
  refine gq_val (s_fieldT rfl rfl rfl rfl rfl) rfl rfl rfl rfl ?_
  refine gq_val (s_loadT rfl rfl rfl) rfl rfl rfl rfl ?_
  refine gq_val (s_len rfl rfl) rfl rfl rfl rfl ?_
  refine gq_val (s_move rfl rfl) rfl rfl rfl rfl ?_
  refine gq_val (s_neq rfl rfl rfl) rfl rfl rfl rfl ?_
  refine g_val (s_pickF rfl rfl rfl) rfl ?_
  refine g_nil ?_
  refine vc_cond rfl (fun hc47 => ?_) (fun hc47 => ?_)
  replace hc47 := of_decide_eq_true hc47
  simp only [List.length_map, ne_eq] at hc47
  refine vc_rseq mixed ?_
  refine g_val (s_assign rfl rfl) rfl ?_
  refine g_nil ?_
  exact vc_ret (ret_of _ (.cons (.tmp rfl) .nil) (by simp only [single]; rw [decide_eq_false]; intro h; have := ((itemsOK_iff.1 h).2.2 i x hx).1; omega) rfl)
  replace hc47 := of_decide_eq_false hc47
  simp only [List.length_map, ne_eq, Decidable.not_not] at hc47
  refine vc_skip ?_
  refine vc_rseq mixed ?_
  refine g_val (s_assign rfl rfl) rfl ?_
  refine g_nil ?_
  refine vc_block ?_
  refine vc_up i (fun k => ⟨[(0, AI .i64 blocks), (1, AI .i64 size), (2, .t (itemsT l)), (7, AI .i64 i), (8, AI .i64 k)], [], []⟩) (fun k => ∀ (j : Nat) (y : Item), j < k → l[j]? = some y → y.block ≠ x.block) (leE_same (by repeat (first | exact letm_nil _ _ | refine letm_cons rfl ?_ ?_ | exact .same _ | exact .nl (by decide) (by decide) | exact .nn | exact .id' rfl | exact .id' (by simp; done))) (by repeat (first | exact lehp_nil _ _ | refine lehp_cons rfl ?_ ?_ | exact leB_same _ | exact leB_row (by first | rfl | (simp; done)) | exact leB_obj (by simp; done) | exact leB_nest (by first | rfl | (simp; done)) | refine leB_box ?_ | exact leL_nil | refine leL_cons ?_ ?_ | exact .same _ | exact .nl (by decide) (by decide) | exact .nn | exact .id' rfl | exact .id' (by simp; done))) rfl) (fun j y h => by omega) (fun k hk hJ2 => ?_)
  refine vc_seq ?_
  refine vc_rseq mixed ?_
  refine g_val (s_move rfl rfl) rfl ?_
  refine g_val (s_move rfl rfl) rfl ?_
  refine g_val (s_lss rfl rfl rfl) rfl ?_
  refine g_nil ?_
  refine vc_cond rfl (fun hc50 => ?_) (fun hc50 => ?_)
  replace hc50 := of_decide_eq_true hc50
  obtain ⟨y, hy⟩ := get_of_lt (l := l) (i := k) (by omega)
  refine vc_skip ?_
  refine vc_seq ?_
  refine vc_block ?_
  refine vc_rseq mixed ?_
  refine d_val (s_move rfl rfl) rfl ?_
  refine d_val (s_move rfl rfl) rfl ?_
  refine d_val (s_index rfl rfl rfl (by omega) (idx_map hy)) rfl ?_
  refine d_val (s_fieldT rfl rfl rfl rfl rfl) rfl ?_
  refine d_val (s_loadT rfl rfl rfl) rfl ?_
  refine d_val (s_move rfl rfl) rfl ?_
  refine d_val (s_move rfl rfl) rfl ?_
  refine d_val (s_index rfl rfl rfl (by omega) (idx_map hx)) rfl ?_
  refine d_val (s_fieldT rfl rfl rfl rfl rfl) rfl ?_
  refine d_val (s_loadT rfl rfl rfl) rfl ?_
  refine d_val (s_eql rfl rfl rfl) rfl ?_
  refine d_nil rfl ?_
  refine vc_cond rfl (fun hc63 => ?_) (fun hc63 => ?_)
  replace hc63 := of_decide_eq_true hc63
  refine vc_rseq mixed ?_
  refine g_val (s_assign rfl rfl) rfl ?_
  refine g_nil ?_
  exact vc_ret (ret_of _ (.cons (.tmp rfl) .nil) (by simp only [single]; rw [decide_eq_false]; intro h; exact ((itemsOK_iff.1 h).2.2 i x hx).2 k y (by omega) hy hc63) rfl)
  replace hc63 := of_decide_eq_false hc63
  refine vc_skip ?_
  refine vc_region mixed ?_
  refine g_val (s_move rfl rfl) rfl ?_
  refine g_val (s_add rfl rfl rfl (by simp only [inI, kMin, kMax]; omega)) rfl ?_
  refine g_val (s_assign rfl rfl) rfl ?_
  refine g_nil ?_
  exact ⟨by omega, fun j z hj hz => by rcases Nat.lt_succ_iff_lt_or_eq.1 hj with h | rfl; exact hJ2 j z h hz; rw [hy] at hz; injection hz with hz; subst hz; exact hc63, (leE_same (by repeat (first | exact letm_nil _ _ | refine letm_cons rfl ?_ ?_ | exact .same _ | exact .nl (by decide) (by decide) | exact .nn | exact .id' rfl | exact .id' (by simp; done))) (by repeat (first | exact lehp_nil _ _ | refine lehp_cons rfl ?_ ?_ | exact leB_same _ | exact leB_row (by first | rfl | (simp; done)) | exact leB_obj (by simp; done) | exact leB_nest (by first | rfl | (simp; done)) | refine leB_box ?_ | exact leL_nil | refine leL_cons ?_ ?_ | exact .same _ | exact .nl (by decide) (by decide) | exact .nn | exact .id' rfl | exact .id' (by simp; done))) rfl)⟩
  replace hc50 := of_decide_eq_false hc50
  simp only [Int.not_lt] at hc50
  refine vc_exit ?_
  refine vc_region mixed ?_
  refine g_val (s_move rfl rfl) rfl ?_
  refine g_val (s_add rfl rfl rfl (by simp only [inI, kMin, kMax]; omega)) rfl ?_
  refine g_val (s_assign rfl rfl) rfl ?_
  refine g_nil ?_
  exact ⟨by omega, fun j z hj hz => by rcases Nat.lt_succ_iff_lt_or_eq.1 hj with h | rfl; exact hJ j z h hz; rw [hx] at hz; injection hz with hz; subst hz; exact ⟨by omega, fun m y hm hy => hJ2 m y (by omega) hy⟩, (leE_same (by repeat (first | exact letm_nil _ _ | refine letm_cons rfl ?_ ?_ | exact .same _ | exact .nl (by decide) (by decide) | exact .nn | exact .id' rfl | exact .id' (by simp; done))) (by repeat (first | exact lehp_nil _ _ | refine lehp_cons rfl ?_ ?_ | exact leB_same _ | exact leB_row (by first | rfl | (simp; done)) | exact leB_obj (by simp; done) | exact leB_nest (by first | rfl | (simp; done)) | refine leB_box ?_ | exact leL_nil | refine leL_cons ?_ ?_ | exact .same _ | exact .nl (by decide) (by decide) | exact .nn | exact .id' rfl | exact .id' (by simp; done))) rfl)⟩
  rw [← hg38]; replace hg38 := hg38.symm; replace hg38 := of_decide_eq_true hg38
  refine gn_val rfl rfl rfl rfl rfl rfl (by decide) ?_
  refine gn_val rfl rfl rfl rfl rfl rfl (by decide) ?_
  refine gn_val rfl rfl rfl rfl rfl rfl (by decide) ?_
  refine gn_val rfl rfl rfl rfl rfl rfl (by decide) ?_
  refine gn_val rfl rfl rfl rfl rfl rfl (by decide) ?_
  refine gn_val rfl rfl rfl rfl rfl rfl (by decide) ?_
  refine gn_val rfl rfl rfl rfl rfl rfl (by decide) ?_
  refine gn_val rfl rfl rfl rfl rfl rfl (by decide) ?_
  refine g_val (s_pickT rfl rfl rfl) rfl ?_
  refine g_nil ?_
  refine vc_cond rfl (fun _ => ?_) (fun h => by cases h)
  refine vc_rseq mixed ?_
  refine g_val (s_assign rfl rfl) rfl ?_
  refine g_nil ?_
  exact vc_ret (ret_of _ (.cons (.tmp rfl) .nil) (by simp only [single]; rw [decide_eq_false]; intro h; have := ((itemsOK_iff.1 h).2.2 i x hx).1; omega) rfl)
  rw [← hg29]; replace hg29 := hg29.symm; replace hg29 := of_decide_eq_true hg29
  refine gn_val rfl rfl rfl rfl rfl rfl (by decide) ?_
  refine gn_val rfl rfl rfl rfl rfl rfl (by decide) ?_
  refine gn_val rfl rfl rfl rfl rfl rfl (by decide) ?_
  refine gn_val rfl rfl rfl rfl rfl rfl (by decide) ?_
  refine gn_val rfl rfl rfl rfl rfl rfl (by decide) ?_
  refine gn_val rfl rfl rfl rfl rfl rfl (by decide) ?_
  refine gn_val rfl rfl rfl rfl rfl rfl (by decide) ?_
  refine g_val (s_pickT rfl rfl rfl) rfl ?_
  refine g_val (s_move rfl rfl) rfl ?_
  refine gn_val rfl rfl rfl rfl rfl rfl (by decide) ?_
  refine gn_val rfl rfl rfl rfl rfl rfl (by decide) ?_
  refine gn_val rfl rfl rfl rfl rfl rfl (by decide) ?_
  refine gn_val rfl rfl rfl rfl rfl rfl (by decide) ?_
  refine gn_val rfl rfl rfl rfl rfl rfl (by decide) ?_
  refine gn_val rfl rfl rfl rfl rfl rfl (by decide) ?_
  refine gn_val rfl rfl rfl rfl rfl rfl (by decide) ?_
  refine gn_val rfl rfl rfl rfl rfl rfl (by decide) ?_
  refine g_val (s_pickT rfl rfl rfl) rfl ?_
  refine g_nil ?_
  refine vc_cond rfl (fun _ => ?_) (fun h => by cases h)
  refine vc_rseq mixed ?_
  refine g_val (s_assign rfl rfl) rfl ?_
  refine g_nil ?_
  exact vc_ret (ret_of _ (.cons (.tmp rfl) .nil) (by simp only [single]; rw [decide_eq_false]; intro h; have := ((itemsOK_iff.1 h).2.2 i x hx).1; omega) rfl)
  replace hc20 := of_decide_eq_false hc20
  simp only [List.length_map, Int.not_lt] at hc20
  refine vc_exit ?_
  refine vc_rseq mixed ?_
  refine g_val (s_assign rfl rfl) rfl ?_
  refine g_nil ?_
  exact vc_ret (ret_of _ (.cons (.tmp rfl) .nil) (by simp only [single]; rw [decide_eq_true]; exact itemsOK_iff.2 ⟨by omega, by omega, fun j x hx => hJ j x (by have := (List.getElem?_eq_some_iff.1 hx).1; omega) hx⟩) rfl)
  rw [← hg12]; replace hg12 := hg12.symm; replace hg12 := of_decide_eq_true hg12
  simp only [List.length_map] at hg12
  refine gn_val rfl rfl rfl rfl rfl rfl (by decide) ?_
  refine gn_val rfl rfl rfl rfl rfl rfl (by decide) ?_
  refine gn_val rfl rfl rfl rfl rfl rfl (by decide) ?_
  refine g_val (s_pickT rfl rfl rfl) rfl ?_
  refine g_nil ?_
  refine vc_cond rfl (fun _ => ?_) (fun h => by cases h)
  refine vc_rseq mixed ?_
  refine g_val (s_assign rfl rfl) rfl ?_
  refine g_nil ?_
  exact vc_ret (ret_of _ (.cons (.tmp rfl) .nil) (by simp only [single]; rw [decide_eq_false]; rintro ⟨h1, h2, h3⟩; omega) rfl)

def seenL (l : List Item) : List (Int × Bool) := l.map fun x => (x.block, true)
theorem fnd_seen : ∀ (l : List Item) (b : Int), fnd (seenL l) b = if (∃ y ∈ l, y.block = b) then some true else none
  | [], b => by simp [seenL, fnd]
  | x :: l, b => by
    simp only [seenL, List.map_cons, fnd]
    by_cases e : b = x.block
    rw [if_pos e, if_pos ⟨x, List.mem_cons_self .., e.symm⟩]
    rw [if_neg e]
    have ih := fnd_seen l b
    simp only [seenL] at ih
    rw [ih]
    congr 1
    apply propext
    constructor
    rintro ⟨y, h1, h2⟩; exact ⟨y, List.mem_cons_of_mem _ h1, h2⟩
    rintro ⟨y, h1, h2⟩
    rcases List.mem_cons.1 h1 with rfl | h1
    exact absurd h2.symm e
    exact ⟨y, h1, h2⟩
theorem mem_take {α : Type} {l : List α} {i : Nat} {y : α} : y ∈ l.take i ↔ ∃ k : Nat, k < i ∧ l[k]? = some y := by
  constructor
  intro h
  obtain ⟨k, hk⟩ := List.mem_iff_getElem?.1 h
  rw [List.getElem?_take] at hk
  split at hk
  exact ⟨k, by assumption, hk⟩
  cases hk
  rintro ⟨k, h1, h2⟩
  exact List.mem_of_getElem? (i := k) (by rw [List.getElem?_take, if_pos h1, h2])
theorem fnd_take_true {l : List Item} {i : Nat} {b : Int} (h : ((fnd (seenL (l.take i)) b).getD false) = true) : ∃ (k : Nat) (y : Item), k < i ∧ l[k]? = some y ∧ y.block = b := by
  rw [fnd_seen] at h
  split at h
  rename_i h1
  obtain ⟨y, h2, h3⟩ := h1
  obtain ⟨k, h4, h5⟩ := mem_take.1 h2
  exact ⟨k, y, h4, h5, h3⟩
  cases h
theorem fnd_take_false {l : List Item} {i : Nat} {b : Int} (h : ((fnd (seenL (l.take i)) b).getD false) = false) : fnd (seenL (l.take i)) b = none ∧ ∀ (k : Nat) (y : Item), k < i → l[k]? = some y → y.block ≠ b := by
  rw [fnd_seen] at h ⊢
  split at h
  cases h
  rename_i h1
  exact ⟨by rw [if_neg h1], fun k y h2 h3 e => h1 ⟨y, mem_take.2 ⟨k, h2, h3⟩, e⟩⟩

theorem c_mementoref16_own (l : List Item) : Con Tryz.prog 131 [.t (itemsT l)] [] (.t (itemsT l)) [] := by
  refine con_intro [] [] Tryz.func131 rfl Tryz.ntmps131 Tryz.results131 rfl rfl ?_
  intro E
  refine vc_okT (i := 0) rfl fun ok0 => ?_
  have hla := ok0.len
  rw [List.length_map] at hla
  refine vc_rseq mixed ?_
  refine g_val (s_assign rfl rfl) rfl ?_
  refine g_nil ?_
  refine vc_rseq mixed ?_
  refine g_val (s_assign rfl rfl) rfl ?_
  refine g_nil ?_
  refine vc_seq ?_
  refine vc_ownnil (i := 3) 3 2 32 rfl rfl rfl ?_
  refine vc_rseq mixed ?_
  refine g_val (s_assign rfl rfl) rfl ?_
  refine g_nil ?_
  refine vc_block ?_
  refine vc_up l.length (fun i => ⟨[(0, .t (itemsT l)), (3, .rows 3 2 0 i), (4, AI .i64 i)], [(3, some (.row 2 32 ((l.take i).map itemC)))], [3]⟩) (fun i => True) (leE_same (by repeat (first | exact letm_nil _ _ | refine letm_cons rfl ?_ ?_ | exact .same _ | exact .nl (by decide) (by decide) | exact .nn | exact .id' rfl | exact .id' (by simp; done))) (by repeat (first | exact lehp_nil _ _ | refine lehp_cons rfl ?_ ?_ | exact leB_same _ | exact leB_row (by first | rfl | (simp; done)) | exact leB_obj (by simp; done) | exact leB_nest (by first | rfl | (simp; done)) | refine leB_box ?_ | exact leL_nil | refine leL_cons ?_ ?_ | exact .same _ | exact .nl (by decide) (by decide) | exact .nn | exact .id' rfl | exact .id' (by simp; done))) rfl) trivial (fun i hi _ => ?_)
  refine vc_seq ?_
  refine vc_rseq mixed ?_
  refine g_val (s_move rfl rfl) rfl ?_
  refine g_val (s_move rfl rfl) rfl ?_
  refine g_val (s_len rfl rfl) rfl ?_
  refine g_val (s_lss rfl rfl rfl) rfl ?_
  refine g_nil ?_
  refine vc_cond rfl (fun hc8 => ?_) (fun hc8 => ?_)
  replace hc8 := of_decide_eq_true hc8
  simp only [List.length_map] at hc8
  obtain ⟨x, hx⟩ := get_of_lt (l := l) (i := i) (by omega)
  have hxb := (ok0.item hx).1.blen
  refine vc_skip ?_
  refine vc_seq ?_
  refine vc_block ?_
  refine vc_region mixed ?_
  refine d_val (s_move rfl rfl) rfl ?_
  refine d_val (s_move rfl rfl) rfl ?_
  refine d_val (s_move rfl rfl) rfl ?_
  refine d_val (s_index rfl rfl rfl (by omega) (idx_map hx)) rfl ?_
  refine d_val (s_fieldT rfl rfl rfl rfl rfl) rfl ?_
  refine d_val (s_loadT rfl rfl rfl) rfl ?_
  refine d_val (s_move rfl rfl) rfl ?_
  refine d_val (s_move rfl rfl) rfl ?_
  refine d_val (s_index rfl rfl rfl (by omega) (idx_map hx)) rfl ?_
  refine d_val (s_fieldT rfl rfl rfl rfl rfl) rfl ?_
  refine d_val (s_loadT rfl rfl rfl) rfl ?_
  refine d_fz ((s_appendN 22 rfl rfl rfl rfl (by rw [List.length_map]; omega)).fzE rfl) rfl ?_
  refine d_val (s_build (evArgs_cons rfl (evArgs_cons rfl evArgs_nil)) rfl rfl rfl) rfl ?_
  refine d_fz ((s_buildSlice 24 (evArgs_cons rfl evArgs_nil) rfl rfl rfl rfl).fzE rfl) rfl ?_
  refine d_app (s_append 25 rfl rfl rfl rfl rfl (by simp; omega) rfl rfl (by (try simp only [List.length_cons, List.length_nil]); omega)) rfl ?_
  refine d_val (s_assign rfl rfl) rfl ?_
  refine d_nil rfl ?_
  refine vc_region mixed ?_
  refine g_val (s_move rfl rfl) rfl ?_
  refine g_val (s_add rfl rfl rfl (by simp only [inI, kMin, kMax]; omega)) rfl ?_
  refine g_val (s_assign rfl rfl) rfl ?_
  refine g_nil ?_
  exact ⟨by omega, trivial, (leE_gen [] [(3, 25)] (by repeat (first | exact letm_nil _ _ | refine letm_cons rfl ?_ ?_ | exact LeV.tt rfl | exact .eq (okV_nil _) rfl | exact LeV.tt (by rw [take_snoc hx, List.map_append, List.take_of_length_le (by simp; omega)]; rfl) | exact .eq (okV_nil _) (by rw [take_snoc hx, List.map_append, List.take_of_length_le (by simp; omega)]; rfl))) (by repeat (first | exact lehp_nil _ _ | refine lehp_cons rfl ?_ ?_ | exact leB_row (by first | rfl | (rw [take_snoc hx, List.map_append, List.take_of_length_le (by simp; omega)]; rfl)) | exact leB_obj (by rw [take_snoc hx, List.map_append, List.take_of_length_le (by simp; omega)]; rfl) | exact leB_nest (by first | rfl | (rw [take_snoc hx, List.map_append, List.take_of_length_le (by simp; omega)]; rfl)) | refine leB_box ?_ | exact leL_nil | refine leL_cons ?_ ?_ | exact LeV.tt rfl | exact .eq (okV_nil _) rfl | exact LeV.tt (by rw [take_snoc hx, List.map_append, List.take_of_length_le (by simp; omega)]; rfl) | exact .eq (okV_nil _) (by rw [take_snoc hx, List.map_append, List.take_of_length_le (by simp; omega)]; rfl))) trivial rfl)⟩
  replace hc8 := of_decide_eq_false hc8
  simp only [List.length_map, Int.not_lt] at hc8
  refine vc_exit ?_
  obtain rfl : i = l.length := by omega
  refine vc_rseq mixed ?_
  refine g_val (s_move rfl rfl) rfl ?_
  refine g_val (s_assign rfl rfl) rfl ?_
  refine g_nil ?_
  exact vc_ret (ret_le [(3, _)] _ (.cons (.tmp rfl) .nil) ⟨rfl, trivial⟩ (.eq (by simp [single, AV.okV, okR, lkB]) (by simp [single, AV.view, viewR, lkB, AV.ren, itemsT, take_map_len])) rfl)

end Go.Eng

set_option maxHeartbeats 1000000
namespace Go.Eng
open Go.Proofs

theorem set_same {α : Type} {l : List α} {i : Nat} {x : α} (h : l[i]? = some x) : l.set i x = l := by
  apply List.ext_getElem?
  intro j
  rw [List.getElem?_set]
  split
  rename_i e; subst e
  obtain ⟨h1, h2⟩ := List.getElem?_eq_some_iff.1 h
  rw [if_pos h1, h]
  rfl

theorem c_volume_items (l : List Item) : Con Tryz.prog 72 [.t (itemsT l)] [] (.t (itemsT l)) [] := by
  refine con_intro [] [] Tryz.func72 rfl Tryz.ntmps72 Tryz.results72 rfl rfl ?_
  intro E
  refine vc_okT (i := 0) rfl fun ok0 => ?_
  have hla := ok0.len
  rw [List.length_map] at hla
  refine vc_rseq mixed ?_
  refine g_val (s_assign rfl rfl) rfl ?_
  refine g_nil ?_
  refine vc_rseq mixed ?_
  refine g_val (s_move rfl rfl) rfl ?_
  refine g_new (s_callH [] [(0, 6)] (c_Clone_Item_own l) (evArgs_cons rfl evArgs_nil) trivial rfl (okVL_nil _) rfl rfl rfl) rfl ?_
  refine g_val (s_assign rfl rfl) rfl ?_
  refine g_nil ?_
  refine vc_seq ?_
  refine vc_rseq mixed ?_
  refine g_val (s_move rfl rfl) rfl ?_
  refine g_val (s_lenR rfl rfl (by first | omega | (simp; done) | (simp; omega)) rfl) rfl ?_
  refine g_val (s_move rfl rfl) rfl ?_
  refine g_nil ?_
  refine vc_block ?_
  refine vc_up l.length (fun i => ⟨[(3, .rows 6 2 0 l.length), (8, AI .i64 l.length), (9, AI .i64 i)], [(6, some (.row 2 32 (l.map itemC)))], [6]⟩) (fun i => True) (leE_same (by repeat (first | exact letm_nil _ _ | refine letm_cons rfl ?_ ?_ | exact .same _ | exact .nl (by decide) (by decide) | exact .nn | exact .id' rfl | exact .id' (by simp; done))) (by repeat (first | exact lehp_nil _ _ | refine lehp_cons rfl ?_ ?_ | exact leB_same _ | exact leB_row (by first | rfl | (simp; done)) | exact leB_obj (by simp; done) | exact leB_nest (by first | rfl | (simp; done)) | refine leB_box ?_ | exact leL_nil | refine leL_cons ?_ ?_ | exact .same _ | exact .nl (by decide) (by decide) | exact .nn | exact .id' rfl | exact .id' (by simp; done))) rfl) trivial (fun i hi _ => ?_)
  refine vc_rseq mixed ?_
  refine g_val (s_lss rfl rfl rfl) rfl ?_
  refine g_nil ?_
  refine vc_seq ?_
  refine vc_cond rfl (fun hc10 => ?_) (fun hc10 => ?_)
  replace hc10 := of_decide_eq_true hc10
  obtain ⟨x, hx⟩ := get_of_lt (l := l) (i := i) (by omega)
  refine vc_skip ?_
  refine vc_seq ?_
  refine vc_block ?_
  refine vc_rseq mixed ?_
  refine g_val (s_move rfl rfl) rfl ?_
  refine g_val (s_assign rfl rfl) rfl ?_
  refine g_nil ?_
  refine vc_region mixed ?_
  refine g_val (s_move rfl rfl) rfl ?_
  refine g_val (s_move rfl rfl) rfl ?_
  refine g_val (s_move rfl rfl) rfl ?_
  refine g_val (s_move rfl rfl) rfl ?_
  refine g_val (s_indexR rfl rfl rfl (by omega) (by first | omega | (simp only [List.length_map]; omega))) rfl ?_
  refine g_val (s_fieldR rfl rfl rfl rfl) rfl ?_
  refine g_val (s_loadR rfl rfl (by rw [Nat.zero_add]; exact idx_map hx) rfl rfl) rfl ?_
  refine g_val (s_call [] (c_Clone_byte x.data) (evArgs_cons rfl evArgs_nil) trivial rfl (okVL_nil _) rfl (.inl rfl) rfl) rfl ?_
  refine g_val (s_indexR rfl rfl rfl (by omega) (by first | omega | (simp only [List.length_map]; omega))) rfl ?_
  refine g_val (s_fieldR rfl rfl rfl rfl) rfl ?_
  refine g_sto (s_storeR rfl rfl rfl rfl rfl (by rw [Nat.zero_add]; exact idx_map hx) rfl) rfl ?_
  refine g_nil ?_
  refine vc_region mixed ?_
  refine g_val (s_add rfl rfl rfl (by simp only [inI, kMin, kMax]; omega)) rfl ?_
  refine g_val (s_move rfl rfl) rfl ?_
  refine g_nil ?_
  exact ⟨by omega, trivial, (leE_same (by repeat (first | exact letm_nil _ _ | refine letm_cons rfl ?_ ?_ | exact .same _ | exact .nl (by decide) (by decide) | exact .nn | exact .id' rfl | exact .id' (by rw [Nat.zero_add]; exact set_same (idx_map hx)))) (by repeat (first | exact lehp_nil _ _ | refine lehp_cons rfl ?_ ?_ | exact leB_same _ | exact leB_row (by first | rfl | (rw [Nat.zero_add]; exact set_same (idx_map hx))) | exact leB_obj (by rw [Nat.zero_add]; exact set_same (idx_map hx)) | exact leB_nest (by first | rfl | (rw [Nat.zero_add]; exact set_same (idx_map hx))) | refine leB_box ?_ | exact leL_nil | refine leL_cons ?_ ?_ | exact .same _ | exact .nl (by decide) (by decide) | exact .nn | exact .id' rfl | exact .id' (by rw [Nat.zero_add]; exact set_same (idx_map hx)))) rfl)⟩
  replace hc10 := of_decide_eq_false hc10
  simp only [Int.not_lt] at hc10
  refine vc_exit ?_
  refine vc_rseq mixed ?_
  refine g_val (s_move rfl rfl) rfl ?_
  refine g_val (s_assign rfl rfl) rfl ?_
  refine g_nil ?_
  exact vc_ret (ret_le [(6, _)] _ (.cons (.tmp rfl) .nil) ⟨rfl, trivial⟩ (.eq (by simp [single, AV.okV, okR, lkB]) (by simp [single, AV.view, viewR, lkB, AV.ren, itemsT, take_map_len])) rfl)

def dataB (k : Int) (i : Nat) : Int := IntKind.u8.wrap (k + IntKind.u8.wrap (IntKind.u8.wrap i * 7))
def dataF (size k : Int) : List Int := (List.range size.toNat).map (dataB k)

theorem c_mementoseat_Data (size k : Int) (hs : size ≤ 1000000) : Con Tryz.prog 86 [AI .i64 size, AI .u8 k] [] (.t (bytesT (dataF size k))) [] := by
  refine con_intro [] [] Tryz.func86 rfl Tryz.ntmps86 Tryz.results86 rfl rfl ?_
  intro E
  refine vc_rseq mixed ?_
  refine g_val (s_assign rfl rfl) rfl ?_
  refine g_nil ?_
  refine vc_rseq mixed ?_
  refine g_val (s_assign rfl rfl) rfl ?_
  refine g_nil ?_
  refine vc_seq ?_
  refine vc_ownnil (i := 5) 5 1 1 rfl rfl rfl ?_
  refine vc_rseq mixed ?_
  refine g_val (s_assign rfl rfl) rfl ?_
  refine g_nil ?_
  refine vc_block ?_
  refine vc_up size.toNat (fun i => ⟨[(0, AI .i64 size), (1, AI .u8 k), (5, .rows 5 1 0 i), (6, AI .i64 i)], [(5, some (.row 1 1 (((List.range i).map (dataB k)).map byteC)))], [5]⟩) (fun i => True) (leE_same (by repeat (first | exact letm_nil _ _ | refine letm_cons rfl ?_ ?_ | exact .same _ | exact .nl (by decide) (by decide) | exact .nn | exact .id' rfl | exact .id' (by simp; done))) (by repeat (first | exact lehp_nil _ _ | refine lehp_cons rfl ?_ ?_ | exact leB_same _ | exact leB_row (by first | rfl | (simp; done)) | exact leB_obj (by simp; done) | exact leB_nest (by first | rfl | (simp; done)) | refine leB_box ?_ | exact leL_nil | refine leL_cons ?_ ?_ | exact .same _ | exact .nl (by decide) (by decide) | exact .nn | exact .id' rfl | exact .id' (by simp; done))) rfl) trivial (fun i hi _ => ?_)
  refine vc_seq ?_
  refine vc_rseq mixed ?_
  refine g_val (s_move rfl rfl) rfl ?_
  refine g_val (s_move rfl rfl) rfl ?_
  refine g_val (s_lss rfl rfl rfl) rfl ?_
  refine g_nil ?_
  refine vc_cond rfl (fun hc9 => ?_) (fun hc9 => ?_)
  replace hc9 := of_decide_eq_true hc9
  refine vc_skip ?_
  refine vc_seq ?_
  refine vc_block ?_
  refine vc_region mixed ?_
  refine g_val (s_move rfl rfl) rfl ?_
  refine g_val (s_move rfl rfl) rfl ?_
  refine g_val (s_move rfl rfl) rfl ?_
  refine g_val (s_convW rfl rfl) rfl ?_
  refine g_val (s_mulW rfl rfl rfl) rfl ?_
  refine g_val (s_addW rfl rfl rfl) rfl ?_
  refine g_fz ((s_buildSlice 18 (evArgs_cons rfl evArgs_nil) rfl rfl rfl rfl).fzE rfl) rfl ?_
  refine g_app (s_append 19 rfl rfl rfl rfl rfl (by simp) rfl rfl (by (try simp only [List.length_cons, List.length_nil]); omega)) rfl ?_
  refine g_val (s_assign rfl rfl) rfl ?_
  refine g_nil ?_
  refine vc_region mixed ?_
  refine g_val (s_move rfl rfl) rfl ?_
  refine g_val (s_add rfl rfl rfl (by simp only [inI, kMin, kMax]; omega)) rfl ?_
  refine g_val (s_assign rfl rfl) rfl ?_
  refine g_nil ?_
  exact ⟨by omega, trivial, (leE_gen [] [(5, 19)] (by repeat (first | exact letm_nil _ _ | refine letm_cons rfl ?_ ?_ | exact LeV.tt rfl | exact .eq (okV_nil _) rfl | exact LeV.tt (by rw [List.range_succ, List.map_append, List.map_append, List.take_of_length_le (by simp)]; rfl) | exact .eq (okV_nil _) (by rw [List.range_succ, List.map_append, List.map_append, List.take_of_length_le (by simp)]; rfl))) (by repeat (first | exact lehp_nil _ _ | refine lehp_cons rfl ?_ ?_ | exact leB_row (by first | rfl | (rw [List.range_succ, List.map_append, List.map_append, List.take_of_length_le (by simp)]; rfl)) | exact leB_obj (by rw [List.range_succ, List.map_append, List.map_append, List.take_of_length_le (by simp)]; rfl) | exact leB_nest (by first | rfl | (rw [List.range_succ, List.map_append, List.map_append, List.take_of_length_le (by simp)]; rfl)) | refine leB_box ?_ | exact leL_nil | refine leL_cons ?_ ?_ | exact LeV.tt rfl | exact .eq (okV_nil _) rfl | exact LeV.tt (by rw [List.range_succ, List.map_append, List.map_append, List.take_of_length_le (by simp)]; rfl) | exact .eq (okV_nil _) (by rw [List.range_succ, List.map_append, List.map_append, List.take_of_length_le (by simp)]; rfl))) trivial rfl)⟩
  replace hc9 := of_decide_eq_false hc9
  simp only [Int.not_lt] at hc9
  refine vc_exit ?_
  obtain rfl : i = size.toNat := by omega
  refine vc_rseq mixed ?_
  refine g_val (s_move rfl rfl) rfl ?_
  refine g_val (s_assign rfl rfl) rfl ?_
  refine g_nil ?_
  exact vc_ret (ret_le [(5, _)] _ (.cons (.tmp rfl) .nil) ⟨rfl, trivial⟩ (.eq (by simp [single, AV.okV, okR, lkB]) (by simp [single, AV.view, viewR, lkB, AV.ren, bytesT, dataF]; rw [List.take_of_length_le (by simp)])) rfl)

def writeV (v : Volume) (l : List Item) : Volume := { v with writes := v.writes ++ [⟨v.writes.length + 1, l⟩] }

theorem c_mementoref16_write (v : Volume) (l : List Item) (hw : (v.writes.length + 1) * 32 ≤ 140737488355328) : Con Tryz.prog 108 [sC (volC v), .t (itemsT l)] [] (sC (volC (writeV v l))) [] := by
  refine con_intro [] [] Tryz.func108 rfl Tryz.ntmps108 Tryz.results108 rfl rfl ?_
  intro E
  refine vc_rseq mixed ?_
  refine g_new (s_box 2 rfl rfl rfl rfl) rfl ?_
  refine g_new (s_alloc 4 rfl rfl) rfl ?_
  refine g_nil ?_
  refine vc_rseq mixed ?_
  refine d_val (s_field rfl rfl rfl rfl) rfl ?_
  refine d_val (s_load rfl rfl rfl rfl) rfl ?_
  refine d_new (s_appendN 7 rfl rfl rfl rfl (by rw [List.length_map]; omega)) rfl ?_
  refine d_val (s_loadA rfl rfl rfl rfl rfl) rfl ?_
  refine d_val (s_call [] (c_mementoref16_Len v) (evArgs_cons rfl evArgs_nil) trivial rfl (okVL_nil _) rfl (.inl rfl) rfl) rfl ?_
  refine d_val (s_add rfl rfl rfl (by simp only [inI, kMin, kMax]; omega)) rfl ?_
  refine d_val (s_move rfl rfl) rfl ?_
  refine d_val (s_call [] (c_mementoref16_own l) (evArgs_cons rfl evArgs_nil) trivial rfl (okVL_nil _) rfl (.inl rfl) rfl) rfl ?_
  refine d_val (s_build (evArgs_cons rfl (evArgs_cons rfl evArgs_nil)) rfl rfl rfl) rfl ?_
  refine d_fz ((s_buildSlice 14 (evArgs_cons rfl evArgs_nil) rfl rfl rfl rfl).fzE rfl) rfl ?_
  refine d_app (s_append 15 rfl rfl rfl rfl rfl (by first | exact Nat.le_refl _ | (simp; done) | (simp; omega)) rfl rfl (by (try simp only [List.length_cons, List.length_nil, List.length_map]); omega)) rfl ?_
  refine d_val (s_field rfl rfl rfl rfl) rfl ?_
  refine d_sto (s_store rfl rfl rfl rfl rfl rfl) rfl ?_
  refine d_nil rfl ?_
  refine vc_rseq mixed ?_
  refine g_val (s_loadA rfl rfl rfl rfl rfl) rfl ?_
  refine g_sto (s_store rfl rfl rfl rfl rfl rfl) rfl ?_
  refine g_nil ?_
  exact vc_ret (ret_le [(15, _)] _ (.cons (.agg rfl rfl rfl rfl) .nil) ⟨rfl, trivial⟩ (by repeat (first | exact leL_nil | refine leL_cons ?_ ?_ | exact LeV.tt rfl | exact .nl (by decide) (by decide) | exact .nn | refine LeV.tupL ?_ | refine LeV.aggL ?_ | exact .eq (by first | exact trivial | (simp [AV.okV, okR, lkB]; done) | (simp [AV.okV, okR, lkB]; omega)) (by first | rfl | (simp [AV.view, viewR, lkB, AV.ren, List.take_of_length_le]; done) | (simp [AV.view, viewR, lkB, AV.ren, List.take_of_length_le]; simp [writesT, writeV, writeC, i64]; done)))) rfl)

end Go.Eng

set_option maxHeartbeats 1000000
namespace Go.Eng
open Go.Proofs

def volZ : Volume := ⟨0, 0, 0, 0, [], 0, 0, false, 0, [], []⟩
def volN (c : VolCmd) : Volume := ⟨c.vol, c.blocks, c.size, c.per, c.place, c.total, 0, decide (0 < c.total), 0, [], []⟩
def cmdOK (c : VolCmd) : Prop := shapeOK c.vol c.blocks c.size c.per c.place c.total
instance (c : VolCmd) : Decidable (cmdOK c) := by unfold cmdOK; infer_instance

theorem c_mementoref16_New_ok (c : VolCmd) (h0 : cmdOK c) : Con Tryz.prog 32 [sC (cmdC c)] [] (.tup [sC (volC (volN c)), AI .i64 0]) [] := by
  refine con_intro [] [] Tryz.func32 rfl Tryz.ntmps32 Tryz.results32 rfl rfl ?_
  intro E
  refine vc_okA (i := 0) (j := 5) rfl rfl fun okp => ?_
  have hlp := okp.len
  rw [List.length_map] at hlp
  refine vc_rseq mixed ?_
  refine g_new (s_box 1 rfl rfl rfl rfl) rfl ?_
  refine g_new (s_alloc 2 rfl rfl) rfl ?_
  refine g_val (s_assign rfl rfl) rfl ?_
  refine g_nil ?_
  refine vc_seq ?_
  refine vc_rseq mixed ?_
  refine g_val (s_loadA rfl rfl rfl rfl rfl) rfl ?_
  refine g_val (s_call [] (c_mementoref16_shape c) (evArgs_cons rfl evArgs_nil) trivial rfl (okVL_nil _) rfl (.inl rfl) rfl) rfl ?_
  refine g_val (s_not rfl rfl) rfl ?_
  refine g_nil ?_
  refine vc_cond rfl (fun h => by simp [show shapeOK c.vol c.blocks c.size c.per c.place c.total from h0] at h) (fun _ => ?_)
  refine vc_skip ?_
  refine vc_rseq mixed ?_
  refine d_val (s_field rfl rfl rfl rfl) rfl ?_
  refine d_val (s_load rfl rfl rfl rfl) rfl ?_
  refine d_val (s_field rfl rfl rfl rfl) rfl ?_
  refine d_val (s_load rfl rfl rfl rfl) rfl ?_
  refine d_val (s_field rfl rfl rfl rfl) rfl ?_
  refine d_val (s_load rfl rfl rfl rfl) rfl ?_
  refine d_val (s_field rfl rfl rfl rfl) rfl ?_
  refine d_val (s_load rfl rfl rfl rfl) rfl ?_
  refine d_val (s_field rfl rfl rfl rfl) rfl ?_
  refine d_val (s_load rfl rfl rfl rfl) rfl ?_
  refine d_fz ((s_appendN 18 rfl rfl rfl rfl (by rw [List.length_map]; omega)).fzE rfl) rfl ?_
  refine d_val (s_field rfl rfl rfl rfl) rfl ?_
  refine d_val (s_load rfl rfl rfl rfl) rfl ?_
  refine d_val (s_field rfl rfl rfl rfl) rfl ?_
  refine d_val (s_load rfl rfl rfl rfl) rfl ?_
  refine d_val (s_gtr rfl rfl rfl) rfl ?_
  refine d_val (s_build (evArgs_cons rfl (evArgs_cons rfl (evArgs_cons rfl (evArgs_cons rfl (evArgs_cons rfl (evArgs_cons rfl (evArgs_cons rfl evArgs_nil))))))) rfl rfl rfl) rfl ?_
  refine d_sto (s_store rfl rfl rfl rfl rfl rfl) rfl ?_
  refine d_val (s_assign rfl rfl) rfl ?_
  refine d_nil rfl ?_
  exact vc_ret (ret_le [] _ (.cons (.agg rfl rfl rfl rfl) (.cons (.tmp rfl) .nil)) trivial (by repeat (first | exact leL_nil | refine leL_cons ?_ ?_ | exact LeV.tt rfl | exact .nl (by decide) (by decide) | exact .nn | refine LeV.tupL ?_ | refine LeV.aggL ?_ | exact .eq (by first | exact trivial | (simp [AV.okV, okR, lkB]; done) | (simp [AV.okV, okR, lkB]; omega)) (by first | rfl | (simp [AV.view, viewR, lkB, AV.ren, List.take_of_length_le]; done) | (simp [AV.view, viewR, lkB, AV.ren, List.take_of_length_le]; done)))) rfl)
theorem c_mementoref16_New_err (c : VolCmd) (h0 : ¬ cmdOK c) : Con Tryz.prog 32 [sC (cmdC c)] [] (.tup [sC (volC volZ), AI .i64 23]) [] := by
  refine con_intro [] [] Tryz.func32 rfl Tryz.ntmps32 Tryz.results32 rfl rfl ?_
  intro E
  refine vc_rseq mixed ?_
  refine g_new (s_box 1 rfl rfl rfl rfl) rfl ?_
  refine g_new (s_alloc 2 rfl rfl) rfl ?_
  refine g_val (s_assign rfl rfl) rfl ?_
  refine g_nil ?_
  refine vc_seq ?_
  refine vc_rseq mixed ?_
  refine g_val (s_loadA rfl rfl rfl rfl rfl) rfl ?_
  refine g_val (s_call [] (c_mementoref16_shape c) (evArgs_cons rfl evArgs_nil) trivial rfl (okVL_nil _) rfl (.inl rfl) rfl) rfl ?_
  refine g_val (s_not rfl rfl) rfl ?_
  refine g_nil ?_
  refine vc_cond rfl (fun _ => ?_) (fun h => by simp [show ¬ shapeOK c.vol c.blocks c.size c.per c.place c.total from h0] at h)
  refine vc_rseq mixed ?_
  refine g_val (s_build evArgs_nil rfl rfl rfl) rfl ?_
  refine g_sto (s_store rfl rfl rfl rfl rfl rfl) rfl ?_
  refine g_val (s_assign rfl rfl) rfl ?_
  refine g_nil ?_
  exact vc_ret (ret_le [] _ (.cons (.agg rfl rfl rfl rfl) (.cons (.tmp rfl) .nil)) trivial (by repeat (first | exact leL_nil | refine leL_cons ?_ ?_ | exact LeV.tt rfl | exact .nl (by decide) (by decide) | exact .nn | refine LeV.tupL ?_ | refine LeV.aggL ?_ | exact .eq (by first | exact trivial | (simp [AV.okV, okR, lkB]; done) | (simp [AV.okV, okR, lkB]; omega)) (by first | rfl | (simp [AV.view, viewR, lkB, AV.ren, List.take_of_length_le]; done) | (simp [AV.view, viewR, lkB, AV.ren, List.take_of_length_le]; done)))) rfl)

end Go.Eng

set_option maxHeartbeats 2000000
namespace Go.Eng
open Go.Proofs

def insPin (l : List Int) (x : Int) : List Int := l.takeWhile (fun z => decide (z ≤ x)) ++ [x] ++ l.dropWhile (fun z => decide (z ≤ x))

theorem insPin_eq : ∀ {l : List Int} {x : Int} {k : Nat}, (∀ j : Nat, j < k → ∀ z, l[j]? = some z → z ≤ x) → (∀ z, l[k]? = some z → x < z) → k ≤ l.length → insPin l x = l.take k ++ [x] ++ l.drop k
  | [], x, k, h1, h2, h3 => by
    have : k = 0 := by simpa using h3
    subst this
    rfl
  | a :: l, x, 0, h1, h2, h3 => by
    have := h2 a rfl
    simp [insPin, List.takeWhile_cons, List.dropWhile_cons, show ¬ a ≤ x by omega]
  | a :: l, x, k + 1, h1, h2, h3 => by
    have ha := h1 0 (by omega) a rfl
    have ih := insPin_eq (l := l) (x := x) (k := k) (fun j hj z hz => h1 (j + 1) (by omega) z (by simpa using hz)) (fun z hz => h2 z (by simpa using hz)) (by simpa using h3)
    simp only [insPin] at ih ⊢
    simp only [List.takeWhile_cons, List.dropWhile_cons, ha, decide_true, if_true, List.take_succ_cons, List.drop_succ_cons, List.cons_append]
    rw [ih]

theorem erase_eq : ∀ {l : List Int} {x : Int} {k : Nat}, (∀ j : Nat, j < k → ∀ z, l[j]? = some z → z ≠ x) → l[k]? = some x → l.erase x = l.take k ++ l.drop (k + 1)
  | [], x, k, h1, h2 => by simp at h2
  | a :: l, x, 0, h1, h2 => by
    simp at h2
    subst h2
    simp
  | a :: l, x, k + 1, h1, h2 => by
    have ha := h1 0 (by omega) a rfl
    have ih := erase_eq (l := l) (x := x) (k := k) (fun j hj z hz => h1 (j + 1) (by omega) z (by simpa using hz)) (by simpa using h2)
    rw [List.erase_cons, if_neg (by simpa using ha), ih]
    simp

def doneF (v : Volume) (c : VolCmd) : Volume × Int :=
  if (c.kind = 2 ∨ c.kind = 3 ∨ c.kind = 4 ∨ c.kind = 5) ∧ v.hidden = true then (v, 28)
  else if c.kind = 2 then (if itemsOK v.blocks v.size c.items then (writeV v c.items, 0) else (v, 23))
  else if c.kind = 3 then (if c.time < v.floor then (v, 30) else if lowV v < c.time then (v, 31) else ({ v with floor := c.time }, 0))
  else if c.kind = 4 then (if c.time < v.floor then (v, 30) else if (v.writes.length : Int) < c.time then (v, 31) else ({ v with pins := insPin v.pins c.time }, 0))
  else if c.kind = 5 then (if c.time ∈ v.pins then ({ v with pins := v.pins.erase c.time }, 0) else (v, 28))
  else if c.kind = 6 then (if v.hidden = false then (v, 33) else if 0 ≤ c.index ∧ c.index < v.next then (v, 0) else if c.index ≠ v.next ∨ v.next = v.total then (v, 33) else if itemsOK v.blocks v.size c.items then ({ writeV v c.items with next := v.next + 1 }, 0) else (v, 23))
  else if c.kind = 7 then (if v.hidden = false ∨ v.next ≠ v.total then (v, 33) else ({ v with hidden := false, floor := v.writes.length }, 0))
  else if c.kind = 8 then (v, 0) else (v, 23)

/-- What a volume may hold, that all goes in. -/
structure volSmall (v : Volume) : Prop where
  writes : v.writes.length ≤ 1000000
  pins : v.pins.length ≤ 1000000
  next : 0 ≤ v.next ∧ v.next ≤ 1099511627776

theorem c_mementoref16_done (v : Volume) (c : VolCmd) (hv : volSmall v) : Con Tryz.prog 90 [sC (volC v), sC (cmdC c)] [] (.tup [sC (volC (doneF v c).1), AI .i64 (doneF v c).2]) [] := by
  refine con_intro [] [] Tryz.func90 rfl Tryz.ntmps90 Tryz.results90 rfl rfl ?_
  intro E
  have hv1 := hv.writes
  have hv2 := hv.pins
  have hv3 := hv.next
  refine vc_rseq mixed ?_
  refine g_new (s_box 2 rfl rfl rfl rfl) rfl ?_
  refine g_new (s_box 3 rfl rfl rfl rfl) rfl ?_
  refine g_new (s_alloc 4 rfl rfl) rfl ?_
  refine g_val (s_assign rfl rfl) rfl ?_
  refine g_nil ?_
  refine vc_seq ?_
  refine vc_rseq mixed ?_
  refine g_val (s_field rfl rfl rfl rfl) rfl ?_
  refine g_val (s_load rfl rfl rfl rfl) rfl ?_
  refine g_nil ?_
  refine vc_block ?_
  refine vc_seq ?_
  refine vc_rseq mixed ?_
  refine g_val (s_eql rfl rfl rfl) rfl ?_
  refine g_val (s_assign rfl rfl) rfl ?_
  refine g_nil ?_
  refine vc_cond rfl (fun hc10 => ?_) (fun hc10 => ?_)
  replace hc10 := of_decide_eq_true hc10
  refine vc_skip ?_
  refine vc_cond rfl (fun _ => ?_) (fun h => by have h := of_decide_eq_false h; omega)
  refine vc_rseq mixed ?_
  refine g_val (s_field rfl rfl rfl rfl) rfl ?_
  refine g_val (s_load rfl rfl rfl rfl) rfl ?_
  refine g_nil ?_
  refine vc_cond rfl (fun hc16 => ?_) (fun hc16 => ?_)
  refine vc_rseq mixed ?_
  refine g_val (s_loadA rfl rfl rfl rfl rfl) rfl ?_
  refine g_sto (s_store rfl rfl rfl rfl rfl rfl) rfl ?_
  refine g_val (s_assign rfl rfl) rfl ?_
  refine g_nil ?_
  rw [show doneF v c = (v, 28) from by unfold doneF; (repeat' split) <;> first | rfl | (exfalso; omega) | (exfalso; simp_all; done) | (exfalso; simp_all; omega)]; exact vc_ret (ret_le [] _ (.cons (.agg rfl rfl rfl rfl) (.cons (.tmp rfl) .nil)) trivial (by repeat (first | exact leL_nil | refine leL_cons ?_ ?_ | exact LeV.tt rfl | exact .nl (by decide) (by decide) | exact .nn | refine LeV.tupL ?_ | refine LeV.aggL ?_ | exact .eq (by first | exact trivial | (simp [AV.okV, okR, lkB]; done) | (simp [AV.okV, okR, lkB]; omega)) (by first | rfl | (simp [AV.view, viewR, lkB, AV.ren, List.take_of_length_le]; done) | (simp [AV.view, viewR, lkB, AV.ren, List.take_of_length_le]; done)))) rfl)
  refine vc_skip ?_
  refine vc_seq ?_
  refine vc_rseq mixed ?_
  refine g_val (s_field rfl rfl rfl rfl) rfl ?_
  refine g_val (s_load rfl rfl rfl rfl) rfl ?_
  refine g_nil ?_
  refine vc_block ?_
  refine vc_rseq mixed ?_
  refine g_val (s_eql rfl rfl rfl) rfl ?_
  refine g_val (s_assign rfl rfl) rfl ?_
  refine g_nil ?_
  refine vc_cond rfl (fun _ => ?_) (fun h => by have h := of_decide_eq_false h; omega)
  refine vc_seq ?_
  refine vc_rseq mixed ?_
  refine g_val (s_field rfl rfl rfl rfl) rfl ?_
  refine g_val (s_load rfl rfl rfl rfl) rfl ?_
  refine g_val (s_field rfl rfl rfl rfl) rfl ?_
  refine g_val (s_load rfl rfl rfl rfl) rfl ?_
  refine g_val (s_field rfl rfl rfl rfl) rfl ?_
  refine g_val (s_load rfl rfl rfl rfl) rfl ?_
  refine g_val (s_call [] (c_mementoref13_ItemsRight v.blocks v.size c.items) (evArgs_cons rfl (evArgs_cons rfl (evArgs_cons rfl evArgs_nil))) trivial rfl (okVL_nil _) rfl (.inl rfl) rfl) rfl ?_
  refine g_val (s_not rfl rfl) rfl ?_
  refine g_nil ?_
  refine vc_cond rfl (fun hc30 => ?_) (fun hc30 => ?_)
  simp only [Bool.not_eq_true', decide_eq_false_iff_not] at hc30
  refine vc_rseq mixed ?_
  refine g_val (s_loadA rfl rfl rfl rfl rfl) rfl ?_
  refine g_sto (s_store rfl rfl rfl rfl rfl rfl) rfl ?_
  refine g_val (s_assign rfl rfl) rfl ?_
  refine g_nil ?_
  rw [show doneF v c = (v, 23) from by unfold doneF; (repeat' split) <;> first | rfl | (exfalso; omega) | (exfalso; simp_all; done) | (exfalso; simp_all; omega)]; exact vc_ret (ret_le [] _ (.cons (.agg rfl rfl rfl rfl) (.cons (.tmp rfl) .nil)) trivial (by repeat (first | exact leL_nil | refine leL_cons ?_ ?_ | exact LeV.tt rfl | exact .nl (by decide) (by decide) | exact .nn | refine LeV.tupL ?_ | refine LeV.aggL ?_ | exact .eq (by first | exact trivial | (simp [AV.okV, okR, lkB]; done) | (simp [AV.okV, okR, lkB]; omega)) (by first | rfl | (simp [AV.view, viewR, lkB, AV.ren, List.take_of_length_le]; done) | (simp [AV.view, viewR, lkB, AV.ren, List.take_of_length_le]; done)))) rfl)
  simp only [Bool.not_eq_false', decide_eq_true_eq] at hc30
  refine vc_skip ?_
  refine vc_rseq mixed ?_
  refine g_val (s_loadA rfl rfl rfl rfl rfl) rfl ?_
  refine g_val (s_field rfl rfl rfl rfl) rfl ?_
  refine g_val (s_load rfl rfl rfl rfl) rfl ?_
  refine g_val (s_call [] (c_mementoref16_write v c.items (by omega)) (evArgs_cons rfl (evArgs_cons rfl evArgs_nil)) trivial rfl (okVL_nil _) rfl (.inl rfl) rfl) rfl ?_
  refine g_sto (s_store rfl rfl rfl rfl rfl rfl) rfl ?_
  refine g_val (s_assign rfl rfl) rfl ?_
  refine g_nil ?_
  rw [show doneF v c = (writeV v c.items, 0) from by unfold doneF; (repeat' split) <;> first | rfl | (exfalso; omega) | (exfalso; simp_all; done) | (exfalso; simp_all; omega)]; exact vc_ret (ret_le [] _ (.cons (.agg rfl rfl rfl rfl) (.cons (.tmp rfl) .nil)) trivial (by repeat (first | exact leL_nil | refine leL_cons ?_ ?_ | exact LeV.tt rfl | exact .nl (by decide) (by decide) | exact .nn | refine LeV.tupL ?_ | refine LeV.aggL ?_ | exact .eq (by first | exact trivial | (simp [AV.okV, okR, lkB]; done) | (simp [AV.okV, okR, lkB]; omega)) (by first | rfl | (simp [AV.view, viewR, lkB, AV.ren, List.take_of_length_le]; done) | (simp [AV.view, viewR, lkB, AV.ren, List.take_of_length_le]; done)))) rfl)
  replace hc10 := of_decide_eq_false hc10
  refine vc_rseq mixed ?_
  refine g_val (s_eql rfl rfl rfl) rfl ?_
  refine g_val (s_assign rfl rfl) rfl ?_
  refine g_nil ?_
  refine vc_cond rfl (fun hc10 => ?_) (fun hc10 => ?_)
  replace hc10 := of_decide_eq_true hc10
  refine vc_skip ?_
  refine vc_cond rfl (fun _ => ?_) (fun h => by have h := of_decide_eq_false h; omega)
  refine vc_rseq mixed ?_
  refine g_val (s_field rfl rfl rfl rfl) rfl ?_
  refine g_val (s_load rfl rfl rfl rfl) rfl ?_
  refine g_nil ?_
  refine vc_cond rfl (fun hc16 => ?_) (fun hc16 => ?_)
  refine vc_rseq mixed ?_
  refine g_val (s_loadA rfl rfl rfl rfl rfl) rfl ?_
  refine g_sto (s_store rfl rfl rfl rfl rfl rfl) rfl ?_
  refine g_val (s_assign rfl rfl) rfl ?_
  refine g_nil ?_
  rw [show doneF v c = (v, 28) from by unfold doneF; (repeat' split) <;> first | rfl | (exfalso; omega) | (exfalso; simp_all; done) | (exfalso; simp_all; omega)]; exact vc_ret (ret_le [] _ (.cons (.agg rfl rfl rfl rfl) (.cons (.tmp rfl) .nil)) trivial (by repeat (first | exact leL_nil | refine leL_cons ?_ ?_ | exact LeV.tt rfl | exact .nl (by decide) (by decide) | exact .nn | refine LeV.tupL ?_ | refine LeV.aggL ?_ | exact .eq (by first | exact trivial | (simp [AV.okV, okR, lkB]; done) | (simp [AV.okV, okR, lkB]; omega)) (by first | rfl | (simp [AV.view, viewR, lkB, AV.ren, List.take_of_length_le]; done) | (simp [AV.view, viewR, lkB, AV.ren, List.take_of_length_le]; done)))) rfl)
  refine vc_skip ?_
  refine vc_seq ?_
  refine vc_rseq mixed ?_
  refine g_val (s_field rfl rfl rfl rfl) rfl ?_
  refine g_val (s_load rfl rfl rfl rfl) rfl ?_
  refine g_nil ?_
  refine vc_block ?_
  refine vc_rseq mixed ?_
  refine g_val (s_eql rfl rfl rfl) rfl ?_
  refine g_val (s_assign rfl rfl) rfl ?_
  refine g_nil ?_
  refine vc_cond rfl (fun h => by have h := of_decide_eq_true h; omega) (fun _ => ?_)
  refine vc_rseq mixed ?_
  refine g_val (s_eql rfl rfl rfl) rfl ?_
  refine g_val (s_assign rfl rfl) rfl ?_
  refine g_nil ?_
  refine vc_cond rfl (fun _ => ?_) (fun h => by have h := of_decide_eq_false h; omega)
  refine vc_seq ?_
  refine vc_rseq mixed ?_
  refine g_val (s_field rfl rfl rfl rfl) rfl ?_
  refine g_val (s_load rfl rfl rfl rfl) rfl ?_
  refine g_val (s_field rfl rfl rfl rfl) rfl ?_
  refine g_val (s_load rfl rfl rfl rfl) rfl ?_
  refine g_val (s_lss rfl rfl rfl) rfl ?_
  refine g_nil ?_
  refine vc_cond rfl (fun hc42 => ?_) (fun hc42 => ?_)
  replace hc42 := of_decide_eq_true hc42
  refine vc_rseq mixed ?_
  refine g_val (s_loadA rfl rfl rfl rfl rfl) rfl ?_
  refine g_sto (s_store rfl rfl rfl rfl rfl rfl) rfl ?_
  refine g_val (s_assign rfl rfl) rfl ?_
  refine g_nil ?_
  rw [show doneF v c = (v, 30) from by unfold doneF; (repeat' split) <;> first | rfl | (exfalso; omega) | (exfalso; simp_all; done) | (exfalso; simp_all; omega)]; exact vc_ret (ret_le [] _ (.cons (.agg rfl rfl rfl rfl) (.cons (.tmp rfl) .nil)) trivial (by repeat (first | exact leL_nil | refine leL_cons ?_ ?_ | exact LeV.tt rfl | exact .nl (by decide) (by decide) | exact .nn | refine LeV.tupL ?_ | refine LeV.aggL ?_ | exact .eq (by first | exact trivial | (simp [AV.okV, okR, lkB]; done) | (simp [AV.okV, okR, lkB]; omega)) (by first | rfl | (simp [AV.view, viewR, lkB, AV.ren, List.take_of_length_le]; done) | (simp [AV.view, viewR, lkB, AV.ren, List.take_of_length_le]; done)))) rfl)
  replace hc42 := of_decide_eq_false hc42
  simp only [Int.not_lt] at hc42
  refine vc_skip ?_
  refine vc_seq ?_
  refine vc_rseq mixed ?_
  refine d_val (s_field rfl rfl rfl rfl) rfl ?_
  refine d_val (s_load rfl rfl rfl rfl) rfl ?_
  refine d_val (s_loadA rfl rfl rfl rfl rfl) rfl ?_
  refine d_val (s_call [] (c_mementoref16_Low v) (evArgs_cons rfl evArgs_nil) trivial rfl (okVL_nil _) rfl (.inl rfl) rfl) rfl ?_
  refine d_val (s_gtr rfl rfl rfl) rfl ?_
  refine d_nil rfl ?_
  refine vc_cond rfl (fun hc48 => ?_) (fun hc48 => ?_)
  replace hc48 := of_decide_eq_true hc48
  refine vc_rseq mixed ?_
  refine g_val (s_loadA rfl rfl rfl rfl rfl) rfl ?_
  refine g_sto (s_store rfl rfl rfl rfl rfl rfl) rfl ?_
  refine g_val (s_assign rfl rfl) rfl ?_
  refine g_nil ?_
  rw [show doneF v c = (v, 31) from by unfold doneF; (repeat' split) <;> first | rfl | (exfalso; omega) | (exfalso; simp_all; done) | (exfalso; simp_all; omega)]; exact vc_ret (ret_le [] _ (.cons (.agg rfl rfl rfl rfl) (.cons (.tmp rfl) .nil)) trivial (by repeat (first | exact leL_nil | refine leL_cons ?_ ?_ | exact LeV.tt rfl | exact .nl (by decide) (by decide) | exact .nn | refine LeV.tupL ?_ | refine LeV.aggL ?_ | exact .eq (by first | exact trivial | (simp [AV.okV, okR, lkB]; done) | (simp [AV.okV, okR, lkB]; omega)) (by first | rfl | (simp [AV.view, viewR, lkB, AV.ren, List.take_of_length_le]; done) | (simp [AV.view, viewR, lkB, AV.ren, List.take_of_length_le]; done)))) rfl)
  replace hc48 := of_decide_eq_false hc48
  simp only [Int.not_lt] at hc48
  refine vc_skip ?_
  have e : doneF v c = ({ v with floor := c.time }, 0) := by unfold doneF; (repeat' split) <;> first | rfl | (exfalso; omega) | (exfalso; simp_all; done) | (exfalso; simp_all; omega)
  refine vc_region mixed ?_
  refine g_val (s_field rfl rfl rfl rfl) rfl ?_
  refine g_val (s_load rfl rfl rfl rfl) rfl ?_
  refine g_val (s_field rfl rfl rfl rfl) rfl ?_
  refine g_sto (s_store rfl rfl rfl rfl rfl rfl) rfl ?_
  refine g_nil ?_
  refine vc_rseq mixed ?_
  refine g_val (s_loadA rfl rfl rfl rfl rfl) rfl ?_
  refine g_sto (s_store rfl rfl rfl rfl rfl rfl) rfl ?_
  refine g_val (s_assign rfl rfl) rfl ?_
  refine g_nil ?_
  rw [e]; exact vc_ret (ret_le [] _ (.cons (.agg rfl rfl rfl rfl) (.cons (.tmp rfl) .nil)) trivial (by repeat (first | exact leL_nil | refine leL_cons ?_ ?_ | exact LeV.tt rfl | exact .nl (by decide) (by decide) | exact .nn | refine LeV.tupL ?_ | refine LeV.aggL ?_ | exact .eq (by first | exact trivial | (simp [AV.okV, okR, lkB]; done) | (simp [AV.okV, okR, lkB]; omega)) (by first | rfl | (simp [AV.view, viewR, lkB, AV.ren, List.take_of_length_le]; done) | (simp [AV.view, viewR, lkB, AV.ren, List.take_of_length_le]; first | (simp [i64, writeV]; done) | (simp [optN, intsT, he, List.map_take, List.map_drop, intC, i64, take_map_len]; done) | (simp [optN, intsT, he, List.map_take, List.map_drop, intC, i64, take_map_len]; exact List.take_of_length_le (by simp; omega)))))) rfl)
  replace hc10 := of_decide_eq_false hc10
  refine vc_rseq mixed ?_
  refine g_val (s_eql rfl rfl rfl) rfl ?_
  refine g_val (s_assign rfl rfl) rfl ?_
  refine g_nil ?_
  refine vc_cond rfl (fun hc10 => ?_) (fun hc10 => ?_)
  replace hc10 := of_decide_eq_true hc10
  refine vc_skip ?_
  refine vc_cond rfl (fun _ => ?_) (fun h => by have h := of_decide_eq_false h; omega)
  refine vc_rseq mixed ?_
  refine g_val (s_field rfl rfl rfl rfl) rfl ?_
  refine g_val (s_load rfl rfl rfl rfl) rfl ?_
  refine g_nil ?_
  refine vc_cond rfl (fun hc16 => ?_) (fun hc16 => ?_)
  refine vc_rseq mixed ?_
  refine g_val (s_loadA rfl rfl rfl rfl rfl) rfl ?_
  refine g_sto (s_store rfl rfl rfl rfl rfl rfl) rfl ?_
  refine g_val (s_assign rfl rfl) rfl ?_
  refine g_nil ?_
  rw [show doneF v c = (v, 28) from by unfold doneF; (repeat' split) <;> first | rfl | (exfalso; omega) | (exfalso; simp_all; done) | (exfalso; simp_all; omega)]; exact vc_ret (ret_le [] _ (.cons (.agg rfl rfl rfl rfl) (.cons (.tmp rfl) .nil)) trivial (by repeat (first | exact leL_nil | refine leL_cons ?_ ?_ | exact LeV.tt rfl | exact .nl (by decide) (by decide) | exact .nn | refine LeV.tupL ?_ | refine LeV.aggL ?_ | exact .eq (by first | exact trivial | (simp [AV.okV, okR, lkB]; done) | (simp [AV.okV, okR, lkB]; omega)) (by first | rfl | (simp [AV.view, viewR, lkB, AV.ren, List.take_of_length_le]; done) | (simp [AV.view, viewR, lkB, AV.ren, List.take_of_length_le]; done)))) rfl)
  refine vc_skip ?_
  refine vc_seq ?_
  refine vc_rseq mixed ?_
  refine g_val (s_field rfl rfl rfl rfl) rfl ?_
  refine g_val (s_load rfl rfl rfl rfl) rfl ?_
  refine g_nil ?_
  refine vc_block ?_
  refine vc_rseq mixed ?_
  refine g_val (s_eql rfl rfl rfl) rfl ?_
  refine g_val (s_assign rfl rfl) rfl ?_
  refine g_nil ?_
  refine vc_cond rfl (fun h => by have h := of_decide_eq_true h; omega) (fun _ => ?_)
  refine vc_rseq mixed ?_
  refine g_val (s_eql rfl rfl rfl) rfl ?_
  refine g_val (s_assign rfl rfl) rfl ?_
  refine g_nil ?_
  refine vc_cond rfl (fun h => by have h := of_decide_eq_true h; omega) (fun _ => ?_)
  refine vc_rseq mixed ?_
  refine g_val (s_eql rfl rfl rfl) rfl ?_
  refine g_val (s_assign rfl rfl) rfl ?_
  refine g_nil ?_
  refine vc_cond rfl (fun _ => ?_) (fun h => by have h := of_decide_eq_false h; omega)
  refine vc_seq ?_
  refine vc_rseq mixed ?_
  refine g_val (s_field rfl rfl rfl rfl) rfl ?_
  refine g_val (s_load rfl rfl rfl rfl) rfl ?_
  refine g_val (s_field rfl rfl rfl rfl) rfl ?_
  refine g_val (s_load rfl rfl rfl rfl) rfl ?_
  refine g_val (s_lss rfl rfl rfl) rfl ?_
  refine g_nil ?_
  refine vc_cond rfl (fun hc59 => ?_) (fun hc59 => ?_)
  replace hc59 := of_decide_eq_true hc59
  refine vc_rseq mixed ?_
  refine g_val (s_loadA rfl rfl rfl rfl rfl) rfl ?_
  refine g_sto (s_store rfl rfl rfl rfl rfl rfl) rfl ?_
  refine g_val (s_assign rfl rfl) rfl ?_
  refine g_nil ?_
  rw [show doneF v c = (v, 30) from by unfold doneF; (repeat' split) <;> first | rfl | (exfalso; omega) | (exfalso; simp_all; done) | (exfalso; simp_all; omega)]; exact vc_ret (ret_le [] _ (.cons (.agg rfl rfl rfl rfl) (.cons (.tmp rfl) .nil)) trivial (by repeat (first | exact leL_nil | refine leL_cons ?_ ?_ | exact LeV.tt rfl | exact .nl (by decide) (by decide) | exact .nn | refine LeV.tupL ?_ | refine LeV.aggL ?_ | exact .eq (by first | exact trivial | (simp [AV.okV, okR, lkB]; done) | (simp [AV.okV, okR, lkB]; omega)) (by first | rfl | (simp [AV.view, viewR, lkB, AV.ren, List.take_of_length_le]; done) | (simp [AV.view, viewR, lkB, AV.ren, List.take_of_length_le]; done)))) rfl)
  replace hc59 := of_decide_eq_false hc59
  simp only [Int.not_lt] at hc59
  refine vc_skip ?_
  refine vc_seq ?_
  refine vc_rseq mixed ?_
  refine d_val (s_field rfl rfl rfl rfl) rfl ?_
  refine d_val (s_load rfl rfl rfl rfl) rfl ?_
  refine d_val (s_loadA rfl rfl rfl rfl rfl) rfl ?_
  refine d_val (s_call [] (c_mementoref16_Len v) (evArgs_cons rfl evArgs_nil) trivial rfl (okVL_nil _) rfl (.inl rfl) rfl) rfl ?_
  refine d_val (s_gtr rfl rfl rfl) rfl ?_
  refine d_nil rfl ?_
  refine vc_cond rfl (fun hc65 => ?_) (fun hc65 => ?_)
  replace hc65 := of_decide_eq_true hc65
  refine vc_rseq mixed ?_
  refine g_val (s_loadA rfl rfl rfl rfl rfl) rfl ?_
  refine g_sto (s_store rfl rfl rfl rfl rfl rfl) rfl ?_
  refine g_val (s_assign rfl rfl) rfl ?_
  refine g_nil ?_
  rw [show doneF v c = (v, 31) from by unfold doneF; (repeat' split) <;> first | rfl | (exfalso; omega) | (exfalso; simp_all; done) | (exfalso; simp_all; omega)]; exact vc_ret (ret_le [] _ (.cons (.agg rfl rfl rfl rfl) (.cons (.tmp rfl) .nil)) trivial (by repeat (first | exact leL_nil | refine leL_cons ?_ ?_ | exact LeV.tt rfl | exact .nl (by decide) (by decide) | exact .nn | refine LeV.tupL ?_ | refine LeV.aggL ?_ | exact .eq (by first | exact trivial | (simp [AV.okV, okR, lkB]; done) | (simp [AV.okV, okR, lkB]; omega)) (by first | rfl | (simp [AV.view, viewR, lkB, AV.ren, List.take_of_length_le]; done) | (simp [AV.view, viewR, lkB, AV.ren, List.take_of_length_le]; done)))) rfl)
  replace hc65 := of_decide_eq_false hc65
  simp only [Int.not_lt] at hc65
  refine vc_skip ?_
  refine vc_rseq mixed ?_
  refine g_val (s_assign rfl rfl) rfl ?_
  refine g_nil ?_
  refine vc_seq ?_
  refine vc_block ?_
  refine vc_up v.pins.length (fun k => ⟨[(2, .ref 2 0), (3, .ref 3 0), (4, .ref 4 0), (6, AI .i64 k)], [(4, some (.box ((volC volZ).map .t))), (3, some (.box ((cmdC c).map .t))), (2, some (.box ((volC v).map .t)))], [4, 3, 2]⟩) (fun k => ∀ j : Nat, j < k → ∀ z, v.pins[j]? = some z → z ≤ c.time) (leE_same (by repeat (first | exact letm_nil _ _ | refine letm_cons rfl ?_ ?_ | exact .same _ | exact .nl (by decide) (by decide) | exact .nn | exact .id' rfl | exact .id' (by simp; done))) (by repeat (first | exact lehp_nil _ _ | refine lehp_cons rfl ?_ ?_ | exact leB_same _ | exact leB_row (by first | rfl | (simp; done)) | exact leB_obj (by simp; done) | exact leB_nest (by first | rfl | (simp; done)) | refine leB_box ?_ | exact leL_nil | refine leL_cons ?_ ?_ | exact .same _ | exact .nl (by decide) (by decide) | exact .nn | exact .id' rfl | exact .id' (by simp; done))) rfl) (fun j h => by omega) (fun k hk hJ => ?_)
  refine vc_seq ?_
  refine vc_rseq mixed ?_
  refine d_val (s_move rfl rfl) rfl ?_
  refine d_val (s_field rfl rfl rfl rfl) rfl ?_
  refine d_val (s_load rfl rfl rfl rfl) rfl ?_
  refine d_val (s_len rfl rfl) rfl ?_
  refine d_val (s_lss rfl rfl rfl) rfl ?_
  refine d_val (s_move rfl rfl) rfl ?_
  refine g_probe (j := 72) rfl (fun c hg72 => ?_)
  cases c
  rw [← hg72]; replace hg72 := hg72.symm; replace hg72 := of_decide_eq_false hg72
  simp only [List.length_map, Int.not_lt] at hg72
  refine dn_val rfl rfl rfl rfl rfl rfl (by decide) ?_
  refine dn_val rfl rfl rfl rfl rfl rfl (by decide) ?_
  refine dn_val rfl rfl rfl rfl rfl rfl (by decide) ?_
  refine dn_val rfl rfl rfl rfl rfl rfl (by decide) ?_
  refine dn_val rfl rfl rfl rfl rfl rfl (by decide) ?_
  refine dn_val rfl rfl rfl rfl rfl rfl (by decide) ?_
  refine dn_val rfl rfl rfl rfl rfl rfl (by decide) ?_
  refine dn_val rfl rfl rfl rfl rfl rfl (by decide) ?_
  refine d_val (s_pickF rfl rfl rfl) rfl ?_
  refine d_nil rfl ?_
  refine vc_cond rfl (fun h => by cases h) (fun _ => ?_)
  refine vc_exit ?_
  have he : insPin v.pins c.time = v.pins.take k ++ [c.time] ++ v.pins.drop k := insPin_eq hJ (fun z hz => by first | (rw [List.getElem?_eq_none (by omega)] at hz; cases hz) | (rw [hx] at hz; injection hz with hz; omega)) hk
  have e : doneF v c = ({ v with pins := insPin v.pins c.time }, 0) := by unfold doneF; (repeat' split) <;> first | rfl | (exfalso; omega) | (exfalso; simp_all; done) | (exfalso; simp_all; omega)
  refine vc_region mixed ?_
  refine d_val (s_field rfl rfl rfl rfl) rfl ?_
  refine d_val (s_load rfl rfl rfl rfl) rfl ?_
  refine d_val (s_move rfl rfl) rfl ?_
  refine d_val (s_slice none (some (.i64, (k : Int))) rfl trivial rfl rfl (by simp) (by simp) (by simp [optN]; omega)) rfl ?_
  refine d_new (s_appendN 88 rfl rfl rfl rfl (by simp [optN]; omega)) rfl ?_
  refine d_val (s_field rfl rfl rfl rfl) rfl ?_
  refine d_val (s_load rfl rfl rfl rfl) rfl ?_
  refine d_fz ((s_buildSlice 91 (evArgs_cons rfl evArgs_nil) rfl rfl rfl rfl).fzE rfl) rfl ?_
  refine d_app (s_append 92 rfl rfl rfl rfl rfl (by simp [optN]) rfl rfl (by simp [optN]; omega)) rfl ?_
  refine d_val (s_field rfl rfl rfl rfl) rfl ?_
  refine d_val (s_load rfl rfl rfl rfl) rfl ?_
  refine d_val (s_move rfl rfl) rfl ?_
  refine d_val (s_slice (some (.i64, (k : Int))) none rfl rfl trivial rfl (by simp) (by simp) (by simp [optN]; omega)) rfl ?_
  refine d_fa ((s_append 97 rfl rfl rfl rfl rfl (by simp [optN]) rfl rfl (by simp [optN]; omega)).fzA (by simp [optN]) rfl) rfl ?_
  refine d_val (s_field rfl rfl rfl rfl) rfl ?_
  refine d_sto (s_store rfl rfl rfl rfl rfl rfl) rfl ?_
  refine d_nil rfl ?_
  refine vc_rseq mixed ?_
  refine g_val (s_loadA rfl rfl rfl rfl rfl) rfl ?_
  refine g_sto (s_store rfl rfl rfl rfl rfl rfl) rfl ?_
  refine g_val (s_assign rfl rfl) rfl ?_
  refine g_nil ?_
  rw [e]; exact vc_ret (ret_le [] _ (.cons (.agg rfl rfl rfl rfl) (.cons (.tmp rfl) .nil)) trivial (by repeat (first | exact leL_nil | refine leL_cons ?_ ?_ | exact LeV.tt rfl | exact .nl (by decide) (by decide) | exact .nn | refine LeV.tupL ?_ | refine LeV.aggL ?_ | exact .eq (by first | exact trivial | (simp [AV.okV, okR, lkB]; done) | (simp [AV.okV, okR, lkB]; omega)) (by first | rfl | (simp [AV.view, viewR, lkB, AV.ren, List.take_of_length_le]; done) | (simp [AV.view, viewR, lkB, AV.ren, List.take_of_length_le]; first | (simp [i64, writeV]; done) | (simp [optN, intsT, he, List.map_take, List.map_drop, intC, i64, take_map_len]; done) | (simp [optN, intsT, he, List.map_take, List.map_drop, intC, i64, take_map_len]; exact List.take_of_length_le (by simp; omega)))))) rfl)
  rw [← hg72]; replace hg72 := hg72.symm; replace hg72 := of_decide_eq_true hg72
  simp only [List.length_map] at hg72
  obtain ⟨x, hx⟩ := get_of_lt (l := v.pins) (i := k) (by omega)
  refine dq_val (s_field rfl rfl rfl rfl) rfl rfl rfl rfl ?_
  refine dq_val (s_load rfl rfl rfl rfl) rfl rfl rfl rfl ?_
  refine dq_val (s_move rfl rfl) rfl rfl rfl rfl ?_
  refine dq_val (s_index rfl rfl rfl (by omega) (idx_map hx)) rfl rfl rfl rfl ?_
  refine dq_val (s_loadT rfl rfl rfl) rfl rfl rfl rfl ?_
  refine dq_val (s_field rfl rfl rfl rfl) rfl rfl rfl rfl ?_
  refine dq_val (s_load rfl rfl rfl rfl) rfl rfl rfl rfl ?_
  refine dq_val (s_leq rfl rfl rfl) rfl rfl rfl rfl ?_
  refine d_val (s_pickT rfl rfl rfl) rfl ?_
  refine d_nil rfl ?_
  refine vc_cond rfl (fun hc81 => ?_) (fun hc81 => ?_)
  replace hc81 := of_decide_eq_true hc81
  refine vc_skip ?_
  refine vc_block ?_
  refine vc_region mixed ?_
  refine g_val (s_move rfl rfl) rfl ?_
  refine g_val (s_add rfl rfl rfl (by simp only [inI, kMin, kMax]; omega)) rfl ?_
  refine g_val (s_assign rfl rfl) rfl ?_
  refine g_nil ?_
  exact ⟨by omega, fun j hj z hz => by rcases Nat.lt_succ_iff_lt_or_eq.1 hj with h | rfl; exact hJ j h z hz; rw [hx] at hz; injection hz with hz; omega, (leE_same (by repeat (first | exact letm_nil _ _ | refine letm_cons rfl ?_ ?_ | exact .same _ | exact .nl (by decide) (by decide) | exact .nn | exact .id' rfl | exact .id' (by simp; done))) (by repeat (first | exact lehp_nil _ _ | refine lehp_cons rfl ?_ ?_ | exact leB_same _ | exact leB_row (by first | rfl | (simp; done)) | exact leB_obj (by simp; done) | exact leB_nest (by first | rfl | (simp; done)) | refine leB_box ?_ | exact leL_nil | refine leL_cons ?_ ?_ | exact .same _ | exact .nl (by decide) (by decide) | exact .nn | exact .id' rfl | exact .id' (by simp; done))) rfl)⟩
  replace hc81 := of_decide_eq_false hc81
  simp only [Int.not_le] at hc81
  refine vc_exit ?_
  have he : insPin v.pins c.time = v.pins.take k ++ [c.time] ++ v.pins.drop k := insPin_eq hJ (fun z hz => by first | (rw [List.getElem?_eq_none (by omega)] at hz; cases hz) | (rw [hx] at hz; injection hz with hz; omega)) hk
  have e : doneF v c = ({ v with pins := insPin v.pins c.time }, 0) := by unfold doneF; (repeat' split) <;> first | rfl | (exfalso; omega) | (exfalso; simp_all; done) | (exfalso; simp_all; omega)
  refine vc_region mixed ?_
  refine d_val (s_field rfl rfl rfl rfl) rfl ?_
  refine d_val (s_load rfl rfl rfl rfl) rfl ?_
  refine d_val (s_move rfl rfl) rfl ?_
  refine d_val (s_slice none (some (.i64, (k : Int))) rfl trivial rfl rfl (by simp) (by simp) (by simp [optN]; omega)) rfl ?_
  refine d_new (s_appendN 88 rfl rfl rfl rfl (by simp [optN]; omega)) rfl ?_
  refine d_val (s_field rfl rfl rfl rfl) rfl ?_
  refine d_val (s_load rfl rfl rfl rfl) rfl ?_
  refine d_fz ((s_buildSlice 91 (evArgs_cons rfl evArgs_nil) rfl rfl rfl rfl).fzE rfl) rfl ?_
  refine d_app (s_append 92 rfl rfl rfl rfl rfl (by simp [optN]) rfl rfl (by simp [optN]; omega)) rfl ?_
  refine d_val (s_field rfl rfl rfl rfl) rfl ?_
  refine d_val (s_load rfl rfl rfl rfl) rfl ?_
  refine d_val (s_move rfl rfl) rfl ?_
  refine d_val (s_slice (some (.i64, (k : Int))) none rfl rfl trivial rfl (by simp) (by simp) (by simp [optN]; omega)) rfl ?_
  refine d_fa ((s_append 97 rfl rfl rfl rfl rfl (by simp [optN]) rfl rfl (by simp [optN]; omega)).fzA (by simp [optN]) rfl) rfl ?_
  refine d_val (s_field rfl rfl rfl rfl) rfl ?_
  refine d_sto (s_store rfl rfl rfl rfl rfl rfl) rfl ?_
  refine d_nil rfl ?_
  refine vc_rseq mixed ?_
  refine g_val (s_loadA rfl rfl rfl rfl rfl) rfl ?_
  refine g_sto (s_store rfl rfl rfl rfl rfl rfl) rfl ?_
  refine g_val (s_assign rfl rfl) rfl ?_
  refine g_nil ?_
  rw [e]; exact vc_ret (ret_le [] _ (.cons (.agg rfl rfl rfl rfl) (.cons (.tmp rfl) .nil)) trivial (by repeat (first | exact leL_nil | refine leL_cons ?_ ?_ | exact LeV.tt rfl | exact .nl (by decide) (by decide) | exact .nn | refine LeV.tupL ?_ | refine LeV.aggL ?_ | exact .eq (by first | exact trivial | (simp [AV.okV, okR, lkB]; done) | (simp [AV.okV, okR, lkB]; omega)) (by first | rfl | (simp [AV.view, viewR, lkB, AV.ren, List.take_of_length_le]; done) | (simp [AV.view, viewR, lkB, AV.ren, List.take_of_length_le]; first | (simp [i64, writeV]; done) | (simp [optN, intsT, he, List.map_take, List.map_drop, intC, i64, take_map_len]; done) | (simp [optN, intsT, he, List.map_take, List.map_drop, intC, i64, take_map_len]; exact List.take_of_length_le (by simp; omega)))))) rfl)
  replace hc10 := of_decide_eq_false hc10
  refine vc_region mixed ?_
  refine g_val (s_eql rfl rfl rfl) rfl ?_
  refine g_val (s_assign rfl rfl) rfl ?_
  refine g_nil ?_
  refine vc_cond rfl (fun hc10 => ?_) (fun hc10 => ?_)
  replace hc10 := of_decide_eq_true hc10
  refine vc_rseq mixed ?_
  refine g_val (s_field rfl rfl rfl rfl) rfl ?_
  refine g_val (s_load rfl rfl rfl rfl) rfl ?_
  refine g_nil ?_
  refine vc_cond rfl (fun hc16 => ?_) (fun hc16 => ?_)
  refine vc_rseq mixed ?_
  refine g_val (s_loadA rfl rfl rfl rfl rfl) rfl ?_
  refine g_sto (s_store rfl rfl rfl rfl rfl rfl) rfl ?_
  refine g_val (s_assign rfl rfl) rfl ?_
  refine g_nil ?_
  rw [show doneF v c = (v, 28) from by unfold doneF; (repeat' split) <;> first | rfl | (exfalso; omega) | (exfalso; simp_all; done) | (exfalso; simp_all; omega)]; exact vc_ret (ret_le [] _ (.cons (.agg rfl rfl rfl rfl) (.cons (.tmp rfl) .nil)) trivial (by repeat (first | exact leL_nil | refine leL_cons ?_ ?_ | exact LeV.tt rfl | exact .nl (by decide) (by decide) | exact .nn | refine LeV.tupL ?_ | refine LeV.aggL ?_ | exact .eq (by first | exact trivial | (simp [AV.okV, okR, lkB]; done) | (simp [AV.okV, okR, lkB]; omega)) (by first | rfl | (simp [AV.view, viewR, lkB, AV.ren, List.take_of_length_le]; done) | (simp [AV.view, viewR, lkB, AV.ren, List.take_of_length_le]; done)))) rfl)
  refine vc_skip ?_
  refine vc_seq ?_
  refine vc_rseq mixed ?_
  refine g_val (s_field rfl rfl rfl rfl) rfl ?_
  refine g_val (s_load rfl rfl rfl rfl) rfl ?_
  refine g_nil ?_
  refine vc_block ?_
  refine vc_rseq mixed ?_
  refine g_val (s_eql rfl rfl rfl) rfl ?_
  refine g_val (s_assign rfl rfl) rfl ?_
  refine g_nil ?_
  refine vc_cond rfl (fun h => by have h := of_decide_eq_true h; omega) (fun _ => ?_)
  refine vc_rseq mixed ?_
  refine g_val (s_eql rfl rfl rfl) rfl ?_
  refine g_val (s_assign rfl rfl) rfl ?_
  refine g_nil ?_
  refine vc_cond rfl (fun h => by have h := of_decide_eq_true h; omega) (fun _ => ?_)
  refine vc_rseq mixed ?_
  refine g_val (s_eql rfl rfl rfl) rfl ?_
  refine g_val (s_assign rfl rfl) rfl ?_
  refine g_nil ?_
  refine vc_cond rfl (fun h => by have h := of_decide_eq_true h; omega) (fun _ => ?_)
  refine vc_rseq mixed ?_
  refine g_val (s_eql rfl rfl rfl) rfl ?_
  refine g_val (s_assign rfl rfl) rfl ?_
  refine g_nil ?_
  refine vc_cond rfl (fun _ => ?_) (fun h => by have h := of_decide_eq_false h; omega)
  refine vc_seq ?_
  refine vc_rseq mixed ?_
  refine g_val (s_assign rfl rfl) rfl ?_
  refine g_nil ?_
  refine vc_block ?_
  refine vc_up v.pins.length (fun k => ⟨[(2, .ref 2 0), (3, .ref 3 0), (4, .ref 4 0), (7, AI .i64 k)], [(4, some (.box ((volC volZ).map .t))), (3, some (.box ((cmdC c).map .t))), (2, some (.box ((volC v).map .t)))], [4, 3, 2]⟩) (fun k => ∀ j : Nat, j < k → ∀ z, v.pins[j]? = some z → z ≠ c.time) (leE_same (by repeat (first | exact letm_nil _ _ | refine letm_cons rfl ?_ ?_ | exact .same _ | exact .nl (by decide) (by decide) | exact .nn | exact .id' rfl | exact .id' (by simp; done))) (by repeat (first | exact lehp_nil _ _ | refine lehp_cons rfl ?_ ?_ | exact leB_same _ | exact leB_row (by first | rfl | (simp; done)) | exact leB_obj (by simp; done) | exact leB_nest (by first | rfl | (simp; done)) | refine leB_box ?_ | exact leL_nil | refine leL_cons ?_ ?_ | exact .same _ | exact .nl (by decide) (by decide) | exact .nn | exact .id' rfl | exact .id' (by simp; done))) rfl) (fun j h => by omega) (fun k hk hJ => ?_)
  refine vc_seq ?_
  refine vc_rseq mixed ?_
  refine g_val (s_move rfl rfl) rfl ?_
  refine g_val (s_field rfl rfl rfl rfl) rfl ?_
  refine g_val (s_load rfl rfl rfl rfl) rfl ?_
  refine g_val (s_len rfl rfl) rfl ?_
  refine g_val (s_lss rfl rfl rfl) rfl ?_
  refine g_nil ?_
  refine vc_cond rfl (fun hc105 => ?_) (fun hc105 => ?_)
  replace hc105 := of_decide_eq_true hc105
  simp only [List.length_map] at hc105
  obtain ⟨x, hx⟩ := get_of_lt (l := v.pins) (i := k) (by omega)
  refine vc_skip ?_
  refine vc_seq ?_
  refine vc_block ?_
  refine vc_rseq mixed ?_
  refine d_val (s_field rfl rfl rfl rfl) rfl ?_
  refine d_val (s_load rfl rfl rfl rfl) rfl ?_
  refine d_val (s_move rfl rfl) rfl ?_
  refine d_val (s_index rfl rfl rfl (by omega) (idx_map hx)) rfl ?_
  refine d_val (s_loadT rfl rfl rfl) rfl ?_
  refine d_val (s_field rfl rfl rfl rfl) rfl ?_
  refine d_val (s_load rfl rfl rfl rfl) rfl ?_
  refine d_val (s_eql rfl rfl rfl) rfl ?_
  refine d_nil rfl ?_
  refine vc_cond rfl (fun hc115 => ?_) (fun hc115 => ?_)
  replace hc115 := of_decide_eq_true hc115
  refine vc_rseq mixed ?_
  refine d_val (s_field rfl rfl rfl rfl) rfl ?_
  refine d_val (s_load rfl rfl rfl rfl) rfl ?_
  refine d_val (s_move rfl rfl) rfl ?_
  refine d_val (s_slice none (some (.i64, (k : Int))) rfl trivial rfl rfl (by simp) (by simp) (by simp [optN]; omega)) rfl ?_
  refine d_new (s_appendN 120 rfl rfl rfl rfl (by simp [optN]; omega)) rfl ?_
  refine d_val (s_field rfl rfl rfl rfl) rfl ?_
  refine d_val (s_load rfl rfl rfl rfl) rfl ?_
  refine d_val (s_move rfl rfl) rfl ?_
  refine d_val (s_add rfl rfl rfl (by simp only [inI, kMin, kMax]; omega)) rfl ?_
  refine d_val (s_slice (some (.i64, (k : Int) + 1)) none rfl rfl trivial rfl (by simp; omega) (by simp) (by simp [optN]; omega)) rfl ?_
  refine d_fa ((s_append 126 rfl rfl rfl rfl rfl (by simp [optN]) rfl rfl (by simp [optN]; omega)).fzA (by simp [optN]) rfl) rfl ?_
  refine d_val (s_field rfl rfl rfl rfl) rfl ?_
  refine d_sto (s_store rfl rfl rfl rfl rfl rfl) rfl ?_
  refine d_nil rfl ?_
  refine vc_rseq mixed ?_
  refine g_val (s_loadA rfl rfl rfl rfl rfl) rfl ?_
  refine g_sto (s_store rfl rfl rfl rfl rfl rfl) rfl ?_
  refine g_val (s_assign rfl rfl) rfl ?_
  refine g_nil ?_
  have hm : c.time ∈ v.pins := hc115 ▸ List.mem_of_getElem? hx
  have he := erase_eq hJ (hc115 ▸ hx)
  rw [show doneF v c = ({ v with pins := v.pins.erase c.time }, 0) from by unfold doneF; (repeat' split) <;> first | rfl | (exfalso; omega) | (exfalso; simp_all; done) | (exfalso; simp_all; omega)]; exact vc_ret (ret_le [] _ (.cons (.agg rfl rfl rfl rfl) (.cons (.tmp rfl) .nil)) trivial (by repeat (first | exact leL_nil | refine leL_cons ?_ ?_ | exact LeV.tt rfl | exact .nl (by decide) (by decide) | exact .nn | refine LeV.tupL ?_ | refine LeV.aggL ?_ | exact .eq (by first | exact trivial | (simp [AV.okV, okR, lkB]; done) | (simp [AV.okV, okR, lkB]; omega)) (by first | rfl | (simp [AV.view, viewR, lkB, AV.ren, List.take_of_length_le]; done) | (simp [AV.view, viewR, lkB, AV.ren, List.take_of_length_le]; first | (simp [optN, intsT, he, List.map_take, List.map_drop, take_map_len]; done) | (simp [optN, intsT, he, List.map_take, List.map_drop, take_map_len]; exact List.take_of_length_le (by simp; omega)))))) rfl)
  replace hc115 := of_decide_eq_false hc115
  refine vc_skip ?_
  refine vc_region mixed ?_
  refine g_val (s_move rfl rfl) rfl ?_
  refine g_val (s_add rfl rfl rfl (by simp only [inI, kMin, kMax]; omega)) rfl ?_
  refine g_val (s_assign rfl rfl) rfl ?_
  refine g_nil ?_
  exact ⟨by omega, fun j hj z hz => by rcases Nat.lt_succ_iff_lt_or_eq.1 hj with h | rfl; exact hJ j h z hz; rw [hx] at hz; injection hz with hz; subst hz; exact hc115, (leE_same (by repeat (first | exact letm_nil _ _ | refine letm_cons rfl ?_ ?_ | exact .same _ | exact .nl (by decide) (by decide) | exact .nn | exact .id' rfl | exact .id' (by simp; done))) (by repeat (first | exact lehp_nil _ _ | refine lehp_cons rfl ?_ ?_ | exact leB_same _ | exact leB_row (by first | rfl | (simp; done)) | exact leB_obj (by simp; done) | exact leB_nest (by first | rfl | (simp; done)) | refine leB_box ?_ | exact leL_nil | refine leL_cons ?_ ?_ | exact .same _ | exact .nl (by decide) (by decide) | exact .nn | exact .id' rfl | exact .id' (by simp; done))) rfl)⟩
  replace hc105 := of_decide_eq_false hc105
  simp only [List.length_map, Int.not_lt] at hc105
  refine vc_exit ?_
  refine vc_rseq mixed ?_
  refine g_val (s_loadA rfl rfl rfl rfl rfl) rfl ?_
  refine g_sto (s_store rfl rfl rfl rfl rfl rfl) rfl ?_
  refine g_val (s_assign rfl rfl) rfl ?_
  refine g_nil ?_
  have hm : c.time ∉ v.pins := fun hm => by obtain ⟨j, hj⟩ := List.mem_iff_getElem?.1 hm; exact hJ j (by have := (List.getElem?_eq_some_iff.1 hj).1; omega) _ hj rfl
  rw [show doneF v c = (v, 28) from by unfold doneF; (repeat' split) <;> first | rfl | (exfalso; omega) | (exfalso; simp_all; done) | (exfalso; simp_all; omega)]; exact vc_ret (ret_le [] _ (.cons (.agg rfl rfl rfl rfl) (.cons (.tmp rfl) .nil)) trivial (by repeat (first | exact leL_nil | refine leL_cons ?_ ?_ | exact LeV.tt rfl | exact .nl (by decide) (by decide) | exact .nn | refine LeV.tupL ?_ | refine LeV.aggL ?_ | exact .eq (by first | exact trivial | (simp [AV.okV, okR, lkB]; done) | (simp [AV.okV, okR, lkB]; omega)) (by first | rfl | (simp [AV.view, viewR, lkB, AV.ren, List.take_of_length_le]; done) | (simp [AV.view, viewR, lkB, AV.ren, List.take_of_length_le]; done)))) rfl)
  replace hc10 := of_decide_eq_false hc10
  refine vc_skip ?_
  refine vc_seq ?_
  refine vc_rseq mixed ?_
  refine g_val (s_field rfl rfl rfl rfl) rfl ?_
  refine g_val (s_load rfl rfl rfl rfl) rfl ?_
  refine g_nil ?_
  refine vc_block ?_
  refine vc_rseq mixed ?_
  refine g_val (s_eql rfl rfl rfl) rfl ?_
  refine g_val (s_assign rfl rfl) rfl ?_
  refine g_nil ?_
  refine vc_cond rfl (fun h => by have h := of_decide_eq_true h; omega) (fun _ => ?_)
  refine vc_rseq mixed ?_
  refine g_val (s_eql rfl rfl rfl) rfl ?_
  refine g_val (s_assign rfl rfl) rfl ?_
  refine g_nil ?_
  refine vc_cond rfl (fun h => by have h := of_decide_eq_true h; omega) (fun _ => ?_)
  refine vc_rseq mixed ?_
  refine g_val (s_eql rfl rfl rfl) rfl ?_
  refine g_val (s_assign rfl rfl) rfl ?_
  refine g_nil ?_
  refine vc_cond rfl (fun h => by have h := of_decide_eq_true h; omega) (fun _ => ?_)
  refine vc_rseq mixed ?_
  refine g_val (s_eql rfl rfl rfl) rfl ?_
  refine g_val (s_assign rfl rfl) rfl ?_
  refine g_nil ?_
  refine vc_cond rfl (fun h => by have h := of_decide_eq_true h; omega) (fun _ => ?_)
  refine vc_rseq mixed ?_
  refine g_val (s_eql rfl rfl rfl) rfl ?_
  refine g_val (s_assign rfl rfl) rfl ?_
  refine g_nil ?_
  refine vc_cond rfl (fun hc130 => ?_) (fun hc130 => ?_)
  replace hc130 := of_decide_eq_true hc130
  refine vc_seq ?_
  refine vc_rseq mixed ?_
  refine g_val (s_field rfl rfl rfl rfl) rfl ?_
  refine g_val (s_load rfl rfl rfl rfl) rfl ?_
  refine g_val (s_not rfl rfl) rfl ?_
  refine g_nil ?_
  refine vc_cond rfl (fun hc134 => ?_) (fun hc134 => ?_)
  simp only [Bool.not_eq_true'] at hc134
  refine vc_rseq mixed ?_
  refine g_val (s_loadA rfl rfl rfl rfl rfl) rfl ?_
  refine g_sto (s_store rfl rfl rfl rfl rfl rfl) rfl ?_
  refine g_val (s_assign rfl rfl) rfl ?_
  refine g_nil ?_
  rw [show doneF v c = (v, 33) from by unfold doneF; (repeat' split) <;> first | rfl | (exfalso; omega) | (exfalso; simp_all; done) | (exfalso; simp_all; omega)]; exact vc_ret (ret_le [] _ (.cons (.agg rfl rfl rfl rfl) (.cons (.tmp rfl) .nil)) trivial (by repeat (first | exact leL_nil | refine leL_cons ?_ ?_ | exact LeV.tt rfl | exact .nl (by decide) (by decide) | exact .nn | refine LeV.tupL ?_ | refine LeV.aggL ?_ | exact .eq (by first | exact trivial | (simp [AV.okV, okR, lkB]; done) | (simp [AV.okV, okR, lkB]; omega)) (by first | rfl | (simp [AV.view, viewR, lkB, AV.ren, List.take_of_length_le]; done) | (simp [AV.view, viewR, lkB, AV.ren, List.take_of_length_le]; done)))) rfl)
  simp only [Bool.not_eq_false'] at hc134
  refine vc_skip ?_
  refine vc_seq ?_
  refine vc_rseq mixed ?_
  refine g_val (s_field rfl rfl rfl rfl) rfl ?_
  refine g_val (s_load rfl rfl rfl rfl) rfl ?_
  refine g_val (s_geq rfl rfl rfl) rfl ?_
  refine g_val (s_move rfl rfl) rfl ?_
  refine g_probe (j := 139) rfl (fun c hg139 => ?_)
  cases c
  rw [← hg139]; replace hg139 := hg139.symm; replace hg139 := of_decide_eq_false hg139
  simp only [Int.not_le] at hg139
  refine gn_val rfl rfl rfl rfl rfl rfl (by decide) ?_
  refine gn_val rfl rfl rfl rfl rfl rfl (by decide) ?_
  refine gn_val rfl rfl rfl rfl rfl rfl (by decide) ?_
  refine gn_val rfl rfl rfl rfl rfl rfl (by decide) ?_
  refine gn_val rfl rfl rfl rfl rfl rfl (by decide) ?_
  refine g_val (s_pickF rfl rfl rfl) rfl ?_
  refine g_nil ?_
  refine vc_cond rfl (fun h => by cases h) (fun _ => ?_)
  refine vc_skip ?_
  refine vc_seq ?_
  refine vc_rseq mixed ?_
  refine g_val (s_field rfl rfl rfl rfl) rfl ?_
  refine g_val (s_load rfl rfl rfl rfl) rfl ?_
  refine g_val (s_field rfl rfl rfl rfl) rfl ?_
  refine g_val (s_load rfl rfl rfl rfl) rfl ?_
  refine g_val (s_neq rfl rfl rfl) rfl ?_
  refine g_val (s_move rfl rfl) rfl ?_
  refine g_probe (j := 152) rfl (fun c hg152 => ?_)
  cases c
  rw [← hg152]; replace hg152 := hg152.symm; replace hg152 := of_decide_eq_false hg152
  simp only [ne_eq, Decidable.not_not] at hg152
  refine gq_val (s_field rfl rfl rfl rfl) rfl rfl rfl rfl ?_
  refine gq_val (s_load rfl rfl rfl rfl) rfl rfl rfl rfl ?_
  refine gq_val (s_field rfl rfl rfl rfl) rfl rfl rfl rfl ?_
  refine gq_val (s_load rfl rfl rfl rfl) rfl rfl rfl rfl ?_
  refine gq_val (s_eql rfl rfl rfl) rfl rfl rfl rfl ?_
  refine g_val (s_pickF rfl rfl rfl) rfl ?_
  refine g_nil ?_
  refine vc_cond rfl (fun hc158 => ?_) (fun hc158 => ?_)
  replace hc158 := of_decide_eq_true hc158
  refine vc_rseq mixed ?_
  refine g_val (s_loadA rfl rfl rfl rfl rfl) rfl ?_
  refine g_sto (s_store rfl rfl rfl rfl rfl rfl) rfl ?_
  refine g_val (s_assign rfl rfl) rfl ?_
  refine g_nil ?_
  rw [show doneF v c = (v, 33) from by unfold doneF; (repeat' split) <;> first | rfl | (exfalso; omega) | (exfalso; simp_all; done) | (exfalso; simp_all; omega)]; exact vc_ret (ret_le [] _ (.cons (.agg rfl rfl rfl rfl) (.cons (.tmp rfl) .nil)) trivial (by repeat (first | exact leL_nil | refine leL_cons ?_ ?_ | exact LeV.tt rfl | exact .nl (by decide) (by decide) | exact .nn | refine LeV.tupL ?_ | refine LeV.aggL ?_ | exact .eq (by first | exact trivial | (simp [AV.okV, okR, lkB]; done) | (simp [AV.okV, okR, lkB]; omega)) (by first | rfl | (simp [AV.view, viewR, lkB, AV.ren, List.take_of_length_le]; done) | (simp [AV.view, viewR, lkB, AV.ren, List.take_of_length_le]; done)))) rfl)
  replace hc158 := of_decide_eq_false hc158
  refine vc_skip ?_
  refine vc_seq ?_
  refine vc_rseq mixed ?_
  refine g_val (s_field rfl rfl rfl rfl) rfl ?_
  refine g_val (s_load rfl rfl rfl rfl) rfl ?_
  refine g_val (s_field rfl rfl rfl rfl) rfl ?_
  refine g_val (s_load rfl rfl rfl rfl) rfl ?_
  refine g_val (s_field rfl rfl rfl rfl) rfl ?_
  refine g_val (s_load rfl rfl rfl rfl) rfl ?_
  refine g_val (s_call [] (c_mementoref13_ItemsRight v.blocks v.size c.items) (evArgs_cons rfl (evArgs_cons rfl (evArgs_cons rfl evArgs_nil))) trivial rfl (okVL_nil _) rfl (.inl rfl) rfl) rfl ?_
  refine g_val (s_not rfl rfl) rfl ?_
  refine g_nil ?_
  refine vc_cond rfl (fun hc167 => ?_) (fun hc167 => ?_)
  simp only [Bool.not_eq_true', decide_eq_false_iff_not] at hc167
  refine vc_rseq mixed ?_
  refine g_val (s_loadA rfl rfl rfl rfl rfl) rfl ?_
  refine g_sto (s_store rfl rfl rfl rfl rfl rfl) rfl ?_
  refine g_val (s_assign rfl rfl) rfl ?_
  refine g_nil ?_
  rw [show doneF v c = (v, 23) from by unfold doneF; (repeat' split) <;> first | rfl | (exfalso; omega) | (exfalso; simp_all; done) | (exfalso; simp_all; omega)]; exact vc_ret (ret_le [] _ (.cons (.agg rfl rfl rfl rfl) (.cons (.tmp rfl) .nil)) trivial (by repeat (first | exact leL_nil | refine leL_cons ?_ ?_ | exact LeV.tt rfl | exact .nl (by decide) (by decide) | exact .nn | refine LeV.tupL ?_ | refine LeV.aggL ?_ | exact .eq (by first | exact trivial | (simp [AV.okV, okR, lkB]; done) | (simp [AV.okV, okR, lkB]; omega)) (by first | rfl | (simp [AV.view, viewR, lkB, AV.ren, List.take_of_length_le]; done) | (simp [AV.view, viewR, lkB, AV.ren, List.take_of_length_le]; done)))) rfl)
  simp only [Bool.not_eq_false', decide_eq_true_eq] at hc167
  refine vc_skip ?_
  have e : doneF v c = ({ writeV v c.items with next := v.next + 1 }, 0) := by unfold doneF; (repeat' split) <;> first | rfl | (exfalso; omega) | (exfalso; simp_all; done) | (exfalso; simp_all; omega)
  refine vc_rseq mixed ?_
  refine g_val (s_loadA rfl rfl rfl rfl rfl) rfl ?_
  refine g_val (s_field rfl rfl rfl rfl) rfl ?_
  refine g_val (s_load rfl rfl rfl rfl) rfl ?_
  refine g_val (s_call [] (c_mementoref16_write v c.items (by omega)) (evArgs_cons rfl (evArgs_cons rfl evArgs_nil)) trivial rfl (okVL_nil _) rfl (.inl rfl) rfl) rfl ?_
  refine g_sto (s_store rfl rfl rfl rfl rfl rfl) rfl ?_
  refine g_nil ?_
  refine vc_region mixed ?_
  refine g_val (s_field rfl rfl rfl rfl) rfl ?_
  refine g_val (s_load rfl rfl rfl rfl) rfl ?_
  refine g_val (s_add rfl rfl rfl (by simp only [inI, kMin, kMax, writeV]; omega)) rfl ?_
  refine g_val (s_field rfl rfl rfl rfl) rfl ?_
  refine g_sto (s_store rfl rfl rfl rfl rfl rfl) rfl ?_
  refine g_nil ?_
  refine vc_rseq mixed ?_
  refine g_val (s_loadA rfl rfl rfl rfl rfl) rfl ?_
  refine g_sto (s_store rfl rfl rfl rfl rfl rfl) rfl ?_
  refine g_val (s_assign rfl rfl) rfl ?_
  refine g_nil ?_
  rw [e]; exact vc_ret (ret_le [] _ (.cons (.agg rfl rfl rfl rfl) (.cons (.tmp rfl) .nil)) trivial (by repeat (first | exact leL_nil | refine leL_cons ?_ ?_ | exact LeV.tt rfl | exact .nl (by decide) (by decide) | exact .nn | refine LeV.tupL ?_ | refine LeV.aggL ?_ | exact .eq (by first | exact trivial | (simp [AV.okV, okR, lkB]; done) | (simp [AV.okV, okR, lkB]; omega)) (by first | rfl | (simp [AV.view, viewR, lkB, AV.ren, List.take_of_length_le]; done) | (simp [AV.view, viewR, lkB, AV.ren, List.take_of_length_le]; first | (simp [i64, writeV]; done) | (simp [optN, intsT, he, List.map_take, List.map_drop, intC, i64, take_map_len]; done) | (simp [optN, intsT, he, List.map_take, List.map_drop, intC, i64, take_map_len]; exact List.take_of_length_le (by simp; omega)))))) rfl)
  rw [← hg152]; replace hg152 := hg152.symm; replace hg152 := of_decide_eq_true hg152
  simp only [ne_eq] at hg152
  refine gn_val rfl rfl rfl rfl rfl rfl (by decide) ?_
  refine gn_val rfl rfl rfl rfl rfl rfl (by decide) ?_
  refine gn_val rfl rfl rfl rfl rfl rfl (by decide) ?_
  refine gn_val rfl rfl rfl rfl rfl rfl (by decide) ?_
  refine gn_val rfl rfl rfl rfl rfl rfl (by decide) ?_
  refine g_val (s_pickT rfl rfl rfl) rfl ?_
  refine g_nil ?_
  refine vc_cond rfl (fun _ => ?_) (fun h => by cases h)
  refine vc_rseq mixed ?_
  refine g_val (s_loadA rfl rfl rfl rfl rfl) rfl ?_
  refine g_sto (s_store rfl rfl rfl rfl rfl rfl) rfl ?_
  refine g_val (s_assign rfl rfl) rfl ?_
  refine g_nil ?_
  rw [show doneF v c = (v, 33) from by unfold doneF; (repeat' split) <;> first | rfl | (exfalso; omega) | (exfalso; simp_all; done) | (exfalso; simp_all; omega)]; exact vc_ret (ret_le [] _ (.cons (.agg rfl rfl rfl rfl) (.cons (.tmp rfl) .nil)) trivial (by repeat (first | exact leL_nil | refine leL_cons ?_ ?_ | exact LeV.tt rfl | exact .nl (by decide) (by decide) | exact .nn | refine LeV.tupL ?_ | refine LeV.aggL ?_ | exact .eq (by first | exact trivial | (simp [AV.okV, okR, lkB]; done) | (simp [AV.okV, okR, lkB]; omega)) (by first | rfl | (simp [AV.view, viewR, lkB, AV.ren, List.take_of_length_le]; done) | (simp [AV.view, viewR, lkB, AV.ren, List.take_of_length_le]; done)))) rfl)
  rw [← hg139]; replace hg139 := hg139.symm; replace hg139 := of_decide_eq_true hg139
  refine gq_val (s_field rfl rfl rfl rfl) rfl rfl rfl rfl ?_
  refine gq_val (s_load rfl rfl rfl rfl) rfl rfl rfl rfl ?_
  refine gq_val (s_field rfl rfl rfl rfl) rfl rfl rfl rfl ?_
  refine gq_val (s_load rfl rfl rfl rfl) rfl rfl rfl rfl ?_
  refine gq_val (s_lss rfl rfl rfl) rfl rfl rfl rfl ?_
  refine g_val (s_pickT rfl rfl rfl) rfl ?_
  refine g_nil ?_
  refine vc_cond rfl (fun hc145 => ?_) (fun hc145 => ?_)
  replace hc145 := of_decide_eq_true hc145
  refine vc_rseq mixed ?_
  refine g_val (s_loadA rfl rfl rfl rfl rfl) rfl ?_
  refine g_sto (s_store rfl rfl rfl rfl rfl rfl) rfl ?_
  refine g_val (s_assign rfl rfl) rfl ?_
  refine g_nil ?_
  rw [show doneF v c = (v, 0) from by unfold doneF; (repeat' split) <;> first | rfl | (exfalso; omega) | (exfalso; simp_all; done) | (exfalso; simp_all; omega)]; exact vc_ret (ret_le [] _ (.cons (.agg rfl rfl rfl rfl) (.cons (.tmp rfl) .nil)) trivial (by repeat (first | exact leL_nil | refine leL_cons ?_ ?_ | exact LeV.tt rfl | exact .nl (by decide) (by decide) | exact .nn | refine LeV.tupL ?_ | refine LeV.aggL ?_ | exact .eq (by first | exact trivial | (simp [AV.okV, okR, lkB]; done) | (simp [AV.okV, okR, lkB]; omega)) (by first | rfl | (simp [AV.view, viewR, lkB, AV.ren, List.take_of_length_le]; done) | (simp [AV.view, viewR, lkB, AV.ren, List.take_of_length_le]; done)))) rfl)
  replace hc145 := of_decide_eq_false hc145
  simp only [Int.not_lt] at hc145
  refine vc_skip ?_
  refine vc_seq ?_
  refine vc_rseq mixed ?_
  refine g_val (s_field rfl rfl rfl rfl) rfl ?_
  refine g_val (s_load rfl rfl rfl rfl) rfl ?_
  refine g_val (s_field rfl rfl rfl rfl) rfl ?_
  refine g_val (s_load rfl rfl rfl rfl) rfl ?_
  refine g_val (s_neq rfl rfl rfl) rfl ?_
  refine g_val (s_move rfl rfl) rfl ?_
  refine g_probe (j := 152) rfl (fun c hg152 => ?_)
  cases c
  rw [← hg152]; replace hg152 := hg152.symm; replace hg152 := of_decide_eq_false hg152
  simp only [ne_eq, Decidable.not_not] at hg152
  refine gq_val (s_field rfl rfl rfl rfl) rfl rfl rfl rfl ?_
  refine gq_val (s_load rfl rfl rfl rfl) rfl rfl rfl rfl ?_
  refine gq_val (s_field rfl rfl rfl rfl) rfl rfl rfl rfl ?_
  refine gq_val (s_load rfl rfl rfl rfl) rfl rfl rfl rfl ?_
  refine gq_val (s_eql rfl rfl rfl) rfl rfl rfl rfl ?_
  refine g_val (s_pickF rfl rfl rfl) rfl ?_
  refine g_nil ?_
  refine vc_cond rfl (fun hc158 => ?_) (fun hc158 => ?_)
  replace hc158 := of_decide_eq_true hc158
  refine vc_rseq mixed ?_
  refine g_val (s_loadA rfl rfl rfl rfl rfl) rfl ?_
  refine g_sto (s_store rfl rfl rfl rfl rfl rfl) rfl ?_
  refine g_val (s_assign rfl rfl) rfl ?_
  refine g_nil ?_
  rw [show doneF v c = (v, 33) from by unfold doneF; (repeat' split) <;> first | rfl | (exfalso; omega) | (exfalso; simp_all; done) | (exfalso; simp_all; omega)]; exact vc_ret (ret_le [] _ (.cons (.agg rfl rfl rfl rfl) (.cons (.tmp rfl) .nil)) trivial (by repeat (first | exact leL_nil | refine leL_cons ?_ ?_ | exact LeV.tt rfl | exact .nl (by decide) (by decide) | exact .nn | refine LeV.tupL ?_ | refine LeV.aggL ?_ | exact .eq (by first | exact trivial | (simp [AV.okV, okR, lkB]; done) | (simp [AV.okV, okR, lkB]; omega)) (by first | rfl | (simp [AV.view, viewR, lkB, AV.ren, List.take_of_length_le]; done) | (simp [AV.view, viewR, lkB, AV.ren, List.take_of_length_le]; done)))) rfl)
  replace hc158 := of_decide_eq_false hc158
  refine vc_skip ?_
  refine vc_seq ?_
  refine vc_rseq mixed ?_
  refine g_val (s_field rfl rfl rfl rfl) rfl ?_
  refine g_val (s_load rfl rfl rfl rfl) rfl ?_
  refine g_val (s_field rfl rfl rfl rfl) rfl ?_
  refine g_val (s_load rfl rfl rfl rfl) rfl ?_
  refine g_val (s_field rfl rfl rfl rfl) rfl ?_
  refine g_val (s_load rfl rfl rfl rfl) rfl ?_
  refine g_val (s_call [] (c_mementoref13_ItemsRight v.blocks v.size c.items) (evArgs_cons rfl (evArgs_cons rfl (evArgs_cons rfl evArgs_nil))) trivial rfl (okVL_nil _) rfl (.inl rfl) rfl) rfl ?_
  refine g_val (s_not rfl rfl) rfl ?_
  refine g_nil ?_
  refine vc_cond rfl (fun hc167 => ?_) (fun hc167 => ?_)
  simp only [Bool.not_eq_true', decide_eq_false_iff_not] at hc167
  refine vc_rseq mixed ?_
  refine g_val (s_loadA rfl rfl rfl rfl rfl) rfl ?_
  refine g_sto (s_store rfl rfl rfl rfl rfl rfl) rfl ?_
  refine g_val (s_assign rfl rfl) rfl ?_
  refine g_nil ?_
  rw [show doneF v c = (v, 23) from by unfold doneF; (repeat' split) <;> first | rfl | (exfalso; omega) | (exfalso; simp_all; done) | (exfalso; simp_all; omega)]; exact vc_ret (ret_le [] _ (.cons (.agg rfl rfl rfl rfl) (.cons (.tmp rfl) .nil)) trivial (by repeat (first | exact leL_nil | refine leL_cons ?_ ?_ | exact LeV.tt rfl | exact .nl (by decide) (by decide) | exact .nn | refine LeV.tupL ?_ | refine LeV.aggL ?_ | exact .eq (by first | exact trivial | (simp [AV.okV, okR, lkB]; done) | (simp [AV.okV, okR, lkB]; omega)) (by first | rfl | (simp [AV.view, viewR, lkB, AV.ren, List.take_of_length_le]; done) | (simp [AV.view, viewR, lkB, AV.ren, List.take_of_length_le]; done)))) rfl)
  simp only [Bool.not_eq_false', decide_eq_true_eq] at hc167
  refine vc_skip ?_
  have e : doneF v c = ({ writeV v c.items with next := v.next + 1 }, 0) := by unfold doneF; (repeat' split) <;> first | rfl | (exfalso; omega) | (exfalso; simp_all; done) | (exfalso; simp_all; omega)
  refine vc_rseq mixed ?_
  refine g_val (s_loadA rfl rfl rfl rfl rfl) rfl ?_
  refine g_val (s_field rfl rfl rfl rfl) rfl ?_
  refine g_val (s_load rfl rfl rfl rfl) rfl ?_
  refine g_val (s_call [] (c_mementoref16_write v c.items (by omega)) (evArgs_cons rfl (evArgs_cons rfl evArgs_nil)) trivial rfl (okVL_nil _) rfl (.inl rfl) rfl) rfl ?_
  refine g_sto (s_store rfl rfl rfl rfl rfl rfl) rfl ?_
  refine g_nil ?_
  refine vc_region mixed ?_
  refine g_val (s_field rfl rfl rfl rfl) rfl ?_
  refine g_val (s_load rfl rfl rfl rfl) rfl ?_
  refine g_val (s_add rfl rfl rfl (by simp only [inI, kMin, kMax, writeV]; omega)) rfl ?_
  refine g_val (s_field rfl rfl rfl rfl) rfl ?_
  refine g_sto (s_store rfl rfl rfl rfl rfl rfl) rfl ?_
  refine g_nil ?_
  refine vc_rseq mixed ?_
  refine g_val (s_loadA rfl rfl rfl rfl rfl) rfl ?_
  refine g_sto (s_store rfl rfl rfl rfl rfl rfl) rfl ?_
  refine g_val (s_assign rfl rfl) rfl ?_
  refine g_nil ?_
  rw [e]; exact vc_ret (ret_le [] _ (.cons (.agg rfl rfl rfl rfl) (.cons (.tmp rfl) .nil)) trivial (by repeat (first | exact leL_nil | refine leL_cons ?_ ?_ | exact LeV.tt rfl | exact .nl (by decide) (by decide) | exact .nn | refine LeV.tupL ?_ | refine LeV.aggL ?_ | exact .eq (by first | exact trivial | (simp [AV.okV, okR, lkB]; done) | (simp [AV.okV, okR, lkB]; omega)) (by first | rfl | (simp [AV.view, viewR, lkB, AV.ren, List.take_of_length_le]; done) | (simp [AV.view, viewR, lkB, AV.ren, List.take_of_length_le]; first | (simp [i64, writeV]; done) | (simp [optN, intsT, he, List.map_take, List.map_drop, intC, i64, take_map_len]; done) | (simp [optN, intsT, he, List.map_take, List.map_drop, intC, i64, take_map_len]; exact List.take_of_length_le (by simp; omega)))))) rfl)
  rw [← hg152]; replace hg152 := hg152.symm; replace hg152 := of_decide_eq_true hg152
  simp only [ne_eq] at hg152
  refine gn_val rfl rfl rfl rfl rfl rfl (by decide) ?_
  refine gn_val rfl rfl rfl rfl rfl rfl (by decide) ?_
  refine gn_val rfl rfl rfl rfl rfl rfl (by decide) ?_
  refine gn_val rfl rfl rfl rfl rfl rfl (by decide) ?_
  refine gn_val rfl rfl rfl rfl rfl rfl (by decide) ?_
  refine g_val (s_pickT rfl rfl rfl) rfl ?_
  refine g_nil ?_
  refine vc_cond rfl (fun _ => ?_) (fun h => by cases h)
  refine vc_rseq mixed ?_
  refine g_val (s_loadA rfl rfl rfl rfl rfl) rfl ?_
  refine g_sto (s_store rfl rfl rfl rfl rfl rfl) rfl ?_
  refine g_val (s_assign rfl rfl) rfl ?_
  refine g_nil ?_
  rw [show doneF v c = (v, 33) from by unfold doneF; (repeat' split) <;> first | rfl | (exfalso; omega) | (exfalso; simp_all; done) | (exfalso; simp_all; omega)]; exact vc_ret (ret_le [] _ (.cons (.agg rfl rfl rfl rfl) (.cons (.tmp rfl) .nil)) trivial (by repeat (first | exact leL_nil | refine leL_cons ?_ ?_ | exact LeV.tt rfl | exact .nl (by decide) (by decide) | exact .nn | refine LeV.tupL ?_ | refine LeV.aggL ?_ | exact .eq (by first | exact trivial | (simp [AV.okV, okR, lkB]; done) | (simp [AV.okV, okR, lkB]; omega)) (by first | rfl | (simp [AV.view, viewR, lkB, AV.ren, List.take_of_length_le]; done) | (simp [AV.view, viewR, lkB, AV.ren, List.take_of_length_le]; done)))) rfl)
  replace hc130 := of_decide_eq_false hc130
  refine vc_rseq mixed ?_
  refine g_val (s_eql rfl rfl rfl) rfl ?_
  refine g_val (s_assign rfl rfl) rfl ?_
  refine g_nil ?_
  refine vc_cond rfl (fun hc177 => ?_) (fun hc177 => ?_)
  replace hc177 := of_decide_eq_true hc177
  refine vc_seq ?_
  refine vc_rseq mixed ?_
  refine g_val (s_field rfl rfl rfl rfl) rfl ?_
  refine g_val (s_load rfl rfl rfl rfl) rfl ?_
  refine g_val (s_not rfl rfl) rfl ?_
  refine g_val (s_move rfl rfl) rfl ?_
  refine g_probe (j := 182) rfl (fun c hg182 => ?_)
  cases c
  rw [← hg182]; replace hg182 := hg182.symm
  simp only [Bool.not_eq_false'] at hg182
  refine gq_val (s_field rfl rfl rfl rfl) rfl rfl rfl rfl ?_
  refine gq_val (s_load rfl rfl rfl rfl) rfl rfl rfl rfl ?_
  refine gq_val (s_field rfl rfl rfl rfl) rfl rfl rfl rfl ?_
  refine gq_val (s_load rfl rfl rfl rfl) rfl rfl rfl rfl ?_
  refine gq_val (s_neq rfl rfl rfl) rfl rfl rfl rfl ?_
  refine g_val (s_pickF rfl rfl rfl) rfl ?_
  refine g_nil ?_
  refine vc_cond rfl (fun hc188 => ?_) (fun hc188 => ?_)
  replace hc188 := of_decide_eq_true hc188
  simp only [ne_eq] at hc188
  refine vc_rseq mixed ?_
  refine g_val (s_loadA rfl rfl rfl rfl rfl) rfl ?_
  refine g_sto (s_store rfl rfl rfl rfl rfl rfl) rfl ?_
  refine g_val (s_assign rfl rfl) rfl ?_
  refine g_nil ?_
  rw [show doneF v c = (v, 33) from by unfold doneF; (repeat' split) <;> first | rfl | (exfalso; omega) | (exfalso; simp_all; done) | (exfalso; simp_all; omega)]; exact vc_ret (ret_le [] _ (.cons (.agg rfl rfl rfl rfl) (.cons (.tmp rfl) .nil)) trivial (by repeat (first | exact leL_nil | refine leL_cons ?_ ?_ | exact LeV.tt rfl | exact .nl (by decide) (by decide) | exact .nn | refine LeV.tupL ?_ | refine LeV.aggL ?_ | exact .eq (by first | exact trivial | (simp [AV.okV, okR, lkB]; done) | (simp [AV.okV, okR, lkB]; omega)) (by first | rfl | (simp [AV.view, viewR, lkB, AV.ren, List.take_of_length_le]; done) | (simp [AV.view, viewR, lkB, AV.ren, List.take_of_length_le]; done)))) rfl)
  replace hc188 := of_decide_eq_false hc188
  simp only [ne_eq, Decidable.not_not] at hc188
  refine vc_skip ?_
  have e : doneF v c = ({ v with hidden := false, floor := v.writes.length }, 0) := by unfold doneF; (repeat' split) <;> first | rfl | (exfalso; omega) | (exfalso; simp_all; done) | (exfalso; simp_all; omega)
  refine vc_region mixed ?_
  refine g_val (s_loadA rfl rfl rfl rfl rfl) rfl ?_
  refine g_val (s_call [] (c_mementoref16_Len v) (evArgs_cons rfl evArgs_nil) trivial rfl (okVL_nil _) rfl (.inl rfl) rfl) rfl ?_
  refine g_val (s_field rfl rfl rfl rfl) rfl ?_
  refine g_sto (s_store rfl rfl rfl rfl rfl rfl) rfl ?_
  refine g_val (s_field rfl rfl rfl rfl) rfl ?_
  refine g_sto (s_store rfl rfl rfl rfl rfl rfl) rfl ?_
  refine g_nil ?_
  refine vc_rseq mixed ?_
  refine g_val (s_loadA rfl rfl rfl rfl rfl) rfl ?_
  refine g_sto (s_store rfl rfl rfl rfl rfl rfl) rfl ?_
  refine g_val (s_assign rfl rfl) rfl ?_
  refine g_nil ?_
  rw [e]; exact vc_ret (ret_le [] _ (.cons (.agg rfl rfl rfl rfl) (.cons (.tmp rfl) .nil)) trivial (by repeat (first | exact leL_nil | refine leL_cons ?_ ?_ | exact LeV.tt rfl | exact .nl (by decide) (by decide) | exact .nn | refine LeV.tupL ?_ | refine LeV.aggL ?_ | exact .eq (by first | exact trivial | (simp [AV.okV, okR, lkB]; done) | (simp [AV.okV, okR, lkB]; omega)) (by first | rfl | (simp [AV.view, viewR, lkB, AV.ren, List.take_of_length_le]; done) | (simp [AV.view, viewR, lkB, AV.ren, List.take_of_length_le]; first | (simp [i64, writeV]; done) | (simp [optN, intsT, he, List.map_take, List.map_drop, intC, i64, take_map_len]; done) | (simp [optN, intsT, he, List.map_take, List.map_drop, intC, i64, take_map_len]; exact List.take_of_length_le (by simp; omega)))))) rfl)
  rw [← hg182]; replace hg182 := hg182.symm
  simp only [Bool.not_eq_true'] at hg182
  refine gn_val rfl rfl rfl rfl rfl rfl (by decide) ?_
  refine gn_val rfl rfl rfl rfl rfl rfl (by decide) ?_
  refine gn_val rfl rfl rfl rfl rfl rfl (by decide) ?_
  refine gn_val rfl rfl rfl rfl rfl rfl (by decide) ?_
  refine gn_val rfl rfl rfl rfl rfl rfl (by decide) ?_
  refine g_val (s_pickT rfl rfl rfl) rfl ?_
  refine g_nil ?_
  refine vc_cond rfl (fun _ => ?_) (fun h => by cases h)
  refine vc_rseq mixed ?_
  refine g_val (s_loadA rfl rfl rfl rfl rfl) rfl ?_
  refine g_sto (s_store rfl rfl rfl rfl rfl rfl) rfl ?_
  refine g_val (s_assign rfl rfl) rfl ?_
  refine g_nil ?_
  rw [show doneF v c = (v, 33) from by unfold doneF; (repeat' split) <;> first | rfl | (exfalso; omega) | (exfalso; simp_all; done) | (exfalso; simp_all; omega)]; exact vc_ret (ret_le [] _ (.cons (.agg rfl rfl rfl rfl) (.cons (.tmp rfl) .nil)) trivial (by repeat (first | exact leL_nil | refine leL_cons ?_ ?_ | exact LeV.tt rfl | exact .nl (by decide) (by decide) | exact .nn | refine LeV.tupL ?_ | refine LeV.aggL ?_ | exact .eq (by first | exact trivial | (simp [AV.okV, okR, lkB]; done) | (simp [AV.okV, okR, lkB]; omega)) (by first | rfl | (simp [AV.view, viewR, lkB, AV.ren, List.take_of_length_le]; done) | (simp [AV.view, viewR, lkB, AV.ren, List.take_of_length_le]; done)))) rfl)
  replace hc177 := of_decide_eq_false hc177
  refine vc_rseq mixed ?_
  refine g_val (s_eql rfl rfl rfl) rfl ?_
  refine g_val (s_assign rfl rfl) rfl ?_
  refine g_nil ?_
  refine vc_cond rfl (fun hc194 => ?_) (fun hc194 => ?_)
  replace hc194 := of_decide_eq_true hc194
  have e : doneF v c = (v, 0) := by unfold doneF; (repeat' split) <;> first | rfl | (exfalso; omega) | (exfalso; simp_all; done) | (exfalso; simp_all; omega)
  refine vc_skip ?_
  refine vc_rseq mixed ?_
  refine g_val (s_loadA rfl rfl rfl rfl rfl) rfl ?_
  refine g_sto (s_store rfl rfl rfl rfl rfl rfl) rfl ?_
  refine g_val (s_assign rfl rfl) rfl ?_
  refine g_nil ?_
  rw [e]; exact vc_ret (ret_le [] _ (.cons (.agg rfl rfl rfl rfl) (.cons (.tmp rfl) .nil)) trivial (by repeat (first | exact leL_nil | refine leL_cons ?_ ?_ | exact LeV.tt rfl | exact .nl (by decide) (by decide) | exact .nn | refine LeV.tupL ?_ | refine LeV.aggL ?_ | exact .eq (by first | exact trivial | (simp [AV.okV, okR, lkB]; done) | (simp [AV.okV, okR, lkB]; omega)) (by first | rfl | (simp [AV.view, viewR, lkB, AV.ren, List.take_of_length_le]; done) | (simp [AV.view, viewR, lkB, AV.ren, List.take_of_length_le]; first | (simp [i64, writeV]; done) | (simp [optN, intsT, he, List.map_take, List.map_drop, intC, i64, take_map_len]; done) | (simp [optN, intsT, he, List.map_take, List.map_drop, intC, i64, take_map_len]; exact List.take_of_length_le (by simp; omega)))))) rfl)
  replace hc194 := of_decide_eq_false hc194
  refine vc_rseq mixed ?_
  refine g_val (s_loadA rfl rfl rfl rfl rfl) rfl ?_
  refine g_sto (s_store rfl rfl rfl rfl rfl rfl) rfl ?_
  refine g_val (s_assign rfl rfl) rfl ?_
  refine g_nil ?_
  rw [show doneF v c = (v, 23) from by unfold doneF; (repeat' split) <;> first | rfl | (exfalso; omega) | (exfalso; simp_all; done) | (exfalso; simp_all; omega)]; exact vc_ret (ret_le [] _ (.cons (.agg rfl rfl rfl rfl) (.cons (.tmp rfl) .nil)) trivial (by repeat (first | exact leL_nil | refine leL_cons ?_ ?_ | exact LeV.tt rfl | exact .nl (by decide) (by decide) | exact .nn | refine LeV.tupL ?_ | refine LeV.aggL ?_ | exact .eq (by first | exact trivial | (simp [AV.okV, okR, lkB]; done) | (simp [AV.okV, okR, lkB]; omega)) (by first | rfl | (simp [AV.view, viewR, lkB, AV.ren, List.take_of_length_le]; done) | (simp [AV.view, viewR, lkB, AV.ren, List.take_of_length_le]; done)))) rfl)

end Go.Eng

set_option maxHeartbeats 2000000
namespace Go.Eng
open Go.Proofs

def repOf (v : Volume) : Reply := ⟨0, v.writes.length, v.floor, v.next, []⟩
def repE (e : Int) : Reply := ⟨e, 0, 0, 0, []⟩
def doF (v : Volume) (c : VolCmd) : Volume × Reply := if (doneF v c).2 ≠ 0 then (v, repE (doneF v c).2) else ((doneF v c).1, repOf (doneF v c).1)

theorem c_mementoref16_Do (v : Volume) (c : VolCmd) (hv : volSmall v) : Con Tryz.prog 62 [sC (volC v), sC (cmdC c)] [] (.tup [sC (volC (doF v c).1), sC (repC (doF v c).2)]) [] := by
  refine con_intro [] [] Tryz.func62 rfl Tryz.ntmps62 Tryz.results62 rfl rfl ?_
  intro E
  refine vc_rseq mixed ?_
  refine g_new (s_box 2 rfl rfl rfl rfl) rfl ?_
  refine g_new (s_box 3 rfl rfl rfl rfl) rfl ?_
  refine g_new (s_alloc 4 rfl rfl) rfl ?_
  refine g_new (s_alloc 5 rfl rfl) rfl ?_
  refine g_nil ?_
  refine vc_rseq mixed ?_
  refine g_val (s_loadA rfl rfl rfl rfl rfl) rfl ?_
  refine g_val (s_loadA rfl rfl rfl rfl rfl) rfl ?_
  refine g_val (s_call [] (c_mementoref16_done v c hv) (evArgs_cons rfl (evArgs_cons rfl evArgs_nil)) trivial rfl (okVL_nil _) rfl (.inl rfl) rfl) rfl ?_
  refine g_val (s_move rfl rfl) rfl ?_
  refine g_val (s_extract rfl rfl rfl) rfl ?_
  refine g_val (s_extract rfl rfl rfl) rfl ?_
  refine g_new (s_alloc 6 rfl rfl) rfl ?_
  refine g_sto (s_store rfl rfl rfl rfl rfl rfl) rfl ?_
  refine g_val (s_assign rfl rfl) rfl ?_
  refine g_nil ?_
  refine vc_seq ?_
  refine vc_rseq mixed ?_
  refine g_val (s_move rfl rfl) rfl ?_
  refine g_val (s_neq rfl rfl rfl) rfl ?_
  refine g_nil ?_
  refine vc_cond rfl (fun hc15 => ?_) (fun hc15 => ?_)
  replace hc15 := of_decide_eq_true hc15
  simp only [ne_eq] at hc15
  have e : doF v c = (v, repE (doneF v c).2) := if_pos hc15
  refine vc_rseq mixed ?_
  refine g_val (s_loadA rfl rfl rfl rfl rfl) rfl ?_
  refine g_val (s_move rfl rfl) rfl ?_
  refine g_val (s_build (evArgs_cons rfl evArgs_nil) rfl rfl rfl) rfl ?_
  refine g_sto (s_store rfl rfl rfl rfl rfl rfl) rfl ?_
  refine g_sto (s_store rfl rfl rfl rfl rfl rfl) rfl ?_
  refine g_nil ?_
  rw [e]; exact vc_ret (ret_le [] _ (.cons (.agg rfl rfl rfl rfl) (.cons (.agg rfl rfl rfl rfl) .nil)) trivial (by repeat (first | exact leL_nil | refine leL_cons ?_ ?_ | exact LeV.tt rfl | exact .nl (by decide) (by decide) | exact .nn | refine LeV.tupL ?_ | refine LeV.aggL ?_ | exact .eq (by first | exact trivial | (simp [AV.okV, okR, lkB]; done) | (simp [AV.okV, okR, lkB]; omega)) (by first | rfl | (simp [AV.view, viewR, lkB, AV.ren, List.take_of_length_le]; done) | (simp [AV.view, viewR, lkB, AV.ren, List.take_of_length_le]; done)))) rfl)
  replace hc15 := of_decide_eq_false hc15
  simp only [ne_eq, Decidable.not_not] at hc15
  refine vc_skip ?_
  have e : doF v c = ((doneF v c).1, repOf (doneF v c).1) := if_neg (by simpa using hc15)
  refine vc_rseq mixed ?_
  refine d_val (s_loadA rfl rfl rfl rfl rfl) rfl ?_
  refine d_val (s_loadA rfl rfl rfl rfl rfl) rfl ?_
  refine d_val (s_call [] (c_mementoref16_Len (doneF v c).1) (evArgs_cons rfl evArgs_nil) trivial rfl (okVL_nil _) rfl (.inl rfl) rfl) rfl ?_
  refine d_val (s_field rfl rfl rfl rfl) rfl ?_
  refine d_val (s_load rfl rfl rfl rfl) rfl ?_
  refine d_val (s_field rfl rfl rfl rfl) rfl ?_
  refine d_val (s_load rfl rfl rfl rfl) rfl ?_
  refine d_val (s_build (evArgs_cons rfl (evArgs_cons rfl (evArgs_cons rfl evArgs_nil))) rfl rfl rfl) rfl ?_
  refine d_sto (s_store rfl rfl rfl rfl rfl rfl) rfl ?_
  refine d_sto (s_store rfl rfl rfl rfl rfl rfl) rfl ?_
  refine d_nil rfl ?_
  rw [e]; exact vc_ret (ret_le [] _ (.cons (.agg rfl rfl rfl rfl) (.cons (.agg rfl rfl rfl rfl) .nil)) trivial (by repeat (first | exact leL_nil | refine leL_cons ?_ ?_ | exact LeV.tt rfl | exact .nl (by decide) (by decide) | exact .nn | refine LeV.tupL ?_ | refine LeV.aggL ?_ | exact .eq (by first | exact trivial | (simp [AV.okV, okR, lkB]; done) | (simp [AV.okV, okR, lkB]; omega)) (by first | rfl | (simp [AV.view, viewR, lkB, AV.ren, List.take_of_length_le]; done) | (simp [AV.view, viewR, lkB, AV.ren, List.take_of_length_le]; done)))) rfl)

end Go.Eng

set_option maxHeartbeats 2000000
namespace Go.Eng
open Go.Proofs

/-! ### Numbers as bytes -/
def putG : Nat → Int → List Int
  | 0, n => [IntKind.u8.wrap n]
  | f + 1, n => if 128 ≤ n then orI .u8 (IntKind.u8.wrap n) 128 :: putG f (shrI .u64 n 7) else [IntKind.u8.wrap n]
def putI (n : Int) : List Int := putG 9 n
def u64C (z : Int) : List T := [.k (.int .u64 z)]
def u64sT (l : List Int) : T := .sl 1 8 (l.map u64C)
def putsF (l : List Int) : List Int := (l.map putI).flatten

theorem putG_len : ∀ (f : Nat) (n : Int), (putG f n).length ≤ f + 1
  | 0, n => by simp [putG]
  | f + 1, n => by
    simp only [putG]
    split
    have := putG_len f (shrI .u64 n 7); simp; omega
    simp
theorem putI_len (n : Int) : (putI n).length ≤ 10 := putG_len 9 n
theorem putsF_len : ∀ (l : List Int), (putsF l).length ≤ 10 * l.length
  | [] => by simp [putsF]
  | n :: l => by
    have := putsF_len l
    have h2 := putI_len n
    simp only [putsF, List.map_cons, List.flatten_cons, List.length_append, List.length_cons] at this ⊢
    omega
theorem putsF_snoc (l : List Int) (n : Int) : putsF (l ++ [n]) = putsF l ++ putI n := by simp [putsF]
theorem shr7 (n : Int) : shrI .u64 n 7 = n / 128 := by simp [shrI, IntKind.bits]

theorem c_mementoref1_Put_own (l : List Int) (hl : l.length ≤ 1000000) : Con Tryz.prog 83 [.t (u64sT l)] [] (.rows 0 1 0 (putsF l).length) [(0, .row 1 1 ((putsF l).map byteC))] := by
  refine con_intro [] [0] Tryz.func83 rfl Tryz.ntmps83 Tryz.results83 rfl rfl ?_
  intro E
  refine vc_okT (i := 0) rfl fun ok0 => ?_
  refine vc_rseq mixed ?_
  refine g_val (s_assign rfl rfl) rfl ?_
  refine g_nil ?_
  refine vc_rseq mixed ?_
  refine g_val (s_assign rfl rfl) rfl ?_
  refine g_nil ?_
  refine vc_seq ?_
  refine vc_ownnil (i := 3) 3 1 1 rfl rfl rfl ?_
  refine vc_rseq mixed ?_
  refine g_val (s_assign rfl rfl) rfl ?_
  refine g_nil ?_
  refine vc_block ?_
  refine vc_up l.length (fun i => ⟨[(0, .t (u64sT l)), (3, .rows 3 1 0 (putsF (l.take i)).length), (4, AI .i64 i)], [(3, some (.row 1 1 ((putsF (l.take i)).map byteC)))], [3]⟩) (fun i => True) (leE_same (by repeat (first | exact letm_nil _ _ | refine letm_cons rfl ?_ ?_ | exact .same _ | exact .nl (by decide) (by decide) | exact .nn | exact .id' rfl | exact .id' (by simp; done))) (by repeat (first | exact lehp_nil _ _ | refine lehp_cons rfl ?_ ?_ | exact leB_same _ | exact leB_row (by first | rfl | (simp; done)) | exact leB_obj (by simp; done) | exact leB_nest (by first | rfl | (simp; done)) | refine leB_box ?_ | exact leL_nil | refine leL_cons ?_ ?_ | exact .same _ | exact .nl (by decide) (by decide) | exact .nn | exact .id' rfl | exact .id' (by simp; done))) rfl) trivial (fun i hi _ => ?_)
  refine vc_seq ?_
  refine vc_rseq mixed ?_
  refine g_val (s_move rfl rfl) rfl ?_
  refine g_val (s_move rfl rfl) rfl ?_
  refine g_val (s_len rfl rfl) rfl ?_
  refine g_val (s_lss rfl rfl rfl) rfl ?_
  refine g_nil ?_
  refine vc_cond rfl (fun hc9 => ?_) (fun hc9 => ?_)
  replace hc9 := of_decide_eq_true hc9
  simp only [List.length_map] at hc9
  obtain ⟨x, hx⟩ := get_of_lt (l := l) (i := i) (by omega)
  have hxr : inI .u64 x := (ok0.cell (List.mem_map_of_mem (List.mem_of_getElem? hx)) (t := .k (.int .u64 x)) (by simp [u64C])).int
  have hpl := putsF_len (l.take i)
  have hti : (l.take i).length ≤ 1000000 := by simp; omega
  simp only [inI, kMin, kMax] at hxr
  have h0 : 0 ≤ x ∧ x < 128 * 2 ^ (7 * 9) ∧ x < 18446744073709551616 := by
    have h2 : (2 : Int) ^ (7 * 9) = 9223372036854775808 := by decide
    rw [h2]; omega
  refine vc_skip ?_
  refine vc_seq ?_
  refine vc_block ?_
  refine vc_rseq mixed ?_
  refine g_val (s_move rfl rfl) rfl ?_
  refine g_val (s_move rfl rfl) rfl ?_
  refine g_val (s_index rfl rfl rfl (by omega) (idx_map hx)) rfl ?_
  refine g_val (s_loadT rfl rfl rfl) rfl ?_
  refine g_val (s_assign rfl rfl) rfl ?_
  refine g_nil ?_
  refine vc_seq ?_
  refine vc_block ?_
  refine vc_while (α := Nat × Int × List Int) (fun s => ⟨[(0, .t (u64sT l)), (3, .rows 3 1 0 s.2.2.length), (4, AI .i64 i), (5, AI .u64 s.2.1)], [(3, some (.row 1 1 (s.2.2.map byteC)))], [3]⟩) (fun s => 0 ≤ s.2.1 ∧ s.2.1 < 128 * 2 ^ (7 * s.1) ∧ s.2.2 ++ putG s.1 s.2.1 = putsF (l.take i) ++ putI x ∧ s.2.1 < 18446744073709551616) (fun s => s.1) (9, x, putsF (l.take i)) (leE_same (by repeat (first | exact letm_nil _ _ | refine letm_cons rfl ?_ ?_ | exact .same _ | exact .nl (by decide) (by decide) | exact .nn | exact .id' rfl | exact .id' (by simp; done))) (by repeat (first | exact lehp_nil _ _ | refine lehp_cons rfl ?_ ?_ | exact leB_same _ | exact leB_row (by first | rfl | (simp; done)) | exact leB_obj (by simp; done) | exact leB_nest (by first | rfl | (simp; done)) | refine leB_box ?_ | exact leL_nil | refine leL_cons ?_ ?_ | exact .same _ | exact .nl (by decide) (by decide) | exact .nn | exact .id' rfl | exact .id' (by simp; done))) rfl) ⟨h0.1, h0.2.1, rfl, h0.2.2⟩ (fun s ⟨hs1, hs2, hs3, hs4⟩ => ?_)
  obtain ⟨f, m, acc⟩ := s
  simp only at hs1 hs2 hs3 hs4
  have hal : acc.length ≤ 10000010 := by have := congrArg List.length hs3; simp only [List.length_append] at this; have := putI_len x; omega
  refine vc_seq ?_
  refine vc_rseq mixed ?_
  refine g_val (s_move rfl rfl) rfl ?_
  refine g_val (s_geq rfl rfl rfl) rfl ?_
  refine g_nil ?_
  refine vc_cond rfl (fun hc17 => ?_) (fun hc17 => ?_)
  replace hc17 := of_decide_eq_true hc17
  try simp only [List.length_map, ne_eq, Decidable.not_not, Int.not_lt, Int.not_le, ge_iff_le, gt_iff_lt, Bool.not_eq_true', Bool.not_eq_false', decide_eq_true_eq, decide_eq_false_iff_not] at hc17
  refine vc_skip ?_
  refine vc_block ?_
  refine vc_rseq mixed ?_
  refine g_val (s_move rfl rfl) rfl ?_
  refine g_val (s_move rfl rfl) rfl ?_
  refine g_val (s_convW rfl rfl) rfl ?_
  refine g_val (s_orB rfl rfl rfl) rfl ?_
  refine g_fz ((s_buildSlice 22 (evArgs_cons rfl evArgs_nil) rfl rfl rfl rfl).fzE rfl) rfl ?_
  refine g_app (s_append 23 rfl rfl rfl rfl rfl (by simp) rfl rfl (by (try simp only [List.length_cons, List.length_nil]); omega)) rfl ?_
  refine g_val (s_assign rfl rfl) rfl ?_
  refine g_nil ?_
  refine vc_region mixed ?_
  refine g_val (s_move rfl rfl) rfl ?_
  refine g_val (s_shrB rfl rfl rfl (by omega) (by omega)) rfl ?_
  refine g_val (s_assign rfl rfl) rfl ?_
  refine g_nil ?_
  cases f with
  | zero => exfalso; simp at hs2; omega
  | succ f =>
    refine ⟨(f, shrI .u64 m 7, acc ++ [orI .u8 (IntKind.u8.wrap m) 128]), ⟨?_, ?_, ?_, ?_⟩, Nat.lt_succ_self f, ?_⟩
    simp only [shr7]; omega
    simp only [shr7]
    have : (2 : Int) ^ (7 * (f + 1)) = 128 * 2 ^ (7 * f) := by rw [show 7 * (f + 1) = 7 + 7 * f by omega, Int.pow_add]; rfl
    rw [this] at hs2; omega
    simp only [putG, if_pos hc17] at hs3; simpa using hs3
    simp only [shr7]; omega
    simp only [List.length_append, List.length_cons, List.length_nil]
    exact (leE_gen [] [(3, 23)] (by repeat (first | exact letm_nil _ _ | refine letm_cons rfl ?_ ?_ | exact LeV.tt rfl | exact .eq (okV_nil _) rfl | exact LeV.tt (by rw [List.take_of_length_le (by simp)]; simp [byteC]) | exact .eq (okV_nil _) (by rw [List.take_of_length_le (by simp)]; simp [byteC]))) (by repeat (first | exact lehp_nil _ _ | refine lehp_cons rfl ?_ ?_ | exact leB_row (by first | rfl | (rw [List.take_of_length_le (by simp)]; simp [byteC])) | exact leB_obj (by rw [List.take_of_length_le (by simp)]; simp [byteC]) | exact leB_nest (by first | rfl | (rw [List.take_of_length_le (by simp)]; simp [byteC])) | refine leB_box ?_ | exact leL_nil | refine leL_cons ?_ ?_ | exact LeV.tt rfl | exact .eq (okV_nil _) rfl | exact LeV.tt (by rw [List.take_of_length_le (by simp)]; simp [byteC]) | exact .eq (okV_nil _) (by rw [List.take_of_length_le (by simp)]; simp [byteC]))) trivial rfl)
  replace hc17 := of_decide_eq_false hc17
  simp only [Int.not_le] at hc17
  refine vc_exit ?_
  refine vc_region mixed ?_
  refine g_val (s_move rfl rfl) rfl ?_
  refine g_val (s_move rfl rfl) rfl ?_
  refine g_val (s_convW rfl rfl) rfl ?_
  refine g_fz ((s_buildSlice 29 (evArgs_cons rfl evArgs_nil) rfl rfl rfl rfl).fzE rfl) rfl ?_
  refine g_app (s_append 30 rfl rfl rfl rfl rfl (by simp) rfl rfl (by (try simp only [List.length_cons, List.length_nil]); omega)) rfl ?_
  refine g_val (s_assign rfl rfl) rfl ?_
  refine g_nil ?_
  refine vc_region mixed ?_
  refine g_val (s_move rfl rfl) rfl ?_
  refine g_val (s_add rfl rfl rfl (by simp only [inI, kMin, kMax]; omega)) rfl ?_
  refine g_val (s_assign rfl rfl) rfl ?_
  refine g_nil ?_
  exact ⟨by omega, trivial, by
  have hp : putG f m = [IntKind.u8.wrap m] := by cases f <;> simp [putG]; omega
  rw [take_snoc hx, putsF_snoc, ← hs3, hp]
  simp only [List.length_append, List.length_cons, List.length_nil]
  exact (leE_gen [] [(3, 30)] (by repeat (first | exact letm_nil _ _ | refine letm_cons rfl ?_ ?_ | exact LeV.tt rfl | exact .eq (okV_nil _) rfl | exact LeV.tt (by rw [List.take_of_length_le (by simp)]; simp [byteC]) | exact .eq (okV_nil _) (by rw [List.take_of_length_le (by simp)]; simp [byteC]))) (by repeat (first | exact lehp_nil _ _ | refine lehp_cons rfl ?_ ?_ | exact leB_row (by first | rfl | (rw [List.take_of_length_le (by simp)]; simp [byteC])) | exact leB_obj (by rw [List.take_of_length_le (by simp)]; simp [byteC]) | exact leB_nest (by first | rfl | (rw [List.take_of_length_le (by simp)]; simp [byteC])) | refine leB_box ?_ | exact leL_nil | refine leL_cons ?_ ?_ | exact LeV.tt rfl | exact .eq (okV_nil _) rfl | exact LeV.tt (by rw [List.take_of_length_le (by simp)]; simp [byteC]) | exact .eq (okV_nil _) (by rw [List.take_of_length_le (by simp)]; simp [byteC]))) trivial rfl)⟩
  replace hc9 := of_decide_eq_false hc9
  simp only [List.length_map, Int.not_lt] at hc9
  refine vc_exit ?_
  obtain rfl : i = l.length := by omega
  refine vc_rseq mixed ?_
  refine g_val (s_move rfl rfl) rfl ?_
  refine g_val (s_assign rfl rfl) rfl ?_
  refine g_nil ?_
  exact vc_ret (ret_hand [] [(0, 3)] _ (.cons (.tmp rfl) .nil) trivial (.eq (okV_nil _) (by simp only [List.take_length]; rfl)) (lehp_cons rfl (leB_row (by simp only [List.take_length])) (lehp_nil _ _)) rfl)

theorem c_mementoref1_Put (l : List Int) (hl : l.length ≤ 1000000) : Con Tryz.prog 83 [.t (u64sT l)] [] (.t (bytesT (putsF l))) [] := (c_mementoref1_Put_own l hl).freeze (by simp)

def numI (n : Int) : List Int := putI (IntKind.u64.wrap n)
def numsF (l : List Int) : List Int := (l.map numI).flatten
theorem numsF_snoc (l : List Int) (n : Int) : numsF (l ++ [n]) = numsF l ++ putI (IntKind.u64.wrap n) := by simp [numsF, numI]
theorem numsF_len : ∀ (l : List Int), (numsF l).length ≤ 10 * l.length
  | [] => by simp [numsF]
  | n :: l => by
    have := numsF_len l
    have h2 := putI_len (IntKind.u64.wrap n)
    simp only [numsF, numI, List.map_cons, List.flatten_cons, List.length_append, List.length_cons] at this ⊢
    omega

theorem c_mementoref16_nums_own (l : List Int) (hl : l.length ≤ 1000000) : Con Tryz.prog 57 [.t (intsT l)] [] (.rows 0 1 0 (numsF l).length) [(0, .row 1 1 ((numsF l).map byteC))] := by
  refine con_intro [] [0] Tryz.func57 rfl Tryz.ntmps57 Tryz.results57 rfl rfl ?_
  intro E
  refine vc_rseq mixed ?_
  refine g_val (s_assign rfl rfl) rfl ?_
  refine g_nil ?_
  refine vc_rseq mixed ?_
  refine g_val (s_assign rfl rfl) rfl ?_
  refine g_nil ?_
  refine vc_seq ?_
  refine vc_ownnil (i := 3) 3 1 1 rfl rfl rfl ?_
  refine vc_rseq mixed ?_
  refine g_val (s_assign rfl rfl) rfl ?_
  refine g_nil ?_
  refine vc_block ?_
  refine vc_up l.length (fun i => ⟨[(0, .t (intsT l)), (3, .rows 3 1 0 (numsF (l.take i)).length), (4, AI .i64 i)], [(3, some (.row 1 1 ((numsF (l.take i)).map byteC)))], [3]⟩) (fun i => True) (leE_same (by repeat (first | exact letm_nil _ _ | refine letm_cons rfl ?_ ?_ | exact .same _ | exact .nl (by decide) (by decide) | exact .nn | exact .id' rfl | exact .id' (by simp; done))) (by repeat (first | exact lehp_nil _ _ | refine lehp_cons rfl ?_ ?_ | exact leB_same _ | exact leB_row (by first | rfl | (simp; done)) | exact leB_obj (by simp; done) | exact leB_nest (by first | rfl | (simp; done)) | refine leB_box ?_ | exact leL_nil | refine leL_cons ?_ ?_ | exact .same _ | exact .nl (by decide) (by decide) | exact .nn | exact .id' rfl | exact .id' (by simp; done))) rfl) trivial (fun i hi _ => ?_)
  refine vc_seq ?_
  refine vc_rseq mixed ?_
  refine g_val (s_move rfl rfl) rfl ?_
  refine g_val (s_move rfl rfl) rfl ?_
  refine g_val (s_len rfl rfl) rfl ?_
  refine g_val (s_lss rfl rfl rfl) rfl ?_
  refine g_nil ?_
  refine vc_cond rfl (fun hc8 => ?_) (fun hc8 => ?_)
  replace hc8 := of_decide_eq_true hc8
  simp only [List.length_map] at hc8
  obtain ⟨x, hx⟩ := get_of_lt (l := l) (i := i) (by omega)
  have hpl := numsF_len (l.take i)
  have hti : (l.take i).length ≤ 1000000 := by simp; omega
  have hq : putsF [IntKind.u64.wrap x] = putI (IntKind.u64.wrap x) := by simp [putsF]
  have hq2 := putI_len (IntKind.u64.wrap x)
  refine vc_skip ?_
  refine vc_seq ?_
  refine vc_block ?_
  refine vc_region mixed ?_
  refine g_val (s_move rfl rfl) rfl ?_
  refine g_val (s_move rfl rfl) rfl ?_
  refine g_val (s_move rfl rfl) rfl ?_
  refine g_val (s_index rfl rfl rfl (by omega) (idx_map hx)) rfl ?_
  refine g_val (s_loadT rfl rfl rfl) rfl ?_
  refine g_val (s_convW rfl rfl) rfl ?_
  refine g_fz ((s_buildSlice 17 (evArgs_cons rfl evArgs_nil) rfl rfl rfl rfl).fzE rfl) rfl ?_
  refine g_val (s_call [] (c_mementoref1_Put [IntKind.u64.wrap x] (by simp)) (evArgs_cons rfl evArgs_nil) trivial rfl (okVL_nil _) rfl (.inl rfl) rfl) rfl ?_
  refine g_app (s_append 19 rfl rfl rfl rfl rfl (by simp) rfl rfl (by simp only [List.length_map, hq]; omega)) rfl ?_
  refine g_val (s_assign rfl rfl) rfl ?_
  refine g_nil ?_
  refine vc_region mixed ?_
  refine g_val (s_move rfl rfl) rfl ?_
  refine g_val (s_add rfl rfl rfl (by simp only [inI, kMin, kMax]; omega)) rfl ?_
  refine g_val (s_assign rfl rfl) rfl ?_
  refine g_nil ?_
  exact ⟨by omega, trivial, by
  rw [take_snoc hx, numsF_snoc]
  simp only [List.length_append, List.length_map, hq]
  exact (leE_gen [] [(3, 19)] (by repeat (first | exact letm_nil _ _ | refine letm_cons rfl ?_ ?_ | exact LeV.tt rfl | exact .eq (okV_nil _) rfl | exact LeV.tt (by rw [List.take_of_length_le (by simp)]; simp) | exact .eq (okV_nil _) (by rw [List.take_of_length_le (by simp)]; simp))) (by repeat (first | exact lehp_nil _ _ | refine lehp_cons rfl ?_ ?_ | exact leB_row (by first | rfl | (rw [List.take_of_length_le (by simp)]; simp)) | exact leB_obj (by rw [List.take_of_length_le (by simp)]; simp) | exact leB_nest (by first | rfl | (rw [List.take_of_length_le (by simp)]; simp)) | refine leB_box ?_ | exact leL_nil | refine leL_cons ?_ ?_ | exact LeV.tt rfl | exact .eq (okV_nil _) rfl | exact LeV.tt (by rw [List.take_of_length_le (by simp)]; simp) | exact .eq (okV_nil _) (by rw [List.take_of_length_le (by simp)]; simp))) trivial rfl)⟩
  replace hc8 := of_decide_eq_false hc8
  simp only [List.length_map, Int.not_lt] at hc8
  refine vc_exit ?_
  obtain rfl : i = l.length := by omega
  refine vc_rseq mixed ?_
  refine g_val (s_move rfl rfl) rfl ?_
  refine g_val (s_assign rfl rfl) rfl ?_
  refine g_nil ?_
  exact vc_ret (ret_hand [] [(0, 3)] _ (.cons (.tmp rfl) .nil) trivial (.eq (okV_nil _) (by simp only [List.take_length]; rfl)) (lehp_cons rfl (leB_row (by simp only [List.take_length])) (lehp_nil _ _)) rfl)
theorem c_mementoref16_nums (l : List Int) (hl : l.length ≤ 1000000) : Con Tryz.prog 57 [.t (intsT l)] [] (.t (bytesT (numsF l))) [] := (c_mementoref16_nums_own l hl).freeze (by simp)

theorem c_mementoref13_nums_own (l : List Int) (hl : l.length ≤ 1000000) : Con Tryz.prog 84 [.t (intsT l)] [] (.rows 0 1 0 (numsF l).length) [(0, .row 1 1 ((numsF l).map byteC))] := by
  refine con_intro [] [0] Tryz.func84 rfl Tryz.ntmps84 Tryz.results84 rfl rfl ?_
  intro E
  refine vc_rseq mixed ?_
  refine g_val (s_assign rfl rfl) rfl ?_
  refine g_nil ?_
  refine vc_rseq mixed ?_
  refine g_val (s_assign rfl rfl) rfl ?_
  refine g_nil ?_
  refine vc_seq ?_
  refine vc_ownnil (i := 3) 3 1 1 rfl rfl rfl ?_
  refine vc_rseq mixed ?_
  refine g_val (s_assign rfl rfl) rfl ?_
  refine g_nil ?_
  refine vc_block ?_
  refine vc_up l.length (fun i => ⟨[(0, .t (intsT l)), (3, .rows 3 1 0 (numsF (l.take i)).length), (4, AI .i64 i)], [(3, some (.row 1 1 ((numsF (l.take i)).map byteC)))], [3]⟩) (fun i => True) (leE_same (by repeat (first | exact letm_nil _ _ | refine letm_cons rfl ?_ ?_ | exact .same _ | exact .nl (by decide) (by decide) | exact .nn | exact .id' rfl | exact .id' (by simp; done))) (by repeat (first | exact lehp_nil _ _ | refine lehp_cons rfl ?_ ?_ | exact leB_same _ | exact leB_row (by first | rfl | (simp; done)) | exact leB_obj (by simp; done) | exact leB_nest (by first | rfl | (simp; done)) | refine leB_box ?_ | exact leL_nil | refine leL_cons ?_ ?_ | exact .same _ | exact .nl (by decide) (by decide) | exact .nn | exact .id' rfl | exact .id' (by simp; done))) rfl) trivial (fun i hi _ => ?_)
  refine vc_seq ?_
  refine vc_rseq mixed ?_
  refine g_val (s_move rfl rfl) rfl ?_
  refine g_val (s_move rfl rfl) rfl ?_
  refine g_val (s_len rfl rfl) rfl ?_
  refine g_val (s_lss rfl rfl rfl) rfl ?_
  refine g_nil ?_
  refine vc_cond rfl (fun hc8 => ?_) (fun hc8 => ?_)
  replace hc8 := of_decide_eq_true hc8
  simp only [List.length_map] at hc8
  obtain ⟨x, hx⟩ := get_of_lt (l := l) (i := i) (by omega)
  have hpl := numsF_len (l.take i)
  have hti : (l.take i).length ≤ 1000000 := by simp; omega
  have hq : putsF [IntKind.u64.wrap x] = putI (IntKind.u64.wrap x) := by simp [putsF]
  have hq2 := putI_len (IntKind.u64.wrap x)
  refine vc_skip ?_
  refine vc_seq ?_
  refine vc_block ?_
  refine vc_region mixed ?_
  refine g_val (s_move rfl rfl) rfl ?_
  refine g_val (s_move rfl rfl) rfl ?_
  refine g_val (s_move rfl rfl) rfl ?_
  refine g_val (s_index rfl rfl rfl (by omega) (idx_map hx)) rfl ?_
  refine g_val (s_loadT rfl rfl rfl) rfl ?_
  refine g_val (s_convW rfl rfl) rfl ?_
  refine g_fz ((s_buildSlice 17 (evArgs_cons rfl evArgs_nil) rfl rfl rfl rfl).fzE rfl) rfl ?_
  refine g_val (s_call [] (c_mementoref1_Put [IntKind.u64.wrap x] (by simp)) (evArgs_cons rfl evArgs_nil) trivial rfl (okVL_nil _) rfl (.inl rfl) rfl) rfl ?_
  refine g_app (s_append 19 rfl rfl rfl rfl rfl (by simp) rfl rfl (by simp only [List.length_map, hq]; omega)) rfl ?_
  refine g_val (s_assign rfl rfl) rfl ?_
  refine g_nil ?_
  refine vc_region mixed ?_
  refine g_val (s_move rfl rfl) rfl ?_
  refine g_val (s_add rfl rfl rfl (by simp only [inI, kMin, kMax]; omega)) rfl ?_
  refine g_val (s_assign rfl rfl) rfl ?_
  refine g_nil ?_
  exact ⟨by omega, trivial, by
  rw [take_snoc hx, numsF_snoc]
  simp only [List.length_append, List.length_map, hq]
  exact (leE_gen [] [(3, 19)] (by repeat (first | exact letm_nil _ _ | refine letm_cons rfl ?_ ?_ | exact LeV.tt rfl | exact .eq (okV_nil _) rfl | exact LeV.tt (by rw [List.take_of_length_le (by simp)]; simp) | exact .eq (okV_nil _) (by rw [List.take_of_length_le (by simp)]; simp))) (by repeat (first | exact lehp_nil _ _ | refine lehp_cons rfl ?_ ?_ | exact leB_row (by first | rfl | (rw [List.take_of_length_le (by simp)]; simp)) | exact leB_obj (by rw [List.take_of_length_le (by simp)]; simp) | exact leB_nest (by first | rfl | (rw [List.take_of_length_le (by simp)]; simp)) | refine leB_box ?_ | exact leL_nil | refine leL_cons ?_ ?_ | exact LeV.tt rfl | exact .eq (okV_nil _) rfl | exact LeV.tt (by rw [List.take_of_length_le (by simp)]; simp) | exact .eq (okV_nil _) (by rw [List.take_of_length_le (by simp)]; simp))) trivial rfl)⟩
  replace hc8 := of_decide_eq_false hc8
  simp only [List.length_map, Int.not_lt] at hc8
  refine vc_exit ?_
  obtain rfl : i = l.length := by omega
  refine vc_rseq mixed ?_
  refine g_val (s_move rfl rfl) rfl ?_
  refine g_val (s_assign rfl rfl) rfl ?_
  refine g_nil ?_
  exact vc_ret (ret_hand [] [(0, 3)] _ (.cons (.tmp rfl) .nil) trivial (.eq (okV_nil _) (by simp only [List.take_length]; rfl)) (lehp_cons rfl (leB_row (by simp only [List.take_length])) (lehp_nil _ _)) rfl)
theorem c_mementoref13_nums (l : List Int) (hl : l.length ≤ 1000000) : Con Tryz.prog 84 [.t (intsT l)] [] (.t (bytesT (numsF l))) [] := (c_mementoref13_nums_own l hl).freeze (by simp)

end Go.Eng

set_option maxHeartbeats 2000000
namespace Go.Eng
open Go.Proofs

def lumpF (l : List Int) : List Int := putI (IntKind.u64.wrap l.length) ++ l
theorem lumpF_len (l : List Int) : (lumpF l).length ≤ 10 + l.length := by
  have := putI_len (IntKind.u64.wrap l.length)
  simp only [lumpF, List.length_append]; omega

theorem c_mementoref1_Lump (l : List Int) (hl : l.length ≤ 100000000) : Con Tryz.prog 85 [.t (bytesT l)] [] (.t (bytesT (lumpF l))) [] := by
  refine con_intro [] [] Tryz.func85 rfl Tryz.ntmps85 Tryz.results85 rfl rfl ?_
  intro E
  have hq : putsF [IntKind.u64.wrap l.length] = putI (IntKind.u64.wrap l.length) := by simp [putsF]
  have hq2 := putI_len (IntKind.u64.wrap l.length)
  refine vc_rseq mixed ?_
  refine g_val (s_assign rfl rfl) rfl ?_
  refine g_nil ?_
  refine vc_rseq mixed ?_
  refine g_val (s_move rfl rfl) rfl ?_
  refine g_val (s_len rfl rfl) rfl ?_
  refine g_val (s_convW rfl rfl) rfl ?_
  refine g_fz ((s_buildSlice 6 (evArgs_cons rfl evArgs_nil) rfl rfl rfl rfl).fzE rfl) rfl ?_
  refine g_new (s_callH [] [(0, 7)] (c_mementoref1_Put_own [IntKind.u64.wrap ((List.map byteC l).length : Int)] (by simp)) (evArgs_cons rfl evArgs_nil) trivial rfl (okVL_nil _) rfl rfl rfl) rfl ?_
  refine g_val (s_move rfl rfl) rfl ?_
  refine g_fa ((s_append 9 rfl rfl rfl rfl rfl (by simp) rfl rfl (by simp only [List.length_map] at *; simp only [hq]; omega)).fzA (by simp) rfl) rfl ?_
  refine g_val (s_assign rfl rfl) rfl ?_
  refine g_nil ?_
  exact vc_ret (ret_le [] _ (.cons (.tmp rfl) .nil) trivial (LeV.tt (by simp only [List.length_map, hq]; rw [List.take_of_length_le (by simp), List.take_of_length_le (by simp)]; simp [bytesT, lumpF])) rfl)

def itemB (x : Item) : List Int := numsF [x.block] ++ lumpF x.data
def itemsB (l : List Item) : List Int := numsF [(l.length : Int)] ++ (l.map itemB).flatten
def itemsSmall (l : List Item) : Prop := l.length ≤ 1000 ∧ ∀ x ∈ l, x.data.length ≤ 1000
theorem itemB_len {x : Item} (h : x.data.length ≤ 1000) : (itemB x).length ≤ 1020 := by
  have h1 := numsF_len [x.block]
  have h2 := lumpF_len x.data
  simp only [itemB, List.length_append, List.length_cons, List.length_nil] at *; omega
theorem flat_len : ∀ {l : List Item}, (∀ x ∈ l, x.data.length ≤ 1000) → ((l.map itemB).flatten).length ≤ 1020 * l.length
  | [], _ => by simp
  | x :: l, h => by
    have := flat_len (l := l) fun y hy => h y (List.mem_cons_of_mem _ hy)
    have h2 := itemB_len (h x (List.mem_cons_self ..))
    simp only [List.map_cons, List.flatten_cons, List.length_append, List.length_cons] at *; omega

def itemsG (l : List Item) (i : Nat) : List Int := numsF [(l.length : Int)] ++ ((l.take i).map itemB).flatten
theorem itemsG_succ {l : List Item} {i : Nat} {x : Item} (hx : l[i]? = some x) : itemsG l (i + 1) = itemsG l i ++ numsF [x.block] ++ lumpF x.data := by
  simp [itemsG, take_snoc hx, itemB]
theorem itemsG_zero (l : List Item) : itemsG l 0 = numsF [(l.length : Int)] := by simp [itemsG]
theorem itemsG_all (l : List Item) : itemsG l l.length = itemsB l := by simp [itemsG, itemsB]
theorem itemsG_len {l : List Item} (hl : itemsSmall l) (i : Nat) : (itemsG l i).length ≤ 2000000 := by
  have hfl := flat_len (l := l.take i) fun y hy => hl.2 y (List.mem_of_mem_take hy)
  have hti : (l.take i).length ≤ 1000 := by have := hl.1; simp; omega
  have hn1 := numsF_len [(l.length : Int)]
  simp only [itemsG, List.length_append, List.length_cons, List.length_nil] at *; omega

theorem c_mementoref13_PutItems (l : List Item) (hl : itemsSmall l) : Con Tryz.prog 59 [.t (itemsT l)] [] (.t (bytesT (itemsB l))) [] := by
  refine con_intro [] [] Tryz.func59 rfl Tryz.ntmps59 Tryz.results59 rfl rfl ?_
  intro E
  have hl1 := hl.1
  have hn1 := numsF_len [(l.length : Int)]
  refine vc_rseq mixed ?_
  refine g_val (s_assign rfl rfl) rfl ?_
  refine g_nil ?_
  refine vc_rseq mixed ?_
  refine g_val (s_move rfl rfl) rfl ?_
  refine g_val (s_len rfl rfl) rfl ?_
  refine g_fz ((s_buildSlice 7 (evArgs_cons rfl evArgs_nil) rfl rfl rfl rfl).fzE rfl) rfl ?_
  refine g_new (s_callH [] [(0, 8)] (c_mementoref13_nums_own [((List.map itemC l).length : Int)] (by simp)) (evArgs_cons rfl evArgs_nil) trivial rfl (okVL_nil _) rfl rfl rfl) rfl ?_
  refine g_val (s_assign rfl rfl) rfl ?_
  refine g_nil ?_
  refine vc_seq ?_
  refine vc_rseq mixed ?_
  refine g_val (s_assign rfl rfl) rfl ?_
  refine g_nil ?_
  refine vc_block ?_
  refine vc_up l.length (fun i => ⟨[(0, .t (itemsT l)), (3, .rows 8 1 0 (itemsG l i).length), (4, AI .i64 i)], [(8, some (.row 1 1 ((itemsG l i).map byteC)))], [8]⟩) (fun i => True) (leE_same (by repeat (first | exact letm_nil _ _ | refine letm_cons rfl ?_ ?_ | exact .same _ | exact .nl (by decide) (by decide) | exact .nn | exact .id' rfl | exact .id' (by simp only [List.length_map, itemsG_zero]; first | done | rfl))) (by repeat (first | exact lehp_nil _ _ | refine lehp_cons rfl ?_ ?_ | exact leB_same _ | exact leB_row (by first | rfl | (simp only [List.length_map, itemsG_zero]; first | done | rfl)) | exact leB_obj (by simp only [List.length_map, itemsG_zero]; first | done | rfl) | exact leB_nest (by first | rfl | (simp only [List.length_map, itemsG_zero]; first | done | rfl)) | refine leB_box ?_ | exact leL_nil | refine leL_cons ?_ ?_ | exact .same _ | exact .nl (by decide) (by decide) | exact .nn | exact .id' rfl | exact .id' (by simp only [List.length_map, itemsG_zero]; first | done | rfl))) rfl) trivial (fun i hi _ => ?_)
  refine vc_seq ?_
  refine vc_rseq mixed ?_
  refine g_val (s_move rfl rfl) rfl ?_
  refine g_val (s_move rfl rfl) rfl ?_
  refine g_val (s_len rfl rfl) rfl ?_
  refine g_val (s_lss rfl rfl rfl) rfl ?_
  refine g_nil ?_
  refine vc_cond rfl (fun hc12 => ?_) (fun hc12 => ?_)
  replace hc12 := of_decide_eq_true hc12
  simp only [List.length_map] at hc12
  obtain ⟨x, hx⟩ := get_of_lt (l := l) (i := i) (by omega)
  have hxd := hl.2 x (List.mem_of_getElem? hx)
  have hgl := itemsG_len hl i
  have hnx := numsF_len [x.block]
  have hlx := lumpF_len x.data
  simp only [List.length_cons, List.length_nil] at hn1 hnx
  refine vc_skip ?_
  refine vc_seq ?_
  refine vc_block ?_
  refine vc_region mixed ?_
  refine d_val (s_move rfl rfl) rfl ?_
  refine d_val (s_move rfl rfl) rfl ?_
  refine d_val (s_move rfl rfl) rfl ?_
  refine d_val (s_index rfl rfl rfl (by omega) (idx_map hx)) rfl ?_
  refine d_val (s_fieldT rfl rfl rfl rfl rfl) rfl ?_
  refine d_val (s_loadT rfl rfl rfl) rfl ?_
  refine d_fz ((s_buildSlice 21 (evArgs_cons rfl evArgs_nil) rfl rfl rfl rfl).fzE rfl) rfl ?_
  refine d_val (s_call [] (c_mementoref13_nums [x.block] (by simp)) (evArgs_cons rfl evArgs_nil) trivial rfl (okVL_nil _) rfl (.inl rfl) rfl) rfl ?_
  refine d_app (s_append 23 rfl rfl rfl rfl rfl (by simp only [List.length_map]; omega) rfl rfl (by simp only [List.length_map, List.length_append]; omega)) rfl ?_
  refine d_val (s_move rfl rfl) rfl ?_
  refine d_val (s_move rfl rfl) rfl ?_
  refine d_val (s_index rfl rfl rfl (by omega) (idx_map hx)) rfl ?_
  refine d_val (s_fieldT rfl rfl rfl rfl rfl) rfl ?_
  refine d_val (s_loadT rfl rfl rfl) rfl ?_
  refine d_val (s_call [] (c_mementoref1_Lump x.data (by omega)) (evArgs_cons rfl evArgs_nil) trivial rfl (okVL_nil _) rfl (.inl rfl) rfl) rfl ?_
  refine d_app (s_append 30 rfl rfl rfl rfl rfl (by simp only [List.length_append, List.length_take, List.length_map]; omega) rfl rfl (by simp only [List.length_map, List.length_append]; omega)) rfl ?_
  refine d_val (s_assign rfl rfl) rfl ?_
  refine d_nil rfl ?_
  refine vc_region mixed ?_
  refine g_val (s_move rfl rfl) rfl ?_
  refine g_val (s_add rfl rfl rfl (by simp only [inI, kMin, kMax]; omega)) rfl ?_
  refine g_val (s_assign rfl rfl) rfl ?_
  refine g_nil ?_
  exact ⟨by omega, trivial, by
  rw [itemsG_succ hx]
  simp only [List.length_append, List.length_map]
  exact (leE_gen [] [(8, 30)] (by repeat (first | exact letm_nil _ _ | refine letm_cons rfl ?_ ?_ | exact LeV.tt rfl | exact .eq (okV_nil _) rfl | exact LeV.tt (by rw [List.take_of_length_le (by simp), List.take_of_length_le (by simp)]; simp) | exact .eq (okV_nil _) (by rw [List.take_of_length_le (by simp), List.take_of_length_le (by simp)]; simp))) (by repeat (first | exact lehp_nil _ _ | refine lehp_cons rfl ?_ ?_ | exact leB_row (by first | rfl | (rw [List.take_of_length_le (by simp), List.take_of_length_le (by simp)]; simp)) | exact leB_obj (by rw [List.take_of_length_le (by simp), List.take_of_length_le (by simp)]; simp) | exact leB_nest (by first | rfl | (rw [List.take_of_length_le (by simp), List.take_of_length_le (by simp)]; simp)) | refine leB_box ?_ | exact leL_nil | refine leL_cons ?_ ?_ | exact LeV.tt rfl | exact .eq (okV_nil _) rfl | exact LeV.tt (by rw [List.take_of_length_le (by simp), List.take_of_length_le (by simp)]; simp) | exact .eq (okV_nil _) (by rw [List.take_of_length_le (by simp), List.take_of_length_le (by simp)]; simp))) trivial rfl)⟩
  replace hc12 := of_decide_eq_false hc12
  simp only [List.length_map, Int.not_lt] at hc12
  refine vc_exit ?_
  obtain rfl : i = l.length := by omega
  refine vc_rseq mixed ?_
  refine g_val (s_move rfl rfl) rfl ?_
  refine g_val (s_assign rfl rfl) rfl ?_
  refine g_nil ?_
  exact vc_ret (ret_le [(8, _)] _ (.cons (.tmp rfl) .nil) ⟨rfl, trivial⟩ (.eq (by simp [single, AV.okV, okR, lkB]) (by simp [single, AV.view, viewR, lkB, AV.ren, bytesT, itemsG_all, take_map_len])) rfl)

end Go.Eng

set_option maxHeartbeats 2000000
namespace Go.Eng
open Go.Proofs

def placeG (l : List Int) (i : Nat) : List Int := numsF [(l.length : Int)] ++ numsF (l.take i)
def placeB (l : List Int) : List Int := numsF [(l.length : Int)] ++ numsF l
theorem numsF_one (n : Int) : numsF [n] = putI (IntKind.u64.wrap n) := by simp [numsF, numI]
theorem placeG_succ {l : List Int} {i : Nat} {x : Int} (hx : l[i]? = some x) : placeG l (i + 1) = placeG l i ++ numsF [x] := by
  simp [placeG, take_snoc hx, numsF_snoc, numsF_one]
theorem placeG_zero (l : List Int) : placeG l 0 = numsF [(l.length : Int)] := by simp [placeG, numsF]
theorem placeG_all (l : List Int) : placeG l l.length = placeB l := by simp [placeG, placeB]
theorem placeG_len {l : List Int} (hl : l.length ≤ 1000) (i : Nat) : (placeG l i).length ≤ 20000 := by
  have h1 := numsF_len (l.take i)
  have hti : (l.take i).length ≤ 1000 := by simp; omega
  have hn1 := numsF_len [(l.length : Int)]
  simp only [placeG, List.length_append, List.length_cons, List.length_nil] at *; omega

theorem c_mementoref16_place (l : List Int) (hl : l.length ≤ 1000) : Con Tryz.prog 58 [.t (intsT l)] [] (.t (bytesT (placeB l))) [] := by
  refine con_intro [] [] Tryz.func58 rfl Tryz.ntmps58 Tryz.results58 rfl rfl ?_
  intro E
  refine vc_rseq mixed ?_
  refine g_val (s_assign rfl rfl) rfl ?_
  refine g_nil ?_
  refine vc_rseq mixed ?_
  refine g_val (s_move rfl rfl) rfl ?_
  refine g_val (s_len rfl rfl) rfl ?_
  refine g_fz ((s_buildSlice 7 (evArgs_cons rfl evArgs_nil) rfl rfl rfl rfl).fzE rfl) rfl ?_
  refine g_new (s_callH [] [(0, 8)] (c_mementoref16_nums_own [((List.map intC l).length : Int)] (by simp)) (evArgs_cons rfl evArgs_nil) trivial rfl (okVL_nil _) rfl rfl rfl) rfl ?_
  refine g_val (s_assign rfl rfl) rfl ?_
  refine g_nil ?_
  refine vc_seq ?_
  refine vc_rseq mixed ?_
  refine g_val (s_assign rfl rfl) rfl ?_
  refine g_nil ?_
  refine vc_block ?_
  refine vc_up l.length (fun i => ⟨[(0, .t (intsT l)), (3, .rows 8 1 0 (placeG l i).length), (4, AI .i64 i)], [(8, some (.row 1 1 ((placeG l i).map byteC)))], [8]⟩) (fun i => True) (leE_same (by repeat (first | exact letm_nil _ _ | refine letm_cons rfl ?_ ?_ | exact .same _ | exact .nl (by decide) (by decide) | exact .nn | exact .id' rfl | exact .id' (by simp only [List.length_map, placeG_zero]; first | done | rfl))) (by repeat (first | exact lehp_nil _ _ | refine lehp_cons rfl ?_ ?_ | exact leB_same _ | exact leB_row (by first | rfl | (simp only [List.length_map, placeG_zero]; first | done | rfl)) | exact leB_obj (by simp only [List.length_map, placeG_zero]; first | done | rfl) | exact leB_nest (by first | rfl | (simp only [List.length_map, placeG_zero]; first | done | rfl)) | refine leB_box ?_ | exact leL_nil | refine leL_cons ?_ ?_ | exact .same _ | exact .nl (by decide) (by decide) | exact .nn | exact .id' rfl | exact .id' (by simp only [List.length_map, placeG_zero]; first | done | rfl))) rfl) trivial (fun i hi _ => ?_)
  refine vc_seq ?_
  refine vc_rseq mixed ?_
  refine g_val (s_move rfl rfl) rfl ?_
  refine g_val (s_move rfl rfl) rfl ?_
  refine g_val (s_len rfl rfl) rfl ?_
  refine g_val (s_lss rfl rfl rfl) rfl ?_
  refine g_nil ?_
  refine vc_cond rfl (fun hc12 => ?_) (fun hc12 => ?_)
  replace hc12 := of_decide_eq_true hc12
  simp only [List.length_map] at hc12
  obtain ⟨x, hx⟩ := get_of_lt (l := l) (i := i) (by omega)
  have hgl := placeG_len hl i
  have hnx := numsF_len [x]
  simp only [List.length_cons, List.length_nil] at hnx
  refine vc_skip ?_
  refine vc_seq ?_
  refine vc_block ?_
  refine vc_region mixed ?_
  refine g_val (s_move rfl rfl) rfl ?_
  refine g_val (s_move rfl rfl) rfl ?_
  refine g_val (s_move rfl rfl) rfl ?_
  refine g_val (s_index rfl rfl rfl (by omega) (idx_map hx)) rfl ?_
  refine g_val (s_loadT rfl rfl rfl) rfl ?_
  refine g_fz ((s_buildSlice 20 (evArgs_cons rfl evArgs_nil) rfl rfl rfl rfl).fzE rfl) rfl ?_
  refine g_val (s_call [] (c_mementoref16_nums [x] (by simp)) (evArgs_cons rfl evArgs_nil) trivial rfl (okVL_nil _) rfl (.inl rfl) rfl) rfl ?_
  refine g_app (s_append 22 rfl rfl rfl rfl rfl (by simp only [List.length_map]; omega) rfl rfl (by simp only [List.length_map]; omega)) rfl ?_
  refine g_val (s_assign rfl rfl) rfl ?_
  refine g_nil ?_
  refine vc_region mixed ?_
  refine g_val (s_move rfl rfl) rfl ?_
  refine g_val (s_add rfl rfl rfl (by simp only [inI, kMin, kMax]; omega)) rfl ?_
  refine g_val (s_assign rfl rfl) rfl ?_
  refine g_nil ?_
  exact ⟨by omega, trivial, by
  rw [placeG_succ hx]
  simp only [List.length_append, List.length_map]
  exact (leE_gen [] [(8, 22)] (by repeat (first | exact letm_nil _ _ | refine letm_cons rfl ?_ ?_ | exact LeV.tt rfl | exact .eq (okV_nil _) rfl | exact LeV.tt (by rw [List.take_of_length_le (by simp)]; simp) | exact .eq (okV_nil _) (by rw [List.take_of_length_le (by simp)]; simp))) (by repeat (first | exact lehp_nil _ _ | refine lehp_cons rfl ?_ ?_ | exact leB_row (by first | rfl | (rw [List.take_of_length_le (by simp)]; simp)) | exact leB_obj (by rw [List.take_of_length_le (by simp)]; simp) | exact leB_nest (by first | rfl | (rw [List.take_of_length_le (by simp)]; simp)) | refine leB_box ?_ | exact leL_nil | refine leL_cons ?_ ?_ | exact LeV.tt rfl | exact .eq (okV_nil _) rfl | exact LeV.tt (by rw [List.take_of_length_le (by simp)]; simp) | exact .eq (okV_nil _) (by rw [List.take_of_length_le (by simp)]; simp))) trivial rfl)⟩
  replace hc12 := of_decide_eq_false hc12
  simp only [List.length_map, Int.not_lt] at hc12
  refine vc_exit ?_
  obtain rfl : i = l.length := by omega
  refine vc_rseq mixed ?_
  refine g_val (s_move rfl rfl) rfl ?_
  refine g_val (s_assign rfl rfl) rfl ?_
  refine g_nil ?_
  exact vc_ret (ret_le [(8, _)] _ (.cons (.tmp rfl) .nil) ⟨rfl, trivial⟩ (.eq (by simp [single, AV.okV, okR, lkB]) (by simp [single, AV.view, viewR, lkB, AV.ren, bytesT, placeG_all, take_map_len])) rfl)

end Go.Eng

set_option maxHeartbeats 4000000
namespace Go.Eng
open Go.Proofs

def in40 (n : Int) : Prop := 0 ≤ n ∧ n ≤ 1099511627776
instance (n : Int) : Decidable (in40 n) := by unfold in40; infer_instance
def cmdRight (c : VolCmd) : Prop := 1 ≤ c.kind ∧ c.kind ≤ 8 ∧ 0 ≤ c.vol ∧ c.vol < 8 ∧ in40 c.blocks ∧ in40 c.size ∧ in40 c.per ∧ in40 c.total ∧ in40 c.index ∧ in40 c.time ∧ (c.place.length : Int) ≤ 256 ∧ (c.items.length : Int) ≤ 8 ∧ (∀ z ∈ c.place, 0 ≤ z ∧ z < 8) ∧ ∀ x ∈ c.items, 0 ≤ x.block ∧ x.block < 256 ∧ (x.data.length : Int) ≤ 32
instance (c : VolCmd) : Decidable (cmdRight c) := by unfold cmdRight; infer_instance

theorem c_mementoref16_CmdRight (c : VolCmd) : Con Tryz.prog 56 [sC (cmdC c)] [] (AB (decide (cmdRight c))) [] := by
  refine con_intro [] [] Tryz.func56 rfl Tryz.ntmps56 Tryz.results56 rfl rfl ?_
  intro E
  refine vc_okA (i := 0) (j := 5) rfl rfl fun okp => ?_
  refine vc_okA (i := 0) (j := 9) rfl rfl fun oki => ?_
  have hlp := okp.len
  have hli := oki.len
  rw [List.length_map] at hlp hli
  refine vc_rseq mixed ?_
  refine g_new (s_box 1 rfl rfl rfl rfl) rfl ?_
  refine g_val (s_assign rfl rfl) rfl ?_
  refine g_nil ?_
  refine vc_seq ?_
  refine vc_rseq mixed ?_
  refine g_val (s_field rfl rfl rfl rfl) rfl ?_
  refine g_val (s_load rfl rfl rfl rfl) rfl ?_
  refine g_val (s_lss rfl rfl rfl) rfl ?_
  refine g_val (s_move rfl rfl) rfl ?_
  refine g_probe (j := 8) rfl (fun c hg8 => ?_)
  cases c
  rw [← hg8]; replace hg8 := hg8.symm; replace hg8 := of_decide_eq_false hg8
  simp only [Int.not_lt] at hg8
  refine gq_val (s_field rfl rfl rfl rfl) rfl rfl rfl rfl ?_
  refine gq_val (s_load rfl rfl rfl rfl) rfl rfl rfl rfl ?_
  refine gq_val (s_gtr rfl rfl rfl) rfl rfl rfl rfl ?_
  refine g_val (s_pickF rfl rfl rfl) rfl ?_
  refine g_val (s_move rfl rfl) rfl ?_
  refine g_probe (j := 13) rfl (fun c hg13 => ?_)
  cases c
  rw [← hg13]; replace hg13 := hg13.symm; replace hg13 := of_decide_eq_false hg13
  simp only [Int.not_lt] at hg13
  refine gq_val (s_field rfl rfl rfl rfl) rfl rfl rfl rfl ?_
  refine gq_val (s_load rfl rfl rfl rfl) rfl rfl rfl rfl ?_
  refine gq_val (s_lss rfl rfl rfl) rfl rfl rfl rfl ?_
  refine g_val (s_pickF rfl rfl rfl) rfl ?_
  refine g_val (s_move rfl rfl) rfl ?_
  refine g_probe (j := 18) rfl (fun c hg18 => ?_)
  cases c
  rw [← hg18]; replace hg18 := hg18.symm; replace hg18 := of_decide_eq_false hg18
  simp only [Int.not_lt] at hg18
  refine gq_val (s_field rfl rfl rfl rfl) rfl rfl rfl rfl ?_
  refine gq_val (s_load rfl rfl rfl rfl) rfl rfl rfl rfl ?_
  refine gq_val (s_geq rfl rfl rfl) rfl rfl rfl rfl ?_
  refine g_val (s_pickF rfl rfl rfl) rfl ?_
  refine g_val (s_move rfl rfl) rfl ?_
  refine g_probe (j := 23) rfl (fun c hg23 => ?_)
  cases c
  rw [← hg23]; replace hg23 := hg23.symm; replace hg23 := of_decide_eq_false hg23
  simp only [Int.not_le] at hg23
  refine gq_val (s_field rfl rfl rfl rfl) rfl rfl rfl rfl ?_
  refine gq_val (s_load rfl rfl rfl rfl) rfl rfl rfl rfl ?_
  refine gq_val (s_call [] (c_mementoref16_within ..) (evArgs_cons rfl evArgs_nil) trivial rfl (okVL_nil _) rfl (.inl rfl) rfl) rfl rfl rfl rfl ?_
  refine gq_val (s_not rfl rfl) rfl rfl rfl rfl ?_
  refine g_val (s_pickF rfl rfl rfl) rfl ?_
  refine g_val (s_move rfl rfl) rfl ?_
  refine g_probe (j := 29) rfl (fun c hg29 => ?_)
  cases c
  rw [← hg29]; replace hg29 := hg29.symm
  simp only [Bool.not_eq_false', decide_eq_true_eq] at hg29
  refine gq_val (s_field rfl rfl rfl rfl) rfl rfl rfl rfl ?_
  refine gq_val (s_load rfl rfl rfl rfl) rfl rfl rfl rfl ?_
  refine gq_val (s_call [] (c_mementoref16_within ..) (evArgs_cons rfl evArgs_nil) trivial rfl (okVL_nil _) rfl (.inl rfl) rfl) rfl rfl rfl rfl ?_
  refine gq_val (s_not rfl rfl) rfl rfl rfl rfl ?_
  refine g_val (s_pickF rfl rfl rfl) rfl ?_
  refine g_val (s_move rfl rfl) rfl ?_
  refine g_probe (j := 35) rfl (fun c hg35 => ?_)
  cases c
  rw [← hg35]; replace hg35 := hg35.symm
  simp only [Bool.not_eq_false', decide_eq_true_eq] at hg35
  refine gq_val (s_field rfl rfl rfl rfl) rfl rfl rfl rfl ?_
  refine gq_val (s_load rfl rfl rfl rfl) rfl rfl rfl rfl ?_
  refine gq_val (s_call [] (c_mementoref16_within ..) (evArgs_cons rfl evArgs_nil) trivial rfl (okVL_nil _) rfl (.inl rfl) rfl) rfl rfl rfl rfl ?_
  refine gq_val (s_not rfl rfl) rfl rfl rfl rfl ?_
  refine g_val (s_pickF rfl rfl rfl) rfl ?_
  refine g_val (s_move rfl rfl) rfl ?_
  refine g_probe (j := 41) rfl (fun c hg41 => ?_)
  cases c
  rw [← hg41]; replace hg41 := hg41.symm
  simp only [Bool.not_eq_false', decide_eq_true_eq] at hg41
  refine gq_val (s_field rfl rfl rfl rfl) rfl rfl rfl rfl ?_
  refine gq_val (s_load rfl rfl rfl rfl) rfl rfl rfl rfl ?_
  refine gq_val (s_call [] (c_mementoref16_within ..) (evArgs_cons rfl evArgs_nil) trivial rfl (okVL_nil _) rfl (.inl rfl) rfl) rfl rfl rfl rfl ?_
  refine gq_val (s_not rfl rfl) rfl rfl rfl rfl ?_
  refine g_val (s_pickF rfl rfl rfl) rfl ?_
  refine g_val (s_move rfl rfl) rfl ?_
  refine g_probe (j := 47) rfl (fun c hg47 => ?_)
  cases c
  rw [← hg47]; replace hg47 := hg47.symm
  simp only [Bool.not_eq_false', decide_eq_true_eq] at hg47
  refine gq_val (s_field rfl rfl rfl rfl) rfl rfl rfl rfl ?_
  refine gq_val (s_load rfl rfl rfl rfl) rfl rfl rfl rfl ?_
  refine gq_val (s_call [] (c_mementoref16_within ..) (evArgs_cons rfl evArgs_nil) trivial rfl (okVL_nil _) rfl (.inl rfl) rfl) rfl rfl rfl rfl ?_
  refine gq_val (s_not rfl rfl) rfl rfl rfl rfl ?_
  refine g_val (s_pickF rfl rfl rfl) rfl ?_
  refine g_val (s_move rfl rfl) rfl ?_
  refine g_probe (j := 53) rfl (fun c hg53 => ?_)
  cases c
  rw [← hg53]; replace hg53 := hg53.symm
  simp only [Bool.not_eq_false', decide_eq_true_eq] at hg53
  refine gq_val (s_field rfl rfl rfl rfl) rfl rfl rfl rfl ?_
  refine gq_val (s_load rfl rfl rfl rfl) rfl rfl rfl rfl ?_
  refine gq_val (s_call [] (c_mementoref16_within ..) (evArgs_cons rfl evArgs_nil) trivial rfl (okVL_nil _) rfl (.inl rfl) rfl) rfl rfl rfl rfl ?_
  refine gq_val (s_not rfl rfl) rfl rfl rfl rfl ?_
  refine g_val (s_pickF rfl rfl rfl) rfl ?_
  refine g_val (s_move rfl rfl) rfl ?_
  refine g_probe (j := 59) rfl (fun c hg59 => ?_)
  cases c
  rw [← hg59]; replace hg59 := hg59.symm
  simp only [Bool.not_eq_false', decide_eq_true_eq] at hg59
  refine gq_val (s_field rfl rfl rfl rfl) rfl rfl rfl rfl ?_
  refine gq_val (s_load rfl rfl rfl rfl) rfl rfl rfl rfl ?_
  refine gq_val (s_len rfl rfl) rfl rfl rfl rfl ?_
  refine gq_val (s_gtr rfl rfl rfl) rfl rfl rfl rfl ?_
  refine g_val (s_pickF rfl rfl rfl) rfl ?_
  refine g_val (s_move rfl rfl) rfl ?_
  refine g_probe (j := 65) rfl (fun c hg65 => ?_)
  cases c
  rw [← hg65]; replace hg65 := hg65.symm; replace hg65 := of_decide_eq_false hg65
  simp only [List.length_map, Int.not_lt] at hg65
  refine gq_val (s_field rfl rfl rfl rfl) rfl rfl rfl rfl ?_
  refine gq_val (s_load rfl rfl rfl rfl) rfl rfl rfl rfl ?_
  refine gq_val (s_len rfl rfl) rfl rfl rfl rfl ?_
  refine gq_val (s_gtr rfl rfl rfl) rfl rfl rfl rfl ?_
  refine g_val (s_pickF rfl rfl rfl) rfl ?_
  refine g_nil ?_
  refine vc_cond rfl (fun hc70 => ?_) (fun hc70 => ?_)
  replace hc70 := of_decide_eq_true hc70
  simp only [List.length_map] at hc70
  refine vc_rseq mixed ?_
  refine g_val (s_assign rfl rfl) rfl ?_
  refine g_nil ?_
  exact vc_ret (ret_of _ (.cons (.tmp rfl) .nil) (by simp only [single]; rw [decide_eq_false]; rintro ⟨h1, h2, h3, h4, h5, h6, h7, h8, h9, h10, h11, h12, h13, h14⟩; simp only [in40] at h5 h6 h7 h8 h9 h10; omega) rfl)
  replace hc70 := of_decide_eq_false hc70
  simp only [List.length_map, Int.not_lt] at hc70
  refine vc_skip ?_
  refine vc_seq ?_
  refine vc_rseq mixed ?_
  refine g_val (s_assign rfl rfl) rfl ?_
  refine g_nil ?_
  refine vc_block ?_
  refine vc_up c.place.length (fun i => ⟨[(1, .ref 1 0), (3, AI .i64 i)], [(1, some (.box ((cmdC c).map .t)))], [1]⟩) (fun i => ∀ j : Nat, j < i → ∀ z, c.place[j]? = some z → 0 ≤ z ∧ z < 8) (leE_same (by repeat (first | exact letm_nil _ _ | refine letm_cons rfl ?_ ?_ | exact .same _ | exact .nl (by decide) (by decide) | exact .nn | exact .id' rfl | exact .id' (by simp; done))) (by repeat (first | exact lehp_nil _ _ | refine lehp_cons rfl ?_ ?_ | exact leB_same _ | exact leB_row (by first | rfl | (simp; done)) | exact leB_obj (by simp; done) | exact leB_nest (by first | rfl | (simp; done)) | refine leB_box ?_ | exact leL_nil | refine leL_cons ?_ ?_ | exact .same _ | exact .nl (by decide) (by decide) | exact .nn | exact .id' rfl | exact .id' (by simp; done))) rfl) (fun j h => by omega) (fun i hi hJ => ?_)
  refine vc_seq ?_
  refine vc_rseq mixed ?_
  refine g_val (s_move rfl rfl) rfl ?_
  refine g_val (s_field rfl rfl rfl rfl) rfl ?_
  refine g_val (s_load rfl rfl rfl rfl) rfl ?_
  refine g_val (s_len rfl rfl) rfl ?_
  refine g_val (s_lss rfl rfl rfl) rfl ?_
  refine g_nil ?_
  refine vc_cond rfl (fun hc75 => ?_) (fun hc75 => ?_)
  replace hc75 := of_decide_eq_true hc75
  simp only [List.length_map] at hc75
  obtain ⟨x, hx⟩ := get_of_lt (l := c.place) (i := i) (by omega)
  refine vc_skip ?_
  refine vc_seq ?_
  refine vc_block ?_
  refine vc_rseq mixed ?_
  refine g_val (s_field rfl rfl rfl rfl) rfl ?_
  refine g_val (s_load rfl rfl rfl rfl) rfl ?_
  refine g_val (s_move rfl rfl) rfl ?_
  refine g_val (s_index rfl rfl rfl (by omega) (idx_map hx)) rfl ?_
  refine g_val (s_loadT rfl rfl rfl) rfl ?_
  refine g_val (s_lss rfl rfl rfl) rfl ?_
  refine g_val (s_move rfl rfl) rfl ?_
  refine g_probe (j := 84) rfl (fun c hg84 => ?_)
  cases c
  rw [← hg84]; replace hg84 := hg84.symm; replace hg84 := of_decide_eq_false hg84
  simp only [Int.not_lt] at hg84
  refine gq_val (s_field rfl rfl rfl rfl) rfl rfl rfl rfl ?_
  refine gq_val (s_load rfl rfl rfl rfl) rfl rfl rfl rfl ?_
  refine gq_val (s_move rfl rfl) rfl rfl rfl rfl ?_
  refine gq_val (s_index rfl rfl rfl (by omega) (idx_map hx)) rfl rfl rfl rfl ?_
  refine gq_val (s_loadT rfl rfl rfl) rfl rfl rfl rfl ?_
  refine gq_val (s_geq rfl rfl rfl) rfl rfl rfl rfl ?_
  refine g_val (s_pickF rfl rfl rfl) rfl ?_
  refine g_nil ?_
  refine vc_cond rfl (fun hc91 => ?_) (fun hc91 => ?_)
  replace hc91 := of_decide_eq_true hc91
  refine vc_rseq mixed ?_
  refine g_val (s_assign rfl rfl) rfl ?_
  refine g_nil ?_
  exact vc_ret (ret_of _ (.cons (.tmp rfl) .nil) (by simp only [single]; rw [decide_eq_false]; rintro ⟨h1, h2, h3, h4, h5, h6, h7, h8, h9, h10, h11, h12, h13, h14⟩; have := h13 x (List.mem_of_getElem? hx); omega) rfl)
  replace hc91 := of_decide_eq_false hc91
  simp only [Int.not_le] at hc91
  refine vc_skip ?_
  refine vc_region mixed ?_
  refine g_val (s_move rfl rfl) rfl ?_
  refine g_val (s_add rfl rfl rfl (by simp only [inI, kMin, kMax]; omega)) rfl ?_
  refine g_val (s_assign rfl rfl) rfl ?_
  refine g_nil ?_
  exact ⟨by omega, fun j hj z hz => by rcases Nat.lt_succ_iff_lt_or_eq.1 hj with h | rfl; exact hJ j h z hz; rw [hx] at hz; injection hz with hz; omega, (leE_same (by repeat (first | exact letm_nil _ _ | refine letm_cons rfl ?_ ?_ | exact .same _ | exact .nl (by decide) (by decide) | exact .nn | exact .id' rfl | exact .id' (by simp; done))) (by repeat (first | exact lehp_nil _ _ | refine lehp_cons rfl ?_ ?_ | exact leB_same _ | exact leB_row (by first | rfl | (simp; done)) | exact leB_obj (by simp; done) | exact leB_nest (by first | rfl | (simp; done)) | refine leB_box ?_ | exact leL_nil | refine leL_cons ?_ ?_ | exact .same _ | exact .nl (by decide) (by decide) | exact .nn | exact .id' rfl | exact .id' (by simp; done))) rfl)⟩
  rw [← hg84]; replace hg84 := hg84.symm; replace hg84 := of_decide_eq_true hg84
  refine gn_val rfl rfl rfl rfl rfl rfl (by decide) ?_
  refine gn_val rfl rfl rfl rfl rfl rfl (by decide) ?_
  refine gn_val rfl rfl rfl rfl rfl rfl (by decide) ?_
  refine gn_val rfl rfl rfl rfl rfl rfl (by decide) ?_
  refine gn_val rfl rfl rfl rfl rfl rfl (by decide) ?_
  refine gn_val rfl rfl rfl rfl rfl rfl (by decide) ?_
  refine g_val (s_pickT rfl rfl rfl) rfl ?_
  refine g_nil ?_
  refine vc_cond rfl (fun _ => ?_) (fun h => by cases h)
  refine vc_rseq mixed ?_
  refine g_val (s_assign rfl rfl) rfl ?_
  refine g_nil ?_
  exact vc_ret (ret_of _ (.cons (.tmp rfl) .nil) (by simp only [single]; rw [decide_eq_false]; rintro ⟨h1, h2, h3, h4, h5, h6, h7, h8, h9, h10, h11, h12, h13, h14⟩; have := h13 x (List.mem_of_getElem? hx); omega) rfl)
  replace hc75 := of_decide_eq_false hc75
  simp only [List.length_map, Int.not_lt] at hc75
  refine vc_exit ?_
  refine vc_seq ?_
  refine vc_rseq mixed ?_
  refine g_val (s_assign rfl rfl) rfl ?_
  refine g_nil ?_
  refine vc_block ?_
  refine vc_up c.items.length (fun i => ⟨[(1, .ref 1 0), (4, AI .i64 i)], [(1, some (.box ((cmdC c).map .t)))], [1]⟩) (fun i => ∀ j : Nat, j < i → ∀ x, c.items[j]? = some x → 0 ≤ x.block ∧ x.block < 256 ∧ (x.data.length : Int) ≤ 32) (leE_same (by repeat (first | exact letm_nil _ _ | refine letm_cons rfl ?_ ?_ | exact .same _ | exact .nl (by decide) (by decide) | exact .nn | exact .id' rfl | exact .id' (by simp; done))) (by repeat (first | exact lehp_nil _ _ | refine lehp_cons rfl ?_ ?_ | exact leB_same _ | exact leB_row (by first | rfl | (simp; done)) | exact leB_obj (by simp; done) | exact leB_nest (by first | rfl | (simp; done)) | refine leB_box ?_ | exact leL_nil | refine leL_cons ?_ ?_ | exact .same _ | exact .nl (by decide) (by decide) | exact .nn | exact .id' rfl | exact .id' (by simp; done))) rfl) (fun j h => by omega) (fun i' hi' hJ' => ?_)
  refine vc_seq ?_
  refine vc_rseq mixed ?_
  refine g_val (s_move rfl rfl) rfl ?_
  refine g_val (s_field rfl rfl rfl rfl) rfl ?_
  refine g_val (s_load rfl rfl rfl rfl) rfl ?_
  refine g_val (s_len rfl rfl) rfl ?_
  refine g_val (s_lss rfl rfl rfl) rfl ?_
  refine g_nil ?_
  refine vc_cond rfl (fun hc96 => ?_) (fun hc96 => ?_)
  replace hc96 := of_decide_eq_true hc96
  simp only [List.length_map] at hc96
  obtain ⟨y, hy⟩ := get_of_lt (l := c.items) (i := i') (by omega)
  refine vc_skip ?_
  refine vc_seq ?_
  refine vc_block ?_
  refine vc_rseq mixed ?_
  refine g_val (s_field rfl rfl rfl rfl) rfl ?_
  refine g_val (s_load rfl rfl rfl rfl) rfl ?_
  refine g_val (s_move rfl rfl) rfl ?_
  refine g_val (s_index rfl rfl rfl (by omega) (idx_map hy)) rfl ?_
  refine g_val (s_fieldT rfl rfl rfl rfl rfl) rfl ?_
  refine g_val (s_loadT rfl rfl rfl) rfl ?_
  refine g_val (s_lss rfl rfl rfl) rfl ?_
  refine g_val (s_move rfl rfl) rfl ?_
  refine g_probe (j := 106) rfl (fun c hg106 => ?_)
  cases c
  rw [← hg106]; replace hg106 := hg106.symm; replace hg106 := of_decide_eq_false hg106
  simp only [Int.not_lt] at hg106
  refine gq_val (s_field rfl rfl rfl rfl) rfl rfl rfl rfl ?_
  refine gq_val (s_load rfl rfl rfl rfl) rfl rfl rfl rfl ?_
  refine gq_val (s_move rfl rfl) rfl rfl rfl rfl ?_
  refine gq_val (s_index rfl rfl rfl (by omega) (idx_map hy)) rfl rfl rfl rfl ?_
  refine gq_val (s_fieldT rfl rfl rfl rfl rfl) rfl rfl rfl rfl ?_
  refine gq_val (s_loadT rfl rfl rfl) rfl rfl rfl rfl ?_
  refine gq_val (s_geq rfl rfl rfl) rfl rfl rfl rfl ?_
  refine g_val (s_pickF rfl rfl rfl) rfl ?_
  refine g_val (s_move rfl rfl) rfl ?_
  refine g_probe (j := 115) rfl (fun c hg115 => ?_)
  cases c
  rw [← hg115]; replace hg115 := hg115.symm; replace hg115 := of_decide_eq_false hg115
  simp only [Int.not_le] at hg115
  refine gq_val (s_field rfl rfl rfl rfl) rfl rfl rfl rfl ?_
  refine gq_val (s_load rfl rfl rfl rfl) rfl rfl rfl rfl ?_
  refine gq_val (s_move rfl rfl) rfl rfl rfl rfl ?_
  refine gq_val (s_index rfl rfl rfl (by omega) (idx_map hy)) rfl rfl rfl rfl ?_
  refine gq_val (s_fieldT rfl rfl rfl rfl rfl) rfl rfl rfl rfl ?_
  refine gq_val (s_loadT rfl rfl rfl) rfl rfl rfl rfl ?_
  refine gq_val (s_len rfl rfl) rfl rfl rfl rfl ?_
  refine gq_val (s_gtr rfl rfl rfl) rfl rfl rfl rfl ?_
  refine g_val (s_pickF rfl rfl rfl) rfl ?_
  refine g_nil ?_
  refine vc_cond rfl (fun hc124 => ?_) (fun hc124 => ?_)
  replace hc124 := of_decide_eq_true hc124
  simp only [List.length_map] at hc124
  refine vc_rseq mixed ?_
  refine g_val (s_assign rfl rfl) rfl ?_
  refine g_nil ?_
  exact vc_ret (ret_of _ (.cons (.tmp rfl) .nil) (by simp only [single]; rw [decide_eq_false]; rintro ⟨h1, h2, h3, h4, h5, h6, h7, h8, h9, h10, h11, h12, h13, h14⟩; have := h14 y (List.mem_of_getElem? hy); omega) rfl)
  replace hc124 := of_decide_eq_false hc124
  simp only [List.length_map, Int.not_lt] at hc124
  refine vc_skip ?_
  refine vc_region mixed ?_
  refine g_val (s_move rfl rfl) rfl ?_
  refine g_val (s_add rfl rfl rfl (by simp only [inI, kMin, kMax]; omega)) rfl ?_
  refine g_val (s_assign rfl rfl) rfl ?_
  refine g_nil ?_
  exact ⟨by omega, fun j hj z hz => by rcases Nat.lt_succ_iff_lt_or_eq.1 hj with h | rfl; exact hJ' j h z hz; rw [hy] at hz; injection hz with hz; subst hz; omega, (leE_same (by repeat (first | exact letm_nil _ _ | refine letm_cons rfl ?_ ?_ | exact .same _ | exact .nl (by decide) (by decide) | exact .nn | exact .id' rfl | exact .id' (by simp; done))) (by repeat (first | exact lehp_nil _ _ | refine lehp_cons rfl ?_ ?_ | exact leB_same _ | exact leB_row (by first | rfl | (simp; done)) | exact leB_obj (by simp; done) | exact leB_nest (by first | rfl | (simp; done)) | refine leB_box ?_ | exact leL_nil | refine leL_cons ?_ ?_ | exact .same _ | exact .nl (by decide) (by decide) | exact .nn | exact .id' rfl | exact .id' (by simp; done))) rfl)⟩
  rw [← hg115]; replace hg115 := hg115.symm; replace hg115 := of_decide_eq_true hg115
  refine gn_val rfl rfl rfl rfl rfl rfl (by decide) ?_
  refine gn_val rfl rfl rfl rfl rfl rfl (by decide) ?_
  refine gn_val rfl rfl rfl rfl rfl rfl (by decide) ?_
  refine gn_val rfl rfl rfl rfl rfl rfl (by decide) ?_
  refine gn_val rfl rfl rfl rfl rfl rfl (by decide) ?_
  refine gn_val rfl rfl rfl rfl rfl rfl (by decide) ?_
  refine gn_val rfl rfl rfl rfl rfl rfl (by decide) ?_
  refine gn_val rfl rfl rfl rfl rfl rfl (by decide) ?_
  refine g_val (s_pickT rfl rfl rfl) rfl ?_
  refine g_nil ?_
  refine vc_cond rfl (fun _ => ?_) (fun h => by cases h)
  refine vc_rseq mixed ?_
  refine g_val (s_assign rfl rfl) rfl ?_
  refine g_nil ?_
  exact vc_ret (ret_of _ (.cons (.tmp rfl) .nil) (by simp only [single]; rw [decide_eq_false]; rintro ⟨h1, h2, h3, h4, h5, h6, h7, h8, h9, h10, h11, h12, h13, h14⟩; have := h14 y (List.mem_of_getElem? hy); omega) rfl)
  rw [← hg106]; replace hg106 := hg106.symm; replace hg106 := of_decide_eq_true hg106
  refine gn_val rfl rfl rfl rfl rfl rfl (by decide) ?_
  refine gn_val rfl rfl rfl rfl rfl rfl (by decide) ?_
  refine gn_val rfl rfl rfl rfl rfl rfl (by decide) ?_
  refine gn_val rfl rfl rfl rfl rfl rfl (by decide) ?_
  refine gn_val rfl rfl rfl rfl rfl rfl (by decide) ?_
  refine gn_val rfl rfl rfl rfl rfl rfl (by decide) ?_
  refine gn_val rfl rfl rfl rfl rfl rfl (by decide) ?_
  refine g_val (s_pickT rfl rfl rfl) rfl ?_
  refine g_val (s_move rfl rfl) rfl ?_
  refine gn_val rfl rfl rfl rfl rfl rfl (by decide) ?_
  refine gn_val rfl rfl rfl rfl rfl rfl (by decide) ?_
  refine gn_val rfl rfl rfl rfl rfl rfl (by decide) ?_
  refine gn_val rfl rfl rfl rfl rfl rfl (by decide) ?_
  refine gn_val rfl rfl rfl rfl rfl rfl (by decide) ?_
  refine gn_val rfl rfl rfl rfl rfl rfl (by decide) ?_
  refine gn_val rfl rfl rfl rfl rfl rfl (by decide) ?_
  refine gn_val rfl rfl rfl rfl rfl rfl (by decide) ?_
  refine g_val (s_pickT rfl rfl rfl) rfl ?_
  refine g_nil ?_
  refine vc_cond rfl (fun _ => ?_) (fun h => by cases h)
  refine vc_rseq mixed ?_
  refine g_val (s_assign rfl rfl) rfl ?_
  refine g_nil ?_
  exact vc_ret (ret_of _ (.cons (.tmp rfl) .nil) (by simp only [single]; rw [decide_eq_false]; rintro ⟨h1, h2, h3, h4, h5, h6, h7, h8, h9, h10, h11, h12, h13, h14⟩; have := h14 y (List.mem_of_getElem? hy); omega) rfl)
  replace hc96 := of_decide_eq_false hc96
  simp only [List.length_map, Int.not_lt] at hc96
  refine vc_exit ?_
  refine vc_rseq mixed ?_
  refine g_val (s_assign rfl rfl) rfl ?_
  refine g_nil ?_
  exact vc_ret (ret_of _ (.cons (.tmp rfl) .nil) (by simp only [single]; rw [decide_eq_true]; refine ⟨by omega, by omega, by omega, by omega, by simp only [in40]; omega, by simp only [in40]; omega, by simp only [in40]; omega, by simp only [in40]; omega, by simp only [in40]; omega, by simp only [in40]; omega, by omega, by omega, fun z hz => ?_, fun z hz => ?_⟩; obtain ⟨j, hj⟩ := List.mem_iff_getElem?.1 hz; exact hJ j (by have := (List.getElem?_eq_some_iff.1 hj).1; omega) z hj; obtain ⟨j, hj⟩ := List.mem_iff_getElem?.1 hz; exact hJ' j (by have := (List.getElem?_eq_some_iff.1 hj).1; omega) z hj) rfl)
  rw [← hg65]; replace hg65 := hg65.symm; replace hg65 := of_decide_eq_true hg65
  simp only [List.length_map] at hg65
  refine gn_val rfl rfl rfl rfl rfl rfl (by decide) ?_
  refine gn_val rfl rfl rfl rfl rfl rfl (by decide) ?_
  refine gn_val rfl rfl rfl rfl rfl rfl (by decide) ?_
  refine gn_val rfl rfl rfl rfl rfl rfl (by decide) ?_
  refine g_val (s_pickT rfl rfl rfl) rfl ?_
  refine g_nil ?_
  refine vc_cond rfl (fun _ => ?_) (fun h => by cases h)
  refine vc_rseq mixed ?_
  refine g_val (s_assign rfl rfl) rfl ?_
  refine g_nil ?_
  exact vc_ret (ret_of _ (.cons (.tmp rfl) .nil) (by simp only [single]; rw [decide_eq_false]; rintro ⟨h1, h2, h3, h4, h5, h6, h7, h8, h9, h10, h11, h12, h13, h14⟩; simp only [in40] at h5 h6 h7 h8 h9 h10; omega) rfl)
  rw [← hg59]; replace hg59 := hg59.symm
  simp only [Bool.not_eq_true', decide_eq_false_iff_not] at hg59
  refine gn_val rfl rfl rfl rfl rfl rfl (by decide) ?_
  refine gn_val rfl rfl rfl rfl rfl rfl (by decide) ?_
  refine gn_val rfl rfl rfl rfl rfl rfl (by decide) ?_
  refine gn_val rfl rfl rfl rfl rfl rfl (by decide) ?_
  refine g_val (s_pickT rfl rfl rfl) rfl ?_
  refine g_val (s_move rfl rfl) rfl ?_
  refine gn_val rfl rfl rfl rfl rfl rfl (by decide) ?_
  refine gn_val rfl rfl rfl rfl rfl rfl (by decide) ?_
  refine gn_val rfl rfl rfl rfl rfl rfl (by decide) ?_
  refine gn_val rfl rfl rfl rfl rfl rfl (by decide) ?_
  refine g_val (s_pickT rfl rfl rfl) rfl ?_
  refine g_nil ?_
  refine vc_cond rfl (fun _ => ?_) (fun h => by cases h)
  refine vc_rseq mixed ?_
  refine g_val (s_assign rfl rfl) rfl ?_
  refine g_nil ?_
  exact vc_ret (ret_of _ (.cons (.tmp rfl) .nil) (by simp only [single]; rw [decide_eq_false]; rintro ⟨h1, h2, h3, h4, h5, h6, h7, h8, h9, h10, h11, h12, h13, h14⟩; simp only [in40] at h5 h6 h7 h8 h9 h10; omega) rfl)
  rw [← hg53]; replace hg53 := hg53.symm
  simp only [Bool.not_eq_true', decide_eq_false_iff_not] at hg53
  refine gn_val rfl rfl rfl rfl rfl rfl (by decide) ?_
  refine gn_val rfl rfl rfl rfl rfl rfl (by decide) ?_
  refine gn_val rfl rfl rfl rfl rfl rfl (by decide) ?_
  refine gn_val rfl rfl rfl rfl rfl rfl (by decide) ?_
  refine g_val (s_pickT rfl rfl rfl) rfl ?_
  refine g_val (s_move rfl rfl) rfl ?_
  refine gn_val rfl rfl rfl rfl rfl rfl (by decide) ?_
  refine gn_val rfl rfl rfl rfl rfl rfl (by decide) ?_
  refine gn_val rfl rfl rfl rfl rfl rfl (by decide) ?_
  refine gn_val rfl rfl rfl rfl rfl rfl (by decide) ?_
  refine g_val (s_pickT rfl rfl rfl) rfl ?_
  refine g_val (s_move rfl rfl) rfl ?_
  refine gn_val rfl rfl rfl rfl rfl rfl (by decide) ?_
  refine gn_val rfl rfl rfl rfl rfl rfl (by decide) ?_
  refine gn_val rfl rfl rfl rfl rfl rfl (by decide) ?_
  refine gn_val rfl rfl rfl rfl rfl rfl (by decide) ?_
  refine g_val (s_pickT rfl rfl rfl) rfl ?_
  refine g_nil ?_
  refine vc_cond rfl (fun _ => ?_) (fun h => by cases h)
  refine vc_rseq mixed ?_
  refine g_val (s_assign rfl rfl) rfl ?_
  refine g_nil ?_
  exact vc_ret (ret_of _ (.cons (.tmp rfl) .nil) (by simp only [single]; rw [decide_eq_false]; rintro ⟨h1, h2, h3, h4, h5, h6, h7, h8, h9, h10, h11, h12, h13, h14⟩; simp only [in40] at h5 h6 h7 h8 h9 h10; omega) rfl)
  rw [← hg47]; replace hg47 := hg47.symm
  simp only [Bool.not_eq_true', decide_eq_false_iff_not] at hg47
  refine gn_val rfl rfl rfl rfl rfl rfl (by decide) ?_
  refine gn_val rfl rfl rfl rfl rfl rfl (by decide) ?_
  refine gn_val rfl rfl rfl rfl rfl rfl (by decide) ?_
  refine gn_val rfl rfl rfl rfl rfl rfl (by decide) ?_
  refine g_val (s_pickT rfl rfl rfl) rfl ?_
  refine g_val (s_move rfl rfl) rfl ?_
  refine gn_val rfl rfl rfl rfl rfl rfl (by decide) ?_
  refine gn_val rfl rfl rfl rfl rfl rfl (by decide) ?_
  refine gn_val rfl rfl rfl rfl rfl rfl (by decide) ?_
  refine gn_val rfl rfl rfl rfl rfl rfl (by decide) ?_
  refine g_val (s_pickT rfl rfl rfl) rfl ?_
  refine g_val (s_move rfl rfl) rfl ?_
  refine gn_val rfl rfl rfl rfl rfl rfl (by decide) ?_
  refine gn_val rfl rfl rfl rfl rfl rfl (by decide) ?_
  refine gn_val rfl rfl rfl rfl rfl rfl (by decide) ?_
  refine gn_val rfl rfl rfl rfl rfl rfl (by decide) ?_
  refine g_val (s_pickT rfl rfl rfl) rfl ?_
  refine g_val (s_move rfl rfl) rfl ?_
  refine gn_val rfl rfl rfl rfl rfl rfl (by decide) ?_
  refine gn_val rfl rfl rfl rfl rfl rfl (by decide) ?_
  refine gn_val rfl rfl rfl rfl rfl rfl (by decide) ?_
  refine gn_val rfl rfl rfl rfl rfl rfl (by decide) ?_
  refine g_val (s_pickT rfl rfl rfl) rfl ?_
  refine g_nil ?_
  refine vc_cond rfl (fun _ => ?_) (fun h => by cases h)
  refine vc_rseq mixed ?_
  refine g_val (s_assign rfl rfl) rfl ?_
  refine g_nil ?_
  exact vc_ret (ret_of _ (.cons (.tmp rfl) .nil) (by simp only [single]; rw [decide_eq_false]; rintro ⟨h1, h2, h3, h4, h5, h6, h7, h8, h9, h10, h11, h12, h13, h14⟩; simp only [in40] at h5 h6 h7 h8 h9 h10; omega) rfl)
  rw [← hg41]; replace hg41 := hg41.symm
  simp only [Bool.not_eq_true', decide_eq_false_iff_not] at hg41
  refine gn_val rfl rfl rfl rfl rfl rfl (by decide) ?_
  refine gn_val rfl rfl rfl rfl rfl rfl (by decide) ?_
  refine gn_val rfl rfl rfl rfl rfl rfl (by decide) ?_
  refine gn_val rfl rfl rfl rfl rfl rfl (by decide) ?_
  refine g_val (s_pickT rfl rfl rfl) rfl ?_
  refine g_val (s_move rfl rfl) rfl ?_
  refine gn_val rfl rfl rfl rfl rfl rfl (by decide) ?_
  refine gn_val rfl rfl rfl rfl rfl rfl (by decide) ?_
  refine gn_val rfl rfl rfl rfl rfl rfl (by decide) ?_
  refine gn_val rfl rfl rfl rfl rfl rfl (by decide) ?_
  refine g_val (s_pickT rfl rfl rfl) rfl ?_
  refine g_val (s_move rfl rfl) rfl ?_
  refine gn_val rfl rfl rfl rfl rfl rfl (by decide) ?_
  refine gn_val rfl rfl rfl rfl rfl rfl (by decide) ?_
  refine gn_val rfl rfl rfl rfl rfl rfl (by decide) ?_
  refine gn_val rfl rfl rfl rfl rfl rfl (by decide) ?_
  refine g_val (s_pickT rfl rfl rfl) rfl ?_
  refine g_val (s_move rfl rfl) rfl ?_
  refine gn_val rfl rfl rfl rfl rfl rfl (by decide) ?_
  refine gn_val rfl rfl rfl rfl rfl rfl (by decide) ?_
  refine gn_val rfl rfl rfl rfl rfl rfl (by decide) ?_
  refine gn_val rfl rfl rfl rfl rfl rfl (by decide) ?_
  refine g_val (s_pickT rfl rfl rfl) rfl ?_
  refine g_val (s_move rfl rfl) rfl ?_
  refine gn_val rfl rfl rfl rfl rfl rfl (by decide) ?_
  refine gn_val rfl rfl rfl rfl rfl rfl (by decide) ?_
  refine gn_val rfl rfl rfl rfl rfl rfl (by decide) ?_
  refine gn_val rfl rfl rfl rfl rfl rfl (by decide) ?_
  refine g_val (s_pickT rfl rfl rfl) rfl ?_
  refine g_nil ?_
  refine vc_cond rfl (fun _ => ?_) (fun h => by cases h)
  refine vc_rseq mixed ?_
  refine g_val (s_assign rfl rfl) rfl ?_
  refine g_nil ?_
  exact vc_ret (ret_of _ (.cons (.tmp rfl) .nil) (by simp only [single]; rw [decide_eq_false]; rintro ⟨h1, h2, h3, h4, h5, h6, h7, h8, h9, h10, h11, h12, h13, h14⟩; simp only [in40] at h5 h6 h7 h8 h9 h10; omega) rfl)
  rw [← hg35]; replace hg35 := hg35.symm
  simp only [Bool.not_eq_true', decide_eq_false_iff_not] at hg35
  refine gn_val rfl rfl rfl rfl rfl rfl (by decide) ?_
  refine gn_val rfl rfl rfl rfl rfl rfl (by decide) ?_
  refine gn_val rfl rfl rfl rfl rfl rfl (by decide) ?_
  refine gn_val rfl rfl rfl rfl rfl rfl (by decide) ?_
  refine g_val (s_pickT rfl rfl rfl) rfl ?_
  refine g_val (s_move rfl rfl) rfl ?_
  refine gn_val rfl rfl rfl rfl rfl rfl (by decide) ?_
  refine gn_val rfl rfl rfl rfl rfl rfl (by decide) ?_
  refine gn_val rfl rfl rfl rfl rfl rfl (by decide) ?_
  refine gn_val rfl rfl rfl rfl rfl rfl (by decide) ?_
  refine g_val (s_pickT rfl rfl rfl) rfl ?_
  refine g_val (s_move rfl rfl) rfl ?_
  refine gn_val rfl rfl rfl rfl rfl rfl (by decide) ?_
  refine gn_val rfl rfl rfl rfl rfl rfl (by decide) ?_
  refine gn_val rfl rfl rfl rfl rfl rfl (by decide) ?_
  refine gn_val rfl rfl rfl rfl rfl rfl (by decide) ?_
  refine g_val (s_pickT rfl rfl rfl) rfl ?_
  refine g_val (s_move rfl rfl) rfl ?_
  refine gn_val rfl rfl rfl rfl rfl rfl (by decide) ?_
  refine gn_val rfl rfl rfl rfl rfl rfl (by decide) ?_
  refine gn_val rfl rfl rfl rfl rfl rfl (by decide) ?_
  refine gn_val rfl rfl rfl rfl rfl rfl (by decide) ?_
  refine g_val (s_pickT rfl rfl rfl) rfl ?_
  refine g_val (s_move rfl rfl) rfl ?_
  refine gn_val rfl rfl rfl rfl rfl rfl (by decide) ?_
  refine gn_val rfl rfl rfl rfl rfl rfl (by decide) ?_
  refine gn_val rfl rfl rfl rfl rfl rfl (by decide) ?_
  refine gn_val rfl rfl rfl rfl rfl rfl (by decide) ?_
  refine g_val (s_pickT rfl rfl rfl) rfl ?_
  refine g_val (s_move rfl rfl) rfl ?_
  refine gn_val rfl rfl rfl rfl rfl rfl (by decide) ?_
  refine gn_val rfl rfl rfl rfl rfl rfl (by decide) ?_
  refine gn_val rfl rfl rfl rfl rfl rfl (by decide) ?_
  refine gn_val rfl rfl rfl rfl rfl rfl (by decide) ?_
  refine g_val (s_pickT rfl rfl rfl) rfl ?_
  refine g_nil ?_
  refine vc_cond rfl (fun _ => ?_) (fun h => by cases h)
  refine vc_rseq mixed ?_
  refine g_val (s_assign rfl rfl) rfl ?_
  refine g_nil ?_
  exact vc_ret (ret_of _ (.cons (.tmp rfl) .nil) (by simp only [single]; rw [decide_eq_false]; rintro ⟨h1, h2, h3, h4, h5, h6, h7, h8, h9, h10, h11, h12, h13, h14⟩; simp only [in40] at h5 h6 h7 h8 h9 h10; omega) rfl)
  rw [← hg29]; replace hg29 := hg29.symm
  simp only [Bool.not_eq_true', decide_eq_false_iff_not] at hg29
  refine gn_val rfl rfl rfl rfl rfl rfl (by decide) ?_
  refine gn_val rfl rfl rfl rfl rfl rfl (by decide) ?_
  refine gn_val rfl rfl rfl rfl rfl rfl (by decide) ?_
  refine gn_val rfl rfl rfl rfl rfl rfl (by decide) ?_
  refine g_val (s_pickT rfl rfl rfl) rfl ?_
  refine g_val (s_move rfl rfl) rfl ?_
  refine gn_val rfl rfl rfl rfl rfl rfl (by decide) ?_
  refine gn_val rfl rfl rfl rfl rfl rfl (by decide) ?_
  refine gn_val rfl rfl rfl rfl rfl rfl (by decide) ?_
  refine gn_val rfl rfl rfl rfl rfl rfl (by decide) ?_
  refine g_val (s_pickT rfl rfl rfl) rfl ?_
  refine g_val (s_move rfl rfl) rfl ?_
  refine gn_val rfl rfl rfl rfl rfl rfl (by decide) ?_
  refine gn_val rfl rfl rfl rfl rfl rfl (by decide) ?_
  refine gn_val rfl rfl rfl rfl rfl rfl (by decide) ?_
  refine gn_val rfl rfl rfl rfl rfl rfl (by decide) ?_
  refine g_val (s_pickT rfl rfl rfl) rfl ?_
  refine g_val (s_move rfl rfl) rfl ?_
  refine gn_val rfl rfl rfl rfl rfl rfl (by decide) ?_
  refine gn_val rfl rfl rfl rfl rfl rfl (by decide) ?_
  refine gn_val rfl rfl rfl rfl rfl rfl (by decide) ?_
  refine gn_val rfl rfl rfl rfl rfl rfl (by decide) ?_
  refine g_val (s_pickT rfl rfl rfl) rfl ?_
  refine g_val (s_move rfl rfl) rfl ?_
  refine gn_val rfl rfl rfl rfl rfl rfl (by decide) ?_
  refine gn_val rfl rfl rfl rfl rfl rfl (by decide) ?_
  refine gn_val rfl rfl rfl rfl rfl rfl (by decide) ?_
  refine gn_val rfl rfl rfl rfl rfl rfl (by decide) ?_
  refine g_val (s_pickT rfl rfl rfl) rfl ?_
  refine g_val (s_move rfl rfl) rfl ?_
  refine gn_val rfl rfl rfl rfl rfl rfl (by decide) ?_
  refine gn_val rfl rfl rfl rfl rfl rfl (by decide) ?_
  refine gn_val rfl rfl rfl rfl rfl rfl (by decide) ?_
  refine gn_val rfl rfl rfl rfl rfl rfl (by decide) ?_
  refine g_val (s_pickT rfl rfl rfl) rfl ?_
  refine g_val (s_move rfl rfl) rfl ?_
  refine gn_val rfl rfl rfl rfl rfl rfl (by decide) ?_
  refine gn_val rfl rfl rfl rfl rfl rfl (by decide) ?_
  refine gn_val rfl rfl rfl rfl rfl rfl (by decide) ?_
  refine gn_val rfl rfl rfl rfl rfl rfl (by decide) ?_
  refine g_val (s_pickT rfl rfl rfl) rfl ?_
  refine g_nil ?_
  refine vc_cond rfl (fun _ => ?_) (fun h => by cases h)
  refine vc_rseq mixed ?_
  refine g_val (s_assign rfl rfl) rfl ?_
  refine g_nil ?_
  exact vc_ret (ret_of _ (.cons (.tmp rfl) .nil) (by simp only [single]; rw [decide_eq_false]; rintro ⟨h1, h2, h3, h4, h5, h6, h7, h8, h9, h10, h11, h12, h13, h14⟩; simp only [in40] at h5 h6 h7 h8 h9 h10; omega) rfl)
  rw [← hg23]; replace hg23 := hg23.symm; replace hg23 := of_decide_eq_true hg23
  refine gn_val rfl rfl rfl rfl rfl rfl (by decide) ?_
  refine gn_val rfl rfl rfl rfl rfl rfl (by decide) ?_
  refine gn_val rfl rfl rfl rfl rfl rfl (by decide) ?_
  refine gn_val rfl rfl rfl rfl rfl rfl (by decide) ?_
  refine g_val (s_pickT rfl rfl rfl) rfl ?_
  refine g_val (s_move rfl rfl) rfl ?_
  refine gn_val rfl rfl rfl rfl rfl rfl (by decide) ?_
  refine gn_val rfl rfl rfl rfl rfl rfl (by decide) ?_
  refine gn_val rfl rfl rfl rfl rfl rfl (by decide) ?_
  refine gn_val rfl rfl rfl rfl rfl rfl (by decide) ?_
  refine g_val (s_pickT rfl rfl rfl) rfl ?_
  refine g_val (s_move rfl rfl) rfl ?_
  refine gn_val rfl rfl rfl rfl rfl rfl (by decide) ?_
  refine gn_val rfl rfl rfl rfl rfl rfl (by decide) ?_
  refine gn_val rfl rfl rfl rfl rfl rfl (by decide) ?_
  refine gn_val rfl rfl rfl rfl rfl rfl (by decide) ?_
  refine g_val (s_pickT rfl rfl rfl) rfl ?_
  refine g_val (s_move rfl rfl) rfl ?_
  refine gn_val rfl rfl rfl rfl rfl rfl (by decide) ?_
  refine gn_val rfl rfl rfl rfl rfl rfl (by decide) ?_
  refine gn_val rfl rfl rfl rfl rfl rfl (by decide) ?_
  refine gn_val rfl rfl rfl rfl rfl rfl (by decide) ?_
  refine g_val (s_pickT rfl rfl rfl) rfl ?_
  refine g_val (s_move rfl rfl) rfl ?_
  refine gn_val rfl rfl rfl rfl rfl rfl (by decide) ?_
  refine gn_val rfl rfl rfl rfl rfl rfl (by decide) ?_
  refine gn_val rfl rfl rfl rfl rfl rfl (by decide) ?_
  refine gn_val rfl rfl rfl rfl rfl rfl (by decide) ?_
  refine g_val (s_pickT rfl rfl rfl) rfl ?_
  refine g_val (s_move rfl rfl) rfl ?_
  refine gn_val rfl rfl rfl rfl rfl rfl (by decide) ?_
  refine gn_val rfl rfl rfl rfl rfl rfl (by decide) ?_
  refine gn_val rfl rfl rfl rfl rfl rfl (by decide) ?_
  refine gn_val rfl rfl rfl rfl rfl rfl (by decide) ?_
  refine g_val (s_pickT rfl rfl rfl) rfl ?_
  refine g_val (s_move rfl rfl) rfl ?_
  refine gn_val rfl rfl rfl rfl rfl rfl (by decide) ?_
  refine gn_val rfl rfl rfl rfl rfl rfl (by decide) ?_
  refine gn_val rfl rfl rfl rfl rfl rfl (by decide) ?_
  refine gn_val rfl rfl rfl rfl rfl rfl (by decide) ?_
  refine g_val (s_pickT rfl rfl rfl) rfl ?_
  refine g_val (s_move rfl rfl) rfl ?_
  refine gn_val rfl rfl rfl rfl rfl rfl (by decide) ?_
  refine gn_val rfl rfl rfl rfl rfl rfl (by decide) ?_
  refine gn_val rfl rfl rfl rfl rfl rfl (by decide) ?_
  refine gn_val rfl rfl rfl rfl rfl rfl (by decide) ?_
  refine g_val (s_pickT rfl rfl rfl) rfl ?_
  refine g_nil ?_
  refine vc_cond rfl (fun _ => ?_) (fun h => by cases h)
  refine vc_rseq mixed ?_
  refine g_val (s_assign rfl rfl) rfl ?_
  refine g_nil ?_
  exact vc_ret (ret_of _ (.cons (.tmp rfl) .nil) (by simp only [single]; rw [decide_eq_false]; rintro ⟨h1, h2, h3, h4, h5, h6, h7, h8, h9, h10, h11, h12, h13, h14⟩; simp only [in40] at h5 h6 h7 h8 h9 h10; omega) rfl)
  rw [← hg18]; replace hg18 := hg18.symm; replace hg18 := of_decide_eq_true hg18
  refine gn_val rfl rfl rfl rfl rfl rfl (by decide) ?_
  refine gn_val rfl rfl rfl rfl rfl rfl (by decide) ?_
  refine gn_val rfl rfl rfl rfl rfl rfl (by decide) ?_
  refine g_val (s_pickT rfl rfl rfl) rfl ?_
  refine g_val (s_move rfl rfl) rfl ?_
  refine gn_val rfl rfl rfl rfl rfl rfl (by decide) ?_
  refine gn_val rfl rfl rfl rfl rfl rfl (by decide) ?_
  refine gn_val rfl rfl rfl rfl rfl rfl (by decide) ?_
  refine gn_val rfl rfl rfl rfl rfl rfl (by decide) ?_
  refine g_val (s_pickT rfl rfl rfl) rfl ?_
  refine g_val (s_move rfl rfl) rfl ?_
  refine gn_val rfl rfl rfl rfl rfl rfl (by decide) ?_
  refine gn_val rfl rfl rfl rfl rfl rfl (by decide) ?_
  refine gn_val rfl rfl rfl rfl rfl rfl (by decide) ?_
  refine gn_val rfl rfl rfl rfl rfl rfl (by decide) ?_
  refine g_val (s_pickT rfl rfl rfl) rfl ?_
  refine g_val (s_move rfl rfl) rfl ?_
  refine gn_val rfl rfl rfl rfl rfl rfl (by decide) ?_
  refine gn_val rfl rfl rfl rfl rfl rfl (by decide) ?_
  refine gn_val rfl rfl rfl rfl rfl rfl (by decide) ?_
  refine gn_val rfl rfl rfl rfl rfl rfl (by decide) ?_
  refine g_val (s_pickT rfl rfl rfl) rfl ?_
  refine g_val (s_move rfl rfl) rfl ?_
  refine gn_val rfl rfl rfl rfl rfl rfl (by decide) ?_
  refine gn_val rfl rfl rfl rfl rfl rfl (by decide) ?_
  refine gn_val rfl rfl rfl rfl rfl rfl (by decide) ?_
  refine gn_val rfl rfl rfl rfl rfl rfl (by decide) ?_
  refine g_val (s_pickT rfl rfl rfl) rfl ?_
  refine g_val (s_move rfl rfl) rfl ?_
  refine gn_val rfl rfl rfl rfl rfl rfl (by decide) ?_
  refine gn_val rfl rfl rfl rfl rfl rfl (by decide) ?_
  refine gn_val rfl rfl rfl rfl rfl rfl (by decide) ?_
  refine gn_val rfl rfl rfl rfl rfl rfl (by decide) ?_
  refine g_val (s_pickT rfl rfl rfl) rfl ?_
  refine g_val (s_move rfl rfl) rfl ?_
  refine gn_val rfl rfl rfl rfl rfl rfl (by decide) ?_
  refine gn_val rfl rfl rfl rfl rfl rfl (by decide) ?_
  refine gn_val rfl rfl rfl rfl rfl rfl (by decide) ?_
  refine gn_val rfl rfl rfl rfl rfl rfl (by decide) ?_
  refine g_val (s_pickT rfl rfl rfl) rfl ?_
  refine g_val (s_move rfl rfl) rfl ?_
  refine gn_val rfl rfl rfl rfl rfl rfl (by decide) ?_
  refine gn_val rfl rfl rfl rfl rfl rfl (by decide) ?_
  refine gn_val rfl rfl rfl rfl rfl rfl (by decide) ?_
  refine gn_val rfl rfl rfl rfl rfl rfl (by decide) ?_
  refine g_val (s_pickT rfl rfl rfl) rfl ?_
  refine g_val (s_move rfl rfl) rfl ?_
  refine gn_val rfl rfl rfl rfl rfl rfl (by decide) ?_
  refine gn_val rfl rfl rfl rfl rfl rfl (by decide) ?_
  refine gn_val rfl rfl rfl rfl rfl rfl (by decide) ?_
  refine gn_val rfl rfl rfl rfl rfl rfl (by decide) ?_
  refine g_val (s_pickT rfl rfl rfl) rfl ?_
  refine g_nil ?_
  refine vc_cond rfl (fun _ => ?_) (fun h => by cases h)
  refine vc_rseq mixed ?_
  refine g_val (s_assign rfl rfl) rfl ?_
  refine g_nil ?_
  exact vc_ret (ret_of _ (.cons (.tmp rfl) .nil) (by simp only [single]; rw [decide_eq_false]; rintro ⟨h1, h2, h3, h4, h5, h6, h7, h8, h9, h10, h11, h12, h13, h14⟩; simp only [in40] at h5 h6 h7 h8 h9 h10; omega) rfl)
  rw [← hg13]; replace hg13 := hg13.symm; replace hg13 := of_decide_eq_true hg13
  refine gn_val rfl rfl rfl rfl rfl rfl (by decide) ?_
  refine gn_val rfl rfl rfl rfl rfl rfl (by decide) ?_
  refine gn_val rfl rfl rfl rfl rfl rfl (by decide) ?_
  refine g_val (s_pickT rfl rfl rfl) rfl ?_
  refine g_val (s_move rfl rfl) rfl ?_
  refine gn_val rfl rfl rfl rfl rfl rfl (by decide) ?_
  refine gn_val rfl rfl rfl rfl rfl rfl (by decide) ?_
  refine gn_val rfl rfl rfl rfl rfl rfl (by decide) ?_
  refine g_val (s_pickT rfl rfl rfl) rfl ?_
  refine g_val (s_move rfl rfl) rfl ?_
  refine gn_val rfl rfl rfl rfl rfl rfl (by decide) ?_
  refine gn_val rfl rfl rfl rfl rfl rfl (by decide) ?_
  refine gn_val rfl rfl rfl rfl rfl rfl (by decide) ?_
  refine gn_val rfl rfl rfl rfl rfl rfl (by decide) ?_
  refine g_val (s_pickT rfl rfl rfl) rfl ?_
  refine g_val (s_move rfl rfl) rfl ?_
  refine gn_val rfl rfl rfl rfl rfl rfl (by decide) ?_
  refine gn_val rfl rfl rfl rfl rfl rfl (by decide) ?_
  refine gn_val rfl rfl rfl rfl rfl rfl (by decide) ?_
  refine gn_val rfl rfl rfl rfl rfl rfl (by decide) ?_
  refine g_val (s_pickT rfl rfl rfl) rfl ?_
  refine g_val (s_move rfl rfl) rfl ?_
  refine gn_val rfl rfl rfl rfl rfl rfl (by decide) ?_
  refine gn_val rfl rfl rfl rfl rfl rfl (by decide) ?_
  refine gn_val rfl rfl rfl rfl rfl rfl (by decide) ?_
  refine gn_val rfl rfl rfl rfl rfl rfl (by decide) ?_
  refine g_val (s_pickT rfl rfl rfl) rfl ?_
  refine g_val (s_move rfl rfl) rfl ?_
  refine gn_val rfl rfl rfl rfl rfl rfl (by decide) ?_
  refine gn_val rfl rfl rfl rfl rfl rfl (by decide) ?_
  refine gn_val rfl rfl rfl rfl rfl rfl (by decide) ?_
  refine gn_val rfl rfl rfl rfl rfl rfl (by decide) ?_
  refine g_val (s_pickT rfl rfl rfl) rfl ?_
  refine g_val (s_move rfl rfl) rfl ?_
  refine gn_val rfl rfl rfl rfl rfl rfl (by decide) ?_
  refine gn_val rfl rfl rfl rfl rfl rfl (by decide) ?_
  refine gn_val rfl rfl rfl rfl rfl rfl (by decide) ?_
  refine gn_val rfl rfl rfl rfl rfl rfl (by decide) ?_
  refine g_val (s_pickT rfl rfl rfl) rfl ?_
  refine g_val (s_move rfl rfl) rfl ?_
  refine gn_val rfl rfl rfl rfl rfl rfl (by decide) ?_
  refine gn_val rfl rfl rfl rfl rfl rfl (by decide) ?_
  refine gn_val rfl rfl rfl rfl rfl rfl (by decide) ?_
  refine gn_val rfl rfl rfl rfl rfl rfl (by decide) ?_
  refine g_val (s_pickT rfl rfl rfl) rfl ?_
  refine g_val (s_move rfl rfl) rfl ?_
  refine gn_val rfl rfl rfl rfl rfl rfl (by decide) ?_
  refine gn_val rfl rfl rfl rfl rfl rfl (by decide) ?_
  refine gn_val rfl rfl rfl rfl rfl rfl (by decide) ?_
  refine gn_val rfl rfl rfl rfl rfl rfl (by decide) ?_
  refine g_val (s_pickT rfl rfl rfl) rfl ?_
  refine g_val (s_move rfl rfl) rfl ?_
  refine gn_val rfl rfl rfl rfl rfl rfl (by decide) ?_
  refine gn_val rfl rfl rfl rfl rfl rfl (by decide) ?_
  refine gn_val rfl rfl rfl rfl rfl rfl (by decide) ?_
  refine gn_val rfl rfl rfl rfl rfl rfl (by decide) ?_
  refine g_val (s_pickT rfl rfl rfl) rfl ?_
  refine g_nil ?_
  refine vc_cond rfl (fun _ => ?_) (fun h => by cases h)
  refine vc_rseq mixed ?_
  refine g_val (s_assign rfl rfl) rfl ?_
  refine g_nil ?_
  exact vc_ret (ret_of _ (.cons (.tmp rfl) .nil) (by simp only [single]; rw [decide_eq_false]; rintro ⟨h1, h2, h3, h4, h5, h6, h7, h8, h9, h10, h11, h12, h13, h14⟩; simp only [in40] at h5 h6 h7 h8 h9 h10; omega) rfl)
  rw [← hg8]; replace hg8 := hg8.symm; replace hg8 := of_decide_eq_true hg8
  refine gn_val rfl rfl rfl rfl rfl rfl (by decide) ?_
  refine gn_val rfl rfl rfl rfl rfl rfl (by decide) ?_
  refine gn_val rfl rfl rfl rfl rfl rfl (by decide) ?_
  refine g_val (s_pickT rfl rfl rfl) rfl ?_
  refine g_val (s_move rfl rfl) rfl ?_
  refine gn_val rfl rfl rfl rfl rfl rfl (by decide) ?_
  refine gn_val rfl rfl rfl rfl rfl rfl (by decide) ?_
  refine gn_val rfl rfl rfl rfl rfl rfl (by decide) ?_
  refine g_val (s_pickT rfl rfl rfl) rfl ?_
  refine g_val (s_move rfl rfl) rfl ?_
  refine gn_val rfl rfl rfl rfl rfl rfl (by decide) ?_
  refine gn_val rfl rfl rfl rfl rfl rfl (by decide) ?_
  refine gn_val rfl rfl rfl rfl rfl rfl (by decide) ?_
  refine g_val (s_pickT rfl rfl rfl) rfl ?_
  refine g_val (s_move rfl rfl) rfl ?_
  refine gn_val rfl rfl rfl rfl rfl rfl (by decide) ?_
  refine gn_val rfl rfl rfl rfl rfl rfl (by decide) ?_
  refine gn_val rfl rfl rfl rfl rfl rfl (by decide) ?_
  refine gn_val rfl rfl rfl rfl rfl rfl (by decide) ?_
  refine g_val (s_pickT rfl rfl rfl) rfl ?_
  refine g_val (s_move rfl rfl) rfl ?_
  refine gn_val rfl rfl rfl rfl rfl rfl (by decide) ?_
  refine gn_val rfl rfl rfl rfl rfl rfl (by decide) ?_
  refine gn_val rfl rfl rfl rfl rfl rfl (by decide) ?_
  refine gn_val rfl rfl rfl rfl rfl rfl (by decide) ?_
  refine g_val (s_pickT rfl rfl rfl) rfl ?_
  refine g_val (s_move rfl rfl) rfl ?_
  refine gn_val rfl rfl rfl rfl rfl rfl (by decide) ?_
  refine gn_val rfl rfl rfl rfl rfl rfl (by decide) ?_
  refine gn_val rfl rfl rfl rfl rfl rfl (by decide) ?_
  refine gn_val rfl rfl rfl rfl rfl rfl (by decide) ?_
  refine g_val (s_pickT rfl rfl rfl) rfl ?_
  refine g_val (s_move rfl rfl) rfl ?_
  refine gn_val rfl rfl rfl rfl rfl rfl (by decide) ?_
  refine gn_val rfl rfl rfl rfl rfl rfl (by decide) ?_
  refine gn_val rfl rfl rfl rfl rfl rfl (by decide) ?_
  refine gn_val rfl rfl rfl rfl rfl rfl (by decide) ?_
  refine g_val (s_pickT rfl rfl rfl) rfl ?_
  refine g_val (s_move rfl rfl) rfl ?_
  refine gn_val rfl rfl rfl rfl rfl rfl (by decide) ?_
  refine gn_val rfl rfl rfl rfl rfl rfl (by decide) ?_
  refine gn_val rfl rfl rfl rfl rfl rfl (by decide) ?_
  refine gn_val rfl rfl rfl rfl rfl rfl (by decide) ?_
  refine g_val (s_pickT rfl rfl rfl) rfl ?_
  refine g_val (s_move rfl rfl) rfl ?_
  refine gn_val rfl rfl rfl rfl rfl rfl (by decide) ?_
  refine gn_val rfl rfl rfl rfl rfl rfl (by decide) ?_
  refine gn_val rfl rfl rfl rfl rfl rfl (by decide) ?_
  refine gn_val rfl rfl rfl rfl rfl rfl (by decide) ?_
  refine g_val (s_pickT rfl rfl rfl) rfl ?_
  refine g_val (s_move rfl rfl) rfl ?_
  refine gn_val rfl rfl rfl rfl rfl rfl (by decide) ?_
  refine gn_val rfl rfl rfl rfl rfl rfl (by decide) ?_
  refine gn_val rfl rfl rfl rfl rfl rfl (by decide) ?_
  refine gn_val rfl rfl rfl rfl rfl rfl (by decide) ?_
  refine g_val (s_pickT rfl rfl rfl) rfl ?_
  refine g_val (s_move rfl rfl) rfl ?_
  refine gn_val rfl rfl rfl rfl rfl rfl (by decide) ?_
  refine gn_val rfl rfl rfl rfl rfl rfl (by decide) ?_
  refine gn_val rfl rfl rfl rfl rfl rfl (by decide) ?_
  refine gn_val rfl rfl rfl rfl rfl rfl (by decide) ?_
  refine g_val (s_pickT rfl rfl rfl) rfl ?_
  refine g_nil ?_
  refine vc_cond rfl (fun _ => ?_) (fun h => by cases h)
  refine vc_rseq mixed ?_
  refine g_val (s_assign rfl rfl) rfl ?_
  refine g_nil ?_
  exact vc_ret (ret_of _ (.cons (.tmp rfl) .nil) (by simp only [single]; rw [decide_eq_false]; rintro ⟨h1, h2, h3, h4, h5, h6, h7, h8, h9, h10, h11, h12, h13, h14⟩; simp only [in40] at h5 h6 h7 h8 h9 h10; omega) rfl)

end Go.Eng

set_option maxHeartbeats 4000000
namespace Go.Eng
open Go.Proofs

def headB (c : VolCmd) : List Int := numsF [c.kind, c.vol, c.blocks, c.size, c.per, c.total, c.time, c.index]
def cmdB (c : VolCmd) : List Int := headB c ++ placeB c.place ++ itemsB c.items
theorem placeB_len {l : List Int} (hl : l.length ≤ 1000) : (placeB l).length ≤ 20000 := placeG_all l ▸ placeG_len hl l.length
theorem itemsB_len {l : List Item} (hl : itemsSmall l) : (itemsB l).length ≤ 2000000 := itemsG_all l ▸ itemsG_len hl l.length
theorem cmdRight.small {c : VolCmd} (h : cmdRight c) : c.place.length ≤ 1000 ∧ itemsSmall c.items := by
  obtain ⟨h1, h2, h3, h4, h5, h6, h7, h8, h9, h10, h11, h12, h13, h14⟩ := h
  exact ⟨by omega, by omega, fun x hx => by have := h14 x hx; omega⟩

theorem c_mementoref16_PutCmd_ok (c : VolCmd) (h0 : cmdRight c) : Con Tryz.prog 29 [sC (cmdC c)] [] (.tup [.t (bytesT (cmdB c)), AI .i64 0]) [] := by
  refine con_intro [] [] Tryz.func29 rfl Tryz.ntmps29 Tryz.results29 rfl rfl ?_
  intro E
  have hn := numsF_len [c.kind, c.vol, c.blocks, c.size, c.per, c.total, c.time, c.index]
  have hp := placeB_len h0.small.1
  have hi := itemsB_len h0.small.2
  simp only [List.length_cons, List.length_nil] at hn
  refine vc_rseq mixed ?_
  refine g_new (s_box 1 rfl rfl rfl rfl) rfl ?_
  refine g_val (s_assign rfl rfl) rfl ?_
  refine g_val (s_assign rfl rfl) rfl ?_
  refine g_nil ?_
  refine vc_seq ?_
  refine vc_rseq mixed ?_
  refine g_val (s_loadA rfl rfl rfl rfl rfl) rfl ?_
  refine g_val (s_call [] (c_mementoref16_CmdRight c) (evArgs_cons rfl evArgs_nil) trivial rfl (okVL_nil _) rfl (.inl rfl) rfl) rfl ?_
  refine g_val (s_not rfl rfl) rfl ?_
  refine g_nil ?_
  refine vc_cond rfl (fun h => by simp [h0] at h) (fun _ => ?_)
  refine vc_skip ?_
  refine vc_rseq mixed ?_
  refine g_val (s_field rfl rfl rfl rfl) rfl ?_
  refine g_val (s_load rfl rfl rfl rfl) rfl ?_
  refine g_val (s_field rfl rfl rfl rfl) rfl ?_
  refine g_val (s_load rfl rfl rfl rfl) rfl ?_
  refine g_val (s_field rfl rfl rfl rfl) rfl ?_
  refine g_val (s_load rfl rfl rfl rfl) rfl ?_
  refine g_val (s_field rfl rfl rfl rfl) rfl ?_
  refine g_val (s_load rfl rfl rfl rfl) rfl ?_
  refine g_val (s_field rfl rfl rfl rfl) rfl ?_
  refine g_val (s_load rfl rfl rfl rfl) rfl ?_
  refine g_val (s_field rfl rfl rfl rfl) rfl ?_
  refine g_val (s_load rfl rfl rfl rfl) rfl ?_
  refine g_val (s_field rfl rfl rfl rfl) rfl ?_
  refine g_val (s_load rfl rfl rfl rfl) rfl ?_
  refine g_val (s_field rfl rfl rfl rfl) rfl ?_
  refine g_val (s_load rfl rfl rfl rfl) rfl ?_
  refine g_fz ((s_buildSlice 24 (evArgs_cons rfl (evArgs_cons rfl (evArgs_cons rfl (evArgs_cons rfl (evArgs_cons rfl (evArgs_cons rfl (evArgs_cons rfl (evArgs_cons rfl evArgs_nil)))))))) rfl rfl rfl rfl).fzE rfl) rfl ?_
  refine g_new (s_callH [] [(0, 25)] (c_mementoref16_nums_own [c.kind, c.vol, c.blocks, c.size, c.per, c.total, c.time, c.index] (by simp)) (evArgs_cons rfl evArgs_nil) trivial rfl (okVL_nil _) rfl rfl rfl) rfl ?_
  refine g_val (s_assign rfl rfl) rfl ?_
  refine g_nil ?_
  refine vc_rseq mixed ?_
  refine d_val (s_move rfl rfl) rfl ?_
  refine d_val (s_field rfl rfl rfl rfl) rfl ?_
  refine d_val (s_load rfl rfl rfl rfl) rfl ?_
  refine d_val (s_call [] (c_mementoref16_place c.place h0.small.1) (evArgs_cons rfl evArgs_nil) trivial rfl (okVL_nil _) rfl (.inl rfl) rfl) rfl ?_
  refine d_app (s_append 30 rfl rfl rfl rfl rfl (by simp only [List.length_map]; omega) rfl rfl (by simp only [List.length_map]; omega)) rfl ?_
  refine d_val (s_field rfl rfl rfl rfl) rfl ?_
  refine d_val (s_load rfl rfl rfl rfl) rfl ?_
  refine d_val (s_call [] (c_mementoref13_PutItems c.items h0.small.2) (evArgs_cons rfl evArgs_nil) trivial rfl (okVL_nil _) rfl (.inl rfl) rfl) rfl ?_
  refine d_fa ((s_append 34 rfl rfl rfl rfl rfl (by simp only [List.length_append, List.length_take, List.length_map]; omega) rfl rfl (by simp only [List.length_map]; omega)).fzA (by simp only [List.length_append, List.length_take, List.length_map]; omega) rfl) rfl ?_
  refine d_val (s_assign rfl rfl) rfl ?_
  refine d_val (s_assign rfl rfl) rfl ?_
  refine d_nil rfl ?_
  exact vc_ret (ret_le [] _ (.cons (.tmp rfl) (.cons (.tmp rfl) .nil)) trivial (LeV.tupL (leL_cons (LeV.tt (by rw [List.take_of_length_le (l := List.map byteC _) (by simp), List.take_of_length_le (by simp), List.take_of_length_le (by simp)]; simp [bytesT, cmdB, headB])) (leL_cons (LeV.tt rfl) leL_nil))) rfl)
theorem c_mementoref16_PutCmd_err (c : VolCmd) (h0 : ¬ cmdRight c) : Con Tryz.prog 29 [sC (cmdC c)] [] (.tup [.t (bytesT []), AI .i64 23]) [] := by
  refine con_intro [] [] Tryz.func29 rfl Tryz.ntmps29 Tryz.results29 rfl rfl ?_
  intro E
  refine vc_rseq mixed ?_
  refine g_new (s_box 1 rfl rfl rfl rfl) rfl ?_
  refine g_val (s_assign rfl rfl) rfl ?_
  refine g_val (s_assign rfl rfl) rfl ?_
  refine g_nil ?_
  refine vc_seq ?_
  refine vc_rseq mixed ?_
  refine g_val (s_loadA rfl rfl rfl rfl rfl) rfl ?_
  refine g_val (s_call [] (c_mementoref16_CmdRight c) (evArgs_cons rfl evArgs_nil) trivial rfl (okVL_nil _) rfl (.inl rfl) rfl) rfl ?_
  refine g_val (s_not rfl rfl) rfl ?_
  refine g_nil ?_
  refine vc_cond rfl (fun _ => ?_) (fun h => by simp [h0] at h)
  refine vc_rseq mixed ?_
  refine g_val (s_assign rfl rfl) rfl ?_
  refine g_val (s_assign rfl rfl) rfl ?_
  refine g_nil ?_
  exact vc_ret (ret_le [] _ (.cons (.tmp rfl) (.cons (.tmp rfl) .nil)) trivial (by repeat (first | exact leL_nil | refine leL_cons ?_ ?_ | exact LeV.tt rfl | exact .nl (by decide) (by decide) | exact .nn | refine LeV.tupL ?_ | refine LeV.aggL ?_ | exact .eq (by first | exact trivial | (simp [AV.okV, okR, lkB]; done) | (simp [AV.okV, okR, lkB]; omega)) (by first | rfl | (simp [AV.view, viewR, lkB, AV.ren, List.take_of_length_le]; done) | (simp [AV.view, viewR, lkB, AV.ren, List.take_of_length_le]; done)))) rfl)

end Go.Eng

set_option maxHeartbeats 4000000
namespace Go.Eng
open Go.Proofs

/-- The reader: what is left, its error. -/
def rdrA (b : List Int) (e : Int) : List AV := [.t (bytesT b), AI .i64 e]

theorem c_Reader_fail (b : List Int) (e0 e : Int) : Con Tryz.prog 106 [.ref 1000 0, AI .i64 e] [(1000, .box (rdrA b e0))] (.tup []) [(1000, .box (rdrA [] e))] := by
  refine con_intro [1000] [1000] Tryz.func106 rfl Tryz.ntmps106 Tryz.results106 rfl rfl ?_
  intro E
  refine vc_region mixed ?_
  refine g_val (s_move rfl rfl) rfl ?_
  refine g_val (s_move rfl rfl) rfl ?_
  refine g_val (s_move rfl rfl) rfl ?_
  refine g_val (s_nilCheck rfl rfl rfl) rfl ?_
  refine g_val (s_field rfl rfl rfl rfl) rfl ?_
  refine g_sto (s_store rfl rfl rfl rfl rfl rfl) rfl ?_
  refine g_val (s_nilCheck rfl rfl rfl) rfl ?_
  refine g_val (s_field rfl rfl rfl rfl) rfl ?_
  refine g_sto (s_store rfl rfl rfl rfl rfl rfl) rfl ?_
  refine g_nil ?_
  exact ret_hand [] [] [] .nil trivial (.same _) (lehp_cons rfl (leB_box (leL_cons (.nl (by decide) (by decide)) (leL_cons (.same _) leL_nil))) (lehp_nil _ _)) rfl

end Go.Eng

set_option maxHeartbeats 4000000
namespace Go.Eng
open Go.Proofs

def numStep (n : Int) (i : Nat) (c : Int) : Int := orI .u64 n (shlI .u64 (IntKind.u64.wrap (andI .u8 c 127)) (7 * i))
/-- A number: the value, what is left, the error. -/
def numR : List Int → Nat → Int → Int → Int × List Int × Int
  | [], i, n, most => (0, [], 21)
  | c :: r, i, n, most => if i = 9 ∧ 1 < c then (0, [], 20) else if c < 128 then (if 0 < i ∧ c = 0 then (0, [], 20) else if most < numStep n i c then (0, [], 22) else (numStep n i c, r, 0)) else numR r (i + 1) (numStep n i c) most
def numF (b : List Int) (e most : Int) : Int × List Int × Int := if e ≠ 0 then (0, b, e) else numR b 0 0 most

theorem c_Reader_Num (b : List Int) (e most : Int) (hb : b.length ≤ 1000000000) : Con Tryz.prog 87 [.ref 1000 0, AI .u64 most] [(1000, .box (rdrA b e))] (AI .u64 (numF b e most).1) [(1000, .box (rdrA (numF b e most).2.1 (numF b e most).2.2))] := by
  refine con_intro [1000] [1000] Tryz.func87 rfl Tryz.ntmps87 Tryz.results87 rfl rfl ?_
  intro E
  refine vc_rseq mixed ?_
  refine g_val (s_assign rfl rfl) rfl ?_
  refine g_nil ?_
  refine vc_seq ?_
  refine vc_rseq mixed ?_
  refine g_val (s_move rfl rfl) rfl ?_
  refine g_val (s_nilCheck rfl rfl rfl) rfl ?_
  refine g_val (s_field rfl rfl rfl rfl) rfl ?_
  refine g_val (s_load rfl rfl rfl rfl) rfl ?_
  refine g_val (s_neq rfl rfl rfl) rfl ?_
  refine g_nil ?_
  refine vc_cond rfl (fun hc12 => ?_) (fun hc12 => ?_)
  replace hc12 := of_decide_eq_true hc12
  simp only [ne_eq] at hc12
  rw [show numF b e most = (0, b, e) from if_pos hc12]
  refine vc_rseq mixed ?_
  refine g_val (s_assign rfl rfl) rfl ?_
  refine g_nil ?_
  exact vc_ret (ret_hand [] [] _ (.cons (.tmp rfl) .nil) trivial (.same _) (lehp_cons rfl (leB_same _) (lehp_nil _ _)) rfl)
  replace hc12 := of_decide_eq_false hc12
  simp only [ne_eq, Decidable.not_not] at hc12
  refine vc_skip ?_
  rw [show numF b e most = numR b 0 0 most from if_neg (by simpa using hc12)]
  refine vc_rseq mixed ?_
  refine g_val (s_assign rfl rfl) rfl ?_
  refine g_nil ?_
  refine vc_seq ?_
  refine vc_rseq mixed ?_
  refine g_val (s_assign rfl rfl) rfl ?_
  refine g_nil ?_
  refine vc_block ?_
  refine vc_while (α := Nat × Int) (fun s => ⟨[(0, .ref 1000 0), (1, AI .u64 most), (5, AI .u64 s.2), (6, AI .i64 s.1)], [(1000, some (.box (rdrA b e)))], [1000]⟩) (fun s => s.1 ≤ b.length ∧ numR (b.drop s.1) s.1 s.2 most = numR b 0 0 most) (fun s => b.length - s.1) (0, 0) (leE_same (by repeat (first | exact letm_nil _ _ | refine letm_cons rfl ?_ ?_ | exact .same _ | exact .nl (by decide) (by decide) | exact .nn | exact .id' rfl | exact .id' (by simp; done))) (by repeat (first | exact lehp_nil _ _ | refine lehp_cons rfl ?_ ?_ | exact leB_same _ | exact leB_row (by first | rfl | (simp; done)) | exact leB_obj (by simp; done) | exact leB_nest (by first | rfl | (simp; done)) | refine leB_box ?_ | exact leL_nil | refine leL_cons ?_ ?_ | exact .same _ | exact .nl (by decide) (by decide) | exact .nn | exact .id' rfl | exact .id' (by simp; done))) rfl) ⟨Nat.zero_le _, rfl⟩ (fun s ⟨hs1, hs2⟩ => ?_)
  obtain ⟨i, n⟩ := s
  simp only at hs1 hs2
  refine vc_seq ?_
  refine vc_rseq mixed ?_
  refine g_val (s_move rfl rfl) rfl ?_
  refine g_val (s_move rfl rfl) rfl ?_
  refine g_val (s_nilCheck rfl rfl rfl) rfl ?_
  refine g_val (s_field rfl rfl rfl rfl) rfl ?_
  refine g_val (s_load rfl rfl rfl rfl) rfl ?_
  refine g_val (s_len rfl rfl) rfl ?_
  refine g_val (s_lss rfl rfl rfl) rfl ?_
  refine g_nil ?_
  refine vc_cond rfl (fun hc19 => ?_) (fun hc19 => ?_)
  replace hc19 := of_decide_eq_true hc19
  simp only [List.length_map] at hc19
  obtain ⟨x, hx⟩ := get_of_lt (l := b) (i := i) (by omega)
  have hd : b.drop i = x :: b.drop (i + 1) := by rw [List.drop_eq_getElem_cons (by omega)]; rw [(List.getElem?_eq_some_iff.1 hx).2]
  rw [hd] at hs2
  simp only [numR] at hs2
  refine vc_skip ?_
  refine vc_seq ?_
  refine vc_block ?_
  refine vc_rseq mixed ?_
  refine g_val (s_move rfl rfl) rfl ?_
  refine g_val (s_nilCheck rfl rfl rfl) rfl ?_
  refine g_val (s_field rfl rfl rfl rfl) rfl ?_
  refine g_val (s_load rfl rfl rfl rfl) rfl ?_
  refine g_val (s_move rfl rfl) rfl ?_
  refine g_val (s_index rfl rfl rfl (by omega) (idx_map hx)) rfl ?_
  refine g_val (s_loadT rfl rfl rfl) rfl ?_
  refine g_val (s_assign rfl rfl) rfl ?_
  refine g_nil ?_
  refine vc_seq ?_
  refine vc_rseq mixed ?_
  refine g_val (s_move rfl rfl) rfl ?_
  refine g_val (s_eql rfl rfl rfl) rfl ?_
  refine g_val (s_move rfl rfl) rfl ?_
  refine g_probe (j := 31) rfl (fun c hg31 => ?_)
  cases c
  rw [← hg31]; replace hg31 := hg31.symm; replace hg31 := of_decide_eq_false hg31
  try simp only [List.length_map, ne_eq, Decidable.not_not, Int.not_lt, Int.not_le, ge_iff_le, gt_iff_lt, Bool.not_eq_true', Bool.not_eq_false', decide_eq_true_eq, decide_eq_false_iff_not] at hg31
  refine gn_val rfl rfl rfl rfl rfl rfl (by decide) ?_
  refine gn_val rfl rfl rfl rfl rfl rfl (by decide) ?_
  refine g_val (s_pickF rfl rfl rfl) rfl ?_
  refine g_nil ?_
  refine vc_cond rfl (fun h => by cases h) (fun _ => ?_)
  refine vc_skip ?_
  refine vc_rseq mixed ?_
  refine g_val (s_move rfl rfl) rfl ?_
  refine g_val (s_move rfl rfl) rfl ?_
  refine g_val (s_andB rfl rfl rfl) rfl ?_
  refine g_val (s_convW rfl rfl) rfl ?_
  refine g_val (s_move rfl rfl) rfl ?_
  refine g_val (s_mul rfl rfl rfl (by simp only [inI, kMin, kMax]; omega)) rfl ?_
  refine g_val (s_shlB rfl rfl rfl (by omega)) rfl ?_
  refine g_val (s_orB rfl rfl rfl) rfl ?_
  refine g_val (s_assign rfl rfl) rfl ?_
  refine g_nil ?_
  refine vc_rseq mixed ?_
  refine g_val (s_move rfl rfl) rfl ?_
  refine g_val (s_lss rfl rfl rfl) rfl ?_
  refine g_nil ?_
  refine vc_cond rfl (fun hc46 => ?_) (fun hc46 => ?_)
  replace hc46 := of_decide_eq_true hc46
  refine vc_seq ?_
  refine vc_rseq mixed ?_
  refine g_val (s_move rfl rfl) rfl ?_
  refine g_val (s_gtr rfl rfl rfl) rfl ?_
  refine g_val (s_move rfl rfl) rfl ?_
  refine g_probe (j := 49) rfl (fun c hg49 => ?_)
  cases c
  rw [← hg49]; replace hg49 := hg49.symm; replace hg49 := of_decide_eq_false hg49
  simp only [Int.not_lt] at hg49
  refine gn_val rfl rfl rfl rfl rfl rfl (by decide) ?_
  refine gn_val rfl rfl rfl rfl rfl rfl (by decide) ?_
  refine g_val (s_pickF rfl rfl rfl) rfl ?_
  refine g_nil ?_
  refine vc_cond rfl (fun h => by cases h) (fun _ => ?_)
  refine vc_skip ?_
  refine vc_seq ?_
  refine vc_rseq mixed ?_
  refine g_val (s_move rfl rfl) rfl ?_
  refine g_val (s_move rfl rfl) rfl ?_
  refine g_val (s_gtr rfl rfl rfl) rfl ?_
  refine g_nil ?_
  refine vc_cond rfl (fun hc57 => ?_) (fun hc57 => ?_)
  replace hc57 := of_decide_eq_true hc57
  try simp only [List.length_map, ne_eq, Decidable.not_not, Int.not_lt, Int.not_le, ge_iff_le, gt_iff_lt, Bool.not_eq_true', Bool.not_eq_false', decide_eq_true_eq, decide_eq_false_iff_not] at hc57
  refine vc_rseq mixed ?_
  refine g_val (s_move rfl rfl) rfl ?_
  refine g_cw (s_callH [] [] (c_Reader_fail b e 22) (evArgs_cons rfl (evArgs_cons rfl evArgs_nil)) ⟨rfl, trivial⟩ rfl (okVL_nil _) rfl rfl rfl) rfl ?_
  refine g_nil ?_
  refine vc_rseq mixed ?_
  refine g_val (s_assign rfl rfl) rfl ?_
  refine g_nil ?_
  rw [show numR b 0 0 most = (0, [], 22) from hs2.symm.trans (by (repeat' split) <;> first | rfl | (exfalso; omega) | (exfalso; simp only [numStep] at *; omega))]; exact vc_ret (ret_hand [] [] _ (.cons (.tmp rfl) .nil) trivial (.same _) (lehp_cons rfl (leB_same _) (lehp_nil _ _)) rfl)
  replace hc57 := of_decide_eq_false hc57
  simp only [Int.not_lt] at hc57
  refine vc_skip ?_
  refine vc_rseq mixed ?_
  refine g_val (s_move rfl rfl) rfl ?_
  refine g_val (s_move rfl rfl) rfl ?_
  refine g_val (s_nilCheck rfl rfl rfl) rfl ?_
  refine g_val (s_field rfl rfl rfl rfl) rfl ?_
  refine g_val (s_load rfl rfl rfl rfl) rfl ?_
  refine g_val (s_move rfl rfl) rfl ?_
  refine g_val (s_add rfl rfl rfl (by simp only [inI, kMin, kMax]; omega)) rfl ?_
  refine g_val (s_slice (some (.i64, (i : Int) + 1)) none rfl rfl trivial rfl (by simp; omega) (by simp) (by simp [optN]; omega)) rfl ?_
  refine g_val (s_nilCheck rfl rfl rfl) rfl ?_
  refine g_val (s_field rfl rfl rfl rfl) rfl ?_
  refine g_sto (s_store rfl rfl rfl rfl rfl rfl) rfl ?_
  refine g_nil ?_
  refine vc_rseq mixed ?_
  refine g_val (s_move rfl rfl) rfl ?_
  refine g_val (s_assign rfl rfl) rfl ?_
  refine g_nil ?_
  rw [show numR b 0 0 most = (numStep n i x, b.drop (i + 1), 0) from hs2.symm.trans (by (repeat' split) <;> first | rfl | (exfalso; omega) | (exfalso; simp only [numStep] at *; omega))]; exact vc_ret (ret_hand [] [] _ (.cons (.tmp rfl) .nil) trivial (.same _) (lehp_cons rfl (leB_box (leL_cons (LeV.tt (by simp [optN, bytesT, take_map_len, List.map_drop])) (leL_cons (LeV.tt (by rw [hc12])) leL_nil))) (lehp_nil _ _)) rfl)
  rw [← hg49]; replace hg49 := hg49.symm; replace hg49 := of_decide_eq_true hg49
  try simp only [List.length_map, ne_eq, Decidable.not_not, Int.not_lt, Int.not_le, ge_iff_le, gt_iff_lt, Bool.not_eq_true', Bool.not_eq_false', decide_eq_true_eq, decide_eq_false_iff_not] at hg49
  refine gq_val (s_move rfl rfl) rfl rfl rfl rfl ?_
  refine gq_val (s_eql rfl rfl rfl) rfl rfl rfl rfl ?_
  refine g_val (s_pickT rfl rfl rfl) rfl ?_
  refine g_nil ?_
  refine vc_cond rfl (fun hc52 => ?_) (fun hc52 => ?_)
  replace hc52 := of_decide_eq_true hc52
  refine vc_rseq mixed ?_
  refine g_val (s_move rfl rfl) rfl ?_
  refine g_cw (s_callH [] [] (c_Reader_fail b e 20) (evArgs_cons rfl (evArgs_cons rfl evArgs_nil)) ⟨rfl, trivial⟩ rfl (okVL_nil _) rfl rfl rfl) rfl ?_
  refine g_nil ?_
  refine vc_rseq mixed ?_
  refine g_val (s_assign rfl rfl) rfl ?_
  refine g_nil ?_
  rw [show numR b 0 0 most = (0, [], 20) from hs2.symm.trans (by (repeat' split) <;> first | rfl | (exfalso; omega) | (exfalso; simp only [numStep] at *; omega))]; exact vc_ret (ret_hand [] [] _ (.cons (.tmp rfl) .nil) trivial (.same _) (lehp_cons rfl (leB_same _) (lehp_nil _ _)) rfl)
  replace hc52 := of_decide_eq_false hc52
  refine vc_skip ?_
  refine vc_seq ?_
  refine vc_rseq mixed ?_
  refine g_val (s_move rfl rfl) rfl ?_
  refine g_val (s_move rfl rfl) rfl ?_
  refine g_val (s_gtr rfl rfl rfl) rfl ?_
  refine g_nil ?_
  refine vc_cond rfl (fun hc57 => ?_) (fun hc57 => ?_)
  replace hc57 := of_decide_eq_true hc57
  try simp only [List.length_map, ne_eq, Decidable.not_not, Int.not_lt, Int.not_le, ge_iff_le, gt_iff_lt, Bool.not_eq_true', Bool.not_eq_false', decide_eq_true_eq, decide_eq_false_iff_not] at hc57
  refine vc_rseq mixed ?_
  refine g_val (s_move rfl rfl) rfl ?_
  refine g_cw (s_callH [] [] (c_Reader_fail b e 22) (evArgs_cons rfl (evArgs_cons rfl evArgs_nil)) ⟨rfl, trivial⟩ rfl (okVL_nil _) rfl rfl rfl) rfl ?_
  refine g_nil ?_
  refine vc_rseq mixed ?_
  refine g_val (s_assign rfl rfl) rfl ?_
  refine g_nil ?_
  rw [show numR b 0 0 most = (0, [], 22) from hs2.symm.trans (by (repeat' split) <;> first | rfl | (exfalso; omega) | (exfalso; simp only [numStep] at *; omega))]; exact vc_ret (ret_hand [] [] _ (.cons (.tmp rfl) .nil) trivial (.same _) (lehp_cons rfl (leB_same _) (lehp_nil _ _)) rfl)
  replace hc57 := of_decide_eq_false hc57
  simp only [Int.not_lt] at hc57
  refine vc_skip ?_
  refine vc_rseq mixed ?_
  refine g_val (s_move rfl rfl) rfl ?_
  refine g_val (s_move rfl rfl) rfl ?_
  refine g_val (s_nilCheck rfl rfl rfl) rfl ?_
  refine g_val (s_field rfl rfl rfl rfl) rfl ?_
  refine g_val (s_load rfl rfl rfl rfl) rfl ?_
  refine g_val (s_move rfl rfl) rfl ?_
  refine g_val (s_add rfl rfl rfl (by simp only [inI, kMin, kMax]; omega)) rfl ?_
  refine g_val (s_slice (some (.i64, (i : Int) + 1)) none rfl rfl trivial rfl (by simp; omega) (by simp) (by simp [optN]; omega)) rfl ?_
  refine g_val (s_nilCheck rfl rfl rfl) rfl ?_
  refine g_val (s_field rfl rfl rfl rfl) rfl ?_
  refine g_sto (s_store rfl rfl rfl rfl rfl rfl) rfl ?_
  refine g_nil ?_
  refine vc_rseq mixed ?_
  refine g_val (s_move rfl rfl) rfl ?_
  refine g_val (s_assign rfl rfl) rfl ?_
  refine g_nil ?_
  rw [show numR b 0 0 most = (numStep n i x, b.drop (i + 1), 0) from hs2.symm.trans (by (repeat' split) <;> first | rfl | (exfalso; omega) | (exfalso; simp only [numStep] at *; omega))]; exact vc_ret (ret_hand [] [] _ (.cons (.tmp rfl) .nil) trivial (.same _) (lehp_cons rfl (leB_box (leL_cons (LeV.tt (by simp [optN, bytesT, take_map_len, List.map_drop])) (leL_cons (LeV.tt (by rw [hc12])) leL_nil))) (lehp_nil _ _)) rfl)
  replace hc46 := of_decide_eq_false hc46
  simp only [Int.not_lt] at hc46
  refine vc_skip ?_
  refine vc_region mixed ?_
  refine g_val (s_move rfl rfl) rfl ?_
  refine g_val (s_add rfl rfl rfl (by simp only [inI, kMin, kMax]; omega)) rfl ?_
  refine g_val (s_assign rfl rfl) rfl ?_
  refine g_nil ?_
  exact ⟨(i + 1, numStep n i x), ⟨by omega, by rw [← hs2]; (repeat' split) <;> first | rfl | (exfalso; omega)⟩, by simp only; omega, (leE_same (by repeat (first | exact letm_nil _ _ | refine letm_cons rfl ?_ ?_ | exact .same _ | exact .nl (by decide) (by decide) | exact .nn | exact .id' rfl | exact .id' (by simp; done))) (by repeat (first | exact lehp_nil _ _ | refine lehp_cons rfl ?_ ?_ | exact leB_same _ | exact leB_row (by first | rfl | (simp; done)) | exact leB_obj (by simp; done) | exact leB_nest (by first | rfl | (simp; done)) | refine leB_box ?_ | exact leL_nil | refine leL_cons ?_ ?_ | exact .same _ | exact .nl (by decide) (by decide) | exact .nn | exact .id' rfl | exact .id' (by simp; done))) rfl)⟩
  rw [← hg31]; replace hg31 := hg31.symm; replace hg31 := of_decide_eq_true hg31
  try simp only [List.length_map, ne_eq, Decidable.not_not, Int.not_lt, Int.not_le, ge_iff_le, gt_iff_lt, Bool.not_eq_true', Bool.not_eq_false', decide_eq_true_eq, decide_eq_false_iff_not] at hg31
  refine gq_val (s_move rfl rfl) rfl rfl rfl rfl ?_
  refine gq_val (s_gtr rfl rfl rfl) rfl rfl rfl rfl ?_
  refine g_val (s_pickT rfl rfl rfl) rfl ?_
  refine g_nil ?_
  refine vc_cond rfl (fun hc34 => ?_) (fun hc34 => ?_)
  replace hc34 := of_decide_eq_true hc34
  refine vc_rseq mixed ?_
  refine g_val (s_move rfl rfl) rfl ?_
  refine g_cw (s_callH [] [] (c_Reader_fail b e 20) (evArgs_cons rfl (evArgs_cons rfl evArgs_nil)) ⟨rfl, trivial⟩ rfl (okVL_nil _) rfl rfl rfl) rfl ?_
  refine g_nil ?_
  refine vc_rseq mixed ?_
  refine g_val (s_assign rfl rfl) rfl ?_
  refine g_nil ?_
  rw [show numR b 0 0 most = (0, [], 20) from hs2.symm.trans (by (repeat' split) <;> first | rfl | (exfalso; omega) | (exfalso; simp only [numStep] at *; omega))]; exact vc_ret (ret_hand [] [] _ (.cons (.tmp rfl) .nil) trivial (.same _) (lehp_cons rfl (leB_same _) (lehp_nil _ _)) rfl)
  replace hc34 := of_decide_eq_false hc34
  simp only [Int.not_lt] at hc34
  refine vc_skip ?_
  refine vc_rseq mixed ?_
  refine g_val (s_move rfl rfl) rfl ?_
  refine g_val (s_move rfl rfl) rfl ?_
  refine g_val (s_andB rfl rfl rfl) rfl ?_
  refine g_val (s_convW rfl rfl) rfl ?_
  refine g_val (s_move rfl rfl) rfl ?_
  refine g_val (s_mul rfl rfl rfl (by simp only [inI, kMin, kMax]; omega)) rfl ?_
  refine g_val (s_shlB rfl rfl rfl (by omega)) rfl ?_
  refine g_val (s_orB rfl rfl rfl) rfl ?_
  refine g_val (s_assign rfl rfl) rfl ?_
  refine g_nil ?_
  refine vc_rseq mixed ?_
  refine g_val (s_move rfl rfl) rfl ?_
  refine g_val (s_lss rfl rfl rfl) rfl ?_
  refine g_nil ?_
  refine vc_cond rfl (fun hc46 => ?_) (fun hc46 => ?_)
  replace hc46 := of_decide_eq_true hc46
  refine vc_seq ?_
  refine vc_rseq mixed ?_
  refine g_val (s_move rfl rfl) rfl ?_
  refine g_val (s_gtr rfl rfl rfl) rfl ?_
  refine g_val (s_move rfl rfl) rfl ?_
  refine g_probe (j := 49) rfl (fun c hg49 => ?_)
  cases c
  rw [← hg49]; replace hg49 := hg49.symm; replace hg49 := of_decide_eq_false hg49
  simp only [Int.not_lt] at hg49
  refine gn_val rfl rfl rfl rfl rfl rfl (by decide) ?_
  refine gn_val rfl rfl rfl rfl rfl rfl (by decide) ?_
  refine g_val (s_pickF rfl rfl rfl) rfl ?_
  refine g_nil ?_
  refine vc_cond rfl (fun h => by cases h) (fun _ => ?_)
  refine vc_skip ?_
  refine vc_seq ?_
  refine vc_rseq mixed ?_
  refine g_val (s_move rfl rfl) rfl ?_
  refine g_val (s_move rfl rfl) rfl ?_
  refine g_val (s_gtr rfl rfl rfl) rfl ?_
  refine g_nil ?_
  refine vc_cond rfl (fun hc57 => ?_) (fun hc57 => ?_)
  replace hc57 := of_decide_eq_true hc57
  try simp only [List.length_map, ne_eq, Decidable.not_not, Int.not_lt, Int.not_le, ge_iff_le, gt_iff_lt, Bool.not_eq_true', Bool.not_eq_false', decide_eq_true_eq, decide_eq_false_iff_not] at hc57
  refine vc_rseq mixed ?_
  refine g_val (s_move rfl rfl) rfl ?_
  refine g_cw (s_callH [] [] (c_Reader_fail b e 22) (evArgs_cons rfl (evArgs_cons rfl evArgs_nil)) ⟨rfl, trivial⟩ rfl (okVL_nil _) rfl rfl rfl) rfl ?_
  refine g_nil ?_
  refine vc_rseq mixed ?_
  refine g_val (s_assign rfl rfl) rfl ?_
  refine g_nil ?_
  rw [show numR b 0 0 most = (0, [], 22) from hs2.symm.trans (by (repeat' split) <;> first | rfl | (exfalso; omega) | (exfalso; simp only [numStep] at *; omega))]; exact vc_ret (ret_hand [] [] _ (.cons (.tmp rfl) .nil) trivial (.same _) (lehp_cons rfl (leB_same _) (lehp_nil _ _)) rfl)
  replace hc57 := of_decide_eq_false hc57
  simp only [Int.not_lt] at hc57
  refine vc_skip ?_
  refine vc_rseq mixed ?_
  refine g_val (s_move rfl rfl) rfl ?_
  refine g_val (s_move rfl rfl) rfl ?_
  refine g_val (s_nilCheck rfl rfl rfl) rfl ?_
  refine g_val (s_field rfl rfl rfl rfl) rfl ?_
  refine g_val (s_load rfl rfl rfl rfl) rfl ?_
  refine g_val (s_move rfl rfl) rfl ?_
  refine g_val (s_add rfl rfl rfl (by simp only [inI, kMin, kMax]; omega)) rfl ?_
  refine g_val (s_slice (some (.i64, (i : Int) + 1)) none rfl rfl trivial rfl (by simp; omega) (by simp) (by simp [optN]; omega)) rfl ?_
  refine g_val (s_nilCheck rfl rfl rfl) rfl ?_
  refine g_val (s_field rfl rfl rfl rfl) rfl ?_
  refine g_sto (s_store rfl rfl rfl rfl rfl rfl) rfl ?_
  refine g_nil ?_
  refine vc_rseq mixed ?_
  refine g_val (s_move rfl rfl) rfl ?_
  refine g_val (s_assign rfl rfl) rfl ?_
  refine g_nil ?_
  rw [show numR b 0 0 most = (numStep n i x, b.drop (i + 1), 0) from hs2.symm.trans (by (repeat' split) <;> first | rfl | (exfalso; omega) | (exfalso; simp only [numStep] at *; omega))]; exact vc_ret (ret_hand [] [] _ (.cons (.tmp rfl) .nil) trivial (.same _) (lehp_cons rfl (leB_box (leL_cons (LeV.tt (by simp [optN, bytesT, take_map_len, List.map_drop])) (leL_cons (LeV.tt (by rw [hc12])) leL_nil))) (lehp_nil _ _)) rfl)
  rw [← hg49]; replace hg49 := hg49.symm; replace hg49 := of_decide_eq_true hg49
  try simp only [List.length_map, ne_eq, Decidable.not_not, Int.not_lt, Int.not_le, ge_iff_le, gt_iff_lt, Bool.not_eq_true', Bool.not_eq_false', decide_eq_true_eq, decide_eq_false_iff_not] at hg49
  refine gq_val (s_move rfl rfl) rfl rfl rfl rfl ?_
  refine gq_val (s_eql rfl rfl rfl) rfl rfl rfl rfl ?_
  refine g_val (s_pickT rfl rfl rfl) rfl ?_
  refine g_nil ?_
  refine vc_cond rfl (fun hc52 => ?_) (fun hc52 => ?_)
  replace hc52 := of_decide_eq_true hc52
  refine vc_rseq mixed ?_
  refine g_val (s_move rfl rfl) rfl ?_
  refine g_cw (s_callH [] [] (c_Reader_fail b e 20) (evArgs_cons rfl (evArgs_cons rfl evArgs_nil)) ⟨rfl, trivial⟩ rfl (okVL_nil _) rfl rfl rfl) rfl ?_
  refine g_nil ?_
  refine vc_rseq mixed ?_
  refine g_val (s_assign rfl rfl) rfl ?_
  refine g_nil ?_
  rw [show numR b 0 0 most = (0, [], 20) from hs2.symm.trans (by (repeat' split) <;> first | rfl | (exfalso; omega) | (exfalso; simp only [numStep] at *; omega))]; exact vc_ret (ret_hand [] [] _ (.cons (.tmp rfl) .nil) trivial (.same _) (lehp_cons rfl (leB_same _) (lehp_nil _ _)) rfl)
  replace hc52 := of_decide_eq_false hc52
  refine vc_skip ?_
  refine vc_seq ?_
  refine vc_rseq mixed ?_
  refine g_val (s_move rfl rfl) rfl ?_
  refine g_val (s_move rfl rfl) rfl ?_
  refine g_val (s_gtr rfl rfl rfl) rfl ?_
  refine g_nil ?_
  refine vc_cond rfl (fun hc57 => ?_) (fun hc57 => ?_)
  replace hc57 := of_decide_eq_true hc57
  try simp only [List.length_map, ne_eq, Decidable.not_not, Int.not_lt, Int.not_le, ge_iff_le, gt_iff_lt, Bool.not_eq_true', Bool.not_eq_false', decide_eq_true_eq, decide_eq_false_iff_not] at hc57
  refine vc_rseq mixed ?_
  refine g_val (s_move rfl rfl) rfl ?_
  refine g_cw (s_callH [] [] (c_Reader_fail b e 22) (evArgs_cons rfl (evArgs_cons rfl evArgs_nil)) ⟨rfl, trivial⟩ rfl (okVL_nil _) rfl rfl rfl) rfl ?_
  refine g_nil ?_
  refine vc_rseq mixed ?_
  refine g_val (s_assign rfl rfl) rfl ?_
  refine g_nil ?_
  rw [show numR b 0 0 most = (0, [], 22) from hs2.symm.trans (by (repeat' split) <;> first | rfl | (exfalso; omega) | (exfalso; simp only [numStep] at *; omega))]; exact vc_ret (ret_hand [] [] _ (.cons (.tmp rfl) .nil) trivial (.same _) (lehp_cons rfl (leB_same _) (lehp_nil _ _)) rfl)
  replace hc57 := of_decide_eq_false hc57
  simp only [Int.not_lt] at hc57
  refine vc_skip ?_
  refine vc_rseq mixed ?_
  refine g_val (s_move rfl rfl) rfl ?_
  refine g_val (s_move rfl rfl) rfl ?_
  refine g_val (s_nilCheck rfl rfl rfl) rfl ?_
  refine g_val (s_field rfl rfl rfl rfl) rfl ?_
  refine g_val (s_load rfl rfl rfl rfl) rfl ?_
  refine g_val (s_move rfl rfl) rfl ?_
  refine g_val (s_add rfl rfl rfl (by simp only [inI, kMin, kMax]; omega)) rfl ?_
  refine g_val (s_slice (some (.i64, (i : Int) + 1)) none rfl rfl trivial rfl (by simp; omega) (by simp) (by simp [optN]; omega)) rfl ?_
  refine g_val (s_nilCheck rfl rfl rfl) rfl ?_
  refine g_val (s_field rfl rfl rfl rfl) rfl ?_
  refine g_sto (s_store rfl rfl rfl rfl rfl rfl) rfl ?_
  refine g_nil ?_
  refine vc_rseq mixed ?_
  refine g_val (s_move rfl rfl) rfl ?_
  refine g_val (s_assign rfl rfl) rfl ?_
  refine g_nil ?_
  rw [show numR b 0 0 most = (numStep n i x, b.drop (i + 1), 0) from hs2.symm.trans (by (repeat' split) <;> first | rfl | (exfalso; omega) | (exfalso; simp only [numStep] at *; omega))]; exact vc_ret (ret_hand [] [] _ (.cons (.tmp rfl) .nil) trivial (.same _) (lehp_cons rfl (leB_box (leL_cons (LeV.tt (by simp [optN, bytesT, take_map_len, List.map_drop])) (leL_cons (LeV.tt (by rw [hc12])) leL_nil))) (lehp_nil _ _)) rfl)
  replace hc46 := of_decide_eq_false hc46
  simp only [Int.not_lt] at hc46
  refine vc_skip ?_
  refine vc_region mixed ?_
  refine g_val (s_move rfl rfl) rfl ?_
  refine g_val (s_add rfl rfl rfl (by simp only [inI, kMin, kMax]; omega)) rfl ?_
  refine g_val (s_assign rfl rfl) rfl ?_
  refine g_nil ?_
  exact ⟨(i + 1, numStep n i x), ⟨by omega, by rw [← hs2]; (repeat' split) <;> first | rfl | (exfalso; omega)⟩, by simp only; omega, (leE_same (by repeat (first | exact letm_nil _ _ | refine letm_cons rfl ?_ ?_ | exact .same _ | exact .nl (by decide) (by decide) | exact .nn | exact .id' rfl | exact .id' (by simp; done))) (by repeat (first | exact lehp_nil _ _ | refine lehp_cons rfl ?_ ?_ | exact leB_same _ | exact leB_row (by first | rfl | (simp; done)) | exact leB_obj (by simp; done) | exact leB_nest (by first | rfl | (simp; done)) | refine leB_box ?_ | exact leL_nil | refine leL_cons ?_ ?_ | exact .same _ | exact .nl (by decide) (by decide) | exact .nn | exact .id' rfl | exact .id' (by simp; done))) rfl)⟩
  replace hc19 := of_decide_eq_false hc19
  simp only [List.length_map, Int.not_lt] at hc19
  rw [List.drop_of_length_le (by omega)] at hs2
  refine vc_exit ?_
  refine vc_rseq mixed ?_
  refine g_val (s_move rfl rfl) rfl ?_
  refine g_cw (s_callH [] [] (c_Reader_fail b e 21) (evArgs_cons rfl (evArgs_cons rfl evArgs_nil)) ⟨rfl, trivial⟩ rfl (okVL_nil _) rfl rfl rfl) rfl ?_
  refine g_nil ?_
  refine vc_rseq mixed ?_
  refine g_val (s_assign rfl rfl) rfl ?_
  refine g_nil ?_
  rw [show numR b 0 0 most = (0, [], 21) from hs2.symm]; exact vc_ret (ret_hand [] [] _ (.cons (.tmp rfl) .nil) trivial (.same _) (lehp_cons rfl (leB_same _) (lehp_nil _ _)) rfl)

end Go.Eng
