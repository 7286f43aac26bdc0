/- The law mementolaw16.VolumeStates returns true for every input and leaves its arguments as they were; no condition beyond the row's own. Part 5. -/
import Derived.Test.YtlmkbgolmcngiaaM4
set_option linter.unusedVariables false
set_option linter.unusedSimpArgs false
set_option maxHeartbeats 4000000
namespace Go.Eng
open Go.Proofs

theorem c_volume_Do_put (v : Volume) (c : VolCmd) (hk : c.kind = 2) (hh : v.hidden = false) (hv : volSmall v) : Con Try.prog 8 [sC (volC v), sC (cmdC c)] [] (.tup [sC (volC (doF v c).1), sC (repC (doF v c).2)]) [] := by
  have hdn : doneF v c = writeF v c.items := by unfold doneF writeF; rw [if_neg (by simp [hh]), if_pos hk]
  unfold doF
  rw [hdn]
  refine con_intro [] [] Try.func8 rfl Try.ntmps8 Try.results8 rfl rfl ?_
  intro E
  have hv1 := hv.writes
  refine vc_rseq mixed ?_
  refine g_new (s_box 2 rfl rfl rfl rfl) rfl ?_
  refine g_new (s_box 3 rfl rfl rfl rfl) rfl ?_
  refine g_new (s_alloc 4 rfl rfl) rfl ?_
  refine g_new (s_alloc 5 rfl rfl) rfl ?_
  refine g_nil ?_
  refine vc_rseq mixed ?_
  refine g_val (s_loadA rfl rfl rfl rfl rfl) rfl ?_
  refine g_n2 (s_callH [] [(0, 8), (1, 9)] (c_volume_copied_own v) (evArgs_cons rfl evArgs_nil) trivial rfl (okVL_nil _) rfl rfl rfl) rfl ?_
  refine g_new (s_alloc 6 rfl rfl) rfl ?_
  refine g_sto (s_store rfl rfl rfl rfl rfl rfl) rfl ?_
  refine g_val (s_assign rfl rfl) rfl ?_
  refine g_nil ?_
  refine vc_freezeB (q0 := 6) 9 rfl rfl rfl (by simp) ?_
  refine vc_freezeB (q0 := 6) 10 rfl rfl rfl (by simp) ?_
  refine vc_rseq mixed ?_
  refine g_val (s_loadA rfl rfl rfl rfl rfl) rfl ?_
  refine g_n2 (s_callH [] [(0, 10), (1, 11)] (c_volume_copied_own v) (evArgs_cons rfl evArgs_nil) trivial rfl (okVL_nil _) rfl rfl rfl) rfl ?_
  refine g_sto (s_store rfl rfl rfl rfl rfl rfl) rfl ?_
  refine g_nil ?_
  refine vc_seq ?_
  refine vc_freezeB (q0 := 2) 9 rfl rfl rfl (by simp) ?_
  refine vc_rseq mixed ?_
  refine g_val (s_field rfl rfl rfl rfl) rfl ?_
  refine g_val (s_load rfl rfl rfl rfl) rfl ?_
  refine g_nil ?_
  refine vc_block ?_
  refine vc_rseq mixed ?_
  refine g_val (s_eql rfl rfl rfl) rfl ?_
  refine g_val (s_assign rfl rfl) rfl ?_
  refine g_nil ?_
  refine vc_cond rfl (fun _ => ?_) (fun h => by simp [hk] at h)
  refine vc_rseq mixed ?_
  refine g_val (s_assign rfl rfl) rfl ?_
  refine g_nil ?_
  refine vc_rseq mixed ?_
  refine g_val (s_field rfl rfl rfl rfl) rfl ?_
  refine g_val (s_load rfl rfl rfl rfl) rfl ?_
  refine g_val (s_not rfl rfl) rfl ?_
  refine g_nil ?_
  refine vc_cond rfl (fun _ => ?_) (fun h => by simp [hh] at h)
  refine vc_region mixed ?_
  refine g_val (s_loadA rfl rfl rfl rfl rfl) rfl ?_
  refine g_val (s_field rfl rfl rfl rfl) rfl ?_
  refine g_val (s_load rfl rfl rfl rfl) rfl ?_
  refine g_cw (s_callH [] [(1000, 11)] (c_volume_write v c.items hv1) (evArgs_cons rfl (evArgs_cons rfl evArgs_nil)) ⟨rfl, trivial⟩ rfl (okVL_nil _) rfl rfl rfl) rfl ?_
  refine g_val (s_move rfl rfl) rfl ?_
  refine g_val (s_extract rfl rfl rfl) rfl ?_
  refine g_val (s_extract rfl rfl rfl) rfl ?_
  refine g_sto (s_store rfl rfl rfl rfl rfl rfl) rfl ?_
  refine g_val (s_assign rfl rfl) rfl ?_
  refine g_nil ?_
  refine vc_seq ?_
  refine vc_rseq mixed ?_
  refine g_val (s_move rfl rfl) rfl ?_
  refine g_val (s_neq rfl rfl rfl) rfl ?_
  refine g_nil ?_
  refine vc_cond rfl (fun hc48 => ?_) (fun hc48 => ?_)
  replace hc48 := of_decide_eq_true hc48
  simp only [ne_eq] at hc48
  rw [if_pos hc48]
  refine vc_rseq mixed ?_
  refine g_val (s_loadA rfl rfl rfl rfl rfl) rfl ?_
  refine g_val (s_move rfl rfl) rfl ?_
  refine g_val (s_build (evArgs_cons rfl evArgs_nil) rfl rfl rfl) rfl ?_
  refine g_sto (s_store rfl rfl rfl rfl rfl rfl) rfl ?_
  refine g_sto (s_store rfl rfl rfl rfl rfl rfl) rfl ?_
  refine g_nil ?_
  exact vc_ret (ret_le [] _ (.cons (.agg rfl rfl rfl rfl) (.cons (.agg rfl rfl rfl rfl) .nil)) trivial (by repeat (first | exact leL_nil | refine leL_cons ?_ ?_ | exact LeV.tt rfl | exact .nl (by decide) (by decide) | exact .nn | refine LeV.tupL ?_ | refine LeV.aggL ?_ | exact .eq (by first | exact trivial | (simp [AV.okV, okR, lkB]; done) | (simp [AV.okV, okR, lkB]; omega)) (by first | rfl | (simp [AV.view, viewR, lkB, AV.ren, List.take_of_length_le]; done) | (simp [AV.view, viewR, lkB, AV.ren, List.take_of_length_le]; done)))) rfl)
  replace hc48 := of_decide_eq_false hc48
  simp only [ne_eq, Decidable.not_not] at hc48
  refine vc_skip ?_
  rw [if_neg (by simpa using hc48)]
  refine vc_rseq mixed ?_
  refine d_val (s_loadA rfl rfl rfl rfl rfl) rfl ?_
  refine d_val (s_loadA rfl rfl rfl rfl rfl) rfl ?_
  refine d_val (s_call [] (c_volume_Len (writeF v c.items).1) (evArgs_cons rfl evArgs_nil) trivial rfl (okVL_nil _) rfl (.inl rfl) rfl) rfl ?_
  refine d_val (s_field rfl rfl rfl rfl) rfl ?_
  refine d_val (s_load rfl rfl rfl rfl) rfl ?_
  refine d_val (s_field rfl rfl rfl rfl) rfl ?_
  refine d_val (s_load rfl rfl rfl rfl) rfl ?_
  refine d_val (s_build (evArgs_cons rfl (evArgs_cons rfl (evArgs_cons rfl evArgs_nil))) rfl rfl rfl) rfl ?_
  refine d_sto (s_store rfl rfl rfl rfl rfl rfl) rfl ?_
  refine d_sto (s_store rfl rfl rfl rfl rfl rfl) rfl ?_
  refine d_nil rfl ?_
  exact vc_ret (ret_le [] _ (.cons (.agg rfl rfl rfl rfl) (.cons (.agg rfl rfl rfl rfl) .nil)) trivial (by repeat (first | exact leL_nil | refine leL_cons ?_ ?_ | exact LeV.tt rfl | exact .nl (by decide) (by decide) | exact .nn | refine LeV.tupL ?_ | refine LeV.aggL ?_ | exact .eq (by first | exact trivial | (simp [AV.okV, okR, lkB]; done) | (simp [AV.okV, okR, lkB]; omega)) (by first | rfl | (simp [AV.view, viewR, lkB, AV.ren, List.take_of_length_le]; done) | (simp [AV.view, viewR, lkB, AV.ren, List.take_of_length_le]; done)))) rfl)
theorem c_volume_Do_prune (v : Volume) (c : VolCmd) (hk : c.kind = 3) : Con Try.prog 8 [sC (volC v), sC (cmdC c)] [] (.tup [sC (volC (doF v c).1), sC (repC (doF v c).2)]) [] := by
  unfold doF
  refine con_intro [] [] Try.func8 rfl Try.ntmps8 Try.results8 rfl rfl ?_
  intro E
  refine vc_rseq mixed ?_
  refine g_new (s_box 2 rfl rfl rfl rfl) rfl ?_
  refine g_new (s_box 3 rfl rfl rfl rfl) rfl ?_
  refine g_new (s_alloc 4 rfl rfl) rfl ?_
  refine g_new (s_alloc 5 rfl rfl) rfl ?_
  refine g_nil ?_
  refine vc_rseq mixed ?_
  refine g_val (s_loadA rfl rfl rfl rfl rfl) rfl ?_
  refine g_n2 (s_callH [] [(0, 8), (1, 9)] (c_volume_copied_own v) (evArgs_cons rfl evArgs_nil) trivial rfl (okVL_nil _) rfl rfl rfl) rfl ?_
  refine g_new (s_alloc 6 rfl rfl) rfl ?_
  refine g_sto (s_store rfl rfl rfl rfl rfl rfl) rfl ?_
  refine g_val (s_assign rfl rfl) rfl ?_
  refine g_nil ?_
  refine vc_freezeB (q0 := 6) 9 rfl rfl rfl (by simp) ?_
  refine vc_freezeB (q0 := 6) 10 rfl rfl rfl (by simp) ?_
  refine vc_rseq mixed ?_
  refine g_val (s_loadA rfl rfl rfl rfl rfl) rfl ?_
  refine g_n2 (s_callH [] [(0, 10), (1, 11)] (c_volume_copied_own v) (evArgs_cons rfl evArgs_nil) trivial rfl (okVL_nil _) rfl rfl rfl) rfl ?_
  refine g_sto (s_store rfl rfl rfl rfl rfl rfl) rfl ?_
  refine g_nil ?_
  refine vc_seq ?_
  refine vc_freezeB (q0 := 2) 9 rfl rfl rfl (by simp) ?_
  refine vc_freezeB (q0 := 2) 10 rfl rfl rfl (by simp) ?_
  refine vc_rseq mixed ?_
  refine g_val (s_field rfl rfl rfl rfl) rfl ?_
  refine g_val (s_load rfl rfl rfl rfl) rfl ?_
  refine g_nil ?_
  refine vc_block ?_
  refine vc_rseq mixed ?_
  refine g_val (s_eql rfl rfl rfl) rfl ?_
  refine g_val (s_assign rfl rfl) rfl ?_
  refine g_nil ?_
  refine vc_cond rfl (fun h => by simp [hk] at h) (fun _ => ?_)
  refine vc_seq ?_
  refine vc_rseq mixed ?_
  refine g_val (s_eql rfl rfl rfl) rfl ?_
  refine g_val (s_assign rfl rfl) rfl ?_
  refine g_nil ?_
  refine vc_cond rfl (fun _ => ?_) (fun h => by simp [hk] at h)
  refine vc_skip ?_
  refine vc_cond rfl (fun _ => ?_) (fun h => by simp [hk] at h)
  refine vc_region mixed ?_
  refine g_val (s_loadA rfl rfl rfl rfl rfl) rfl ?_
  refine g_val (s_loadA rfl rfl rfl rfl rfl) rfl ?_
  refine g_val (s_call [] (c_volume_pins_prune v c hk) (evArgs_cons rfl (evArgs_cons rfl evArgs_nil)) trivial rfl (okVL_nil _) rfl (.inl rfl) rfl) rfl ?_
  refine g_val (s_move rfl rfl) rfl ?_
  refine g_val (s_extract rfl rfl rfl) rfl ?_
  refine g_val (s_extract rfl rfl rfl) rfl ?_
  refine g_sto (s_store rfl rfl rfl rfl rfl rfl) rfl ?_
  refine g_val (s_assign rfl rfl) rfl ?_
  refine g_nil ?_
  refine vc_seq ?_
  refine vc_rseq mixed ?_
  refine g_val (s_move rfl rfl) rfl ?_
  refine g_val (s_neq rfl rfl rfl) rfl ?_
  refine g_nil ?_
  refine vc_cond rfl (fun hc48 => ?_) (fun hc48 => ?_)
  replace hc48 := of_decide_eq_true hc48
  simp only [ne_eq] at hc48
  rw [if_pos hc48]
  refine vc_rseq mixed ?_
  refine g_val (s_loadA rfl rfl rfl rfl rfl) rfl ?_
  refine g_val (s_move rfl rfl) rfl ?_
  refine g_val (s_build (evArgs_cons rfl evArgs_nil) rfl rfl rfl) rfl ?_
  refine g_sto (s_store rfl rfl rfl rfl rfl rfl) rfl ?_
  refine g_sto (s_store rfl rfl rfl rfl rfl rfl) rfl ?_
  refine g_nil ?_
  exact vc_ret (ret_le [] _ (.cons (.agg rfl rfl rfl rfl) (.cons (.agg rfl rfl rfl rfl) .nil)) trivial (by repeat (first | exact leL_nil | refine leL_cons ?_ ?_ | exact LeV.tt rfl | exact .nl (by decide) (by decide) | exact .nn | refine LeV.tupL ?_ | refine LeV.aggL ?_ | exact .eq (by first | exact trivial | (simp [AV.okV, okR, lkB]; done) | (simp [AV.okV, okR, lkB]; omega)) (by first | rfl | (simp [AV.view, viewR, lkB, AV.ren, List.take_of_length_le]; done) | (simp [AV.view, viewR, lkB, AV.ren, List.take_of_length_le]; done)))) rfl)
  replace hc48 := of_decide_eq_false hc48
  simp only [ne_eq, Decidable.not_not] at hc48
  refine vc_skip ?_
  rw [if_neg (by simpa using hc48)]
  refine vc_rseq mixed ?_
  refine d_val (s_loadA rfl rfl rfl rfl rfl) rfl ?_
  refine d_val (s_loadA rfl rfl rfl rfl rfl) rfl ?_
  refine d_val (s_call [] (c_volume_Len (doneF v c).1) (evArgs_cons rfl evArgs_nil) trivial rfl (okVL_nil _) rfl (.inl rfl) rfl) rfl ?_
  refine d_val (s_field rfl rfl rfl rfl) rfl ?_
  refine d_val (s_load rfl rfl rfl rfl) rfl ?_
  refine d_val (s_field rfl rfl rfl rfl) rfl ?_
  refine d_val (s_load rfl rfl rfl rfl) rfl ?_
  refine d_val (s_build (evArgs_cons rfl (evArgs_cons rfl (evArgs_cons rfl evArgs_nil))) rfl rfl rfl) rfl ?_
  refine d_sto (s_store rfl rfl rfl rfl rfl rfl) rfl ?_
  refine d_sto (s_store rfl rfl rfl rfl rfl rfl) rfl ?_
  refine d_nil rfl ?_
  exact vc_ret (ret_le [] _ (.cons (.agg rfl rfl rfl rfl) (.cons (.agg rfl rfl rfl rfl) .nil)) trivial (by repeat (first | exact leL_nil | refine leL_cons ?_ ?_ | exact LeV.tt rfl | exact .nl (by decide) (by decide) | exact .nn | refine LeV.tupL ?_ | refine LeV.aggL ?_ | exact .eq (by first | exact trivial | (simp [AV.okV, okR, lkB]; done) | (simp [AV.okV, okR, lkB]; omega)) (by first | rfl | (simp [AV.view, viewR, lkB, AV.ren, List.take_of_length_le]; done) | (simp [AV.view, viewR, lkB, AV.ren, List.take_of_length_le]; done)))) rfl)

theorem c_volume_Do_pin (v : Volume) (c : VolCmd) (hk : c.kind = 4) (hs : v.pins.Pairwise (· ≤ ·)) (hp : v.pins.length ≤ 1000000) : Con Try.prog 8 [sC (volC v), sC (cmdC c)] [] (.tup [sC (volC (doF v c).1), sC (repC (doF v c).2)]) [] := by
  unfold doF
  refine con_intro [] [] Try.func8 rfl Try.ntmps8 Try.results8 rfl rfl ?_
  intro E
  refine vc_rseq mixed ?_
  refine g_new (s_box 2 rfl rfl rfl rfl) rfl ?_
  refine g_new (s_box 3 rfl rfl rfl rfl) rfl ?_
  refine g_new (s_alloc 4 rfl rfl) rfl ?_
  refine g_new (s_alloc 5 rfl rfl) rfl ?_
  refine g_nil ?_
  refine vc_rseq mixed ?_
  refine g_val (s_loadA rfl rfl rfl rfl rfl) rfl ?_
  refine g_n2 (s_callH [] [(0, 8), (1, 9)] (c_volume_copied_own v) (evArgs_cons rfl evArgs_nil) trivial rfl (okVL_nil _) rfl rfl rfl) rfl ?_
  refine g_new (s_alloc 6 rfl rfl) rfl ?_
  refine g_sto (s_store rfl rfl rfl rfl rfl rfl) rfl ?_
  refine g_val (s_assign rfl rfl) rfl ?_
  refine g_nil ?_
  refine vc_freezeB (q0 := 6) 9 rfl rfl rfl (by simp) ?_
  refine vc_freezeB (q0 := 6) 10 rfl rfl rfl (by simp) ?_
  refine vc_rseq mixed ?_
  refine g_val (s_loadA rfl rfl rfl rfl rfl) rfl ?_
  refine g_n2 (s_callH [] [(0, 10), (1, 11)] (c_volume_copied_own v) (evArgs_cons rfl evArgs_nil) trivial rfl (okVL_nil _) rfl rfl rfl) rfl ?_
  refine g_sto (s_store rfl rfl rfl rfl rfl rfl) rfl ?_
  refine g_nil ?_
  refine vc_seq ?_
  refine vc_freezeB (q0 := 2) 10 rfl rfl rfl (by simp) ?_
  refine vc_rseq mixed ?_
  refine g_val (s_field rfl rfl rfl rfl) rfl ?_
  refine g_val (s_load rfl rfl rfl rfl) rfl ?_
  refine g_nil ?_
  refine vc_block ?_
  refine vc_rseq mixed ?_
  refine g_val (s_eql rfl rfl rfl) rfl ?_
  refine g_val (s_assign rfl rfl) rfl ?_
  refine g_nil ?_
  refine vc_cond rfl (fun h => by simp [hk] at h) (fun _ => ?_)
  refine vc_seq ?_
  refine vc_rseq mixed ?_
  refine g_val (s_eql rfl rfl rfl) rfl ?_
  refine g_val (s_assign rfl rfl) rfl ?_
  refine g_nil ?_
  refine vc_cond rfl (fun h => by simp [hk] at h) (fun _ => ?_)
  refine vc_rseq mixed ?_
  refine g_val (s_eql rfl rfl rfl) rfl ?_
  refine g_val (s_assign rfl rfl) rfl ?_
  refine g_nil ?_
  refine vc_cond rfl (fun _ => ?_) (fun h => by simp [hk] at h)
  refine vc_skip ?_
  refine vc_cond rfl (fun _ => ?_) (fun h => by simp [hk] at h)
  refine vc_region mixed ?_
  refine g_val (s_loadA rfl rfl rfl rfl rfl) rfl ?_
  refine g_val (s_loadA rfl rfl rfl rfl rfl) rfl ?_
  refine g_cw (s_callH [] [(1000, 10)] (c_volume_pins_pin v c hk hs hp) (evArgs_cons rfl (evArgs_cons rfl evArgs_nil)) ⟨rfl, trivial⟩ rfl (okVL_nil _) rfl rfl rfl) rfl ?_
  refine g_val (s_move rfl rfl) rfl ?_
  refine g_val (s_extract rfl rfl rfl) rfl ?_
  refine g_val (s_extract rfl rfl rfl) rfl ?_
  refine g_sto (s_store rfl rfl rfl rfl rfl rfl) rfl ?_
  refine g_val (s_assign rfl rfl) rfl ?_
  refine g_nil ?_
  refine vc_seq ?_
  refine vc_rseq mixed ?_
  refine g_val (s_move rfl rfl) rfl ?_
  refine g_val (s_neq rfl rfl rfl) rfl ?_
  refine g_nil ?_
  refine vc_cond rfl (fun hc48 => ?_) (fun hc48 => ?_)
  replace hc48 := of_decide_eq_true hc48
  simp only [ne_eq] at hc48
  rw [if_pos hc48]
  refine vc_rseq mixed ?_
  refine g_val (s_loadA rfl rfl rfl rfl rfl) rfl ?_
  refine g_val (s_move rfl rfl) rfl ?_
  refine g_val (s_build (evArgs_cons rfl evArgs_nil) rfl rfl rfl) rfl ?_
  refine g_sto (s_store rfl rfl rfl rfl rfl rfl) rfl ?_
  refine g_sto (s_store rfl rfl rfl rfl rfl rfl) rfl ?_
  refine g_nil ?_
  exact vc_ret (ret_le [] _ (.cons (.agg rfl rfl rfl rfl) (.cons (.agg rfl rfl rfl rfl) .nil)) trivial (by repeat (first | exact leL_nil | refine leL_cons ?_ ?_ | exact LeV.tt rfl | exact .nl (by decide) (by decide) | exact .nn | refine LeV.tupL ?_ | refine LeV.aggL ?_ | exact .eq (by first | exact trivial | (simp [AV.okV, okR, lkB]; done) | (simp [AV.okV, okR, lkB]; omega)) (by first | rfl | (simp [AV.view, viewR, lkB, AV.ren, List.take_of_length_le]; done) | (simp [AV.view, viewR, lkB, AV.ren, List.take_of_length_le]; done)))) rfl)
  replace hc48 := of_decide_eq_false hc48
  simp only [ne_eq, Decidable.not_not] at hc48
  refine vc_skip ?_
  rw [if_neg (by simpa using hc48)]
  refine vc_rseq mixed ?_
  refine d_val (s_loadA rfl rfl rfl rfl rfl) rfl ?_
  refine d_val (s_loadA rfl rfl rfl rfl rfl) rfl ?_
  refine d_val (s_call [] (c_volume_Len (doneF v c).1) (evArgs_cons rfl evArgs_nil) trivial rfl (okVL_nil _) rfl (.inl rfl) rfl) rfl ?_
  refine d_val (s_field rfl rfl rfl rfl) rfl ?_
  refine d_val (s_load rfl rfl rfl rfl) rfl ?_
  refine d_val (s_field rfl rfl rfl rfl) rfl ?_
  refine d_val (s_load rfl rfl rfl rfl) rfl ?_
  refine d_val (s_build (evArgs_cons rfl (evArgs_cons rfl (evArgs_cons rfl evArgs_nil))) rfl rfl rfl) rfl ?_
  refine d_sto (s_store rfl rfl rfl rfl rfl rfl) rfl ?_
  refine d_sto (s_store rfl rfl rfl rfl rfl rfl) rfl ?_
  refine d_nil rfl ?_
  exact vc_ret (ret_le [] _ (.cons (.agg rfl rfl rfl rfl) (.cons (.agg rfl rfl rfl rfl) .nil)) trivial (by repeat (first | exact leL_nil | refine leL_cons ?_ ?_ | exact LeV.tt rfl | exact .nl (by decide) (by decide) | exact .nn | refine LeV.tupL ?_ | refine LeV.aggL ?_ | exact .eq (by first | exact trivial | (simp [AV.okV, okR, lkB]; done) | (simp [AV.okV, okR, lkB]; omega)) (by first | rfl | (simp [AV.view, viewR, lkB, AV.ren, List.take_of_length_le]; done) | (simp [AV.view, viewR, lkB, AV.ren, List.take_of_length_le]; done)))) rfl)

end Go.Eng

set_option maxHeartbeats 4000000
namespace Go.Eng
open Go.Proofs

/-- A block's versions in a write's items. -/
def verI (s : Int) (l : List Item) (b : Nat) : List Ver := (l.filter fun x => decide (x.block = (b : Int))).map fun x => ⟨s, x.data⟩
def histF (ws : List Write) (b : Nat) : List Ver := (ws.map fun w => verI w.seq w.items b).flatten
def zerB (n : Nat) : List Int := List.replicate n 0
def stB (v : Volume) (t : Int) (j : Nat) : List Int := if (atF (histF v.writes j) t).2 = true then (atF (histF v.writes j) t).1 else zerB v.size.toNat
def stateF (v : Volume) (t : Int) : List (List Int) × Int := if t < v.floor then ([], 30) else if (v.writes.length : Int) < t then ([], 31) else ((List.range v.blocks.toNat).map (stB v t), 0)

structure volSt (v : Volume) : Prop where
  blocks : 1 ≤ v.blocks ∧ v.blocks ≤ 256
  size : v.size ≤ 1000
  writes : v.writes.length ≤ 1000000
  items : ∀ w ∈ v.writes, w.items.length ≤ 100
  seqs : v.writes.Pairwise (fun a b => a.seq ≤ b.seq)

theorem verI_len (s : Int) (l : List Item) (b : Nat) : (verI s l b).length ≤ l.length := by simp only [verI, List.length_map]; exact List.length_filter_le ..
theorem verI_mem {s : Int} {l : List Item} {b : Nat} {v : Ver} (h : v ∈ verI s l b) : v.seq = s := by
  simp only [verI, List.mem_map] at h
  obtain ⟨x, _, rfl⟩ := h
  rfl
theorem histF_len : ∀ {ws : List Write} (b : Nat), (∀ w ∈ ws, w.items.length ≤ 100) → (histF ws b).length ≤ 100 * ws.length
  | [], b, _ => by simp [histF]
  | w :: ws, b, h => by
    have h1 := histF_len (ws := ws) b fun w hw => h w (List.mem_cons_of_mem _ hw)
    have h2 := h w (List.mem_cons_self ..)
    have h3 := verI_len w.seq w.items b
    simp only [histF, List.map_cons, List.flatten_cons, List.length_append, List.length_cons] at h1 ⊢
    omega
theorem histF_sorted : ∀ {ws : List Write} (b : Nat), ws.Pairwise (fun a b => a.seq ≤ b.seq) → (histF ws b).Pairwise (fun a b => a.seq ≤ b.seq)
  | [], b, _ => by simp [histF]
  | w :: ws, b, h => by
    obtain ⟨h1, h2⟩ := List.pairwise_cons.1 h
    have e : histF (w :: ws) b = verI w.seq w.items b ++ histF ws b := by simp [histF]
    rw [e, List.pairwise_append]
    refine ⟨?_, histF_sorted b h2, fun x hx y hy => ?_⟩
    rw [List.pairwise_iff_forall_sublist]
    intro x y hs
    have hx := verI_mem (hs.subset (List.mem_cons_self ..))
    have hy := verI_mem (hs.subset (List.mem_cons_of_mem _ (List.mem_cons_self ..)))
    omega
    have hx := verI_mem hx
    simp only [histF, List.mem_flatten, List.mem_map] at hy
    obtain ⟨l, ⟨w', hw', rfl⟩, hy⟩ := hy
    have hy := verI_mem hy
    have := h1 w' hw'
    omega
theorem histF_snoc (ws : List Write) (w : Write) (b : Nat) : histF (ws ++ [w]) b = histF ws b ++ verI w.seq w.items b := by simp [histF]
theorem verI_snoc (s : Int) (l : List Item) (x : Item) (b : Nat) : verI s (l ++ [x]) b = verI s l b ++ (if x.block = (b : Int) then [⟨s, x.data⟩] else []) := by
  simp only [verI, List.filter_append, List.map_append, List.filter_cons, List.filter_nil, decide_eq_true_eq]
  split <;> simp

/-- The rows of rows while the writes are gone through. -/
def nestE (n : Nat) (f : Nat → List Ver) : List (Option (List (List T))) := (List.range n).map fun b => some ((f b).map verC)
theorem nestE_get {n : Nat} {f : Nat → List Ver} {b : Nat} (h : b < n) : (nestE n f)[b]? = some (some ((f b).map verC)) := by
  simp [nestE, h]
theorem nestE_set {n : Nat} {f g : Nat → List Ver} {b : Nat} {es : List (List T)} (hb : es = (g b).map verC) (hg : ∀ k, k ≠ b → g k = f k) : ((nestE n f).set b none).set b (some es) = nestE n g := by
  apply List.ext_getElem?
  intro k
  subst hb
  rw [List.set_set, List.getElem?_set]
  simp only [nestE, List.length_map, List.length_range, List.getElem?_map]
  by_cases e : b = k
  subst e
  by_cases hb : b < n
  simp [hb]
  simp [hb]
  rw [if_neg e]
  by_cases hk : k < n
  simp [hk, hg k (fun e' => e e'.symm)]
  simp [hk]

theorem set_rep {α : Type} {n i : Nat} {f : Nat → α} {z y : α} (hi : i < n) (hy : y = f i) : ((List.range i).map f ++ List.replicate (n - i) z).set i y = (List.range (i + 1)).map f ++ List.replicate (n - (i + 1)) z := by
  subst hy
  rw [List.set_append, if_neg (by simp)]
  simp only [List.length_map, List.length_range, Nat.sub_self]
  rw [show n - i = (n - (i + 1)) + 1 by omega, List.replicate_succ, List.set_cons_zero, List.range_succ, List.map_append]
  simp

theorem nestE_congr {n : Nat} {f g : Nat → List Ver} (h : ∀ b, b < n → f b = g b) : nestE n f = nestE n g :=
  List.map_congr_left fun b hb => by rw [h b (by simpa using hb)]

theorem c_volume_State (v : Volume) (t : Int) (hv : volSt v) : Con Try.prog 11 [sC (volC v), AI .i64 t] [] (.tup [.t (bodiesT (stateF v t).1), AI .i64 (stateF v t).2]) [] := by
  refine con_intro [] [] Try.func11 rfl Try.ntmps11 Try.results11 rfl rfl ?_
  intro E
  obtain ⟨hvb, hvs, hvw, hvi, hvq⟩ := hv
  obtain ⟨n, hn⟩ : ∃ n : Nat, v.blocks.toNat = n := ⟨_, rfl⟩
  have hmax : max v.blocks 0 = (n : Int) := by omega
  have hsz : max v.size 0 = (v.size.toNat : Int) := by omega
  refine vc_rseq mixed ?_
  refine g_new (s_box 2 rfl rfl rfl rfl) rfl ?_
  refine g_val (s_assign rfl rfl) rfl ?_
  refine g_val (s_assign rfl rfl) rfl ?_
  refine g_nil ?_
  refine vc_seq ?_
  refine vc_rseq mixed ?_
  refine d_val (s_loadA rfl rfl rfl rfl rfl) rfl ?_
  refine d_val (s_move rfl rfl) rfl ?_
  refine d_val (s_loadA rfl rfl rfl rfl rfl) rfl ?_
  refine d_val (s_call [] (c_volume_Len v) (evArgs_cons rfl evArgs_nil) trivial rfl (okVL_nil _) rfl (.inl rfl) rfl) rfl ?_
  refine d_val (s_call [] (c_volume_time v t v.writes.length) (evArgs_cons rfl (evArgs_cons rfl (evArgs_cons rfl evArgs_nil))) trivial rfl (okVL_nil _) rfl (.inl rfl) rfl) rfl ?_
  refine d_val (s_assign rfl rfl) rfl ?_
  refine d_nil rfl ?_
  refine vc_rseq mixed ?_
  refine g_val (s_move rfl rfl) rfl ?_
  refine g_val (s_neq rfl rfl rfl) rfl ?_
  refine g_nil ?_
  refine vc_cond rfl (fun hc22 => ?_) (fun hc22 => ?_)
  replace hc22 := of_decide_eq_true hc22
  simp only [ne_eq] at hc22
  have e : stateF v t = ([], if t < v.floor then 30 else if (v.writes.length : Int) < t then 31 else 0) := by
    unfold stateF
    by_cases h1 : t < v.floor
    rw [if_pos h1, if_pos h1]
    rw [if_neg h1] at hc22
    rw [if_neg h1, if_neg h1]
    by_cases h2 : (v.writes.length : Int) < t
    rw [if_pos h2, if_pos h2]
    rw [if_neg h2] at hc22; omega
  rw [e]
  refine vc_rseq mixed ?_
  refine g_val (s_move rfl rfl) rfl ?_
  refine g_val (s_assign rfl rfl) rfl ?_
  refine g_val (s_assign rfl rfl) rfl ?_
  refine g_nil ?_
  exact vc_ret (ret_le [] _ (.cons (.tmp rfl) (.cons (.tmp rfl) .nil)) trivial (LeV.tupL (leL_cons (.nl (by decide) (by decide)) (leL_cons (LeV.tt rfl) leL_nil))) rfl)
  replace hc22 := of_decide_eq_false hc22
  simp only [ne_eq, Decidable.not_not] at hc22
  refine vc_skip ?_
  have h1 : ¬ t < v.floor := by intro h1; rw [if_pos h1] at hc22; omega
  have h2 : ¬ (v.writes.length : Int) < t := by intro h2; rw [if_neg h1, if_pos h2] at hc22; omega
  have e : stateF v t = ((List.range n).map (stB v t), 0) := by unfold stateF; rw [if_neg h1, if_neg h2, hn]
  rw [e]
  refine vc_rseq mixed ?_
  refine g_val (s_field rfl rfl rfl rfl) rfl ?_
  refine g_val (s_load rfl rfl rfl rfl) rfl ?_
  refine g_val (s_max rfl rfl rfl) rfl ?_
  refine g_new (s_make 27 n (congrArg (fun z => some (AI .i64 z)) hmax) (congrArg (fun z => some (AI .i64 z)) hmax) rfl rfl (by omega)) rfl ?_
  refine g_val (s_assign rfl rfl) rfl ?_
  refine g_nil ?_
  refine vc_seq ?_
  refine vc_nest 27 2 32 rfl (by omega) rfl ?_
  refine vc_rseq mixed ?_
  refine g_val (s_field rfl rfl rfl rfl) rfl ?_
  refine g_val (s_load rfl rfl rfl rfl) rfl ?_
  refine g_val (s_len rfl rfl) rfl ?_
  refine g_val (s_move rfl rfl) rfl ?_
  refine g_nil ?_
  refine vc_block ?_
  refine vc_up v.writes.length (fun i => ⟨[(1, AI .i64 t), (2, .ref 2 0), (7, .rows 27 1 0 n), (29, .t (writesT v.writes)), (30, AI .i64 v.writes.length), (31, AI .i64 i)], [(2, some (.box ((volC v).map .t))), (27, some (.nest 24 2 32 (nestE n (histF (v.writes.take i)))))], [2, 27]⟩) (fun i => True) (leE_same (by repeat (first | exact letm_nil _ _ | refine letm_cons rfl ?_ ?_ | exact .same _ | exact .nl (by decide) (by decide) | exact .nn | exact .id' rfl | exact .id' (by simp [nestE, histF, List.map_const']; done))) (by repeat (first | exact lehp_nil _ _ | refine lehp_cons rfl ?_ ?_ | exact leB_same _ | exact leB_row (by first | rfl | (simp [nestE, histF, List.map_const']; done)) | exact leB_obj (by simp [nestE, histF, List.map_const']; done) | exact leB_nest (by first | rfl | (simp [nestE, histF, List.map_const']; done)) | refine leB_box ?_ | exact leL_nil | refine leL_cons ?_ ?_ | exact .same _ | exact .nl (by decide) (by decide) | exact .nn | exact .id' rfl | exact .id' (by simp [nestE, histF, List.map_const']; done))) rfl) trivial (fun i hi _ => ?_)
  refine vc_rseq mixed ?_
  refine g_val (s_lss rfl rfl rfl) rfl ?_
  refine g_nil ?_
  refine vc_seq ?_
  refine vc_cond rfl (fun hc32 => ?_) (fun hc32 => ?_)
  replace hc32 := of_decide_eq_true hc32
  obtain ⟨w, hw⟩ := get_of_lt (l := v.writes) (i := i) (by omega)
  have hwi := hvi w (List.mem_of_getElem? hw)
  refine vc_skip ?_
  refine vc_seq ?_
  refine vc_block ?_
  refine vc_rseq mixed ?_
  refine g_val (s_index rfl rfl rfl (by omega) (idx_map hw)) rfl ?_
  refine g_val (s_loadTA rfl rfl rfl) rfl ?_
  refine g_new (s_alloc 9 rfl rfl) rfl ?_
  refine g_sto (s_store rfl rfl rfl rfl rfl rfl) rfl ?_
  refine g_nil ?_
  refine vc_rseq mixed ?_
  refine g_val (s_field rfl rfl rfl rfl) rfl ?_
  refine g_val (s_load rfl rfl rfl rfl) rfl ?_
  refine g_val (s_len rfl rfl) rfl ?_
  refine g_val (s_move rfl rfl) rfl ?_
  refine g_nil ?_
  refine vc_block ?_
  refine vc_up w.items.length (fun k => ⟨[(1, AI .i64 t), (2, .ref 2 0), (7, .rows 27 1 0 n), (9, .ref 9 0), (29, .t (writesT v.writes)), (30, AI .i64 v.writes.length), (31, AI .i64 i), (36, .t (itemsT w.items)), (37, AI .i64 w.items.length), (38, AI .i64 k)], [(2, some (.box ((volC v).map .t))), (9, some (.box ((writeC w).map .t))), (27, some (.nest 24 2 32 (nestE n (fun b => histF (v.writes.take i) b ++ verI w.seq (w.items.take k) b))))], [2, 9, 27]⟩) (fun k => True) (leE_same (by repeat (first | exact letm_nil _ _ | refine letm_cons rfl ?_ ?_ | exact .same _ | exact .nl (by decide) (by decide) | exact .nn | exact .id' rfl | exact .id' (by simp [verI]; done))) (by repeat (first | exact lehp_nil _ _ | refine lehp_cons rfl ?_ ?_ | exact leB_same _ | exact leB_row (by first | rfl | (simp [verI]; done)) | exact leB_obj (by simp [verI]; done) | exact leB_nest (by first | rfl | (simp [verI]; done)) | refine leB_box ?_ | exact leL_nil | refine leL_cons ?_ ?_ | exact .same _ | exact .nl (by decide) (by decide) | exact .nn | exact .id' rfl | exact .id' (by simp [verI]; done))) rfl) trivial (fun k hk _ => ?_)
  refine vc_rseq mixed ?_
  refine g_val (s_lss rfl rfl rfl) rfl ?_
  refine g_nil ?_
  refine vc_seq ?_
  refine vc_cond rfl (fun hc39 => ?_) (fun hc39 => ?_)
  replace hc39 := of_decide_eq_true hc39
  obtain ⟨x, hx⟩ := get_of_lt (l := w.items) (i := k) (by omega)
  refine vc_skip ?_
  refine vc_seq ?_
  refine vc_block ?_
  refine vc_rseq mixed ?_
  refine g_val (s_index rfl rfl rfl (by omega) (idx_map hx)) rfl ?_
  refine g_val (s_loadTA rfl rfl rfl) rfl ?_
  refine g_new (s_alloc 11 rfl rfl) rfl ?_
  refine g_sto (s_store rfl rfl rfl rfl rfl rfl) rfl ?_
  refine g_nil ?_
  refine vc_rseq mixed ?_
  refine g_val (s_field rfl rfl rfl rfl) rfl ?_
  refine g_val (s_load rfl rfl rfl rfl) rfl ?_
  refine g_val (s_geq rfl rfl rfl) rfl ?_
  refine g_val (s_move rfl rfl) rfl ?_
  refine g_probe (j := 45) rfl (fun c hg45 => ?_)
  cases c
  rw [← hg45]; replace hg45 := hg45.symm; replace hg45 := of_decide_eq_false hg45
  simp only [Int.not_le] at hg45
  refine gn_val rfl rfl rfl rfl rfl rfl (by decide) ?_
  refine gn_val rfl rfl rfl rfl rfl rfl (by decide) ?_
  refine gn_val rfl rfl rfl rfl rfl rfl (by decide) ?_
  refine gn_val rfl rfl rfl rfl rfl rfl (by decide) ?_
  refine gn_val rfl rfl rfl rfl rfl rfl (by decide) ?_
  refine g_val (s_pickF rfl rfl rfl) rfl ?_
  refine g_nil ?_
  refine vc_cond rfl (fun h => by cases h) (fun _ => ?_)
  refine vc_skip ?_
  refine vc_region mixed ?_
  refine g_val (s_add rfl rfl rfl (by simp only [inI, kMin, kMax]; omega)) rfl ?_
  refine g_val (s_move rfl rfl) rfl ?_
  refine g_nil ?_
  exact ⟨by omega, trivial, (leE_same (by repeat (first | exact letm_nil _ _ | refine letm_cons rfl ?_ ?_ | exact .same _ | exact .nl (by decide) (by decide) | exact .nn | exact .id' rfl | exact .id' (by first | (simp; done) | (rw [Nat.zero_add, take_snoc hx]; exact nestE_set (by rw [List.take_of_length_le (by simp), verI_snoc, if_pos (by omega)]; simp [verC, i64, bytesT]) (fun k' hk' => by rw [verI_snoc, if_neg (by omega), List.append_nil])) | (rw [take_snoc hx]; exact nestE_congr (fun b hb => by rw [verI_snoc, if_neg (by omega), List.append_nil]))))) (by repeat (first | exact lehp_nil _ _ | refine lehp_cons rfl ?_ ?_ | exact leB_same _ | exact leB_row (by first | rfl | (first | (simp; done) | (rw [Nat.zero_add, take_snoc hx]; exact nestE_set (by rw [List.take_of_length_le (by simp), verI_snoc, if_pos (by omega)]; simp [verC, i64, bytesT]) (fun k' hk' => by rw [verI_snoc, if_neg (by omega), List.append_nil])) | (rw [take_snoc hx]; exact nestE_congr (fun b hb => by rw [verI_snoc, if_neg (by omega), List.append_nil])))) | exact leB_obj (by first | (simp; done) | (rw [Nat.zero_add, take_snoc hx]; exact nestE_set (by rw [List.take_of_length_le (by simp), verI_snoc, if_pos (by omega)]; simp [verC, i64, bytesT]) (fun k' hk' => by rw [verI_snoc, if_neg (by omega), List.append_nil])) | (rw [take_snoc hx]; exact nestE_congr (fun b hb => by rw [verI_snoc, if_neg (by omega), List.append_nil]))) | exact leB_nest (by first | rfl | (first | (simp; done) | (rw [Nat.zero_add, take_snoc hx]; exact nestE_set (by rw [List.take_of_length_le (by simp), verI_snoc, if_pos (by omega)]; simp [verC, i64, bytesT]) (fun k' hk' => by rw [verI_snoc, if_neg (by omega), List.append_nil])) | (rw [take_snoc hx]; exact nestE_congr (fun b hb => by rw [verI_snoc, if_neg (by omega), List.append_nil])))) | refine leB_box ?_ | exact leL_nil | refine leL_cons ?_ ?_ | exact .same _ | exact .nl (by decide) (by decide) | exact .nn | exact .id' rfl | exact .id' (by first | (simp; done) | (rw [Nat.zero_add, take_snoc hx]; exact nestE_set (by rw [List.take_of_length_le (by simp), verI_snoc, if_pos (by omega)]; simp [verC, i64, bytesT]) (fun k' hk' => by rw [verI_snoc, if_neg (by omega), List.append_nil])) | (rw [take_snoc hx]; exact nestE_congr (fun b hb => by rw [verI_snoc, if_neg (by omega), List.append_nil]))))) rfl)⟩
  rw [← hg45]; replace hg45 := hg45.symm; replace hg45 := of_decide_eq_true hg45
  refine gq_val (s_field rfl rfl rfl rfl) rfl rfl rfl rfl ?_
  refine gq_val (s_load rfl rfl rfl rfl) rfl rfl rfl rfl ?_
  refine gq_val (s_move rfl rfl) rfl rfl rfl rfl ?_
  refine gq_val (s_lenNest rfl rfl (by simp [nestE]) rfl) rfl rfl rfl rfl ?_
  refine gq_val (s_lss rfl rfl rfl) rfl rfl rfl rfl ?_
  refine g_val (s_pickT rfl rfl rfl) rfl ?_
  refine g_nil ?_
  refine vc_cond rfl (fun hc51 => ?_) (fun hc51 => ?_)
  replace hc51 := of_decide_eq_true hc51
  have hb0 : x.block.toNat < n := by omega
  have hget : (nestE n (fun b => histF (v.writes.take i) b ++ verI w.seq (w.items.take k) b))[0 + x.block.toNat]? = some (some ((histF (v.writes.take i) x.block.toNat ++ verI w.seq (w.items.take k) x.block.toNat).map verC)) := by rw [Nat.zero_add]; exact nestE_get hb0
  have hhl := histF_len (ws := v.writes.take i) x.block.toNat fun w hw => hvi w (List.mem_of_mem_take hw)
  have hvl := verI_len w.seq (w.items.take k) x.block.toNat
  simp only [List.length_take] at hhl hvl
  refine vc_region mixed ?_
  refine d_val (s_move rfl rfl) rfl ?_
  refine d_val (s_field rfl rfl rfl rfl) rfl ?_
  refine d_val (s_load rfl rfl rfl rfl) rfl ?_
  refine d_val (s_move rfl rfl) rfl ?_
  refine d_val (s_field rfl rfl rfl rfl) rfl ?_
  refine d_val (s_load rfl rfl rfl rfl) rfl ?_
  refine d_val (s_indexR rfl rfl rfl (by omega) (by first | omega | (simp only [List.length_map]; omega))) rfl ?_
  refine d_nb (s_loadN 59 rfl rfl hget rfl rfl rfl) rfl ?_
  refine d_val (s_field rfl rfl rfl rfl) rfl ?_
  refine d_val (s_load rfl rfl rfl rfl) rfl ?_
  refine d_val (s_field rfl rfl rfl rfl) rfl ?_
  refine d_val (s_load rfl rfl rfl rfl) rfl ?_
  refine d_val (s_build (evArgs_cons rfl (evArgs_cons rfl evArgs_nil)) rfl rfl rfl) rfl ?_
  refine d_fz ((s_buildSlice 65 (evArgs_cons rfl evArgs_nil) rfl rfl rfl rfl).fzE rfl) rfl ?_
  refine d_app (s_append 66 rfl rfl rfl rfl rfl (by first | exact Nat.le_refl _ | (simp; done) | (simp; omega)) rfl rfl (by simp; omega)) rfl ?_
  refine d_val (s_indexR rfl rfl rfl (by omega) (by first | omega | (simp only [List.length_map]; omega))) rfl ?_
  refine d_s2 (s_storeN rfl rfl rfl rfl (by simp) (by simp [nestE]; omega) rfl rfl) rfl ?_
  refine d_nil rfl ?_
  refine vc_region mixed ?_
  refine g_val (s_add rfl rfl rfl (by simp only [inI, kMin, kMax]; omega)) rfl ?_
  refine g_val (s_move rfl rfl) rfl ?_
  refine g_nil ?_
  exact ⟨by omega, trivial, (leE_same (by repeat (first | exact letm_nil _ _ | refine letm_cons rfl ?_ ?_ | exact .same _ | exact .nl (by decide) (by decide) | exact .nn | exact .id' rfl | exact .id' (by first | (simp; done) | (rw [Nat.zero_add, take_snoc hx]; exact nestE_set (by rw [List.take_of_length_le (by simp), verI_snoc, if_pos (by omega)]; simp [verC, i64, bytesT]) (fun k' hk' => by rw [verI_snoc, if_neg (by omega), List.append_nil])) | (rw [take_snoc hx]; exact nestE_congr (fun b hb => by rw [verI_snoc, if_neg (by omega), List.append_nil]))))) (by repeat (first | exact lehp_nil _ _ | refine lehp_cons rfl ?_ ?_ | exact leB_same _ | exact leB_row (by first | rfl | (first | (simp; done) | (rw [Nat.zero_add, take_snoc hx]; exact nestE_set (by rw [List.take_of_length_le (by simp), verI_snoc, if_pos (by omega)]; simp [verC, i64, bytesT]) (fun k' hk' => by rw [verI_snoc, if_neg (by omega), List.append_nil])) | (rw [take_snoc hx]; exact nestE_congr (fun b hb => by rw [verI_snoc, if_neg (by omega), List.append_nil])))) | exact leB_obj (by first | (simp; done) | (rw [Nat.zero_add, take_snoc hx]; exact nestE_set (by rw [List.take_of_length_le (by simp), verI_snoc, if_pos (by omega)]; simp [verC, i64, bytesT]) (fun k' hk' => by rw [verI_snoc, if_neg (by omega), List.append_nil])) | (rw [take_snoc hx]; exact nestE_congr (fun b hb => by rw [verI_snoc, if_neg (by omega), List.append_nil]))) | exact leB_nest (by first | rfl | (first | (simp; done) | (rw [Nat.zero_add, take_snoc hx]; exact nestE_set (by rw [List.take_of_length_le (by simp), verI_snoc, if_pos (by omega)]; simp [verC, i64, bytesT]) (fun k' hk' => by rw [verI_snoc, if_neg (by omega), List.append_nil])) | (rw [take_snoc hx]; exact nestE_congr (fun b hb => by rw [verI_snoc, if_neg (by omega), List.append_nil])))) | refine leB_box ?_ | exact leL_nil | refine leL_cons ?_ ?_ | exact .same _ | exact .nl (by decide) (by decide) | exact .nn | exact .id' rfl | exact .id' (by first | (simp; done) | (rw [Nat.zero_add, take_snoc hx]; exact nestE_set (by rw [List.take_of_length_le (by simp), verI_snoc, if_pos (by omega)]; simp [verC, i64, bytesT]) (fun k' hk' => by rw [verI_snoc, if_neg (by omega), List.append_nil])) | (rw [take_snoc hx]; exact nestE_congr (fun b hb => by rw [verI_snoc, if_neg (by omega), List.append_nil]))))) rfl)⟩
  replace hc51 := of_decide_eq_false hc51
  simp only [Int.not_lt] at hc51
  refine vc_skip ?_
  refine vc_region mixed ?_
  refine g_val (s_add rfl rfl rfl (by simp only [inI, kMin, kMax]; omega)) rfl ?_
  refine g_val (s_move rfl rfl) rfl ?_
  refine g_nil ?_
  exact ⟨by omega, trivial, (leE_same (by repeat (first | exact letm_nil _ _ | refine letm_cons rfl ?_ ?_ | exact .same _ | exact .nl (by decide) (by decide) | exact .nn | exact .id' rfl | exact .id' (by first | (simp; done) | (rw [Nat.zero_add, take_snoc hx]; exact nestE_set (by rw [List.take_of_length_le (by simp), verI_snoc, if_pos (by omega)]; simp [verC, i64, bytesT]) (fun k' hk' => by rw [verI_snoc, if_neg (by omega), List.append_nil])) | (rw [take_snoc hx]; exact nestE_congr (fun b hb => by rw [verI_snoc, if_neg (by omega), List.append_nil]))))) (by repeat (first | exact lehp_nil _ _ | refine lehp_cons rfl ?_ ?_ | exact leB_same _ | exact leB_row (by first | rfl | (first | (simp; done) | (rw [Nat.zero_add, take_snoc hx]; exact nestE_set (by rw [List.take_of_length_le (by simp), verI_snoc, if_pos (by omega)]; simp [verC, i64, bytesT]) (fun k' hk' => by rw [verI_snoc, if_neg (by omega), List.append_nil])) | (rw [take_snoc hx]; exact nestE_congr (fun b hb => by rw [verI_snoc, if_neg (by omega), List.append_nil])))) | exact leB_obj (by first | (simp; done) | (rw [Nat.zero_add, take_snoc hx]; exact nestE_set (by rw [List.take_of_length_le (by simp), verI_snoc, if_pos (by omega)]; simp [verC, i64, bytesT]) (fun k' hk' => by rw [verI_snoc, if_neg (by omega), List.append_nil])) | (rw [take_snoc hx]; exact nestE_congr (fun b hb => by rw [verI_snoc, if_neg (by omega), List.append_nil]))) | exact leB_nest (by first | rfl | (first | (simp; done) | (rw [Nat.zero_add, take_snoc hx]; exact nestE_set (by rw [List.take_of_length_le (by simp), verI_snoc, if_pos (by omega)]; simp [verC, i64, bytesT]) (fun k' hk' => by rw [verI_snoc, if_neg (by omega), List.append_nil])) | (rw [take_snoc hx]; exact nestE_congr (fun b hb => by rw [verI_snoc, if_neg (by omega), List.append_nil])))) | refine leB_box ?_ | exact leL_nil | refine leL_cons ?_ ?_ | exact .same _ | exact .nl (by decide) (by decide) | exact .nn | exact .id' rfl | exact .id' (by first | (simp; done) | (rw [Nat.zero_add, take_snoc hx]; exact nestE_set (by rw [List.take_of_length_le (by simp), verI_snoc, if_pos (by omega)]; simp [verC, i64, bytesT]) (fun k' hk' => by rw [verI_snoc, if_neg (by omega), List.append_nil])) | (rw [take_snoc hx]; exact nestE_congr (fun b hb => by rw [verI_snoc, if_neg (by omega), List.append_nil]))))) rfl)⟩
  replace hc39 := of_decide_eq_false hc39
  simp only [Int.not_lt] at hc39
  refine vc_exit ?_
  refine vc_region mixed ?_
  refine g_val (s_add rfl rfl rfl (by simp only [inI, kMin, kMax]; omega)) rfl ?_
  refine g_val (s_move rfl rfl) rfl ?_
  refine g_nil ?_
  exact ⟨by omega, trivial, (leE_same (by repeat (first | exact letm_nil _ _ | refine letm_cons rfl ?_ ?_ | exact .same _ | exact .nl (by decide) (by decide) | exact .nn | exact .id' rfl | exact .id' (by first | (simp; done) | (rw [take_snoc hw]; exact nestE_congr (fun b hb => by rw [histF_snoc, List.take_of_length_le (l := w.items) (by omega)]))))) (by repeat (first | exact lehp_nil _ _ | refine lehp_cons rfl ?_ ?_ | exact leB_same _ | exact leB_row (by first | rfl | (first | (simp; done) | (rw [take_snoc hw]; exact nestE_congr (fun b hb => by rw [histF_snoc, List.take_of_length_le (l := w.items) (by omega)])))) | exact leB_obj (by first | (simp; done) | (rw [take_snoc hw]; exact nestE_congr (fun b hb => by rw [histF_snoc, List.take_of_length_le (l := w.items) (by omega)]))) | exact leB_nest (by first | rfl | (first | (simp; done) | (rw [take_snoc hw]; exact nestE_congr (fun b hb => by rw [histF_snoc, List.take_of_length_le (l := w.items) (by omega)])))) | refine leB_box ?_ | exact leL_nil | refine leL_cons ?_ ?_ | exact .same _ | exact .nl (by decide) (by decide) | exact .nn | exact .id' rfl | exact .id' (by first | (simp; done) | (rw [take_snoc hw]; exact nestE_congr (fun b hb => by rw [histF_snoc, List.take_of_length_le (l := w.items) (by omega)]))))) rfl)⟩
  replace hc32 := of_decide_eq_false hc32
  simp only [Int.not_lt] at hc32
  refine vc_exit ?_
  obtain rfl : i = v.writes.length := by omega
  rw [List.take_length]
  refine vc_freezeN 7 ((List.range n).map fun b => (histF v.writes b).map verC) rfl (by simp only [List.map_map]; rfl) (by simp) ?_
  refine vc_rseq mixed ?_
  refine g_val (s_move rfl rfl) rfl ?_
  refine g_val (s_len rfl rfl) rfl ?_
  refine g_new (s_make 72 n (congrArg (fun z : Nat => some (AI .i64 (z : Int))) (by simp)) (congrArg (fun z : Nat => some (AI .i64 (z : Int))) (by simp)) rfl rfl (by omega)) rfl ?_
  refine g_val (s_assign rfl rfl) rfl ?_
  refine g_nil ?_
  refine vc_seq ?_
  refine vc_rseq mixed ?_
  refine g_val (s_move rfl rfl) rfl ?_
  refine g_val (s_len rfl rfl) rfl ?_
  refine g_val (s_move rfl rfl) rfl ?_
  refine g_nil ?_
  refine vc_block ?_
  refine vc_up n (fun i => ⟨[(1, AI .i64 t), (2, .ref 2 0), (7, .t (.sl 1 24 (((List.range n).map fun b => (histF v.writes b).map verC).map fun es => [.sl 2 32 es]))), (12, .rows 72 1 0 n), (74, AI .i64 n), (75, AI .i64 i)], [(2, some (.box ((volC v).map .t))), (72, some (.row 1 24 (((List.range i).map fun j => [bytesT (stB v t j)]) ++ List.replicate (n - i) [.k (.slice none 0 0)])))], [2, 72]⟩) (fun i => True) (leE_same (by repeat (first | exact letm_nil _ _ | refine letm_cons rfl ?_ ?_ | exact .same _ | exact .nl (by decide) (by decide) | exact .nn | exact .id' rfl | exact .id' (by simp; done))) (by repeat (first | exact lehp_nil _ _ | refine lehp_cons rfl ?_ ?_ | exact leB_same _ | exact leB_row (by first | rfl | (simp; done)) | exact leB_obj (by simp; done) | exact leB_nest (by first | rfl | (simp; done)) | refine leB_box ?_ | exact leL_nil | refine leL_cons ?_ ?_ | exact .same _ | exact .nl (by decide) (by decide) | exact .nn | exact .id' rfl | exact .id' (by simp; done))) rfl) trivial (fun i hi _ => ?_)
  refine vc_rseq mixed ?_
  refine g_val (s_lss rfl rfl rfl) rfl ?_
  refine g_nil ?_
  refine vc_seq ?_
  refine vc_cond rfl (fun hc76 => ?_) (fun hc76 => ?_)
  replace hc76 := of_decide_eq_true hc76
  have hgi : (((List.range n).map fun b => (histF v.writes b).map verC).map fun es => [T.sl 2 32 es])[i]? = some [versT (histF v.writes i)] := by
    rw [List.getElem?_map, List.getElem?_map, List.getElem?_range (by omega)]; rfl
  refine vc_skip ?_
  refine vc_seq ?_
  refine vc_block ?_
  refine vc_rseq mixed ?_
  refine g_val (s_move rfl rfl) rfl ?_
  refine g_val (s_assign rfl rfl) rfl ?_
  refine g_nil ?_
  refine vc_rseq mixed ?_
  refine g_val (s_move rfl rfl) rfl ?_
  refine g_val (s_move rfl rfl) rfl ?_
  refine g_val (s_index rfl rfl rfl (by omega) hgi) rfl ?_
  refine g_val (s_loadT rfl rfl rfl) rfl ?_
  refine g_val (s_move rfl rfl) rfl ?_
  refine g_val (s_call [] (c_hist_At (histF v.writes i) t (histF_sorted i hvq) (by have := histF_len (ws := v.writes) i hvi; omega)) (evArgs_cons rfl (evArgs_cons rfl evArgs_nil)) trivial rfl (okVL_nil _) rfl (.inl rfl) rfl) rfl ?_
  refine g_val (s_move rfl rfl) rfl ?_
  refine g_val (s_extract rfl rfl rfl) rfl ?_
  refine g_val (s_extract rfl rfl rfl) rfl ?_
  refine g_val (s_assign rfl rfl) rfl ?_
  refine g_val (s_assign rfl rfl) rfl ?_
  refine g_nil ?_
  refine vc_seq ?_
  refine vc_rseq mixed ?_
  refine g_val (s_move rfl rfl) rfl ?_
  refine g_val (s_not rfl rfl) rfl ?_
  refine g_nil ?_
  refine vc_cond rfl (fun hc88 => ?_) (fun hc88 => ?_)
  simp only [Bool.not_eq_true'] at hc88
  refine vc_region mixed ?_
  refine g_val (s_field rfl rfl rfl rfl) rfl ?_
  refine g_val (s_load rfl rfl rfl rfl) rfl ?_
  refine g_val (s_max rfl rfl rfl) rfl ?_
  refine g_fz (Step.fzE (s_make 92 v.size.toNat (congrArg (fun z => some (AI .i64 z)) hsz) (congrArg (fun z => some (AI .i64 z)) hsz) rfl rfl (by omega)) (by simp)) rfl ?_
  refine g_val (s_assign rfl rfl) rfl ?_
  refine g_nil ?_
  refine vc_region mixed ?_
  refine g_val (s_move rfl rfl) rfl ?_
  refine g_val (s_move rfl rfl) rfl ?_
  refine g_val (s_move rfl rfl) rfl ?_
  refine g_val (s_indexR rfl rfl rfl (by omega) (by omega)) rfl ?_
  refine g_sto (s_storeR rfl rfl rfl rfl rfl (show _ = some [T.k (.slice none 0 0)] from by rw [Nat.zero_add, List.getElem?_append_right (by simp), List.getElem?_replicate, if_pos (by simp only [Int.toNat_natCast, List.length_map, List.length_range]; omega)]) rfl) rfl ?_
  refine g_nil ?_
  refine vc_region mixed ?_
  refine g_val (s_add rfl rfl rfl (by simp only [inI, kMin, kMax]; omega)) rfl ?_
  refine g_val (s_move rfl rfl) rfl ?_
  refine g_nil ?_
  exact ⟨by omega, trivial, (leE_same (by repeat (first | exact letm_nil _ _ | refine letm_cons rfl ?_ ?_ | exact .same _ | exact .nl (by decide) (by decide) | exact .nn | exact .id' rfl | exact .id' (by first | (simp; done) | (rw [Nat.zero_add]; exact set_rep (by omega) (by simp only [stB, hc88]; simp [bytesT, zerB, byteC])) | (rw [Nat.zero_add]; exact set_rep (by omega) (by simp only [stB, hc88]; rfl))))) (by repeat (first | exact lehp_nil _ _ | refine lehp_cons rfl ?_ ?_ | exact leB_same _ | exact leB_row (by first | rfl | (first | (simp; done) | (rw [Nat.zero_add]; exact set_rep (by omega) (by simp only [stB, hc88]; simp [bytesT, zerB, byteC])) | (rw [Nat.zero_add]; exact set_rep (by omega) (by simp only [stB, hc88]; rfl)))) | exact leB_obj (by first | (simp; done) | (rw [Nat.zero_add]; exact set_rep (by omega) (by simp only [stB, hc88]; simp [bytesT, zerB, byteC])) | (rw [Nat.zero_add]; exact set_rep (by omega) (by simp only [stB, hc88]; rfl))) | exact leB_nest (by first | rfl | (first | (simp; done) | (rw [Nat.zero_add]; exact set_rep (by omega) (by simp only [stB, hc88]; simp [bytesT, zerB, byteC])) | (rw [Nat.zero_add]; exact set_rep (by omega) (by simp only [stB, hc88]; rfl)))) | refine leB_box ?_ | exact leL_nil | refine leL_cons ?_ ?_ | exact .same _ | exact .nl (by decide) (by decide) | exact .nn | exact .id' rfl | exact .id' (by first | (simp; done) | (rw [Nat.zero_add]; exact set_rep (by omega) (by simp only [stB, hc88]; simp [bytesT, zerB, byteC])) | (rw [Nat.zero_add]; exact set_rep (by omega) (by simp only [stB, hc88]; rfl))))) rfl)⟩
  simp only [Bool.not_eq_false'] at hc88
  refine vc_skip ?_
  refine vc_region mixed ?_
  refine g_val (s_move rfl rfl) rfl ?_
  refine g_val (s_move rfl rfl) rfl ?_
  refine g_val (s_move rfl rfl) rfl ?_
  refine g_val (s_indexR rfl rfl rfl (by omega) (by omega)) rfl ?_
  refine g_sto (s_storeR rfl rfl rfl rfl rfl (show _ = some [T.k (.slice none 0 0)] from by rw [Nat.zero_add, List.getElem?_append_right (by simp), List.getElem?_replicate, if_pos (by simp only [Int.toNat_natCast, List.length_map, List.length_range]; omega)]) rfl) rfl ?_
  refine g_nil ?_
  refine vc_region mixed ?_
  refine g_val (s_add rfl rfl rfl (by simp only [inI, kMin, kMax]; omega)) rfl ?_
  refine g_val (s_move rfl rfl) rfl ?_
  refine g_nil ?_
  exact ⟨by omega, trivial, (leE_same (by repeat (first | exact letm_nil _ _ | refine letm_cons rfl ?_ ?_ | exact .same _ | exact .nl (by decide) (by decide) | exact .nn | exact .id' rfl | exact .id' (by first | (simp; done) | (rw [Nat.zero_add]; exact set_rep (by omega) (by simp only [stB, hc88]; simp [bytesT, zerB, byteC])) | (rw [Nat.zero_add]; exact set_rep (by omega) (by simp only [stB, hc88]; rfl))))) (by repeat (first | exact lehp_nil _ _ | refine lehp_cons rfl ?_ ?_ | exact leB_same _ | exact leB_row (by first | rfl | (first | (simp; done) | (rw [Nat.zero_add]; exact set_rep (by omega) (by simp only [stB, hc88]; simp [bytesT, zerB, byteC])) | (rw [Nat.zero_add]; exact set_rep (by omega) (by simp only [stB, hc88]; rfl)))) | exact leB_obj (by first | (simp; done) | (rw [Nat.zero_add]; exact set_rep (by omega) (by simp only [stB, hc88]; simp [bytesT, zerB, byteC])) | (rw [Nat.zero_add]; exact set_rep (by omega) (by simp only [stB, hc88]; rfl))) | exact leB_nest (by first | rfl | (first | (simp; done) | (rw [Nat.zero_add]; exact set_rep (by omega) (by simp only [stB, hc88]; simp [bytesT, zerB, byteC])) | (rw [Nat.zero_add]; exact set_rep (by omega) (by simp only [stB, hc88]; rfl)))) | refine leB_box ?_ | exact leL_nil | refine leL_cons ?_ ?_ | exact .same _ | exact .nl (by decide) (by decide) | exact .nn | exact .id' rfl | exact .id' (by first | (simp; done) | (rw [Nat.zero_add]; exact set_rep (by omega) (by simp only [stB, hc88]; simp [bytesT, zerB, byteC])) | (rw [Nat.zero_add]; exact set_rep (by omega) (by simp only [stB, hc88]; rfl))))) rfl)⟩
  replace hc76 := of_decide_eq_false hc76
  simp only [Int.not_lt] at hc76
  refine vc_exit ?_
  obtain rfl : i = n := by omega
  refine vc_rseq mixed ?_
  refine g_val (s_move rfl rfl) rfl ?_
  refine g_val (s_assign rfl rfl) rfl ?_
  refine g_val (s_assign rfl rfl) rfl ?_
  refine g_nil ?_
  exact vc_ret (ret_le [(72, _)] _ (.cons (.tmp rfl) (.cons (.tmp rfl) .nil)) ⟨rfl, trivial⟩ (LeV.tupL (leL_cons (.eq (by simp [AV.okV, okR, lkB]) (by simp [AV.view, viewR, lkB, AV.ren, bodiesT, bodyC, List.take_of_length_le])) (leL_cons (LeV.tt rfl) leL_nil))) rfl)

end Go.Eng

set_option maxHeartbeats 8000000
namespace Go.Eng
open Go.Proofs

def pinsB (n : Int) : Int → List Int → Bool
  | _, [] => true
  | last, p :: l => decide (last ≤ p ∧ p ≤ n) && pinsB n p l
def wrB (blocks size : Int) : Nat → List Write → Bool
  | _, [] => true
  | i, w :: l => decide (w.seq = i + 1 ∧ itemsOK blocks size w.items) && wrB blocks size (i + 1) l
def rightB (v : Volume) : Bool :=
  decide (shapeOK v.id v.blocks v.size v.per v.place v.total) && (decide (0 ≤ v.next ∧ v.next ≤ v.total) && (decide (v.hidden = false → v.next = v.total) && (decide (v.hidden = true → v.total ≠ 0) && (decide (0 ≤ v.floor ∧ v.floor ≤ v.writes.length) && (pinsB v.writes.length v.floor v.pins && wrB v.blocks v.size 0 v.writes)))))
theorem rightB_iff (v : Volume) : rightB v = true ↔ shapeOK v.id v.blocks v.size v.per v.place v.total ∧ (0 ≤ v.next ∧ v.next ≤ v.total) ∧ (v.hidden = false → v.next = v.total) ∧ (v.hidden = true → v.total ≠ 0) ∧ (0 ≤ v.floor ∧ v.floor ≤ v.writes.length) ∧ pinsB v.writes.length v.floor v.pins = true ∧ wrB v.blocks v.size 0 v.writes = true := by
  simp only [rightB, Bool.and_eq_true, decide_eq_true_eq]

def headB' (v : Volume) : Bool := decide (shapeOK v.id v.blocks v.size v.per v.place v.total ∧ (0 ≤ v.next ∧ v.next ≤ v.total) ∧ (v.hidden = false → v.next = v.total) ∧ (v.hidden = true → v.total ≠ 0) ∧ (0 ≤ v.floor ∧ v.floor ≤ v.writes.length))
theorem headB'_iff (v : Volume) : headB' v = true ↔ (shapeOK v.id v.blocks v.size v.per v.place v.total ∧ (0 ≤ v.next ∧ v.next ≤ v.total) ∧ (v.hidden = false → v.next = v.total) ∧ (v.hidden = true → v.total ≠ 0) ∧ (0 ≤ v.floor ∧ v.floor ≤ v.writes.length)) := by simp only [headB', decide_eq_true_eq]
theorem AB_true {b : Bool} (h : b = true → False) : AB true = AB (!b) := by cases b with | true => exact absurd rfl h | false => rfl
theorem AB_dec {p : Prop} [Decidable p] {b : Bool} (h : b = true ↔ ¬ p) : AB (decide p) = AB (!b) := by
  refine congrArg (fun b => AV.t (T.k (Value.bool b))) ?_
  cases b with
  | true => exact decide_eq_false (h.1 rfl)
  | false => exact decide_eq_true (Decidable.byContradiction fun hn => by have := h.2 hn; cases this)

theorem pinsB_drop {n last : Int} {l : List Int} {i : Nat} {x : Int} (h : l[i]? = some x) : pinsB n last (l.drop i) = (decide (last ≤ x ∧ x ≤ n) && pinsB n x (l.drop (i + 1))) := by
  obtain ⟨h1, h2⟩ := List.getElem?_eq_some_iff.1 h
  rw [List.drop_eq_getElem_cons h1, h2]
  rfl
theorem wrB_drop {b s : Int} {l : List Write} {i : Nat} {x : Write} (h : l[i]? = some x) : wrB b s i (l.drop i) = (decide (x.seq = i + 1 ∧ itemsOK b s x.items) && wrB b s (i + 1) (l.drop (i + 1))) := by
  obtain ⟨h1, h2⟩ := List.getElem?_eq_some_iff.1 h
  rw [List.drop_eq_getElem_cons h1, h2]
  rfl

theorem c_volume_Right (v : Volume) : Con Try.prog 17 [sC (volC v)] [] (AB (rightB v)) [] := by
  refine con_intro [] [] Try.func17 rfl Try.ntmps17 Try.results17 rfl rfl ?_
  intro E
  refine vc_okA (i := 0) (j := 9) rfl rfl fun okp => ?_
  refine vc_okA (i := 0) (j := 10) rfl rfl fun okw => ?_
  have hlp := okp.len
  have hlw := okw.len
  rw [List.length_map] at hlp hlw
  have hri := rightB_iff v
  have hhd := headB'_iff v
  refine vc_rseq mixed ?_
  refine g_new (s_box 1 rfl rfl rfl rfl) rfl ?_
  refine g_val (s_assign rfl rfl) rfl ?_
  refine g_nil ?_
  refine vc_seq ?_
  refine vc_cut (⟨[(1, .ref 1 0), (2, AB false), (51, AB (!headB' v))], [(1, some (.box ((volC v).map .t)))], [1]⟩) ?_ ?_
  refine vc_region mixed ?_
  refine d_val (s_loadA rfl rfl rfl rfl rfl) rfl ?_
  refine d_val (s_call [] (c_volume_shape v) (evArgs_cons rfl evArgs_nil) trivial rfl (okVL_nil _) rfl (.inl rfl) rfl) rfl ?_
  refine d_val (s_not rfl rfl) rfl ?_
  refine d_val (s_move rfl rfl) rfl ?_
  refine g_probe (j := 11) rfl (fun c hg11 => ?_)
  cases c
  rw [← hg11]; replace hg11 := hg11.symm
  simp only [Bool.not_eq_false', decide_eq_true_eq] at hg11
  refine dq_val (s_field rfl rfl rfl rfl) rfl rfl rfl rfl ?_
  refine dq_val (s_load rfl rfl rfl rfl) rfl rfl rfl rfl ?_
  refine dq_val (s_field rfl rfl rfl rfl) rfl rfl rfl rfl ?_
  refine dq_val (s_load rfl rfl rfl rfl) rfl rfl rfl rfl ?_
  refine dq_val (s_call [] (c_volume_within v.next 0 v.total) (evArgs_cons rfl (evArgs_cons rfl (evArgs_cons rfl evArgs_nil))) trivial rfl (okVL_nil _) rfl (.inl rfl) rfl) rfl rfl rfl rfl ?_
  refine dq_val (s_not rfl rfl) rfl rfl rfl rfl ?_
  refine d_val (s_pickF rfl rfl rfl) rfl ?_
  refine d_val (s_move rfl rfl) rfl ?_
  refine g_probe (j := 19) rfl (fun c hg19 => ?_)
  cases c
  rw [← hg19]; replace hg19 := hg19.symm
  simp only [Bool.not_eq_false', decide_eq_true_eq] at hg19
  refine dq_val (s_field rfl rfl rfl rfl) rfl rfl rfl rfl ?_
  refine dq_val (s_load rfl rfl rfl rfl) rfl rfl rfl rfl ?_
  refine dq_val (s_not rfl rfl) rfl rfl rfl rfl ?_
  refine dq_val (s_move rfl rfl) rfl rfl rfl rfl ?_
  refine g_probe (j := 23) rfl (fun c hg23 => ?_)
  cases c
  rw [← hg23]; replace hg23 := hg23.symm
  simp only [Bool.not_eq_false'] at hg23
  refine dn_val rfl rfl rfl rfl rfl rfl (by decide) ?_
  refine dn_val rfl rfl rfl rfl rfl rfl (by decide) ?_
  refine dn_val rfl rfl rfl rfl rfl rfl (by decide) ?_
  refine dn_val rfl rfl rfl rfl rfl rfl (by decide) ?_
  refine dn_val rfl rfl rfl rfl rfl rfl (by decide) ?_
  refine dq_val (s_pickF rfl rfl rfl) rfl rfl rfl rfl ?_
  refine d_val (s_pickF rfl rfl rfl) rfl ?_
  refine d_val (s_move rfl rfl) rfl ?_
  refine dq_val (s_field rfl rfl rfl rfl) rfl rfl rfl rfl ?_
  refine dq_val (s_load rfl rfl rfl rfl) rfl rfl rfl rfl ?_
  refine dq_val (s_move rfl rfl) rfl rfl rfl rfl ?_
  refine g_probe (j := 34) rfl (fun c hg34 => ?_)
  cases c
  rw [← hg34]; replace hg34 := hg34.symm
  refine dn_val rfl rfl rfl rfl rfl rfl (by decide) ?_
  refine dn_val rfl rfl rfl rfl rfl rfl (by decide) ?_
  refine dn_val rfl rfl rfl rfl rfl rfl (by decide) ?_
  refine dq_val (s_pickF rfl rfl rfl) rfl rfl rfl rfl ?_
  refine d_val (s_pickF rfl rfl rfl) rfl ?_
  refine d_val (s_move rfl rfl) rfl ?_
  refine dq_val (s_field rfl rfl rfl rfl) rfl rfl rfl rfl ?_
  refine dq_val (s_load rfl rfl rfl rfl) rfl rfl rfl rfl ?_
  refine dq_val (s_lss rfl rfl rfl) rfl rfl rfl rfl ?_
  refine d_val (s_pickF rfl rfl rfl) rfl ?_
  refine d_val (s_move rfl rfl) rfl ?_
  refine g_probe (j := 45) rfl (fun c hg45 => ?_)
  cases c
  rw [← hg45]; replace hg45 := hg45.symm; replace hg45 := of_decide_eq_false hg45
  simp only [Int.not_lt] at hg45
  refine dq_val (s_field rfl rfl rfl rfl) rfl rfl rfl rfl ?_
  refine dq_val (s_load rfl rfl rfl rfl) rfl rfl rfl rfl ?_
  refine dq_val (s_loadA rfl rfl rfl rfl rfl) rfl rfl rfl rfl ?_
  refine dq_val (s_call [] (c_volume_Len v) (evArgs_cons rfl evArgs_nil) trivial rfl (okVL_nil _) rfl (.inl rfl) rfl) rfl rfl rfl rfl ?_
  refine dq_val (s_gtr rfl rfl rfl) rfl rfl rfl rfl ?_
  refine d_val (s_pickF rfl rfl rfl) rfl ?_
  refine d_nil rfl ?_
  exact (leE_same (by repeat (first | exact letm_nil _ _ | refine letm_cons rfl ?_ ?_ | exact .same _ | exact .nl (by decide) (by decide) | exact .nn | exact .id' rfl | exact .id' (by first | (exfalso; rw [hg23] at hg34; cases hg34; done) | (exact AB_true fun hh => by obtain ⟨h1, h2, h3, h4, h5⟩ := hhd.1 hh; first | omega | (simp_all; done) | (simp_all; omega)) | exact AB_dec ⟨fun hh => by have := (hhd.1 hh).2.2.2.2; omega, fun hn => hhd.2 ⟨by assumption, by omega, fun h3 => by first | omega | (rw [hg23] at h3; cases h3), fun h4 => by first | omega | (rw [hg34] at h4; cases h4), by omega⟩⟩))) (by repeat (first | exact lehp_nil _ _ | refine lehp_cons rfl ?_ ?_ | exact leB_same _ | exact leB_row (by first | rfl | (first | (exfalso; rw [hg23] at hg34; cases hg34; done) | (exact AB_true fun hh => by obtain ⟨h1, h2, h3, h4, h5⟩ := hhd.1 hh; first | omega | (simp_all; done) | (simp_all; omega)) | exact AB_dec ⟨fun hh => by have := (hhd.1 hh).2.2.2.2; omega, fun hn => hhd.2 ⟨by assumption, by omega, fun h3 => by first | omega | (rw [hg23] at h3; cases h3), fun h4 => by first | omega | (rw [hg34] at h4; cases h4), by omega⟩⟩)) | exact leB_obj (by first | (exfalso; rw [hg23] at hg34; cases hg34; done) | (exact AB_true fun hh => by obtain ⟨h1, h2, h3, h4, h5⟩ := hhd.1 hh; first | omega | (simp_all; done) | (simp_all; omega)) | exact AB_dec ⟨fun hh => by have := (hhd.1 hh).2.2.2.2; omega, fun hn => hhd.2 ⟨by assumption, by omega, fun h3 => by first | omega | (rw [hg23] at h3; cases h3), fun h4 => by first | omega | (rw [hg34] at h4; cases h4), by omega⟩⟩) | exact leB_nest (by first | rfl | (first | (exfalso; rw [hg23] at hg34; cases hg34; done) | (exact AB_true fun hh => by obtain ⟨h1, h2, h3, h4, h5⟩ := hhd.1 hh; first | omega | (simp_all; done) | (simp_all; omega)) | exact AB_dec ⟨fun hh => by have := (hhd.1 hh).2.2.2.2; omega, fun hn => hhd.2 ⟨by assumption, by omega, fun h3 => by first | omega | (rw [hg23] at h3; cases h3), fun h4 => by first | omega | (rw [hg34] at h4; cases h4), by omega⟩⟩)) | refine leB_box ?_ | exact leL_nil | refine leL_cons ?_ ?_ | exact .same _ | exact .nl (by decide) (by decide) | exact .nn | exact .id' rfl | exact .id' (by first | (exfalso; rw [hg23] at hg34; cases hg34; done) | (exact AB_true fun hh => by obtain ⟨h1, h2, h3, h4, h5⟩ := hhd.1 hh; first | omega | (simp_all; done) | (simp_all; omega)) | exact AB_dec ⟨fun hh => by have := (hhd.1 hh).2.2.2.2; omega, fun hn => hhd.2 ⟨by assumption, by omega, fun h3 => by first | omega | (rw [hg23] at h3; cases h3), fun h4 => by first | omega | (rw [hg34] at h4; cases h4), by omega⟩⟩))) rfl)
  rw [← hg45]; replace hg45 := hg45.symm; replace hg45 := of_decide_eq_true hg45
  refine dn_val rfl rfl rfl rfl rfl rfl (by decide) ?_
  refine dn_val rfl rfl rfl rfl rfl rfl (by decide) ?_
  refine dn_val rfl rfl rfl rfl rfl rfl (by decide) ?_
  refine dn_val rfl rfl rfl rfl rfl rfl (by decide) ?_
  refine dn_val rfl rfl rfl rfl rfl rfl (by decide) ?_
  refine d_val (s_pickT rfl rfl rfl) rfl ?_
  refine d_nil rfl ?_
  exact (leE_same (by repeat (first | exact letm_nil _ _ | refine letm_cons rfl ?_ ?_ | exact .same _ | exact .nl (by decide) (by decide) | exact .nn | exact .id' rfl | exact .id' (by first | (exfalso; rw [hg23] at hg34; cases hg34; done) | (exact AB_true fun hh => by obtain ⟨h1, h2, h3, h4, h5⟩ := hhd.1 hh; first | omega | (simp_all; done) | (simp_all; omega)) | exact AB_dec ⟨fun hh => by have := (hhd.1 hh).2.2.2.2; omega, fun hn => hhd.2 ⟨by assumption, by omega, fun h3 => by first | omega | (rw [hg23] at h3; cases h3), fun h4 => by first | omega | (rw [hg34] at h4; cases h4), by omega⟩⟩))) (by repeat (first | exact lehp_nil _ _ | refine lehp_cons rfl ?_ ?_ | exact leB_same _ | exact leB_row (by first | rfl | (first | (exfalso; rw [hg23] at hg34; cases hg34; done) | (exact AB_true fun hh => by obtain ⟨h1, h2, h3, h4, h5⟩ := hhd.1 hh; first | omega | (simp_all; done) | (simp_all; omega)) | exact AB_dec ⟨fun hh => by have := (hhd.1 hh).2.2.2.2; omega, fun hn => hhd.2 ⟨by assumption, by omega, fun h3 => by first | omega | (rw [hg23] at h3; cases h3), fun h4 => by first | omega | (rw [hg34] at h4; cases h4), by omega⟩⟩)) | exact leB_obj (by first | (exfalso; rw [hg23] at hg34; cases hg34; done) | (exact AB_true fun hh => by obtain ⟨h1, h2, h3, h4, h5⟩ := hhd.1 hh; first | omega | (simp_all; done) | (simp_all; omega)) | exact AB_dec ⟨fun hh => by have := (hhd.1 hh).2.2.2.2; omega, fun hn => hhd.2 ⟨by assumption, by omega, fun h3 => by first | omega | (rw [hg23] at h3; cases h3), fun h4 => by first | omega | (rw [hg34] at h4; cases h4), by omega⟩⟩) | exact leB_nest (by first | rfl | (first | (exfalso; rw [hg23] at hg34; cases hg34; done) | (exact AB_true fun hh => by obtain ⟨h1, h2, h3, h4, h5⟩ := hhd.1 hh; first | omega | (simp_all; done) | (simp_all; omega)) | exact AB_dec ⟨fun hh => by have := (hhd.1 hh).2.2.2.2; omega, fun hn => hhd.2 ⟨by assumption, by omega, fun h3 => by first | omega | (rw [hg23] at h3; cases h3), fun h4 => by first | omega | (rw [hg34] at h4; cases h4), by omega⟩⟩)) | refine leB_box ?_ | exact leL_nil | refine leL_cons ?_ ?_ | exact .same _ | exact .nl (by decide) (by decide) | exact .nn | exact .id' rfl | exact .id' (by first | (exfalso; rw [hg23] at hg34; cases hg34; done) | (exact AB_true fun hh => by obtain ⟨h1, h2, h3, h4, h5⟩ := hhd.1 hh; first | omega | (simp_all; done) | (simp_all; omega)) | exact AB_dec ⟨fun hh => by have := (hhd.1 hh).2.2.2.2; omega, fun hn => hhd.2 ⟨by assumption, by omega, fun h3 => by first | omega | (rw [hg23] at h3; cases h3), fun h4 => by first | omega | (rw [hg34] at h4; cases h4), by omega⟩⟩))) rfl)
  rw [← hg34]; replace hg34 := hg34.symm
  refine dq_val (s_field rfl rfl rfl rfl) rfl rfl rfl rfl ?_
  refine dq_val (s_load rfl rfl rfl rfl) rfl rfl rfl rfl ?_
  refine dq_val (s_eql rfl rfl rfl) rfl rfl rfl rfl ?_
  refine dq_val (s_pickT rfl rfl rfl) rfl rfl rfl rfl ?_
  refine d_val (s_pickF rfl rfl rfl) rfl ?_
  refine d_val (s_move rfl rfl) rfl ?_
  refine g_probe (j := 40) rfl (fun c hg40 => ?_)
  cases c
  rw [← hg40]; replace hg40 := hg40.symm; replace hg40 := of_decide_eq_false hg40
  refine dq_val (s_field rfl rfl rfl rfl) rfl rfl rfl rfl ?_
  refine dq_val (s_load rfl rfl rfl rfl) rfl rfl rfl rfl ?_
  refine dq_val (s_lss rfl rfl rfl) rfl rfl rfl rfl ?_
  refine d_val (s_pickF rfl rfl rfl) rfl ?_
  refine d_val (s_move rfl rfl) rfl ?_
  refine g_probe (j := 45) rfl (fun c hg45 => ?_)
  cases c
  rw [← hg45]; replace hg45 := hg45.symm; replace hg45 := of_decide_eq_false hg45
  simp only [Int.not_lt] at hg45
  refine dq_val (s_field rfl rfl rfl rfl) rfl rfl rfl rfl ?_
  refine dq_val (s_load rfl rfl rfl rfl) rfl rfl rfl rfl ?_
  refine dq_val (s_loadA rfl rfl rfl rfl rfl) rfl rfl rfl rfl ?_
  refine dq_val (s_call [] (c_volume_Len v) (evArgs_cons rfl evArgs_nil) trivial rfl (okVL_nil _) rfl (.inl rfl) rfl) rfl rfl rfl rfl ?_
  refine dq_val (s_gtr rfl rfl rfl) rfl rfl rfl rfl ?_
  refine d_val (s_pickF rfl rfl rfl) rfl ?_
  refine d_nil rfl ?_
  exact (leE_same (by repeat (first | exact letm_nil _ _ | refine letm_cons rfl ?_ ?_ | exact .same _ | exact .nl (by decide) (by decide) | exact .nn | exact .id' rfl | exact .id' (by first | (exfalso; rw [hg23] at hg34; cases hg34; done) | (exact AB_true fun hh => by obtain ⟨h1, h2, h3, h4, h5⟩ := hhd.1 hh; first | omega | (simp_all; done) | (simp_all; omega)) | exact AB_dec ⟨fun hh => by have := (hhd.1 hh).2.2.2.2; omega, fun hn => hhd.2 ⟨by assumption, by omega, fun h3 => by first | omega | (rw [hg23] at h3; cases h3), fun h4 => by first | omega | (rw [hg34] at h4; cases h4), by omega⟩⟩))) (by repeat (first | exact lehp_nil _ _ | refine lehp_cons rfl ?_ ?_ | exact leB_same _ | exact leB_row (by first | rfl | (first | (exfalso; rw [hg23] at hg34; cases hg34; done) | (exact AB_true fun hh => by obtain ⟨h1, h2, h3, h4, h5⟩ := hhd.1 hh; first | omega | (simp_all; done) | (simp_all; omega)) | exact AB_dec ⟨fun hh => by have := (hhd.1 hh).2.2.2.2; omega, fun hn => hhd.2 ⟨by assumption, by omega, fun h3 => by first | omega | (rw [hg23] at h3; cases h3), fun h4 => by first | omega | (rw [hg34] at h4; cases h4), by omega⟩⟩)) | exact leB_obj (by first | (exfalso; rw [hg23] at hg34; cases hg34; done) | (exact AB_true fun hh => by obtain ⟨h1, h2, h3, h4, h5⟩ := hhd.1 hh; first | omega | (simp_all; done) | (simp_all; omega)) | exact AB_dec ⟨fun hh => by have := (hhd.1 hh).2.2.2.2; omega, fun hn => hhd.2 ⟨by assumption, by omega, fun h3 => by first | omega | (rw [hg23] at h3; cases h3), fun h4 => by first | omega | (rw [hg34] at h4; cases h4), by omega⟩⟩) | exact leB_nest (by first | rfl | (first | (exfalso; rw [hg23] at hg34; cases hg34; done) | (exact AB_true fun hh => by obtain ⟨h1, h2, h3, h4, h5⟩ := hhd.1 hh; first | omega | (simp_all; done) | (simp_all; omega)) | exact AB_dec ⟨fun hh => by have := (hhd.1 hh).2.2.2.2; omega, fun hn => hhd.2 ⟨by assumption, by omega, fun h3 => by first | omega | (rw [hg23] at h3; cases h3), fun h4 => by first | omega | (rw [hg34] at h4; cases h4), by omega⟩⟩)) | refine leB_box ?_ | exact leL_nil | refine leL_cons ?_ ?_ | exact .same _ | exact .nl (by decide) (by decide) | exact .nn | exact .id' rfl | exact .id' (by first | (exfalso; rw [hg23] at hg34; cases hg34; done) | (exact AB_true fun hh => by obtain ⟨h1, h2, h3, h4, h5⟩ := hhd.1 hh; first | omega | (simp_all; done) | (simp_all; omega)) | exact AB_dec ⟨fun hh => by have := (hhd.1 hh).2.2.2.2; omega, fun hn => hhd.2 ⟨by assumption, by omega, fun h3 => by first | omega | (rw [hg23] at h3; cases h3), fun h4 => by first | omega | (rw [hg34] at h4; cases h4), by omega⟩⟩))) rfl)
  rw [← hg45]; replace hg45 := hg45.symm; replace hg45 := of_decide_eq_true hg45
  refine dn_val rfl rfl rfl rfl rfl rfl (by decide) ?_
  refine dn_val rfl rfl rfl rfl rfl rfl (by decide) ?_
  refine dn_val rfl rfl rfl rfl rfl rfl (by decide) ?_
  refine dn_val rfl rfl rfl rfl rfl rfl (by decide) ?_
  refine dn_val rfl rfl rfl rfl rfl rfl (by decide) ?_
  refine d_val (s_pickT rfl rfl rfl) rfl ?_
  refine d_nil rfl ?_
  exact (leE_same (by repeat (first | exact letm_nil _ _ | refine letm_cons rfl ?_ ?_ | exact .same _ | exact .nl (by decide) (by decide) | exact .nn | exact .id' rfl | exact .id' (by first | (exfalso; rw [hg23] at hg34; cases hg34; done) | (exact AB_true fun hh => by obtain ⟨h1, h2, h3, h4, h5⟩ := hhd.1 hh; first | omega | (simp_all; done) | (simp_all; omega)) | exact AB_dec ⟨fun hh => by have := (hhd.1 hh).2.2.2.2; omega, fun hn => hhd.2 ⟨by assumption, by omega, fun h3 => by first | omega | (rw [hg23] at h3; cases h3), fun h4 => by first | omega | (rw [hg34] at h4; cases h4), by omega⟩⟩))) (by repeat (first | exact lehp_nil _ _ | refine lehp_cons rfl ?_ ?_ | exact leB_same _ | exact leB_row (by first | rfl | (first | (exfalso; rw [hg23] at hg34; cases hg34; done) | (exact AB_true fun hh => by obtain ⟨h1, h2, h3, h4, h5⟩ := hhd.1 hh; first | omega | (simp_all; done) | (simp_all; omega)) | exact AB_dec ⟨fun hh => by have := (hhd.1 hh).2.2.2.2; omega, fun hn => hhd.2 ⟨by assumption, by omega, fun h3 => by first | omega | (rw [hg23] at h3; cases h3), fun h4 => by first | omega | (rw [hg34] at h4; cases h4), by omega⟩⟩)) | exact leB_obj (by first | (exfalso; rw [hg23] at hg34; cases hg34; done) | (exact AB_true fun hh => by obtain ⟨h1, h2, h3, h4, h5⟩ := hhd.1 hh; first | omega | (simp_all; done) | (simp_all; omega)) | exact AB_dec ⟨fun hh => by have := (hhd.1 hh).2.2.2.2; omega, fun hn => hhd.2 ⟨by assumption, by omega, fun h3 => by first | omega | (rw [hg23] at h3; cases h3), fun h4 => by first | omega | (rw [hg34] at h4; cases h4), by omega⟩⟩) | exact leB_nest (by first | rfl | (first | (exfalso; rw [hg23] at hg34; cases hg34; done) | (exact AB_true fun hh => by obtain ⟨h1, h2, h3, h4, h5⟩ := hhd.1 hh; first | omega | (simp_all; done) | (simp_all; omega)) | exact AB_dec ⟨fun hh => by have := (hhd.1 hh).2.2.2.2; omega, fun hn => hhd.2 ⟨by assumption, by omega, fun h3 => by first | omega | (rw [hg23] at h3; cases h3), fun h4 => by first | omega | (rw [hg34] at h4; cases h4), by omega⟩⟩)) | refine leB_box ?_ | exact leL_nil | refine leL_cons ?_ ?_ | exact .same _ | exact .nl (by decide) (by decide) | exact .nn | exact .id' rfl | exact .id' (by first | (exfalso; rw [hg23] at hg34; cases hg34; done) | (exact AB_true fun hh => by obtain ⟨h1, h2, h3, h4, h5⟩ := hhd.1 hh; first | omega | (simp_all; done) | (simp_all; omega)) | exact AB_dec ⟨fun hh => by have := (hhd.1 hh).2.2.2.2; omega, fun hn => hhd.2 ⟨by assumption, by omega, fun h3 => by first | omega | (rw [hg23] at h3; cases h3), fun h4 => by first | omega | (rw [hg34] at h4; cases h4), by omega⟩⟩))) rfl)
  rw [← hg40]; replace hg40 := hg40.symm; replace hg40 := of_decide_eq_true hg40
  refine dn_val rfl rfl rfl rfl rfl rfl (by decide) ?_
  refine dn_val rfl rfl rfl rfl rfl rfl (by decide) ?_
  refine dn_val rfl rfl rfl rfl rfl rfl (by decide) ?_
  refine d_val (s_pickT rfl rfl rfl) rfl ?_
  refine d_val (s_move rfl rfl) rfl ?_
  refine dn_val rfl rfl rfl rfl rfl rfl (by decide) ?_
  refine dn_val rfl rfl rfl rfl rfl rfl (by decide) ?_
  refine dn_val rfl rfl rfl rfl rfl rfl (by decide) ?_
  refine dn_val rfl rfl rfl rfl rfl rfl (by decide) ?_
  refine dn_val rfl rfl rfl rfl rfl rfl (by decide) ?_
  refine d_val (s_pickT rfl rfl rfl) rfl ?_
  refine d_nil rfl ?_
  exact (leE_same (by repeat (first | exact letm_nil _ _ | refine letm_cons rfl ?_ ?_ | exact .same _ | exact .nl (by decide) (by decide) | exact .nn | exact .id' rfl | exact .id' (by first | (exfalso; rw [hg23] at hg34; cases hg34; done) | (exact AB_true fun hh => by obtain ⟨h1, h2, h3, h4, h5⟩ := hhd.1 hh; first | omega | (simp_all; done) | (simp_all; omega)) | exact AB_dec ⟨fun hh => by have := (hhd.1 hh).2.2.2.2; omega, fun hn => hhd.2 ⟨by assumption, by omega, fun h3 => by first | omega | (rw [hg23] at h3; cases h3), fun h4 => by first | omega | (rw [hg34] at h4; cases h4), by omega⟩⟩))) (by repeat (first | exact lehp_nil _ _ | refine lehp_cons rfl ?_ ?_ | exact leB_same _ | exact leB_row (by first | rfl | (first | (exfalso; rw [hg23] at hg34; cases hg34; done) | (exact AB_true fun hh => by obtain ⟨h1, h2, h3, h4, h5⟩ := hhd.1 hh; first | omega | (simp_all; done) | (simp_all; omega)) | exact AB_dec ⟨fun hh => by have := (hhd.1 hh).2.2.2.2; omega, fun hn => hhd.2 ⟨by assumption, by omega, fun h3 => by first | omega | (rw [hg23] at h3; cases h3), fun h4 => by first | omega | (rw [hg34] at h4; cases h4), by omega⟩⟩)) | exact leB_obj (by first | (exfalso; rw [hg23] at hg34; cases hg34; done) | (exact AB_true fun hh => by obtain ⟨h1, h2, h3, h4, h5⟩ := hhd.1 hh; first | omega | (simp_all; done) | (simp_all; omega)) | exact AB_dec ⟨fun hh => by have := (hhd.1 hh).2.2.2.2; omega, fun hn => hhd.2 ⟨by assumption, by omega, fun h3 => by first | omega | (rw [hg23] at h3; cases h3), fun h4 => by first | omega | (rw [hg34] at h4; cases h4), by omega⟩⟩) | exact leB_nest (by first | rfl | (first | (exfalso; rw [hg23] at hg34; cases hg34; done) | (exact AB_true fun hh => by obtain ⟨h1, h2, h3, h4, h5⟩ := hhd.1 hh; first | omega | (simp_all; done) | (simp_all; omega)) | exact AB_dec ⟨fun hh => by have := (hhd.1 hh).2.2.2.2; omega, fun hn => hhd.2 ⟨by assumption, by omega, fun h3 => by first | omega | (rw [hg23] at h3; cases h3), fun h4 => by first | omega | (rw [hg34] at h4; cases h4), by omega⟩⟩)) | refine leB_box ?_ | exact leL_nil | refine leL_cons ?_ ?_ | exact .same _ | exact .nl (by decide) (by decide) | exact .nn | exact .id' rfl | exact .id' (by first | (exfalso; rw [hg23] at hg34; cases hg34; done) | (exact AB_true fun hh => by obtain ⟨h1, h2, h3, h4, h5⟩ := hhd.1 hh; first | omega | (simp_all; done) | (simp_all; omega)) | exact AB_dec ⟨fun hh => by have := (hhd.1 hh).2.2.2.2; omega, fun hn => hhd.2 ⟨by assumption, by omega, fun h3 => by first | omega | (rw [hg23] at h3; cases h3), fun h4 => by first | omega | (rw [hg34] at h4; cases h4), by omega⟩⟩))) rfl)
  rw [← hg23]; replace hg23 := hg23.symm
  simp only [Bool.not_eq_true'] at hg23
  refine dq_val (s_field rfl rfl rfl rfl) rfl rfl rfl rfl ?_
  refine dq_val (s_load rfl rfl rfl rfl) rfl rfl rfl rfl ?_
  refine dq_val (s_field rfl rfl rfl rfl) rfl rfl rfl rfl ?_
  refine dq_val (s_load rfl rfl rfl rfl) rfl rfl rfl rfl ?_
  refine dq_val (s_neq rfl rfl rfl) rfl rfl rfl rfl ?_
  refine dq_val (s_pickT rfl rfl rfl) rfl rfl rfl rfl ?_
  refine d_val (s_pickF rfl rfl rfl) rfl ?_
  refine d_val (s_move rfl rfl) rfl ?_
  refine g_probe (j := 31) rfl (fun c hg31 => ?_)
  cases c
  rw [← hg31]; replace hg31 := hg31.symm; replace hg31 := of_decide_eq_false hg31
  simp only [ne_eq, Decidable.not_not] at hg31
  refine dq_val (s_field rfl rfl rfl rfl) rfl rfl rfl rfl ?_
  refine dq_val (s_load rfl rfl rfl rfl) rfl rfl rfl rfl ?_
  refine dq_val (s_move rfl rfl) rfl rfl rfl rfl ?_
  refine g_probe (j := 34) rfl (fun c hg34 => ?_)
  cases c
  rw [← hg34]; replace hg34 := hg34.symm
  refine dn_val rfl rfl rfl rfl rfl rfl (by decide) ?_
  refine dn_val rfl rfl rfl rfl rfl rfl (by decide) ?_
  refine dn_val rfl rfl rfl rfl rfl rfl (by decide) ?_
  refine dq_val (s_pickF rfl rfl rfl) rfl rfl rfl rfl ?_
  refine d_val (s_pickF rfl rfl rfl) rfl ?_
  refine d_val (s_move rfl rfl) rfl ?_
  refine dq_val (s_field rfl rfl rfl rfl) rfl rfl rfl rfl ?_
  refine dq_val (s_load rfl rfl rfl rfl) rfl rfl rfl rfl ?_
  refine dq_val (s_lss rfl rfl rfl) rfl rfl rfl rfl ?_
  refine d_val (s_pickF rfl rfl rfl) rfl ?_
  refine d_val (s_move rfl rfl) rfl ?_
  refine g_probe (j := 45) rfl (fun c hg45 => ?_)
  cases c
  rw [← hg45]; replace hg45 := hg45.symm; replace hg45 := of_decide_eq_false hg45
  simp only [Int.not_lt] at hg45
  refine dq_val (s_field rfl rfl rfl rfl) rfl rfl rfl rfl ?_
  refine dq_val (s_load rfl rfl rfl rfl) rfl rfl rfl rfl ?_
  refine dq_val (s_loadA rfl rfl rfl rfl rfl) rfl rfl rfl rfl ?_
  refine dq_val (s_call [] (c_volume_Len v) (evArgs_cons rfl evArgs_nil) trivial rfl (okVL_nil _) rfl (.inl rfl) rfl) rfl rfl rfl rfl ?_
  refine dq_val (s_gtr rfl rfl rfl) rfl rfl rfl rfl ?_
  refine d_val (s_pickF rfl rfl rfl) rfl ?_
  refine d_nil rfl ?_
  exact (leE_same (by repeat (first | exact letm_nil _ _ | refine letm_cons rfl ?_ ?_ | exact .same _ | exact .nl (by decide) (by decide) | exact .nn | exact .id' rfl | exact .id' (by first | (exfalso; rw [hg23] at hg34; cases hg34; done) | (exact AB_true fun hh => by obtain ⟨h1, h2, h3, h4, h5⟩ := hhd.1 hh; first | omega | (simp_all; done) | (simp_all; omega)) | exact AB_dec ⟨fun hh => by have := (hhd.1 hh).2.2.2.2; omega, fun hn => hhd.2 ⟨by assumption, by omega, fun h3 => by first | omega | (rw [hg23] at h3; cases h3), fun h4 => by first | omega | (rw [hg34] at h4; cases h4), by omega⟩⟩))) (by repeat (first | exact lehp_nil _ _ | refine lehp_cons rfl ?_ ?_ | exact leB_same _ | exact leB_row (by first | rfl | (first | (exfalso; rw [hg23] at hg34; cases hg34; done) | (exact AB_true fun hh => by obtain ⟨h1, h2, h3, h4, h5⟩ := hhd.1 hh; first | omega | (simp_all; done) | (simp_all; omega)) | exact AB_dec ⟨fun hh => by have := (hhd.1 hh).2.2.2.2; omega, fun hn => hhd.2 ⟨by assumption, by omega, fun h3 => by first | omega | (rw [hg23] at h3; cases h3), fun h4 => by first | omega | (rw [hg34] at h4; cases h4), by omega⟩⟩)) | exact leB_obj (by first | (exfalso; rw [hg23] at hg34; cases hg34; done) | (exact AB_true fun hh => by obtain ⟨h1, h2, h3, h4, h5⟩ := hhd.1 hh; first | omega | (simp_all; done) | (simp_all; omega)) | exact AB_dec ⟨fun hh => by have := (hhd.1 hh).2.2.2.2; omega, fun hn => hhd.2 ⟨by assumption, by omega, fun h3 => by first | omega | (rw [hg23] at h3; cases h3), fun h4 => by first | omega | (rw [hg34] at h4; cases h4), by omega⟩⟩) | exact leB_nest (by first | rfl | (first | (exfalso; rw [hg23] at hg34; cases hg34; done) | (exact AB_true fun hh => by obtain ⟨h1, h2, h3, h4, h5⟩ := hhd.1 hh; first | omega | (simp_all; done) | (simp_all; omega)) | exact AB_dec ⟨fun hh => by have := (hhd.1 hh).2.2.2.2; omega, fun hn => hhd.2 ⟨by assumption, by omega, fun h3 => by first | omega | (rw [hg23] at h3; cases h3), fun h4 => by first | omega | (rw [hg34] at h4; cases h4), by omega⟩⟩)) | refine leB_box ?_ | exact leL_nil | refine leL_cons ?_ ?_ | exact .same _ | exact .nl (by decide) (by decide) | exact .nn | exact .id' rfl | exact .id' (by first | (exfalso; rw [hg23] at hg34; cases hg34; done) | (exact AB_true fun hh => by obtain ⟨h1, h2, h3, h4, h5⟩ := hhd.1 hh; first | omega | (simp_all; done) | (simp_all; omega)) | exact AB_dec ⟨fun hh => by have := (hhd.1 hh).2.2.2.2; omega, fun hn => hhd.2 ⟨by assumption, by omega, fun h3 => by first | omega | (rw [hg23] at h3; cases h3), fun h4 => by first | omega | (rw [hg34] at h4; cases h4), by omega⟩⟩))) rfl)
  rw [← hg45]; replace hg45 := hg45.symm; replace hg45 := of_decide_eq_true hg45
  refine dn_val rfl rfl rfl rfl rfl rfl (by decide) ?_
  refine dn_val rfl rfl rfl rfl rfl rfl (by decide) ?_
  refine dn_val rfl rfl rfl rfl rfl rfl (by decide) ?_
  refine dn_val rfl rfl rfl rfl rfl rfl (by decide) ?_
  refine dn_val rfl rfl rfl rfl rfl rfl (by decide) ?_
  refine d_val (s_pickT rfl rfl rfl) rfl ?_
  refine d_nil rfl ?_
  exact (leE_same (by repeat (first | exact letm_nil _ _ | refine letm_cons rfl ?_ ?_ | exact .same _ | exact .nl (by decide) (by decide) | exact .nn | exact .id' rfl | exact .id' (by first | (exfalso; rw [hg23] at hg34; cases hg34; done) | (exact AB_true fun hh => by obtain ⟨h1, h2, h3, h4, h5⟩ := hhd.1 hh; first | omega | (simp_all; done) | (simp_all; omega)) | exact AB_dec ⟨fun hh => by have := (hhd.1 hh).2.2.2.2; omega, fun hn => hhd.2 ⟨by assumption, by omega, fun h3 => by first | omega | (rw [hg23] at h3; cases h3), fun h4 => by first | omega | (rw [hg34] at h4; cases h4), by omega⟩⟩))) (by repeat (first | exact lehp_nil _ _ | refine lehp_cons rfl ?_ ?_ | exact leB_same _ | exact leB_row (by first | rfl | (first | (exfalso; rw [hg23] at hg34; cases hg34; done) | (exact AB_true fun hh => by obtain ⟨h1, h2, h3, h4, h5⟩ := hhd.1 hh; first | omega | (simp_all; done) | (simp_all; omega)) | exact AB_dec ⟨fun hh => by have := (hhd.1 hh).2.2.2.2; omega, fun hn => hhd.2 ⟨by assumption, by omega, fun h3 => by first | omega | (rw [hg23] at h3; cases h3), fun h4 => by first | omega | (rw [hg34] at h4; cases h4), by omega⟩⟩)) | exact leB_obj (by first | (exfalso; rw [hg23] at hg34; cases hg34; done) | (exact AB_true fun hh => by obtain ⟨h1, h2, h3, h4, h5⟩ := hhd.1 hh; first | omega | (simp_all; done) | (simp_all; omega)) | exact AB_dec ⟨fun hh => by have := (hhd.1 hh).2.2.2.2; omega, fun hn => hhd.2 ⟨by assumption, by omega, fun h3 => by first | omega | (rw [hg23] at h3; cases h3), fun h4 => by first | omega | (rw [hg34] at h4; cases h4), by omega⟩⟩) | exact leB_nest (by first | rfl | (first | (exfalso; rw [hg23] at hg34; cases hg34; done) | (exact AB_true fun hh => by obtain ⟨h1, h2, h3, h4, h5⟩ := hhd.1 hh; first | omega | (simp_all; done) | (simp_all; omega)) | exact AB_dec ⟨fun hh => by have := (hhd.1 hh).2.2.2.2; omega, fun hn => hhd.2 ⟨by assumption, by omega, fun h3 => by first | omega | (rw [hg23] at h3; cases h3), fun h4 => by first | omega | (rw [hg34] at h4; cases h4), by omega⟩⟩)) | refine leB_box ?_ | exact leL_nil | refine leL_cons ?_ ?_ | exact .same _ | exact .nl (by decide) (by decide) | exact .nn | exact .id' rfl | exact .id' (by first | (exfalso; rw [hg23] at hg34; cases hg34; done) | (exact AB_true fun hh => by obtain ⟨h1, h2, h3, h4, h5⟩ := hhd.1 hh; first | omega | (simp_all; done) | (simp_all; omega)) | exact AB_dec ⟨fun hh => by have := (hhd.1 hh).2.2.2.2; omega, fun hn => hhd.2 ⟨by assumption, by omega, fun h3 => by first | omega | (rw [hg23] at h3; cases h3), fun h4 => by first | omega | (rw [hg34] at h4; cases h4), by omega⟩⟩))) rfl)
  rw [← hg34]; replace hg34 := hg34.symm
  refine dq_val (s_field rfl rfl rfl rfl) rfl rfl rfl rfl ?_
  refine dq_val (s_load rfl rfl rfl rfl) rfl rfl rfl rfl ?_
  refine dq_val (s_eql rfl rfl rfl) rfl rfl rfl rfl ?_
  refine dq_val (s_pickT rfl rfl rfl) rfl rfl rfl rfl ?_
  refine d_val (s_pickF rfl rfl rfl) rfl ?_
  refine d_val (s_move rfl rfl) rfl ?_
  refine g_probe (j := 40) rfl (fun c hg40 => ?_)
  cases c
  rw [← hg40]; replace hg40 := hg40.symm; replace hg40 := of_decide_eq_false hg40
  refine dq_val (s_field rfl rfl rfl rfl) rfl rfl rfl rfl ?_
  refine dq_val (s_load rfl rfl rfl rfl) rfl rfl rfl rfl ?_
  refine dq_val (s_lss rfl rfl rfl) rfl rfl rfl rfl ?_
  refine d_val (s_pickF rfl rfl rfl) rfl ?_
  refine d_val (s_move rfl rfl) rfl ?_
  refine g_probe (j := 45) rfl (fun c hg45 => ?_)
  cases c
  rw [← hg45]; replace hg45 := hg45.symm; replace hg45 := of_decide_eq_false hg45
  simp only [Int.not_lt] at hg45
  refine dq_val (s_field rfl rfl rfl rfl) rfl rfl rfl rfl ?_
  refine dq_val (s_load rfl rfl rfl rfl) rfl rfl rfl rfl ?_
  refine dq_val (s_loadA rfl rfl rfl rfl rfl) rfl rfl rfl rfl ?_
  refine dq_val (s_call [] (c_volume_Len v) (evArgs_cons rfl evArgs_nil) trivial rfl (okVL_nil _) rfl (.inl rfl) rfl) rfl rfl rfl rfl ?_
  refine dq_val (s_gtr rfl rfl rfl) rfl rfl rfl rfl ?_
  refine d_val (s_pickF rfl rfl rfl) rfl ?_
  refine d_nil rfl ?_
  exact (leE_same (by repeat (first | exact letm_nil _ _ | refine letm_cons rfl ?_ ?_ | exact .same _ | exact .nl (by decide) (by decide) | exact .nn | exact .id' rfl | exact .id' (by first | (exfalso; rw [hg23] at hg34; cases hg34; done) | (exact AB_true fun hh => by obtain ⟨h1, h2, h3, h4, h5⟩ := hhd.1 hh; first | omega | (simp_all; done) | (simp_all; omega)) | exact AB_dec ⟨fun hh => by have := (hhd.1 hh).2.2.2.2; omega, fun hn => hhd.2 ⟨by assumption, by omega, fun h3 => by first | omega | (rw [hg23] at h3; cases h3), fun h4 => by first | omega | (rw [hg34] at h4; cases h4), by omega⟩⟩))) (by repeat (first | exact lehp_nil _ _ | refine lehp_cons rfl ?_ ?_ | exact leB_same _ | exact leB_row (by first | rfl | (first | (exfalso; rw [hg23] at hg34; cases hg34; done) | (exact AB_true fun hh => by obtain ⟨h1, h2, h3, h4, h5⟩ := hhd.1 hh; first | omega | (simp_all; done) | (simp_all; omega)) | exact AB_dec ⟨fun hh => by have := (hhd.1 hh).2.2.2.2; omega, fun hn => hhd.2 ⟨by assumption, by omega, fun h3 => by first | omega | (rw [hg23] at h3; cases h3), fun h4 => by first | omega | (rw [hg34] at h4; cases h4), by omega⟩⟩)) | exact leB_obj (by first | (exfalso; rw [hg23] at hg34; cases hg34; done) | (exact AB_true fun hh => by obtain ⟨h1, h2, h3, h4, h5⟩ := hhd.1 hh; first | omega | (simp_all; done) | (simp_all; omega)) | exact AB_dec ⟨fun hh => by have := (hhd.1 hh).2.2.2.2; omega, fun hn => hhd.2 ⟨by assumption, by omega, fun h3 => by first | omega | (rw [hg23] at h3; cases h3), fun h4 => by first | omega | (rw [hg34] at h4; cases h4), by omega⟩⟩) | exact leB_nest (by first | rfl | (first | (exfalso; rw [hg23] at hg34; cases hg34; done) | (exact AB_true fun hh => by obtain ⟨h1, h2, h3, h4, h5⟩ := hhd.1 hh; first | omega | (simp_all; done) | (simp_all; omega)) | exact AB_dec ⟨fun hh => by have := (hhd.1 hh).2.2.2.2; omega, fun hn => hhd.2 ⟨by assumption, by omega, fun h3 => by first | omega | (rw [hg23] at h3; cases h3), fun h4 => by first | omega | (rw [hg34] at h4; cases h4), by omega⟩⟩)) | refine leB_box ?_ | exact leL_nil | refine leL_cons ?_ ?_ | exact .same _ | exact .nl (by decide) (by decide) | exact .nn | exact .id' rfl | exact .id' (by first | (exfalso; rw [hg23] at hg34; cases hg34; done) | (exact AB_true fun hh => by obtain ⟨h1, h2, h3, h4, h5⟩ := hhd.1 hh; first | omega | (simp_all; done) | (simp_all; omega)) | exact AB_dec ⟨fun hh => by have := (hhd.1 hh).2.2.2.2; omega, fun hn => hhd.2 ⟨by assumption, by omega, fun h3 => by first | omega | (rw [hg23] at h3; cases h3), fun h4 => by first | omega | (rw [hg34] at h4; cases h4), by omega⟩⟩))) rfl)
  rw [← hg45]; replace hg45 := hg45.symm; replace hg45 := of_decide_eq_true hg45
  refine dn_val rfl rfl rfl rfl rfl rfl (by decide) ?_
  refine dn_val rfl rfl rfl rfl rfl rfl (by decide) ?_
  refine dn_val rfl rfl rfl rfl rfl rfl (by decide) ?_
  refine dn_val rfl rfl rfl rfl rfl rfl (by decide) ?_
  refine dn_val rfl rfl rfl rfl rfl rfl (by decide) ?_
  refine d_val (s_pickT rfl rfl rfl) rfl ?_
  refine d_nil rfl ?_
  exact (leE_same (by repeat (first | exact letm_nil _ _ | refine letm_cons rfl ?_ ?_ | exact .same _ | exact .nl (by decide) (by decide) | exact .nn | exact .id' rfl | exact .id' (by first | (exfalso; rw [hg23] at hg34; cases hg34; done) | (exact AB_true fun hh => by obtain ⟨h1, h2, h3, h4, h5⟩ := hhd.1 hh; first | omega | (simp_all; done) | (simp_all; omega)) | exact AB_dec ⟨fun hh => by have := (hhd.1 hh).2.2.2.2; omega, fun hn => hhd.2 ⟨by assumption, by omega, fun h3 => by first | omega | (rw [hg23] at h3; cases h3), fun h4 => by first | omega | (rw [hg34] at h4; cases h4), by omega⟩⟩))) (by repeat (first | exact lehp_nil _ _ | refine lehp_cons rfl ?_ ?_ | exact leB_same _ | exact leB_row (by first | rfl | (first | (exfalso; rw [hg23] at hg34; cases hg34; done) | (exact AB_true fun hh => by obtain ⟨h1, h2, h3, h4, h5⟩ := hhd.1 hh; first | omega | (simp_all; done) | (simp_all; omega)) | exact AB_dec ⟨fun hh => by have := (hhd.1 hh).2.2.2.2; omega, fun hn => hhd.2 ⟨by assumption, by omega, fun h3 => by first | omega | (rw [hg23] at h3; cases h3), fun h4 => by first | omega | (rw [hg34] at h4; cases h4), by omega⟩⟩)) | exact leB_obj (by first | (exfalso; rw [hg23] at hg34; cases hg34; done) | (exact AB_true fun hh => by obtain ⟨h1, h2, h3, h4, h5⟩ := hhd.1 hh; first | omega | (simp_all; done) | (simp_all; omega)) | exact AB_dec ⟨fun hh => by have := (hhd.1 hh).2.2.2.2; omega, fun hn => hhd.2 ⟨by assumption, by omega, fun h3 => by first | omega | (rw [hg23] at h3; cases h3), fun h4 => by first | omega | (rw [hg34] at h4; cases h4), by omega⟩⟩) | exact leB_nest (by first | rfl | (first | (exfalso; rw [hg23] at hg34; cases hg34; done) | (exact AB_true fun hh => by obtain ⟨h1, h2, h3, h4, h5⟩ := hhd.1 hh; first | omega | (simp_all; done) | (simp_all; omega)) | exact AB_dec ⟨fun hh => by have := (hhd.1 hh).2.2.2.2; omega, fun hn => hhd.2 ⟨by assumption, by omega, fun h3 => by first | omega | (rw [hg23] at h3; cases h3), fun h4 => by first | omega | (rw [hg34] at h4; cases h4), by omega⟩⟩)) | refine leB_box ?_ | exact leL_nil | refine leL_cons ?_ ?_ | exact .same _ | exact .nl (by decide) (by decide) | exact .nn | exact .id' rfl | exact .id' (by first | (exfalso; rw [hg23] at hg34; cases hg34; done) | (exact AB_true fun hh => by obtain ⟨h1, h2, h3, h4, h5⟩ := hhd.1 hh; first | omega | (simp_all; done) | (simp_all; omega)) | exact AB_dec ⟨fun hh => by have := (hhd.1 hh).2.2.2.2; omega, fun hn => hhd.2 ⟨by assumption, by omega, fun h3 => by first | omega | (rw [hg23] at h3; cases h3), fun h4 => by first | omega | (rw [hg34] at h4; cases h4), by omega⟩⟩))) rfl)
  rw [← hg40]; replace hg40 := hg40.symm; replace hg40 := of_decide_eq_true hg40
  refine dn_val rfl rfl rfl rfl rfl rfl (by decide) ?_
  refine dn_val rfl rfl rfl rfl rfl rfl (by decide) ?_
  refine dn_val rfl rfl rfl rfl rfl rfl (by decide) ?_
  refine d_val (s_pickT rfl rfl rfl) rfl ?_
  refine d_val (s_move rfl rfl) rfl ?_
  refine dn_val rfl rfl rfl rfl rfl rfl (by decide) ?_
  refine dn_val rfl rfl rfl rfl rfl rfl (by decide) ?_
  refine dn_val rfl rfl rfl rfl rfl rfl (by decide) ?_
  refine dn_val rfl rfl rfl rfl rfl rfl (by decide) ?_
  refine dn_val rfl rfl rfl rfl rfl rfl (by decide) ?_
  refine d_val (s_pickT rfl rfl rfl) rfl ?_
  refine d_nil rfl ?_
  exact (leE_same (by repeat (first | exact letm_nil _ _ | refine letm_cons rfl ?_ ?_ | exact .same _ | exact .nl (by decide) (by decide) | exact .nn | exact .id' rfl | exact .id' (by first | (exfalso; rw [hg23] at hg34; cases hg34; done) | (exact AB_true fun hh => by obtain ⟨h1, h2, h3, h4, h5⟩ := hhd.1 hh; first | omega | (simp_all; done) | (simp_all; omega)) | exact AB_dec ⟨fun hh => by have := (hhd.1 hh).2.2.2.2; omega, fun hn => hhd.2 ⟨by assumption, by omega, fun h3 => by first | omega | (rw [hg23] at h3; cases h3), fun h4 => by first | omega | (rw [hg34] at h4; cases h4), by omega⟩⟩))) (by repeat (first | exact lehp_nil _ _ | refine lehp_cons rfl ?_ ?_ | exact leB_same _ | exact leB_row (by first | rfl | (first | (exfalso; rw [hg23] at hg34; cases hg34; done) | (exact AB_true fun hh => by obtain ⟨h1, h2, h3, h4, h5⟩ := hhd.1 hh; first | omega | (simp_all; done) | (simp_all; omega)) | exact AB_dec ⟨fun hh => by have := (hhd.1 hh).2.2.2.2; omega, fun hn => hhd.2 ⟨by assumption, by omega, fun h3 => by first | omega | (rw [hg23] at h3; cases h3), fun h4 => by first | omega | (rw [hg34] at h4; cases h4), by omega⟩⟩)) | exact leB_obj (by first | (exfalso; rw [hg23] at hg34; cases hg34; done) | (exact AB_true fun hh => by obtain ⟨h1, h2, h3, h4, h5⟩ := hhd.1 hh; first | omega | (simp_all; done) | (simp_all; omega)) | exact AB_dec ⟨fun hh => by have := (hhd.1 hh).2.2.2.2; omega, fun hn => hhd.2 ⟨by assumption, by omega, fun h3 => by first | omega | (rw [hg23] at h3; cases h3), fun h4 => by first | omega | (rw [hg34] at h4; cases h4), by omega⟩⟩) | exact leB_nest (by first | rfl | (first | (exfalso; rw [hg23] at hg34; cases hg34; done) | (exact AB_true fun hh => by obtain ⟨h1, h2, h3, h4, h5⟩ := hhd.1 hh; first | omega | (simp_all; done) | (simp_all; omega)) | exact AB_dec ⟨fun hh => by have := (hhd.1 hh).2.2.2.2; omega, fun hn => hhd.2 ⟨by assumption, by omega, fun h3 => by first | omega | (rw [hg23] at h3; cases h3), fun h4 => by first | omega | (rw [hg34] at h4; cases h4), by omega⟩⟩)) | refine leB_box ?_ | exact leL_nil | refine leL_cons ?_ ?_ | exact .same _ | exact .nl (by decide) (by decide) | exact .nn | exact .id' rfl | exact .id' (by first | (exfalso; rw [hg23] at hg34; cases hg34; done) | (exact AB_true fun hh => by obtain ⟨h1, h2, h3, h4, h5⟩ := hhd.1 hh; first | omega | (simp_all; done) | (simp_all; omega)) | exact AB_dec ⟨fun hh => by have := (hhd.1 hh).2.2.2.2; omega, fun hn => hhd.2 ⟨by assumption, by omega, fun h3 => by first | omega | (rw [hg23] at h3; cases h3), fun h4 => by first | omega | (rw [hg34] at h4; cases h4), by omega⟩⟩))) rfl)
  rw [← hg31]; replace hg31 := hg31.symm; replace hg31 := of_decide_eq_true hg31
  simp only [ne_eq] at hg31
  refine dn_val rfl rfl rfl rfl rfl rfl (by decide) ?_
  refine dn_val rfl rfl rfl rfl rfl rfl (by decide) ?_
  refine dn_val rfl rfl rfl rfl rfl rfl (by decide) ?_
  refine dz_val rfl rfl rfl rfl rfl rfl ?_
  refine dz_val rfl rfl rfl rfl rfl rfl ?_
  refine dz_val rfl rfl rfl rfl rfl rfl ?_
  refine dn_val rfl rfl rfl rfl rfl rfl (by decide) ?_
  refine d_val (s_pickT rfl rfl rfl) rfl ?_
  refine d_val (s_move rfl rfl) rfl ?_
  refine dn_val rfl rfl rfl rfl rfl rfl (by decide) ?_
  refine dn_val rfl rfl rfl rfl rfl rfl (by decide) ?_
  refine dn_val rfl rfl rfl rfl rfl rfl (by decide) ?_
  refine d_val (s_pickT rfl rfl rfl) rfl ?_
  refine d_val (s_move rfl rfl) rfl ?_
  refine dn_val rfl rfl rfl rfl rfl rfl (by decide) ?_
  refine dn_val rfl rfl rfl rfl rfl rfl (by decide) ?_
  refine dn_val rfl rfl rfl rfl rfl rfl (by decide) ?_
  refine dn_val rfl rfl rfl rfl rfl rfl (by decide) ?_
  refine dn_val rfl rfl rfl rfl rfl rfl (by decide) ?_
  refine d_val (s_pickT rfl rfl rfl) rfl ?_
  refine d_nil rfl ?_
  exact (leE_same (by repeat (first | exact letm_nil _ _ | refine letm_cons rfl ?_ ?_ | exact .same _ | exact .nl (by decide) (by decide) | exact .nn | exact .id' rfl | exact .id' (by first | (exfalso; rw [hg23] at hg34; cases hg34; done) | (exact AB_true fun hh => by obtain ⟨h1, h2, h3, h4, h5⟩ := hhd.1 hh; first | omega | (simp_all; done) | (simp_all; omega)) | exact AB_dec ⟨fun hh => by have := (hhd.1 hh).2.2.2.2; omega, fun hn => hhd.2 ⟨by assumption, by omega, fun h3 => by first | omega | (rw [hg23] at h3; cases h3), fun h4 => by first | omega | (rw [hg34] at h4; cases h4), by omega⟩⟩))) (by repeat (first | exact lehp_nil _ _ | refine lehp_cons rfl ?_ ?_ | exact leB_same _ | exact leB_row (by first | rfl | (first | (exfalso; rw [hg23] at hg34; cases hg34; done) | (exact AB_true fun hh => by obtain ⟨h1, h2, h3, h4, h5⟩ := hhd.1 hh; first | omega | (simp_all; done) | (simp_all; omega)) | exact AB_dec ⟨fun hh => by have := (hhd.1 hh).2.2.2.2; omega, fun hn => hhd.2 ⟨by assumption, by omega, fun h3 => by first | omega | (rw [hg23] at h3; cases h3), fun h4 => by first | omega | (rw [hg34] at h4; cases h4), by omega⟩⟩)) | exact leB_obj (by first | (exfalso; rw [hg23] at hg34; cases hg34; done) | (exact AB_true fun hh => by obtain ⟨h1, h2, h3, h4, h5⟩ := hhd.1 hh; first | omega | (simp_all; done) | (simp_all; omega)) | exact AB_dec ⟨fun hh => by have := (hhd.1 hh).2.2.2.2; omega, fun hn => hhd.2 ⟨by assumption, by omega, fun h3 => by first | omega | (rw [hg23] at h3; cases h3), fun h4 => by first | omega | (rw [hg34] at h4; cases h4), by omega⟩⟩) | exact leB_nest (by first | rfl | (first | (exfalso; rw [hg23] at hg34; cases hg34; done) | (exact AB_true fun hh => by obtain ⟨h1, h2, h3, h4, h5⟩ := hhd.1 hh; first | omega | (simp_all; done) | (simp_all; omega)) | exact AB_dec ⟨fun hh => by have := (hhd.1 hh).2.2.2.2; omega, fun hn => hhd.2 ⟨by assumption, by omega, fun h3 => by first | omega | (rw [hg23] at h3; cases h3), fun h4 => by first | omega | (rw [hg34] at h4; cases h4), by omega⟩⟩)) | refine leB_box ?_ | exact leL_nil | refine leL_cons ?_ ?_ | exact .same _ | exact .nl (by decide) (by decide) | exact .nn | exact .id' rfl | exact .id' (by first | (exfalso; rw [hg23] at hg34; cases hg34; done) | (exact AB_true fun hh => by obtain ⟨h1, h2, h3, h4, h5⟩ := hhd.1 hh; first | omega | (simp_all; done) | (simp_all; omega)) | exact AB_dec ⟨fun hh => by have := (hhd.1 hh).2.2.2.2; omega, fun hn => hhd.2 ⟨by assumption, by omega, fun h3 => by first | omega | (rw [hg23] at h3; cases h3), fun h4 => by first | omega | (rw [hg34] at h4; cases h4), by omega⟩⟩))) rfl)
  rw [← hg19]; replace hg19 := hg19.symm
  simp only [Bool.not_eq_true', decide_eq_false_iff_not] at hg19
  refine dn_val rfl rfl rfl rfl rfl rfl (by decide) ?_
  refine dn_val rfl rfl rfl rfl rfl rfl (by decide) ?_
  refine dn_val rfl rfl rfl rfl rfl rfl (by decide) ?_
  refine dn_val rfl rfl rfl rfl rfl rfl (by decide) ?_
  refine dz_val rfl rfl rfl rfl rfl rfl ?_
  refine dz_val rfl rfl rfl rfl rfl rfl ?_
  refine dz_val rfl rfl rfl rfl rfl rfl ?_
  refine dz_val rfl rfl rfl rfl rfl rfl ?_
  refine dz_val rfl rfl rfl rfl rfl rfl ?_
  refine dn_val rfl rfl rfl rfl rfl rfl (by decide) ?_
  refine d_val (s_pickT rfl rfl rfl) rfl ?_
  refine d_val (s_move rfl rfl) rfl ?_
  refine dn_val rfl rfl rfl rfl rfl rfl (by decide) ?_
  refine dn_val rfl rfl rfl rfl rfl rfl (by decide) ?_
  refine dn_val rfl rfl rfl rfl rfl rfl (by decide) ?_
  refine dz_val rfl rfl rfl rfl rfl rfl ?_
  refine dz_val rfl rfl rfl rfl rfl rfl ?_
  refine dz_val rfl rfl rfl rfl rfl rfl ?_
  refine dn_val rfl rfl rfl rfl rfl rfl (by decide) ?_
  refine d_val (s_pickT rfl rfl rfl) rfl ?_
  refine d_val (s_move rfl rfl) rfl ?_
  refine dn_val rfl rfl rfl rfl rfl rfl (by decide) ?_
  refine dn_val rfl rfl rfl rfl rfl rfl (by decide) ?_
  refine dn_val rfl rfl rfl rfl rfl rfl (by decide) ?_
  refine d_val (s_pickT rfl rfl rfl) rfl ?_
  refine d_val (s_move rfl rfl) rfl ?_
  refine dn_val rfl rfl rfl rfl rfl rfl (by decide) ?_
  refine dn_val rfl rfl rfl rfl rfl rfl (by decide) ?_
  refine dn_val rfl rfl rfl rfl rfl rfl (by decide) ?_
  refine dn_val rfl rfl rfl rfl rfl rfl (by decide) ?_
  refine dn_val rfl rfl rfl rfl rfl rfl (by decide) ?_
  refine d_val (s_pickT rfl rfl rfl) rfl ?_
  refine d_nil rfl ?_
  exact (leE_same (by repeat (first | exact letm_nil _ _ | refine letm_cons rfl ?_ ?_ | exact .same _ | exact .nl (by decide) (by decide) | exact .nn | exact .id' rfl | exact .id' (by first | (exfalso; rw [hg23] at hg34; cases hg34; done) | (exact AB_true fun hh => by obtain ⟨h1, h2, h3, h4, h5⟩ := hhd.1 hh; first | omega | (simp_all; done) | (simp_all; omega)) | exact AB_dec ⟨fun hh => by have := (hhd.1 hh).2.2.2.2; omega, fun hn => hhd.2 ⟨by assumption, by omega, fun h3 => by first | omega | (rw [hg23] at h3; cases h3), fun h4 => by first | omega | (rw [hg34] at h4; cases h4), by omega⟩⟩))) (by repeat (first | exact lehp_nil _ _ | refine lehp_cons rfl ?_ ?_ | exact leB_same _ | exact leB_row (by first | rfl | (first | (exfalso; rw [hg23] at hg34; cases hg34; done) | (exact AB_true fun hh => by obtain ⟨h1, h2, h3, h4, h5⟩ := hhd.1 hh; first | omega | (simp_all; done) | (simp_all; omega)) | exact AB_dec ⟨fun hh => by have := (hhd.1 hh).2.2.2.2; omega, fun hn => hhd.2 ⟨by assumption, by omega, fun h3 => by first | omega | (rw [hg23] at h3; cases h3), fun h4 => by first | omega | (rw [hg34] at h4; cases h4), by omega⟩⟩)) | exact leB_obj (by first | (exfalso; rw [hg23] at hg34; cases hg34; done) | (exact AB_true fun hh => by obtain ⟨h1, h2, h3, h4, h5⟩ := hhd.1 hh; first | omega | (simp_all; done) | (simp_all; omega)) | exact AB_dec ⟨fun hh => by have := (hhd.1 hh).2.2.2.2; omega, fun hn => hhd.2 ⟨by assumption, by omega, fun h3 => by first | omega | (rw [hg23] at h3; cases h3), fun h4 => by first | omega | (rw [hg34] at h4; cases h4), by omega⟩⟩) | exact leB_nest (by first | rfl | (first | (exfalso; rw [hg23] at hg34; cases hg34; done) | (exact AB_true fun hh => by obtain ⟨h1, h2, h3, h4, h5⟩ := hhd.1 hh; first | omega | (simp_all; done) | (simp_all; omega)) | exact AB_dec ⟨fun hh => by have := (hhd.1 hh).2.2.2.2; omega, fun hn => hhd.2 ⟨by assumption, by omega, fun h3 => by first | omega | (rw [hg23] at h3; cases h3), fun h4 => by first | omega | (rw [hg34] at h4; cases h4), by omega⟩⟩)) | refine leB_box ?_ | exact leL_nil | refine leL_cons ?_ ?_ | exact .same _ | exact .nl (by decide) (by decide) | exact .nn | exact .id' rfl | exact .id' (by first | (exfalso; rw [hg23] at hg34; cases hg34; done) | (exact AB_true fun hh => by obtain ⟨h1, h2, h3, h4, h5⟩ := hhd.1 hh; first | omega | (simp_all; done) | (simp_all; omega)) | exact AB_dec ⟨fun hh => by have := (hhd.1 hh).2.2.2.2; omega, fun hn => hhd.2 ⟨by assumption, by omega, fun h3 => by first | omega | (rw [hg23] at h3; cases h3), fun h4 => by first | omega | (rw [hg34] at h4; cases h4), by omega⟩⟩))) rfl)
  rw [← hg11]; replace hg11 := hg11.symm
  simp only [Bool.not_eq_true', decide_eq_false_iff_not] at hg11
  refine dn_val rfl rfl rfl rfl rfl rfl (by decide) ?_
  refine dn_val rfl rfl rfl rfl rfl rfl (by decide) ?_
  refine dn_val rfl rfl rfl rfl rfl rfl (by decide) ?_
  refine dn_val rfl rfl rfl rfl rfl rfl (by decide) ?_
  refine dn_val rfl rfl rfl rfl rfl rfl (by decide) ?_
  refine dn_val rfl rfl rfl rfl rfl rfl (by decide) ?_
  refine d_val (s_pickT rfl rfl rfl) rfl ?_
  refine d_val (s_move rfl rfl) rfl ?_
  refine dn_val rfl rfl rfl rfl rfl rfl (by decide) ?_
  refine dn_val rfl rfl rfl rfl rfl rfl (by decide) ?_
  refine dn_val rfl rfl rfl rfl rfl rfl (by decide) ?_
  refine dn_val rfl rfl rfl rfl rfl rfl (by decide) ?_
  refine dz_val rfl rfl rfl rfl rfl rfl ?_
  refine dz_val rfl rfl rfl rfl rfl rfl ?_
  refine dz_val rfl rfl rfl rfl rfl rfl ?_
  refine dz_val rfl rfl rfl rfl rfl rfl ?_
  refine dz_val rfl rfl rfl rfl rfl rfl ?_
  refine dn_val rfl rfl rfl rfl rfl rfl (by decide) ?_
  refine d_val (s_pickT rfl rfl rfl) rfl ?_
  refine d_val (s_move rfl rfl) rfl ?_
  refine dn_val rfl rfl rfl rfl rfl rfl (by decide) ?_
  refine dn_val rfl rfl rfl rfl rfl rfl (by decide) ?_
  refine dn_val rfl rfl rfl rfl rfl rfl (by decide) ?_
  refine dz_val rfl rfl rfl rfl rfl rfl ?_
  refine dz_val rfl rfl rfl rfl rfl rfl ?_
  refine dz_val rfl rfl rfl rfl rfl rfl ?_
  refine dn_val rfl rfl rfl rfl rfl rfl (by decide) ?_
  refine d_val (s_pickT rfl rfl rfl) rfl ?_
  refine d_val (s_move rfl rfl) rfl ?_
  refine dn_val rfl rfl rfl rfl rfl rfl (by decide) ?_
  refine dn_val rfl rfl rfl rfl rfl rfl (by decide) ?_
  refine dn_val rfl rfl rfl rfl rfl rfl (by decide) ?_
  refine d_val (s_pickT rfl rfl rfl) rfl ?_
  refine d_val (s_move rfl rfl) rfl ?_
  refine dn_val rfl rfl rfl rfl rfl rfl (by decide) ?_
  refine dn_val rfl rfl rfl rfl rfl rfl (by decide) ?_
  refine dn_val rfl rfl rfl rfl rfl rfl (by decide) ?_
  refine dn_val rfl rfl rfl rfl rfl rfl (by decide) ?_
  refine dn_val rfl rfl rfl rfl rfl rfl (by decide) ?_
  refine d_val (s_pickT rfl rfl rfl) rfl ?_
  refine d_nil rfl ?_
  exact (leE_same (by repeat (first | exact letm_nil _ _ | refine letm_cons rfl ?_ ?_ | exact .same _ | exact .nl (by decide) (by decide) | exact .nn | exact .id' rfl | exact .id' (by first | (exfalso; rw [hg23] at hg34; cases hg34; done) | (exact AB_true fun hh => by obtain ⟨h1, h2, h3, h4, h5⟩ := hhd.1 hh; first | omega | (simp_all; done) | (simp_all; omega)) | exact AB_dec ⟨fun hh => by have := (hhd.1 hh).2.2.2.2; omega, fun hn => hhd.2 ⟨by assumption, by omega, fun h3 => by first | omega | (rw [hg23] at h3; cases h3), fun h4 => by first | omega | (rw [hg34] at h4; cases h4), by omega⟩⟩))) (by repeat (first | exact lehp_nil _ _ | refine lehp_cons rfl ?_ ?_ | exact leB_same _ | exact leB_row (by first | rfl | (first | (exfalso; rw [hg23] at hg34; cases hg34; done) | (exact AB_true fun hh => by obtain ⟨h1, h2, h3, h4, h5⟩ := hhd.1 hh; first | omega | (simp_all; done) | (simp_all; omega)) | exact AB_dec ⟨fun hh => by have := (hhd.1 hh).2.2.2.2; omega, fun hn => hhd.2 ⟨by assumption, by omega, fun h3 => by first | omega | (rw [hg23] at h3; cases h3), fun h4 => by first | omega | (rw [hg34] at h4; cases h4), by omega⟩⟩)) | exact leB_obj (by first | (exfalso; rw [hg23] at hg34; cases hg34; done) | (exact AB_true fun hh => by obtain ⟨h1, h2, h3, h4, h5⟩ := hhd.1 hh; first | omega | (simp_all; done) | (simp_all; omega)) | exact AB_dec ⟨fun hh => by have := (hhd.1 hh).2.2.2.2; omega, fun hn => hhd.2 ⟨by assumption, by omega, fun h3 => by first | omega | (rw [hg23] at h3; cases h3), fun h4 => by first | omega | (rw [hg34] at h4; cases h4), by omega⟩⟩) | exact leB_nest (by first | rfl | (first | (exfalso; rw [hg23] at hg34; cases hg34; done) | (exact AB_true fun hh => by obtain ⟨h1, h2, h3, h4, h5⟩ := hhd.1 hh; first | omega | (simp_all; done) | (simp_all; omega)) | exact AB_dec ⟨fun hh => by have := (hhd.1 hh).2.2.2.2; omega, fun hn => hhd.2 ⟨by assumption, by omega, fun h3 => by first | omega | (rw [hg23] at h3; cases h3), fun h4 => by first | omega | (rw [hg34] at h4; cases h4), by omega⟩⟩)) | refine leB_box ?_ | exact leL_nil | refine leL_cons ?_ ?_ | exact .same _ | exact .nl (by decide) (by decide) | exact .nn | exact .id' rfl | exact .id' (by first | (exfalso; rw [hg23] at hg34; cases hg34; done) | (exact AB_true fun hh => by obtain ⟨h1, h2, h3, h4, h5⟩ := hhd.1 hh; first | omega | (simp_all; done) | (simp_all; omega)) | exact AB_dec ⟨fun hh => by have := (hhd.1 hh).2.2.2.2; omega, fun hn => hhd.2 ⟨by assumption, by omega, fun h3 => by first | omega | (rw [hg23] at h3; cases h3), fun h4 => by first | omega | (rw [hg34] at h4; cases h4), by omega⟩⟩))) rfl)
  refine vc_cond rfl (fun hc51 => ?_) (fun hc51 => ?_)
  simp only [Bool.not_eq_true'] at hc51
  rw [show rightB v = false from Bool.eq_false_iff.2 fun hr => by obtain ⟨h1, h2, h3, h4, h5, h6, h7⟩ := hri.1 hr; have := hhd.2 ⟨h1, h2, h3, h4, h5⟩; simp_all]
  refine vc_rseq mixed ?_
  refine g_val (s_assign rfl rfl) rfl ?_
  refine g_nil ?_
  exact vc_ret (ret_of _ (.cons (.tmp rfl) .nil) rfl rfl)
  simp only [Bool.not_eq_false'] at hc51
  refine vc_skip ?_
  have hhv : headB' v = true := by simpa using hc51
  obtain ⟨g1, g2, g3, g4, g5⟩ := hhd.1 hhv
  refine vc_rseq mixed ?_
  refine g_val (s_field rfl rfl rfl rfl) rfl ?_
  refine g_val (s_load rfl rfl rfl rfl) rfl ?_
  refine g_val (s_assign rfl rfl) rfl ?_
  refine g_nil ?_
  refine vc_seq ?_
  refine vc_rseq mixed ?_
  refine g_val (s_field rfl rfl rfl rfl) rfl ?_
  refine g_val (s_load rfl rfl rfl rfl) rfl ?_
  refine g_val (s_len rfl rfl) rfl ?_
  refine g_val (s_move rfl rfl) rfl ?_
  refine g_nil ?_
  refine vc_block ?_
  refine vc_while (α := Nat × Int) (fun s => ⟨[(1, .ref 1 0), (3, AI .i64 s.2), (55, .t (intsT v.pins)), (56, AI .i64 v.pins.length), (57, AI .i64 s.1)], [(1, some (.box ((volC v).map .t)))], [1]⟩) (fun s => s.1 ≤ v.pins.length ∧ pinsB v.writes.length s.2 (v.pins.drop s.1) = pinsB v.writes.length v.floor v.pins) (fun s => v.pins.length - s.1) (0, v.floor) (leE_same (by repeat (first | exact letm_nil _ _ | refine letm_cons rfl ?_ ?_ | exact .same _ | exact .nl (by decide) (by decide) | exact .nn | exact .id' rfl | exact .id' (by simp; done))) (by repeat (first | exact lehp_nil _ _ | refine lehp_cons rfl ?_ ?_ | exact leB_same _ | exact leB_row (by first | rfl | (simp; done)) | exact leB_obj (by simp; done) | exact leB_nest (by first | rfl | (simp; done)) | refine leB_box ?_ | exact leL_nil | refine leL_cons ?_ ?_ | exact .same _ | exact .nl (by decide) (by decide) | exact .nn | exact .id' rfl | exact .id' (by simp; done))) rfl) ⟨Nat.zero_le _, rfl⟩ (fun s ⟨hs1, hs2⟩ => ?_)
  obtain ⟨i, last⟩ := s
  simp only at hs1 hs2
  refine vc_rseq mixed ?_
  refine g_val (s_lss rfl rfl rfl) rfl ?_
  refine g_nil ?_
  refine vc_seq ?_
  refine vc_cond rfl (fun hc58 => ?_) (fun hc58 => ?_)
  replace hc58 := of_decide_eq_true hc58
  try simp only [List.length_map, ne_eq, Decidable.not_not, Int.not_lt, Int.not_le, ge_iff_le, gt_iff_lt, Bool.not_eq_true', Bool.not_eq_false', decide_eq_true_eq, decide_eq_false_iff_not] at hc58
  obtain ⟨x, hx⟩ := get_of_lt (l := v.pins) (i := i) (by omega)
  rw [pinsB_drop hx] at hs2
  refine vc_skip ?_
  refine vc_seq ?_
  refine vc_block ?_
  refine vc_rseq mixed ?_
  refine g_val (s_index rfl rfl rfl (by omega) (idx_map hx)) rfl ?_
  refine g_val (s_loadT rfl rfl rfl) rfl ?_
  refine g_val (s_assign rfl rfl) rfl ?_
  refine g_nil ?_
  refine vc_seq ?_
  refine vc_rseq mixed ?_
  refine g_val (s_move rfl rfl) rfl ?_
  refine g_val (s_move rfl rfl) rfl ?_
  refine g_val (s_lss rfl rfl rfl) rfl ?_
  refine g_val (s_move rfl rfl) rfl ?_
  refine g_probe (j := 64) rfl (fun c hg64 => ?_)
  cases c
  rw [← hg64]; replace hg64 := hg64.symm; replace hg64 := of_decide_eq_false hg64
  simp only [Int.not_lt] at hg64
  refine gq_val (s_move rfl rfl) rfl rfl rfl rfl ?_
  refine gq_val (s_loadA rfl rfl rfl rfl rfl) rfl rfl rfl rfl ?_
  refine gq_val (s_call [] (c_volume_Len v) (evArgs_cons rfl evArgs_nil) trivial rfl (okVL_nil _) rfl (.inl rfl) rfl) rfl rfl rfl rfl ?_
  refine gq_val (s_gtr rfl rfl rfl) rfl rfl rfl rfl ?_
  refine g_val (s_pickF rfl rfl rfl) rfl ?_
  refine g_nil ?_
  refine vc_cond rfl (fun hc69 => ?_) (fun hc69 => ?_)
  replace hc69 := of_decide_eq_true hc69
  rw [show rightB v = false from Bool.eq_false_iff.2 fun hr => by obtain ⟨h1, h2, h3, h4, h5, h6, h7⟩ := hri.1 hr; rw [← hs2, Bool.and_eq_true, decide_eq_true_eq] at h6; omega]
  refine vc_rseq mixed ?_
  refine g_val (s_assign rfl rfl) rfl ?_
  refine g_nil ?_
  exact vc_ret (ret_of _ (.cons (.tmp rfl) .nil) rfl rfl)
  replace hc69 := of_decide_eq_false hc69
  simp only [Int.not_lt] at hc69
  refine vc_skip ?_
  refine vc_region mixed ?_
  refine g_val (s_move rfl rfl) rfl ?_
  refine g_val (s_assign rfl rfl) rfl ?_
  refine g_nil ?_
  refine vc_region mixed ?_
  refine g_val (s_add rfl rfl rfl (by simp only [inI, kMin, kMax]; omega)) rfl ?_
  refine g_val (s_move rfl rfl) rfl ?_
  refine g_nil ?_
  exact ⟨(i + 1, x), ⟨by simp only; omega, by simp only; rw [← hs2, decide_eq_true (show last ≤ x ∧ x ≤ (v.writes.length : Int) by omega), Bool.true_and]⟩, by simp only; omega, (leE_same (by repeat (first | exact letm_nil _ _ | refine letm_cons rfl ?_ ?_ | exact .same _ | exact .nl (by decide) (by decide) | exact .nn | exact .id' rfl | exact .id' (by simp; done))) (by repeat (first | exact lehp_nil _ _ | refine lehp_cons rfl ?_ ?_ | exact leB_same _ | exact leB_row (by first | rfl | (simp; done)) | exact leB_obj (by simp; done) | exact leB_nest (by first | rfl | (simp; done)) | refine leB_box ?_ | exact leL_nil | refine leL_cons ?_ ?_ | exact .same _ | exact .nl (by decide) (by decide) | exact .nn | exact .id' rfl | exact .id' (by simp; done))) rfl)⟩
  rw [← hg64]; replace hg64 := hg64.symm; replace hg64 := of_decide_eq_true hg64
  try simp only [List.length_map, ne_eq, Decidable.not_not, Int.not_lt, Int.not_le, ge_iff_le, gt_iff_lt, Bool.not_eq_true', Bool.not_eq_false', decide_eq_true_eq, decide_eq_false_iff_not] at hg64
  refine gn_val rfl rfl rfl rfl rfl rfl (by decide) ?_
  refine gn_val rfl rfl rfl rfl rfl rfl (by decide) ?_
  refine gn_val rfl rfl rfl rfl rfl rfl (by decide) ?_
  refine gn_val rfl rfl rfl rfl rfl rfl (by decide) ?_
  refine g_val (s_pickT rfl rfl rfl) rfl ?_
  refine g_nil ?_
  refine vc_cond rfl (fun _ => ?_) (fun h => by cases h)
  rw [show rightB v = false from Bool.eq_false_iff.2 fun hr => by obtain ⟨h1, h2, h3, h4, h5, h6, h7⟩ := hri.1 hr; rw [← hs2, Bool.and_eq_true, decide_eq_true_eq] at h6; omega]
  refine vc_rseq mixed ?_
  refine g_val (s_assign rfl rfl) rfl ?_
  refine g_nil ?_
  exact vc_ret (ret_of _ (.cons (.tmp rfl) .nil) rfl rfl)
  replace hc58 := of_decide_eq_false hc58
  simp only [Int.not_lt] at hc58
  refine vc_exit ?_
  refine vc_seq ?_
  have hpins : pinsB v.writes.length v.floor v.pins = true := by rw [← hs2, List.drop_of_length_le (by omega)]; rfl
  refine vc_rseq mixed ?_
  refine g_val (s_field rfl rfl rfl rfl) rfl ?_
  refine g_val (s_load rfl rfl rfl rfl) rfl ?_
  refine g_val (s_len rfl rfl) rfl ?_
  refine g_val (s_move rfl rfl) rfl ?_
  refine g_nil ?_
  refine vc_block ?_
  refine vc_up v.writes.length (fun i => ⟨[(1, .ref 1 0), (73, .t (writesT v.writes)), (74, AI .i64 v.writes.length), (75, AI .i64 i)], [(1, some (.box ((volC v).map .t)))], [1]⟩) (fun i => wrB v.blocks v.size i (v.writes.drop i) = wrB v.blocks v.size 0 v.writes) (leE_same (by repeat (first | exact letm_nil _ _ | refine letm_cons rfl ?_ ?_ | exact .same _ | exact .nl (by decide) (by decide) | exact .nn | exact .id' rfl | exact .id' (by simp; done))) (by repeat (first | exact lehp_nil _ _ | refine lehp_cons rfl ?_ ?_ | exact leB_same _ | exact leB_row (by first | rfl | (simp; done)) | exact leB_obj (by simp; done) | exact leB_nest (by first | rfl | (simp; done)) | refine leB_box ?_ | exact leL_nil | refine leL_cons ?_ ?_ | exact .same _ | exact .nl (by decide) (by decide) | exact .nn | exact .id' rfl | exact .id' (by simp; done))) rfl) rfl (fun i' hi' hJ => ?_)
  refine vc_rseq mixed ?_
  refine g_val (s_lss rfl rfl rfl) rfl ?_
  refine g_nil ?_
  refine vc_seq ?_
  refine vc_cond rfl (fun hc76 => ?_) (fun hc76 => ?_)
  replace hc76 := of_decide_eq_true hc76
  obtain ⟨w, hw⟩ := get_of_lt (l := v.writes) (i := i') (by omega)
  rw [wrB_drop hw] at hJ
  refine vc_skip ?_
  refine vc_seq ?_
  refine vc_block ?_
  refine vc_rseq mixed ?_
  refine g_val (s_move rfl rfl) rfl ?_
  refine g_val (s_index rfl rfl rfl (by omega) (idx_map hw)) rfl ?_
  refine g_val (s_loadTA rfl rfl rfl) rfl ?_
  refine g_new (s_alloc 7 rfl rfl) rfl ?_
  refine g_val (s_assign rfl rfl) rfl ?_
  refine g_sto (s_store rfl rfl rfl rfl rfl rfl) rfl ?_
  refine g_nil ?_
  refine vc_rseq mixed ?_
  refine g_val (s_field rfl rfl rfl rfl) rfl ?_
  refine g_val (s_load rfl rfl rfl rfl) rfl ?_
  refine g_val (s_move rfl rfl) rfl ?_
  refine g_val (s_add rfl rfl rfl (by simp only [inI, kMin, kMax]; omega)) rfl ?_
  refine g_val (s_neq rfl rfl rfl) rfl ?_
  refine g_val (s_move rfl rfl) rfl ?_
  refine g_probe (j := 85) rfl (fun c hg85 => ?_)
  cases c
  rw [← hg85]; replace hg85 := hg85.symm; replace hg85 := of_decide_eq_false hg85
  simp only [ne_eq, Decidable.not_not] at hg85
  refine gq_val (s_field rfl rfl rfl rfl) rfl rfl rfl rfl ?_
  refine gq_val (s_load rfl rfl rfl rfl) rfl rfl rfl rfl ?_
  refine gq_val (s_field rfl rfl rfl rfl) rfl rfl rfl rfl ?_
  refine gq_val (s_load rfl rfl rfl rfl) rfl rfl rfl rfl ?_
  refine gq_val (s_field rfl rfl rfl rfl) rfl rfl rfl rfl ?_
  refine gq_val (s_load rfl rfl rfl rfl) rfl rfl rfl rfl ?_
  refine gq_val (s_call [] (c_volume_ItemsRight v.blocks v.size w.items) (evArgs_cons rfl (evArgs_cons rfl (evArgs_cons rfl evArgs_nil))) trivial rfl (okVL_nil _) rfl (.inl rfl) rfl) rfl rfl rfl rfl ?_
  refine gq_val (s_not rfl rfl) rfl rfl rfl rfl ?_
  refine g_val (s_pickF rfl rfl rfl) rfl ?_
  refine g_nil ?_
  refine vc_cond rfl (fun hc94 => ?_) (fun hc94 => ?_)
  simp only [Bool.not_eq_true', decide_eq_false_iff_not] at hc94
  rw [show rightB v = false from Bool.eq_false_iff.2 fun hr => by obtain ⟨h1, h2, h3, h4, h5, h6, h7⟩ := hri.1 hr; rw [← hJ, Bool.and_eq_true, decide_eq_true_eq] at h7; first | omega | (simp_all; done) | (simp_all; omega)]
  refine vc_rseq mixed ?_
  refine g_val (s_assign rfl rfl) rfl ?_
  refine g_nil ?_
  exact vc_ret (ret_of _ (.cons (.tmp rfl) .nil) rfl rfl)
  simp only [Bool.not_eq_false', decide_eq_true_eq] at hc94
  refine vc_skip ?_
  refine vc_region mixed ?_
  refine g_val (s_add rfl rfl rfl (by simp only [inI, kMin, kMax]; omega)) rfl ?_
  refine g_val (s_move rfl rfl) rfl ?_
  refine g_nil ?_
  exact ⟨by omega, by rw [← hJ, decide_eq_true (show w.seq = (i' : Int) + 1 ∧ itemsOK v.blocks v.size w.items from ⟨by omega, by simp_all⟩), Bool.true_and], (leE_same (by repeat (first | exact letm_nil _ _ | refine letm_cons rfl ?_ ?_ | exact .same _ | exact .nl (by decide) (by decide) | exact .nn | exact .id' rfl | exact .id' (by simp; done))) (by repeat (first | exact lehp_nil _ _ | refine lehp_cons rfl ?_ ?_ | exact leB_same _ | exact leB_row (by first | rfl | (simp; done)) | exact leB_obj (by simp; done) | exact leB_nest (by first | rfl | (simp; done)) | refine leB_box ?_ | exact leL_nil | refine leL_cons ?_ ?_ | exact .same _ | exact .nl (by decide) (by decide) | exact .nn | exact .id' rfl | exact .id' (by simp; done))) rfl)⟩
  rw [← hg85]; replace hg85 := hg85.symm; replace hg85 := of_decide_eq_true hg85
  simp only [ne_eq] at hg85
  refine gn_val rfl rfl rfl rfl rfl rfl (by decide) ?_
  refine gn_val rfl rfl rfl rfl rfl rfl (by decide) ?_
  refine gn_val rfl rfl rfl rfl rfl rfl (by decide) ?_
  refine gn_val rfl rfl rfl rfl rfl rfl (by decide) ?_
  refine gn_val rfl rfl rfl rfl rfl rfl (by decide) ?_
  refine gn_val rfl rfl rfl rfl rfl rfl (by decide) ?_
  refine gn_val rfl rfl rfl rfl rfl rfl (by decide) ?_
  refine gn_val rfl rfl rfl rfl rfl rfl (by decide) ?_
  refine g_val (s_pickT rfl rfl rfl) rfl ?_
  refine g_nil ?_
  refine vc_cond rfl (fun _ => ?_) (fun h => by cases h)
  rw [show rightB v = false from Bool.eq_false_iff.2 fun hr => by obtain ⟨h1, h2, h3, h4, h5, h6, h7⟩ := hri.1 hr; rw [← hJ, Bool.and_eq_true, decide_eq_true_eq] at h7; first | omega | (simp_all; done) | (simp_all; omega)]
  refine vc_rseq mixed ?_
  refine g_val (s_assign rfl rfl) rfl ?_
  refine g_nil ?_
  exact vc_ret (ret_of _ (.cons (.tmp rfl) .nil) rfl rfl)
  replace hc76 := of_decide_eq_false hc76
  simp only [Int.not_lt] at hc76
  refine vc_exit ?_
  have hwr : wrB v.blocks v.size 0 v.writes = true := by rw [← hJ, List.drop_of_length_le (by omega)]; rfl
  have hr : rightB v = true := hri.2 ⟨g1, g2, g3, g4, g5, hpins, hwr⟩
  rw [hr]
  refine vc_rseq mixed ?_
  refine g_val (s_assign rfl rfl) rfl ?_
  refine g_nil ?_
  exact vc_ret (ret_of _ (.cons (.tmp rfl) .nil) rfl rfl)

end Go.Eng

set_option maxHeartbeats 8000000
namespace Go.Eng
open Go.Proofs

structure PushCmd where
  vol : Int
  chunk : Int
  count : Int
  size : Int
  frm : Int
  to : Int
  floor : Int
  writes : List Write
deriving DecidableEq
def pshC (p : PushCmd) : List T := [i64 p.vol, i64 p.chunk, i64 p.count, i64 p.size, i64 p.frm, i64 p.to, i64 p.floor, writesT p.writes]
def pshZ : PushCmd := ⟨0, 0, 0, 0, 0, 0, 0, []⟩
def pushI (first count : Int) (l : List Item) : List Item := l.filterMap fun x => if 0 ≤ x.block - first ∧ x.block - first < count then some ⟨x.block - first, x.data⟩ else none
def pushW (first count : Int) (ws : List Write) : List Write := ws.filterMap fun w => if pushI first count w.items = [] then none else some ⟨w.seq, pushI first count w.items⟩
def pushOK (v : Volume) (chunk mark : Int) : Bool := decide (0 ≤ chunk ∧ chunk < v.place.length ∧ 0 ≤ mark ∧ mark ≤ v.writes.length)
def pushP (v : Volume) (chunk mark : Int) : PushCmd :=
  let count := min v.per (v.blocks - chunk * v.per)
  let to := min (mark + 4) v.writes.length
  ⟨v.id, chunk, count, v.size, mark, to, min v.floor to, pushW (chunk * v.per) count ((v.writes.take to.toNat).drop mark.toNat)⟩
def pushF (v : Volume) (chunk mark : Int) : PushCmd × Bool := if pushOK v chunk mark then (pushP v chunk mark, true) else (pshZ, false)

theorem pushI_snoc (f c : Int) (l : List Item) (x : Item) : pushI f c (l ++ [x]) = pushI f c l ++ (if 0 ≤ x.block - f ∧ x.block - f < c then [⟨x.block - f, x.data⟩] else []) := by
  simp only [pushI, List.filterMap_append, List.filterMap_cons, List.filterMap_nil]
  split <;> simp_all
theorem pushW_snoc (f c : Int) (l : List Write) (w : Write) : pushW f c (l ++ [w]) = pushW f c l ++ (if pushI f c w.items = [] then [] else [⟨w.seq, pushI f c w.items⟩]) := by
  simp only [pushW, List.filterMap_append, List.filterMap_cons, List.filterMap_nil]
  split <;> simp_all
theorem pushI_len (f c : Int) (l : List Item) : (pushI f c l).length ≤ l.length := List.length_filterMap_le ..
theorem pushW_len (f c : Int) (l : List Write) : (pushW f c l).length ≤ l.length := List.length_filterMap_le ..

theorem c_volume_Push (v : Volume) (chunk mark : Int) (hs : shapeOK v.id v.blocks v.size v.per v.place v.total) (hi0 : ∀ w ∈ v.writes, w.items.length ≤ 100 ∧ ∀ x ∈ w.items, 0 ≤ x.block ∧ x.block ≤ 1000) (hw : v.writes.length ≤ 1000000) :
    Con Try.prog 15 [sC (volC v), AI .i64 chunk, AI .i64 mark] [] (.tup [sC (pshC (pushF v chunk mark).1), AB (pushF v chunk mark).2]) [] := by
  refine con_intro [] [] Try.func15 rfl Try.ntmps15 Try.results15 rfl rfl ?_
  intro E
  have hpk : pushOK v chunk mark = true ↔ _ := decide_eq_true_iff (p := 0 ≤ chunk ∧ chunk < v.place.length ∧ 0 ≤ mark ∧ mark ≤ v.writes.length)
  unfold pushF
  obtain ⟨s1, s2, s3, s4, s5, s6, s7, s8, s9, s10, s11, s12⟩ := hs
  have hpl : (v.place.length : Int) ≤ 512 := by
    rw [s9]
    unfold chunksN
    have := Int.ediv_le_self (a := v.blocks + v.per - 1) v.per (by omega)
    omega
  refine vc_rseq mixed ?_
  refine g_new (s_box 3 rfl rfl rfl rfl) rfl ?_
  refine g_new (s_alloc 6 rfl rfl) rfl ?_
  refine g_val (s_assign rfl rfl) rfl ?_
  refine g_nil ?_
  refine vc_seq ?_
  refine vc_cut (⟨[(1, AI .i64 chunk), (2, AI .i64 mark), (3, .ref 3 0), (6, .ref 6 0), (7, AB false), (33, AB (!pushOK v chunk mark))], [(3, some (.box ((volC v).map .t))), (6, some (.box ((pshC pshZ).map .t)))], [3, 6]⟩) ?_ ?_
  refine vc_region mixed ?_
  refine g_val (s_move rfl rfl) rfl ?_
  refine g_val (s_lss rfl rfl rfl) rfl ?_
  refine g_val (s_move rfl rfl) rfl ?_
  refine g_probe (j := 17) rfl (fun c hg17 => ?_)
  cases c
  rw [← hg17]; replace hg17 := hg17.symm; replace hg17 := of_decide_eq_false hg17
  simp only [Int.not_lt] at hg17
  refine gq_val (s_move rfl rfl) rfl rfl rfl rfl ?_
  refine gq_val (s_field rfl rfl rfl rfl) rfl rfl rfl rfl ?_
  refine gq_val (s_load rfl rfl rfl rfl) rfl rfl rfl rfl ?_
  refine gq_val (s_len rfl rfl) rfl rfl rfl rfl ?_
  refine gq_val (s_geq rfl rfl rfl) rfl rfl rfl rfl ?_
  refine g_val (s_pickF rfl rfl rfl) rfl ?_
  refine g_val (s_move rfl rfl) rfl ?_
  refine g_probe (j := 24) rfl (fun c hg24 => ?_)
  cases c
  rw [← hg24]; replace hg24 := hg24.symm; replace hg24 := of_decide_eq_false hg24
  simp only [List.length_map, Int.not_le] at hg24
  refine gq_val (s_move rfl rfl) rfl rfl rfl rfl ?_
  refine gq_val (s_lss rfl rfl rfl) rfl rfl rfl rfl ?_
  refine g_val (s_pickF rfl rfl rfl) rfl ?_
  refine g_val (s_move rfl rfl) rfl ?_
  refine g_probe (j := 28) rfl (fun c hg28 => ?_)
  cases c
  rw [← hg28]; replace hg28 := hg28.symm; replace hg28 := of_decide_eq_false hg28
  simp only [Int.not_lt] at hg28
  refine gq_val (s_move rfl rfl) rfl rfl rfl rfl ?_
  refine gq_val (s_loadA rfl rfl rfl rfl rfl) rfl rfl rfl rfl ?_
  refine gq_val (s_call [] (c_volume_Len v) (evArgs_cons rfl evArgs_nil) trivial rfl (okVL_nil _) rfl (.inl rfl) rfl) rfl rfl rfl rfl ?_
  refine gq_val (s_gtr rfl rfl rfl) rfl rfl rfl rfl ?_
  refine g_val (s_pickF rfl rfl rfl) rfl ?_
  refine g_nil ?_
  exact (leE_same (by repeat (first | exact letm_nil _ _ | refine letm_cons rfl ?_ ?_ | exact .same _ | exact .nl (by decide) (by decide) | exact .nn | exact .id' rfl | exact .id' (by first | (exact AB_true fun hh => by have := hpk.1 hh; first | omega | (simp only [List.length_map] at *; omega)) | exact AB_dec ⟨fun hh => by have := hpk.1 hh; omega, fun hn => hpk.2 (by omega)⟩))) (by repeat (first | exact lehp_nil _ _ | refine lehp_cons rfl ?_ ?_ | exact leB_same _ | exact leB_row (by first | rfl | (first | (exact AB_true fun hh => by have := hpk.1 hh; first | omega | (simp only [List.length_map] at *; omega)) | exact AB_dec ⟨fun hh => by have := hpk.1 hh; omega, fun hn => hpk.2 (by omega)⟩)) | exact leB_obj (by first | (exact AB_true fun hh => by have := hpk.1 hh; first | omega | (simp only [List.length_map] at *; omega)) | exact AB_dec ⟨fun hh => by have := hpk.1 hh; omega, fun hn => hpk.2 (by omega)⟩) | exact leB_nest (by first | rfl | (first | (exact AB_true fun hh => by have := hpk.1 hh; first | omega | (simp only [List.length_map] at *; omega)) | exact AB_dec ⟨fun hh => by have := hpk.1 hh; omega, fun hn => hpk.2 (by omega)⟩)) | refine leB_box ?_ | exact leL_nil | refine leL_cons ?_ ?_ | exact .same _ | exact .nl (by decide) (by decide) | exact .nn | exact .id' rfl | exact .id' (by first | (exact AB_true fun hh => by have := hpk.1 hh; first | omega | (simp only [List.length_map] at *; omega)) | exact AB_dec ⟨fun hh => by have := hpk.1 hh; omega, fun hn => hpk.2 (by omega)⟩))) rfl)
  rw [← hg28]; replace hg28 := hg28.symm; replace hg28 := of_decide_eq_true hg28
  refine gn_val rfl rfl rfl rfl rfl rfl (by decide) ?_
  refine gn_val rfl rfl rfl rfl rfl rfl (by decide) ?_
  refine gn_val rfl rfl rfl rfl rfl rfl (by decide) ?_
  refine gn_val rfl rfl rfl rfl rfl rfl (by decide) ?_
  refine g_val (s_pickT rfl rfl rfl) rfl ?_
  refine g_nil ?_
  exact (leE_same (by repeat (first | exact letm_nil _ _ | refine letm_cons rfl ?_ ?_ | exact .same _ | exact .nl (by decide) (by decide) | exact .nn | exact .id' rfl | exact .id' (by first | (exact AB_true fun hh => by have := hpk.1 hh; first | omega | (simp only [List.length_map] at *; omega)) | exact AB_dec ⟨fun hh => by have := hpk.1 hh; omega, fun hn => hpk.2 (by omega)⟩))) (by repeat (first | exact lehp_nil _ _ | refine lehp_cons rfl ?_ ?_ | exact leB_same _ | exact leB_row (by first | rfl | (first | (exact AB_true fun hh => by have := hpk.1 hh; first | omega | (simp only [List.length_map] at *; omega)) | exact AB_dec ⟨fun hh => by have := hpk.1 hh; omega, fun hn => hpk.2 (by omega)⟩)) | exact leB_obj (by first | (exact AB_true fun hh => by have := hpk.1 hh; first | omega | (simp only [List.length_map] at *; omega)) | exact AB_dec ⟨fun hh => by have := hpk.1 hh; omega, fun hn => hpk.2 (by omega)⟩) | exact leB_nest (by first | rfl | (first | (exact AB_true fun hh => by have := hpk.1 hh; first | omega | (simp only [List.length_map] at *; omega)) | exact AB_dec ⟨fun hh => by have := hpk.1 hh; omega, fun hn => hpk.2 (by omega)⟩)) | refine leB_box ?_ | exact leL_nil | refine leL_cons ?_ ?_ | exact .same _ | exact .nl (by decide) (by decide) | exact .nn | exact .id' rfl | exact .id' (by first | (exact AB_true fun hh => by have := hpk.1 hh; first | omega | (simp only [List.length_map] at *; omega)) | exact AB_dec ⟨fun hh => by have := hpk.1 hh; omega, fun hn => hpk.2 (by omega)⟩))) rfl)
  rw [← hg24]; replace hg24 := hg24.symm; replace hg24 := of_decide_eq_true hg24
  simp only [List.length_map] at hg24
  refine gn_val rfl rfl rfl rfl rfl rfl (by decide) ?_
  refine gn_val rfl rfl rfl rfl rfl rfl (by decide) ?_
  refine g_val (s_pickT rfl rfl rfl) rfl ?_
  refine g_val (s_move rfl rfl) rfl ?_
  refine gn_val rfl rfl rfl rfl rfl rfl (by decide) ?_
  refine gn_val rfl rfl rfl rfl rfl rfl (by decide) ?_
  refine gn_val rfl rfl rfl rfl rfl rfl (by decide) ?_
  refine gn_val rfl rfl rfl rfl rfl rfl (by decide) ?_
  refine g_val (s_pickT rfl rfl rfl) rfl ?_
  refine g_nil ?_
  exact (leE_same (by repeat (first | exact letm_nil _ _ | refine letm_cons rfl ?_ ?_ | exact .same _ | exact .nl (by decide) (by decide) | exact .nn | exact .id' rfl | exact .id' (by first | (exact AB_true fun hh => by have := hpk.1 hh; first | omega | (simp only [List.length_map] at *; omega)) | exact AB_dec ⟨fun hh => by have := hpk.1 hh; omega, fun hn => hpk.2 (by omega)⟩))) (by repeat (first | exact lehp_nil _ _ | refine lehp_cons rfl ?_ ?_ | exact leB_same _ | exact leB_row (by first | rfl | (first | (exact AB_true fun hh => by have := hpk.1 hh; first | omega | (simp only [List.length_map] at *; omega)) | exact AB_dec ⟨fun hh => by have := hpk.1 hh; omega, fun hn => hpk.2 (by omega)⟩)) | exact leB_obj (by first | (exact AB_true fun hh => by have := hpk.1 hh; first | omega | (simp only [List.length_map] at *; omega)) | exact AB_dec ⟨fun hh => by have := hpk.1 hh; omega, fun hn => hpk.2 (by omega)⟩) | exact leB_nest (by first | rfl | (first | (exact AB_true fun hh => by have := hpk.1 hh; first | omega | (simp only [List.length_map] at *; omega)) | exact AB_dec ⟨fun hh => by have := hpk.1 hh; omega, fun hn => hpk.2 (by omega)⟩)) | refine leB_box ?_ | exact leL_nil | refine leL_cons ?_ ?_ | exact .same _ | exact .nl (by decide) (by decide) | exact .nn | exact .id' rfl | exact .id' (by first | (exact AB_true fun hh => by have := hpk.1 hh; first | omega | (simp only [List.length_map] at *; omega)) | exact AB_dec ⟨fun hh => by have := hpk.1 hh; omega, fun hn => hpk.2 (by omega)⟩))) rfl)
  rw [← hg17]; replace hg17 := hg17.symm; replace hg17 := of_decide_eq_true hg17
  refine gn_val rfl rfl rfl rfl rfl rfl (by decide) ?_
  refine gn_val rfl rfl rfl rfl rfl rfl (by decide) ?_
  refine gn_val rfl rfl rfl rfl rfl rfl (by decide) ?_
  refine gn_val rfl rfl rfl rfl rfl rfl (by decide) ?_
  refine gn_val rfl rfl rfl rfl rfl rfl (by decide) ?_
  refine g_val (s_pickT rfl rfl rfl) rfl ?_
  refine g_val (s_move rfl rfl) rfl ?_
  refine gn_val rfl rfl rfl rfl rfl rfl (by decide) ?_
  refine gn_val rfl rfl rfl rfl rfl rfl (by decide) ?_
  refine g_val (s_pickT rfl rfl rfl) rfl ?_
  refine g_val (s_move rfl rfl) rfl ?_
  refine gn_val rfl rfl rfl rfl rfl rfl (by decide) ?_
  refine gn_val rfl rfl rfl rfl rfl rfl (by decide) ?_
  refine gn_val rfl rfl rfl rfl rfl rfl (by decide) ?_
  refine gn_val rfl rfl rfl rfl rfl rfl (by decide) ?_
  refine g_val (s_pickT rfl rfl rfl) rfl ?_
  refine g_nil ?_
  exact (leE_same (by repeat (first | exact letm_nil _ _ | refine letm_cons rfl ?_ ?_ | exact .same _ | exact .nl (by decide) (by decide) | exact .nn | exact .id' rfl | exact .id' (by first | (exact AB_true fun hh => by have := hpk.1 hh; first | omega | (simp only [List.length_map] at *; omega)) | exact AB_dec ⟨fun hh => by have := hpk.1 hh; omega, fun hn => hpk.2 (by omega)⟩))) (by repeat (first | exact lehp_nil _ _ | refine lehp_cons rfl ?_ ?_ | exact leB_same _ | exact leB_row (by first | rfl | (first | (exact AB_true fun hh => by have := hpk.1 hh; first | omega | (simp only [List.length_map] at *; omega)) | exact AB_dec ⟨fun hh => by have := hpk.1 hh; omega, fun hn => hpk.2 (by omega)⟩)) | exact leB_obj (by first | (exact AB_true fun hh => by have := hpk.1 hh; first | omega | (simp only [List.length_map] at *; omega)) | exact AB_dec ⟨fun hh => by have := hpk.1 hh; omega, fun hn => hpk.2 (by omega)⟩) | exact leB_nest (by first | rfl | (first | (exact AB_true fun hh => by have := hpk.1 hh; first | omega | (simp only [List.length_map] at *; omega)) | exact AB_dec ⟨fun hh => by have := hpk.1 hh; omega, fun hn => hpk.2 (by omega)⟩)) | refine leB_box ?_ | exact leL_nil | refine leL_cons ?_ ?_ | exact .same _ | exact .nl (by decide) (by decide) | exact .nn | exact .id' rfl | exact .id' (by first | (exact AB_true fun hh => by have := hpk.1 hh; first | omega | (simp only [List.length_map] at *; omega)) | exact AB_dec ⟨fun hh => by have := hpk.1 hh; omega, fun hn => hpk.2 (by omega)⟩))) rfl)
  refine vc_cond rfl (fun hc33 => ?_) (fun hc33 => ?_)
  simp only [Bool.not_eq_true'] at hc33
  rw [show pushOK v chunk mark = false by simpa using hc33, if_neg (by decide)]
  refine vc_rseq mixed ?_
  refine g_val (s_build evArgs_nil rfl rfl rfl) rfl ?_
  refine g_sto (s_store rfl rfl rfl rfl rfl rfl) rfl ?_
  refine g_val (s_assign rfl rfl) rfl ?_
  refine g_nil ?_
  exact vc_ret (ret_le [] _ (.cons (.agg rfl rfl rfl rfl) (.cons (.tmp rfl) .nil)) trivial (by repeat (first | exact leL_nil | refine leL_cons ?_ ?_ | exact LeV.tt rfl | exact .nl (by decide) (by decide) | exact .nn | refine LeV.tupL ?_ | refine LeV.aggL ?_ | exact .eq (by first | exact trivial | (simp [AV.okV, okR, lkB]; done) | (simp [AV.okV, okR, lkB]; omega)) (by first | rfl | (simp [AV.view, viewR, lkB, AV.ren, List.take_of_length_le]; done) | (simp [AV.view, viewR, lkB, AV.ren, List.take_of_length_le]; done)))) rfl)
  simp only [Bool.not_eq_false'] at hc33
  refine vc_skip ?_
  have hpt : pushOK v chunk mark = true := by simpa using hc33
  obtain ⟨p1, p2, p3, p4⟩ := hpk.1 hpt
  rw [if_pos hpt]
  have hf0 : 0 ≤ chunk * v.per := Int.mul_nonneg p1 (by omega)
  have hf1 : chunk * v.per ≤ 512 * 256 := Int.mul_le_mul (by omega) (by omega) (by omega) (by omega)
  unfold pushP
  generalize hcnt : min v.per (v.blocks - chunk * v.per) = count
  generalize hto : min (mark + 4) (v.writes.length : Int) = to
  generalize hfl : min v.floor to = fl
  generalize hfi : chunk * v.per = first at *
  refine vc_rseq mixed ?_
  refine g_val (s_move rfl rfl) rfl ?_
  refine g_val (s_field rfl rfl rfl rfl) rfl ?_
  refine g_val (s_load rfl rfl rfl rfl) rfl ?_
  refine g_val (s_mul rfl rfl rfl (by simp only [inI, kMin, kMax]; omega)) rfl ?_
  refine g_val (s_assign rfl rfl) rfl ?_
  refine g_nil ?_
  refine vc_rseq mixed ?_
  refine d_val (s_field rfl rfl rfl rfl) rfl ?_
  refine d_val (s_load rfl rfl rfl rfl) rfl ?_
  refine d_val (s_move rfl rfl) rfl ?_
  refine d_val (s_field rfl rfl rfl rfl) rfl ?_
  refine d_val (s_load rfl rfl rfl rfl) rfl ?_
  refine d_val (s_field rfl rfl rfl rfl) rfl ?_
  refine d_val (s_load rfl rfl rfl rfl) rfl ?_
  refine d_val (s_move rfl rfl) rfl ?_
  refine d_val (s_sub rfl rfl rfl (by simp only [inI, kMin, kMax]; omega)) rfl ?_
  refine d_val (s_min rfl rfl rfl) rfl ?_
  refine d_val (s_field rfl rfl rfl rfl) rfl ?_
  refine d_val (s_load rfl rfl rfl rfl) rfl ?_
  refine d_val (s_move rfl rfl) rfl ?_
  refine d_val (s_move rfl rfl) rfl ?_
  refine d_val (s_add rfl rfl rfl (by simp only [inI, kMin, kMax]; omega)) rfl ?_
  refine d_val (s_loadA rfl rfl rfl rfl rfl) rfl ?_
  refine d_val (s_call [] (c_volume_Len v) (evArgs_cons rfl evArgs_nil) trivial rfl (okVL_nil _) rfl (.inl rfl) rfl) rfl ?_
  refine d_val (s_min rfl rfl rfl) rfl ?_
  refine d_val (s_build (evArgs_cons rfl (evArgs_cons rfl (evArgs_cons rfl (evArgs_cons rfl (evArgs_cons rfl (evArgs_cons rfl evArgs_nil)))))) rfl rfl rfl) rfl ?_
  refine d_new (s_alloc 9 rfl rfl) rfl ?_
  refine d_sto (s_store rfl rfl rfl rfl rfl rfl) rfl ?_
  refine d_nil rfl ?_
  refine vc_rseq mixed ?_
  refine g_val (s_field rfl rfl rfl rfl) rfl ?_
  refine g_val (s_load rfl rfl rfl rfl) rfl ?_
  refine g_val (s_field rfl rfl rfl rfl) rfl ?_
  refine g_val (s_load rfl rfl rfl rfl) rfl ?_
  refine g_val (s_min rfl rfl rfl) rfl ?_
  refine g_val (s_field rfl rfl rfl rfl) rfl ?_
  refine g_sto (s_store rfl rfl rfl rfl rfl rfl) rfl ?_
  refine g_nil ?_
  refine vc_seq ?_
  refine vc_ownnilB (q0 := 9) 7 7 2 32 rfl rfl rfl rfl ?_
  generalize hsub : (v.writes.take to.toNat).drop mark.toNat = sub
  have hsl : sub.length ≤ v.writes.length := by rw [← hsub]; simp; omega
  refine vc_rseq mixed ?_
  refine g_val (s_field rfl rfl rfl rfl) rfl ?_
  refine g_val (s_load rfl rfl rfl rfl) rfl ?_
  refine g_val (s_field rfl rfl rfl rfl) rfl ?_
  refine g_val (s_load rfl rfl rfl rfl) rfl ?_
  refine g_val (s_field rfl rfl rfl rfl) rfl ?_
  refine g_val (s_load rfl rfl rfl rfl) rfl ?_
  refine g_val (s_slice (some (.i64, mark)) (some (.i64, min (mark + 4) (v.writes.length : Int))) rfl rfl rfl rfl (by simp; omega) (by simp; omega) (by simp [optN]; omega)) rfl ?_
  refine g_val (s_len rfl rfl) rfl ?_
  refine g_val (s_move rfl rfl) rfl ?_
  refine g_nil ?_
  refine vc_block ?_
  refine vc_up sub.length (fun i => ⟨[(6, .ref 6 0), (8, AI .i64 first), (9, .ref 9 0), (70, .t (writesT sub)), (71, AI .i64 sub.length), (72, AI .i64 i)], [(6, some (.box ((pshC pshZ).map .t))), (9, some (.box [.t (i64 v.id), AI .i64 chunk, AI .i64 count, .t (i64 v.size), AI .i64 mark, AI .i64 to, AI .i64 fl, .rows 7 2 0 (pushW first count (sub.take i)).length])), (7, some (.row 2 32 ((pushW first count (sub.take i)).map writeC)))], [6, 9, 7]⟩) (fun i => True) (leE_same (by repeat (first | exact letm_nil _ _ | refine letm_cons rfl ?_ ?_ | exact .same _ | exact .nl (by decide) (by decide) | exact .nn | exact .id' rfl | exact .id' (by first | (simp; done) | (simp [hfi, hcnt, hto, hfl]; done) | (simp [pushW]; done) | (simp [writesT, optN, ← hsub, hto, List.map_take, List.map_drop]; done) | (simp [optN, ← hsub, hto]; done)))) (by repeat (first | exact lehp_nil _ _ | refine lehp_cons rfl ?_ ?_ | exact leB_same _ | exact leB_row (by first | rfl | (first | (simp; done) | (simp [hfi, hcnt, hto, hfl]; done) | (simp [pushW]; done) | (simp [writesT, optN, ← hsub, hto, List.map_take, List.map_drop]; done) | (simp [optN, ← hsub, hto]; done))) | exact leB_obj (by first | (simp; done) | (simp [hfi, hcnt, hto, hfl]; done) | (simp [pushW]; done) | (simp [writesT, optN, ← hsub, hto, List.map_take, List.map_drop]; done) | (simp [optN, ← hsub, hto]; done)) | exact leB_nest (by first | rfl | (first | (simp; done) | (simp [hfi, hcnt, hto, hfl]; done) | (simp [pushW]; done) | (simp [writesT, optN, ← hsub, hto, List.map_take, List.map_drop]; done) | (simp [optN, ← hsub, hto]; done))) | refine leB_box ?_ | exact leL_nil | refine leL_cons ?_ ?_ | exact .same _ | exact .nl (by decide) (by decide) | exact .nn | exact .id' rfl | exact .id' (by first | (simp; done) | (simp [hfi, hcnt, hto, hfl]; done) | (simp [pushW]; done) | (simp [writesT, optN, ← hsub, hto, List.map_take, List.map_drop]; done) | (simp [optN, ← hsub, hto]; done)))) rfl) trivial (fun i hi _ => ?_)
  refine vc_rseq mixed ?_
  refine g_val (s_lss rfl rfl rfl) rfl ?_
  refine g_nil ?_
  refine vc_seq ?_
  refine vc_cond rfl (fun hc73 => ?_) (fun hc73 => ?_)
  replace hc73 := of_decide_eq_true hc73
  obtain ⟨w, hw⟩ := get_of_lt (l := sub) (i := i) (by omega)
  have hwm : w ∈ v.writes := by have := List.mem_of_getElem? hw; rw [← hsub] at this; exact List.mem_of_mem_take (List.mem_of_mem_drop this)
  obtain ⟨hwi, hwb⟩ := hi0 w hwm
  have hpw := pushW_len first count (sub.take i)
  simp only [List.length_take] at hpw
  refine vc_skip ?_
  refine vc_seq ?_
  refine vc_block ?_
  refine vc_rseq mixed ?_
  refine g_val (s_index rfl rfl rfl (by omega) (idx_map hw)) rfl ?_
  refine g_val (s_loadTA rfl rfl rfl) rfl ?_
  refine g_new (s_alloc 11 rfl rfl) rfl ?_
  refine g_sto (s_store rfl rfl rfl rfl rfl rfl) rfl ?_
  refine g_nil ?_
  refine vc_rseq mixed ?_
  refine g_val (s_assign rfl rfl) rfl ?_
  refine g_nil ?_
  refine vc_seq ?_
  refine vc_ownnil (i := 12) 12 2 32 rfl rfl rfl ?_
  refine vc_rseq mixed ?_
  refine g_val (s_field rfl rfl rfl rfl) rfl ?_
  refine g_val (s_load rfl rfl rfl rfl) rfl ?_
  refine g_val (s_call [] (c_volume_items w.items) (evArgs_cons rfl evArgs_nil) trivial rfl (okVL_nil _) rfl (.inl rfl) rfl) rfl ?_
  refine g_val (s_len rfl rfl) rfl ?_
  refine g_val (s_move rfl rfl) rfl ?_
  refine g_nil ?_
  refine vc_block ?_
  refine vc_up w.items.length (fun k => ⟨[(6, .ref 6 0), (8, AI .i64 first), (9, .ref 9 0), (11, .ref 11 0), (12, .rows 12 2 0 (pushI first count (w.items.take k)).length), (70, .t (writesT sub)), (71, AI .i64 sub.length), (72, AI .i64 i), (78, .t (itemsT w.items)), (79, AI .i64 w.items.length), (80, AI .i64 k)], [(6, some (.box ((pshC pshZ).map .t))), (9, some (.box [.t (i64 v.id), AI .i64 chunk, AI .i64 count, .t (i64 v.size), AI .i64 mark, AI .i64 to, AI .i64 fl, .rows 7 2 0 (pushW first count (sub.take i)).length])), (7, some (.row 2 32 ((pushW first count (sub.take i)).map writeC))), (11, some (.box ((writeC w).map .t))), (12, some (.row 2 32 ((pushI first count (w.items.take k)).map itemC)))], [6, 9, 7, 11, 12]⟩) (fun k => True) (leE_same (by repeat (first | exact letm_nil _ _ | refine letm_cons rfl ?_ ?_ | exact .same _ | exact .nl (by decide) (by decide) | exact .nn | exact .id' rfl | exact .id' (by first | (simp; done) | (simp [pushI]; done)))) (by repeat (first | exact lehp_nil _ _ | refine lehp_cons rfl ?_ ?_ | exact leB_same _ | exact leB_row (by first | rfl | (first | (simp; done) | (simp [pushI]; done))) | exact leB_obj (by first | (simp; done) | (simp [pushI]; done)) | exact leB_nest (by first | rfl | (first | (simp; done) | (simp [pushI]; done))) | refine leB_box ?_ | exact leL_nil | refine leL_cons ?_ ?_ | exact .same _ | exact .nl (by decide) (by decide) | exact .nn | exact .id' rfl | exact .id' (by first | (simp; done) | (simp [pushI]; done)))) rfl) trivial (fun k hk _ => ?_)
  refine vc_rseq mixed ?_
  refine g_val (s_lss rfl rfl rfl) rfl ?_
  refine g_nil ?_
  refine vc_seq ?_
  refine vc_cond rfl (fun hc81 => ?_) (fun hc81 => ?_)
  replace hc81 := of_decide_eq_true hc81
  obtain ⟨x, hx⟩ := get_of_lt (l := w.items) (i := k) (by omega)
  have hxb := hwb x (List.mem_of_getElem? hx)
  have hpi := pushI_len first count (w.items.take k)
  simp only [List.length_take] at hpi
  refine vc_skip ?_
  refine vc_seq ?_
  refine vc_block ?_
  refine vc_rseq mixed ?_
  refine g_val (s_index rfl rfl rfl (by omega) (idx_map hx)) rfl ?_
  refine g_val (s_loadTA rfl rfl rfl) rfl ?_
  refine g_new (s_alloc 14 rfl rfl) rfl ?_
  refine g_sto (s_store rfl rfl rfl rfl rfl rfl) rfl ?_
  refine g_nil ?_
  refine vc_rseq mixed ?_
  refine g_val (s_field rfl rfl rfl rfl) rfl ?_
  refine g_val (s_load rfl rfl rfl rfl) rfl ?_
  refine g_val (s_move rfl rfl) rfl ?_
  refine g_val (s_sub rfl rfl rfl (by simp only [inI, kMin, kMax]; omega)) rfl ?_
  refine g_val (s_field rfl rfl rfl rfl) rfl ?_
  refine g_sto (s_store rfl rfl rfl rfl rfl rfl) rfl ?_
  refine g_nil ?_
  refine vc_rseq mixed ?_
  refine g_val (s_field rfl rfl rfl rfl) rfl ?_
  refine g_val (s_load rfl rfl rfl rfl) rfl ?_
  refine g_val (s_geq rfl rfl rfl) rfl ?_
  refine g_val (s_move rfl rfl) rfl ?_
  refine g_probe (j := 92) rfl (fun c hg92 => ?_)
  cases c
  rw [← hg92]; replace hg92 := hg92.symm; replace hg92 := of_decide_eq_false hg92
  simp only [Int.not_le] at hg92
  refine gn_val rfl rfl rfl rfl rfl rfl (by decide) ?_
  refine gn_val rfl rfl rfl rfl rfl rfl (by decide) ?_
  refine gn_val rfl rfl rfl rfl rfl rfl (by decide) ?_
  refine gn_val rfl rfl rfl rfl rfl rfl (by decide) ?_
  refine gn_val rfl rfl rfl rfl rfl rfl (by decide) ?_
  refine g_val (s_pickF rfl rfl rfl) rfl ?_
  refine g_nil ?_
  refine vc_cond rfl (fun h => by cases h) (fun _ => ?_)
  refine vc_skip ?_
  refine vc_region mixed ?_
  refine g_val (s_add rfl rfl rfl (by simp only [inI, kMin, kMax]; omega)) rfl ?_
  refine g_val (s_move rfl rfl) rfl ?_
  refine g_nil ?_
  first
  | exact ⟨by omega, trivial, by
      rw [show pushI first count (w.items.take (k + 1)) = pushI first count (w.items.take k) ++ [⟨x.block - first, x.data⟩] by rw [take_snoc hx, pushI_snoc, if_pos (by omega)]]
      simp only [List.length_append, List.length_cons, List.length_nil]
      exact (leE_gen [] [(12, 102)] (by repeat (first | exact letm_nil _ _ | refine letm_cons rfl ?_ ?_ | exact LeV.tt rfl | exact .eq (okV_nil _) rfl | exact LeV.tt (by rw [List.take_of_length_le (by simp)]; simp [itemC, i64, bytesT]) | exact .eq (okV_nil _) (by rw [List.take_of_length_le (by simp)]; simp [itemC, i64, bytesT]))) (by repeat (first | exact lehp_nil _ _ | refine lehp_cons rfl ?_ ?_ | exact leB_row (by first | rfl | (rw [List.take_of_length_le (by simp)]; simp [itemC, i64, bytesT])) | exact leB_obj (by rw [List.take_of_length_le (by simp)]; simp [itemC, i64, bytesT]) | exact leB_nest (by first | rfl | (rw [List.take_of_length_le (by simp)]; simp [itemC, i64, bytesT])) | refine leB_box ?_ | exact leL_nil | refine leL_cons ?_ ?_ | exact LeV.tt rfl | exact .eq (okV_nil _) rfl | exact LeV.tt (by rw [List.take_of_length_le (by simp)]; simp [itemC, i64, bytesT]) | exact .eq (okV_nil _) (by rw [List.take_of_length_le (by simp)]; simp [itemC, i64, bytesT]))) trivial rfl)⟩
  | exact ⟨by omega, trivial, by
      rw [show pushI first count (w.items.take (k + 1)) = pushI first count (w.items.take k) by rw [take_snoc hx, pushI_snoc, if_neg (by omega), List.append_nil]]
      exact (leE_same (by repeat (first | exact letm_nil _ _ | refine letm_cons rfl ?_ ?_ | exact .same _ | exact .nl (by decide) (by decide) | exact .nn | exact .id' rfl | exact .id' (by simp; done))) (by repeat (first | exact lehp_nil _ _ | refine lehp_cons rfl ?_ ?_ | exact leB_same _ | exact leB_row (by first | rfl | (simp; done)) | exact leB_obj (by simp; done) | exact leB_nest (by first | rfl | (simp; done)) | refine leB_box ?_ | exact leL_nil | refine leL_cons ?_ ?_ | exact .same _ | exact .nl (by decide) (by decide) | exact .nn | exact .id' rfl | exact .id' (by simp; done))) rfl)⟩
  rw [← hg92]; replace hg92 := hg92.symm; replace hg92 := of_decide_eq_true hg92
  refine gq_val (s_field rfl rfl rfl rfl) rfl rfl rfl rfl ?_
  refine gq_val (s_load rfl rfl rfl rfl) rfl rfl rfl rfl ?_
  refine gq_val (s_field rfl rfl rfl rfl) rfl rfl rfl rfl ?_
  refine gq_val (s_load rfl rfl rfl rfl) rfl rfl rfl rfl ?_
  refine gq_val (s_lss rfl rfl rfl) rfl rfl rfl rfl ?_
  refine g_val (s_pickT rfl rfl rfl) rfl ?_
  refine g_nil ?_
  refine vc_cond rfl (fun hc98 => ?_) (fun hc98 => ?_)
  replace hc98 := of_decide_eq_true hc98
  refine vc_region mixed ?_
  refine g_val (s_move rfl rfl) rfl ?_
  refine g_val (s_loadA rfl rfl rfl rfl rfl) rfl ?_
  refine g_fz ((s_buildSlice 101 (evArgs_cons rfl evArgs_nil) rfl rfl rfl rfl).fzE rfl) rfl ?_
  refine g_app (s_append 102 rfl rfl rfl rfl rfl (by simp) rfl rfl (by (try simp only [List.length_cons, List.length_nil]); omega)) rfl ?_
  refine g_val (s_assign rfl rfl) rfl ?_
  refine g_nil ?_
  refine vc_region mixed ?_
  refine g_val (s_add rfl rfl rfl (by simp only [inI, kMin, kMax]; omega)) rfl ?_
  refine g_val (s_move rfl rfl) rfl ?_
  refine g_nil ?_
  first
  | exact ⟨by omega, trivial, by
      rw [show pushI first count (w.items.take (k + 1)) = pushI first count (w.items.take k) ++ [⟨x.block - first, x.data⟩] by rw [take_snoc hx, pushI_snoc, if_pos (by omega)]]
      simp only [List.length_append, List.length_cons, List.length_nil]
      exact (leE_gen [] [(12, 102)] (by repeat (first | exact letm_nil _ _ | refine letm_cons rfl ?_ ?_ | exact LeV.tt rfl | exact .eq (okV_nil _) rfl | exact LeV.tt (by rw [List.take_of_length_le (by simp)]; simp [itemC, i64, bytesT]) | exact .eq (okV_nil _) (by rw [List.take_of_length_le (by simp)]; simp [itemC, i64, bytesT]))) (by repeat (first | exact lehp_nil _ _ | refine lehp_cons rfl ?_ ?_ | exact leB_row (by first | rfl | (rw [List.take_of_length_le (by simp)]; simp [itemC, i64, bytesT])) | exact leB_obj (by rw [List.take_of_length_le (by simp)]; simp [itemC, i64, bytesT]) | exact leB_nest (by first | rfl | (rw [List.take_of_length_le (by simp)]; simp [itemC, i64, bytesT])) | refine leB_box ?_ | exact leL_nil | refine leL_cons ?_ ?_ | exact LeV.tt rfl | exact .eq (okV_nil _) rfl | exact LeV.tt (by rw [List.take_of_length_le (by simp)]; simp [itemC, i64, bytesT]) | exact .eq (okV_nil _) (by rw [List.take_of_length_le (by simp)]; simp [itemC, i64, bytesT]))) trivial rfl)⟩
  | exact ⟨by omega, trivial, by
      rw [show pushI first count (w.items.take (k + 1)) = pushI first count (w.items.take k) by rw [take_snoc hx, pushI_snoc, if_neg (by omega), List.append_nil]]
      exact (leE_same (by repeat (first | exact letm_nil _ _ | refine letm_cons rfl ?_ ?_ | exact .same _ | exact .nl (by decide) (by decide) | exact .nn | exact .id' rfl | exact .id' (by simp; done))) (by repeat (first | exact lehp_nil _ _ | refine lehp_cons rfl ?_ ?_ | exact leB_same _ | exact leB_row (by first | rfl | (simp; done)) | exact leB_obj (by simp; done) | exact leB_nest (by first | rfl | (simp; done)) | refine leB_box ?_ | exact leL_nil | refine leL_cons ?_ ?_ | exact .same _ | exact .nl (by decide) (by decide) | exact .nn | exact .id' rfl | exact .id' (by simp; done))) rfl)⟩
  replace hc98 := of_decide_eq_false hc98
  simp only [Int.not_lt] at hc98
  refine vc_skip ?_
  refine vc_region mixed ?_
  refine g_val (s_add rfl rfl rfl (by simp only [inI, kMin, kMax]; omega)) rfl ?_
  refine g_val (s_move rfl rfl) rfl ?_
  refine g_nil ?_
  first
  | exact ⟨by omega, trivial, by
      rw [show pushI first count (w.items.take (k + 1)) = pushI first count (w.items.take k) ++ [⟨x.block - first, x.data⟩] by rw [take_snoc hx, pushI_snoc, if_pos (by omega)]]
      simp only [List.length_append, List.length_cons, List.length_nil]
      exact (leE_gen [] [(12, 102)] (by repeat (first | exact letm_nil _ _ | refine letm_cons rfl ?_ ?_ | exact LeV.tt rfl | exact .eq (okV_nil _) rfl | exact LeV.tt (by rw [List.take_of_length_le (by simp)]; simp [itemC, i64, bytesT]) | exact .eq (okV_nil _) (by rw [List.take_of_length_le (by simp)]; simp [itemC, i64, bytesT]))) (by repeat (first | exact lehp_nil _ _ | refine lehp_cons rfl ?_ ?_ | exact leB_row (by first | rfl | (rw [List.take_of_length_le (by simp)]; simp [itemC, i64, bytesT])) | exact leB_obj (by rw [List.take_of_length_le (by simp)]; simp [itemC, i64, bytesT]) | exact leB_nest (by first | rfl | (rw [List.take_of_length_le (by simp)]; simp [itemC, i64, bytesT])) | refine leB_box ?_ | exact leL_nil | refine leL_cons ?_ ?_ | exact LeV.tt rfl | exact .eq (okV_nil _) rfl | exact LeV.tt (by rw [List.take_of_length_le (by simp)]; simp [itemC, i64, bytesT]) | exact .eq (okV_nil _) (by rw [List.take_of_length_le (by simp)]; simp [itemC, i64, bytesT]))) trivial rfl)⟩
  | exact ⟨by omega, trivial, by
      rw [show pushI first count (w.items.take (k + 1)) = pushI first count (w.items.take k) by rw [take_snoc hx, pushI_snoc, if_neg (by omega), List.append_nil]]
      exact (leE_same (by repeat (first | exact letm_nil _ _ | refine letm_cons rfl ?_ ?_ | exact .same _ | exact .nl (by decide) (by decide) | exact .nn | exact .id' rfl | exact .id' (by simp; done))) (by repeat (first | exact lehp_nil _ _ | refine lehp_cons rfl ?_ ?_ | exact leB_same _ | exact leB_row (by first | rfl | (simp; done)) | exact leB_obj (by simp; done) | exact leB_nest (by first | rfl | (simp; done)) | refine leB_box ?_ | exact leL_nil | refine leL_cons ?_ ?_ | exact .same _ | exact .nl (by decide) (by decide) | exact .nn | exact .id' rfl | exact .id' (by simp; done))) rfl)⟩
  replace hc81 := of_decide_eq_false hc81
  simp only [Int.not_lt] at hc81
  refine vc_exit ?_
  obtain rfl : k = w.items.length := by omega
  rw [List.take_length]
  refine vc_rseq mixed ?_
  refine g_val (s_move rfl rfl) rfl ?_
  refine g_val (s_lenR rfl rfl (by first | omega | (simp; done) | (simp; omega)) rfl) rfl ?_
  refine g_val (s_gtr rfl rfl rfl) rfl ?_
  refine g_nil ?_
  refine vc_cond rfl (fun hc106 => ?_) (fun hc106 => ?_)
  replace hc106 := of_decide_eq_true hc106
  refine vc_freezeE 12 rfl rfl (by simp) ?_
  refine vc_region mixed ?_
  refine g_val (s_field rfl rfl rfl rfl) rfl ?_
  refine g_val (s_load rfl rfl rfl rfl) rfl ?_
  refine g_val (s_field rfl rfl rfl rfl) rfl ?_
  refine g_val (s_load rfl rfl rfl rfl) rfl ?_
  refine g_val (s_move rfl rfl) rfl ?_
  refine g_val (s_build (evArgs_cons rfl (evArgs_cons rfl evArgs_nil)) rfl rfl rfl) rfl ?_
  refine g_fz ((s_buildSlice 113 (evArgs_cons rfl evArgs_nil) rfl rfl rfl rfl).fzE rfl) rfl ?_
  refine g_app (s_append 114 rfl rfl rfl rfl rfl (by simp) rfl rfl (by (try simp only [List.length_cons, List.length_nil]); omega)) rfl ?_
  refine g_val (s_field rfl rfl rfl rfl) rfl ?_
  refine g_sto (s_store rfl rfl rfl rfl rfl rfl) rfl ?_
  refine g_nil ?_
  refine vc_region mixed ?_
  refine g_val (s_add rfl rfl rfl (by simp only [inI, kMin, kMax]; omega)) rfl ?_
  refine g_val (s_move rfl rfl) rfl ?_
  refine g_nil ?_
  refine ⟨by omega, trivial, ?_⟩
  rcases Nat.eq_zero_or_pos (pushI first count w.items).length with hpe | hpe
  rw [show pushW first count (sub.take (i + 1)) = pushW first count (sub.take i) by rw [take_snoc hw, pushW_snoc, if_pos (List.eq_nil_of_length_eq_zero hpe), List.append_nil]]
  first | (exfalso; omega) | exact (leE_same (by repeat (first | exact letm_nil _ _ | refine letm_cons rfl ?_ ?_ | exact .same _ | exact .nl (by decide) (by decide) | exact .nn | exact .id' rfl | exact .id' (by simp; done))) (by repeat (first | exact lehp_nil _ _ | refine lehp_cons rfl ?_ ?_ | exact leB_same _ | exact leB_row (by first | rfl | (simp; done)) | exact leB_obj (by simp; done) | exact leB_nest (by first | rfl | (simp; done)) | refine leB_box ?_ | exact leL_nil | refine leL_cons ?_ ?_ | exact .same _ | exact .nl (by decide) (by decide) | exact .nn | exact .id' rfl | exact .id' (by simp; done))) rfl)
  rw [show pushW first count (sub.take (i + 1)) = pushW first count (sub.take i) ++ [⟨w.seq, pushI first count w.items⟩] by rw [take_snoc hw, pushW_snoc, if_neg (by intro h; rw [h] at hpe; simp at hpe)]]
  simp only [List.length_append, List.length_cons, List.length_nil]
  first | (exfalso; omega) | exact (leE_gen [] [(7, 114)] (by repeat (first | exact letm_nil _ _ | refine letm_cons rfl ?_ ?_ | exact LeV.tt rfl | exact .eq (okV_nil _) rfl | exact LeV.tt (by rw [List.take_of_length_le (by simp)]; simp [writeC, i64, itemsT]) | exact .eq (okV_nil _) (by rw [List.take_of_length_le (by simp)]; simp [writeC, i64, itemsT]))) (by repeat (first | exact lehp_nil _ _ | refine lehp_cons rfl ?_ ?_ | exact leB_row (by first | rfl | (rw [List.take_of_length_le (by simp)]; simp [writeC, i64, itemsT])) | exact leB_obj (by rw [List.take_of_length_le (by simp)]; simp [writeC, i64, itemsT]) | exact leB_nest (by first | rfl | (rw [List.take_of_length_le (by simp)]; simp [writeC, i64, itemsT])) | refine leB_box ?_ | exact leL_nil | refine leL_cons ?_ ?_ | exact LeV.tt rfl | exact .eq (okV_nil _) rfl | exact LeV.tt (by rw [List.take_of_length_le (by simp)]; simp [writeC, i64, itemsT]) | exact .eq (okV_nil _) (by rw [List.take_of_length_le (by simp)]; simp [writeC, i64, itemsT]))) trivial rfl)
  replace hc106 := of_decide_eq_false hc106
  simp only [Int.not_lt] at hc106
  refine vc_skip ?_
  refine vc_region mixed ?_
  refine g_val (s_add rfl rfl rfl (by simp only [inI, kMin, kMax]; omega)) rfl ?_
  refine g_val (s_move rfl rfl) rfl ?_
  refine g_nil ?_
  refine ⟨by omega, trivial, ?_⟩
  rcases Nat.eq_zero_or_pos (pushI first count w.items).length with hpe | hpe
  rw [show pushW first count (sub.take (i + 1)) = pushW first count (sub.take i) by rw [take_snoc hw, pushW_snoc, if_pos (List.eq_nil_of_length_eq_zero hpe), List.append_nil]]
  first | (exfalso; omega) | exact (leE_same (by repeat (first | exact letm_nil _ _ | refine letm_cons rfl ?_ ?_ | exact .same _ | exact .nl (by decide) (by decide) | exact .nn | exact .id' rfl | exact .id' (by simp; done))) (by repeat (first | exact lehp_nil _ _ | refine lehp_cons rfl ?_ ?_ | exact leB_same _ | exact leB_row (by first | rfl | (simp; done)) | exact leB_obj (by simp; done) | exact leB_nest (by first | rfl | (simp; done)) | refine leB_box ?_ | exact leL_nil | refine leL_cons ?_ ?_ | exact .same _ | exact .nl (by decide) (by decide) | exact .nn | exact .id' rfl | exact .id' (by simp; done))) rfl)
  rw [show pushW first count (sub.take (i + 1)) = pushW first count (sub.take i) ++ [⟨w.seq, pushI first count w.items⟩] by rw [take_snoc hw, pushW_snoc, if_neg (by intro h; rw [h] at hpe; simp at hpe)]]
  simp only [List.length_append, List.length_cons, List.length_nil]
  first | (exfalso; omega) | exact (leE_gen [] [(7, 114)] (by repeat (first | exact letm_nil _ _ | refine letm_cons rfl ?_ ?_ | exact LeV.tt rfl | exact .eq (okV_nil _) rfl | exact LeV.tt (by rw [List.take_of_length_le (by simp)]; simp [writeC, i64, itemsT]) | exact .eq (okV_nil _) (by rw [List.take_of_length_le (by simp)]; simp [writeC, i64, itemsT]))) (by repeat (first | exact lehp_nil _ _ | refine lehp_cons rfl ?_ ?_ | exact leB_row (by first | rfl | (rw [List.take_of_length_le (by simp)]; simp [writeC, i64, itemsT])) | exact leB_obj (by rw [List.take_of_length_le (by simp)]; simp [writeC, i64, itemsT]) | exact leB_nest (by first | rfl | (rw [List.take_of_length_le (by simp)]; simp [writeC, i64, itemsT])) | refine leB_box ?_ | exact leL_nil | refine leL_cons ?_ ?_ | exact LeV.tt rfl | exact .eq (okV_nil _) rfl | exact LeV.tt (by rw [List.take_of_length_le (by simp)]; simp [writeC, i64, itemsT]) | exact .eq (okV_nil _) (by rw [List.take_of_length_le (by simp)]; simp [writeC, i64, itemsT]))) trivial rfl)
  replace hc73 := of_decide_eq_false hc73
  simp only [Int.not_lt] at hc73
  refine vc_exit ?_
  obtain rfl : i = sub.length := by omega
  rw [List.take_length]
  refine vc_rseq mixed ?_
  refine g_val (s_loadA rfl rfl rfl rfl rfl) rfl ?_
  refine g_sto (s_store rfl rfl rfl rfl rfl rfl) rfl ?_
  refine g_val (s_assign rfl rfl) rfl ?_
  refine g_nil ?_
  exact vc_ret (ret_le [(7, _)] _ (.cons (.agg rfl rfl rfl rfl) (.cons (.tmp rfl) .nil)) ⟨rfl, trivial⟩ (by repeat (first | exact leL_nil | refine leL_cons ?_ ?_ | exact LeV.tt rfl | exact .nl (by decide) (by decide) | exact .nn | refine LeV.tupL ?_ | refine LeV.aggL ?_ | exact .eq (by first | exact trivial | (simp [AV.okV, okR, lkB]; done) | (simp [AV.okV, okR, lkB]; omega)) (by first | rfl | (simp [AV.view, viewR, lkB, AV.ren, List.take_of_length_le]; done) | (simp [AV.view, viewR, lkB, AV.ren, List.take_of_length_le]; simp [writesT, i64, take_map_len, hfi, hcnt, hto, hfl, hsub]; done)))) rfl)

end Go.Eng

set_option maxHeartbeats 8000000
namespace Go.Eng
open Go.Proofs

/-- A call whose lists may be nil. -/
def cmdNA (c : VolCmd) (p i : AV) : AV := .agg [.t (i64 c.kind), .t (i64 c.vol), .t (i64 c.blocks), .t (i64 c.size), .t (i64 c.per), p, .t (i64 c.total), .t (i64 c.time), .t (i64 c.index), i]
abbrev nilA : AV := .t (.k (.slice none 0 0))
theorem cmdNA_nil (c : VolCmd) (hp : c.place = []) (hi : c.items = []) : LeV [] (rnG []) (cmdNA c nilA nilA) (sC (cmdC c)) := by
  refine .aggL (leL_cons (.same _) (leL_cons (.same _) (leL_cons (.same _) (leL_cons (.same _) (leL_cons (.same _) (leL_cons ?_ (leL_cons (.same _) (leL_cons (.same _) (leL_cons (.same _) (leL_cons ?_ leL_nil))))))))))
  rw [hp]; exact .nl (by decide) (by decide)
  rw [hi]; exact .nl (by decide) (by decide)
theorem cmdNA_p (c : VolCmd) (hp : c.place = []) : LeV [] (rnG []) (cmdNA c nilA (.t (itemsT c.items))) (sC (cmdC c)) := by
  refine .aggL (leL_cons (.same _) (leL_cons (.same _) (leL_cons (.same _) (leL_cons (.same _) (leL_cons (.same _) (leL_cons ?_ (leL_cons (.same _) (leL_cons (.same _) (leL_cons (.same _) (leL_cons (.same _) leL_nil))))))))))
  rw [hp]; exact .nl (by decide) (by decide)
theorem cmdNA_i (c : VolCmd) (hi : c.items = []) : LeV [] (rnG []) (cmdNA c (.t (intsT c.place)) nilA) (sC (cmdC c)) := by
  refine .aggL (leL_cons (.same _) (leL_cons (.same _) (leL_cons (.same _) (leL_cons (.same _) (leL_cons (.same _) (leL_cons (.same _) (leL_cons (.same _) (leL_cons (.same _) (leL_cons (.same _) (leL_cons ?_ leL_nil))))))))))
  rw [hi]; exact .nl (by decide) (by decide)

def kc0 : VolCmd := ⟨0, 0, 3, 1, 2, [1, 2], 0, 0, 0, []⟩
def kc1 : VolCmd := ⟨2, 0, 0, 0, 0, [], 0, 0, 0, [⟨2, [120]⟩]⟩
def kv0 : Volume := ⟨0, 3, 1, 2, [1, 2], 0, 0, false, 0, [], []⟩
def kw0 : Volume := ⟨0, 3, 1, 2, [1, 2], 0, 0, false, 0, [], [⟨1, [⟨2, [120]⟩]⟩]⟩
theorem k1 : newF kc0 = (kv0, 0) := by decide
theorem k2 : doF kv0 kc1 = (kw0, ⟨0, 1, 0, 0, []⟩) := by decide
theorem k3 : stateF kw0 1 = ([[0], [0], [120]], 0) := by decide
theorem k4 : stateF kw0 2 = ([], 31) := by decide
theorem k5 : pushF kw0 1 0 = (⟨0, 1, 1, 1, 0, 1, 0, [⟨1, [⟨0, [120]⟩]⟩]⟩, true) := by decide
theorem k6 : newF cmdZ = (volZ, 23) := by decide
theorem k7 : rightB kw0 = true := by decide
theorem k8 : lowV kw0 = 1 := by decide
theorem kst : volSt kw0 := ⟨by decide, by decide, by decide, by decide, by decide⟩

theorem c_law16_known : Con Try.prog 5 [] [] (AB true) [] := by
  refine con_introM [] [] Try.func5 rfl Try.ntmps5 Try.results5 rfl rfl ?_
  intro E hM0
  have hM : ∀ b, ¬ E.M b := fun b hb => by obtain ⟨q, s, h, _⟩ := hM0 b hb; exact h rfl
  have h1 := c_volume_New kc0
  have h2 := c_volume_Do_put kv0 kc1 rfl rfl ⟨by decide, by decide, by decide⟩
  have h3 := c_volume_State kw0 1 kst
  have h4 := c_volume_State kw0 2 kst
  have h5 := c_volume_Push kw0 1 0 (by decide) (by decide) (by decide)
  have h6 := c_volume_New cmdZ
  have h7 := c_volume_Right kw0
  have h8 := c_volume_Low kw0
  have h9 := c_volume_Len kw0
  have h1 := h1.args (leL_cons (cmdNA_i kc0 rfl) leL_nil)
  have h2 := h2.args (leL_cons (.same _) (leL_cons (cmdNA_p kc1 rfl) leL_nil))
  have h6 := h6.args (leL_cons (cmdNA_nil cmdZ rfl rfl) leL_nil)
  rw [k1] at h1
  rw [k2] at h2
  rw [k3] at h3
  rw [k4] at h4
  rw [k5] at h5
  rw [k6] at h6
  rw [k7] at h7
  rw [k8] at h8
  refine vc_rseq mixed ?_
  refine g_val (s_assign rfl rfl) rfl ?_
  refine g_nil ?_
  refine vc_rseq mixed ?_
  refine g_fz ((s_buildSlice 14 (evArgs_cons rfl (evArgs_cons rfl evArgs_nil)) rfl rfl rfl rfl).fzE rfl) rfl ?_
  refine g_val (s_build (evArgs_cons rfl (evArgs_cons rfl (evArgs_cons rfl (evArgs_cons rfl evArgs_nil)))) rfl rfl rfl) rfl ?_
  refine g_val (s_call [] (h1) (evArgs_cons rfl evArgs_nil) trivial rfl (okVL_nil _) rfl (.inl rfl) rfl) rfl ?_
  refine g_val (s_move rfl rfl) rfl ?_
  refine g_val (s_extract rfl rfl rfl) rfl ?_
  refine g_val (s_extract rfl rfl rfl) rfl ?_
  refine g_new (s_alloc 1 rfl rfl) rfl ?_
  refine g_sto (s_store rfl rfl rfl rfl rfl rfl) rfl ?_
  refine g_val (s_assign rfl rfl) rfl ?_
  refine g_nil ?_
  refine vc_rseq mixed ?_
  refine g_val (s_loadA rfl rfl rfl rfl rfl) rfl ?_
  refine g_new (s_buildSlice 21 (evArgs_cons rfl evArgs_nil) rfl rfl rfl rfl) rfl ?_
  refine g_vd (s_mark hM rfl rfl rfl (by decide) rfl) rfl ?_
  refine g_val (s_build (evArgs_cons rfl (evArgs_cons rfl evArgs_nil)) rfl rfl rfl) rfl ?_
  refine g_fz ((s_buildSlice 24 (evArgs_cons rfl evArgs_nil) rfl rfl rfl rfl).fzE rfl) rfl ?_
  refine g_val (s_build (evArgs_cons rfl (evArgs_cons rfl evArgs_nil)) rfl rfl rfl) rfl ?_
  refine g_val (s_call [] (h2) (evArgs_cons rfl (evArgs_cons rfl evArgs_nil)) trivial rfl (okVL_nil _) rfl (.inl rfl) rfl) rfl ?_
  refine g_val (s_move rfl rfl) rfl ?_
  refine g_val (s_extract rfl rfl rfl) rfl ?_
  refine g_val (s_extract rfl rfl rfl) rfl ?_
  refine g_new (s_alloc 3 rfl rfl) rfl ?_
  refine g_new (s_alloc 4 rfl rfl) rfl ?_
  refine g_sto (s_store rfl rfl rfl rfl rfl rfl) rfl ?_
  refine g_sto (s_store rfl rfl rfl rfl rfl rfl) rfl ?_
  refine g_nil ?_
  refine vc_rseq mixed ?_
  refine g_val (s_loadA rfl rfl rfl rfl rfl) rfl ?_
  refine g_val (s_call [] (h3) (evArgs_cons rfl (evArgs_cons rfl evArgs_nil)) trivial rfl (okVL_nil _) rfl (.inl rfl) rfl) rfl ?_
  refine g_val (s_move rfl rfl) rfl ?_
  refine g_val (s_extract rfl rfl rfl) rfl ?_
  refine g_val (s_extract rfl rfl rfl) rfl ?_
  refine g_val (s_assign rfl rfl) rfl ?_
  refine g_val (s_assign rfl rfl) rfl ?_
  refine g_nil ?_
  refine vc_rseq mixed ?_
  refine g_val (s_loadA rfl rfl rfl rfl rfl) rfl ?_
  refine g_val (s_call [] (h4) (evArgs_cons rfl (evArgs_cons rfl evArgs_nil)) trivial rfl (okVL_nil _) rfl (.inl rfl) rfl) rfl ?_
  refine g_val (s_move rfl rfl) rfl ?_
  refine g_val (s_extract rfl rfl rfl) rfl ?_
  refine g_val (s_extract rfl rfl rfl) rfl ?_
  refine g_val (s_assign rfl rfl) rfl ?_
  refine g_val (s_assign rfl rfl) rfl ?_
  refine g_nil ?_
  refine vc_rseq mixed ?_
  refine g_val (s_loadA rfl rfl rfl rfl rfl) rfl ?_
  refine g_val (s_call [] (h5) (evArgs_cons rfl (evArgs_cons rfl (evArgs_cons rfl evArgs_nil))) trivial rfl (okVL_nil _) rfl (.inl rfl) rfl) rfl ?_
  refine g_val (s_move rfl rfl) rfl ?_
  refine g_val (s_extract rfl rfl rfl) rfl ?_
  refine g_val (s_extract rfl rfl rfl) rfl ?_
  refine g_new (s_alloc 9 rfl rfl) rfl ?_
  refine g_sto (s_store rfl rfl rfl rfl rfl rfl) rfl ?_
  refine g_val (s_assign rfl rfl) rfl ?_
  refine g_nil ?_
  refine vc_rseq mixed ?_
  refine g_val (s_build evArgs_nil rfl rfl rfl) rfl ?_
  refine g_val (s_call [] (h6) (evArgs_cons rfl evArgs_nil) trivial rfl (okVL_nil _) rfl (.inl rfl) rfl) rfl ?_
  refine g_val (s_move rfl rfl) rfl ?_
  refine g_val (s_extract rfl rfl rfl) rfl ?_
  refine g_val (s_extract rfl rfl rfl) rfl ?_
  refine g_new (s_alloc 11 rfl rfl) rfl ?_
  refine g_sto (s_store rfl rfl rfl rfl rfl rfl) rfl ?_
  refine g_val (s_assign rfl rfl) rfl ?_
  refine g_nil ?_
  refine vc_rseq mixed ?_
  refine g_val (s_move rfl rfl) rfl ?_
  refine g_val (s_eql rfl rfl rfl) rfl ?_
  refine g_val (s_move rfl rfl) rfl ?_
  refine g_probe (j := 51) rfl (fun c hg51 => ?_)
  rw [← hg51, hg51.trans (show _ = true from rfl)]
  clear hg51 c
  refine gq_val (s_field rfl rfl rfl rfl) rfl rfl rfl rfl ?_
  refine gq_val (s_load rfl rfl rfl rfl) rfl rfl rfl rfl ?_
  refine gq_val (s_eql rfl rfl rfl) rfl rfl rfl rfl ?_
  refine g_val (s_pickT rfl rfl rfl) rfl ?_
  refine g_val (s_move rfl rfl) rfl ?_
  refine g_probe (j := 56) rfl (fun c hg56 => ?_)
  rw [← hg56, hg56.trans (show _ = true from rfl)]
  clear hg56 c
  refine gq_val (s_field rfl rfl rfl rfl) rfl rfl rfl rfl ?_
  refine gq_val (s_load rfl rfl rfl rfl) rfl rfl rfl rfl ?_
  refine gq_val (s_eql rfl rfl rfl) rfl rfl rfl rfl ?_
  refine g_val (s_pickT rfl rfl rfl) rfl ?_
  refine g_val (s_move rfl rfl) rfl ?_
  refine g_probe (j := 61) rfl (fun c hg61 => ?_)
  rw [← hg61, hg61.trans (show _ = true from rfl)]
  clear hg61 c
  refine gq_val (s_loadA rfl rfl rfl rfl rfl) rfl rfl rfl rfl ?_
  refine gq_val (s_call [] (h9) (evArgs_cons rfl evArgs_nil) trivial rfl (okVL_nil _) rfl (.inl rfl) rfl) rfl rfl rfl rfl ?_
  refine gq_val (s_eql rfl rfl rfl) rfl rfl rfl rfl ?_
  refine g_val (s_pickT rfl rfl rfl) rfl ?_
  refine g_val (s_move rfl rfl) rfl ?_
  refine g_probe (j := 66) rfl (fun c hg66 => ?_)
  rw [← hg66, hg66.trans (show _ = true from rfl)]
  clear hg66 c
  refine gq_val (s_move rfl rfl) rfl rfl rfl rfl ?_
  refine gq_val (s_eql rfl rfl rfl) rfl rfl rfl rfl ?_
  refine g_val (s_pickT rfl rfl rfl) rfl ?_
  refine g_val (s_move rfl rfl) rfl ?_
  refine g_probe (j := 70) rfl (fun c hg70 => ?_)
  rw [← hg70, hg70.trans (show _ = true from rfl)]
  clear hg70 c
  refine gq_val (s_move rfl rfl) rfl rfl rfl rfl ?_
  refine gq_val (s_len rfl rfl) rfl rfl rfl rfl ?_
  refine gq_val (s_eql rfl rfl rfl) rfl rfl rfl rfl ?_
  refine g_val (s_pickT rfl rfl rfl) rfl ?_
  refine g_val (s_move rfl rfl) rfl ?_
  refine g_probe (j := 75) rfl (fun c hg75 => ?_)
  rw [← hg75, hg75.trans (show _ = true from rfl)]
  clear hg75 c
  refine gq_val (s_move rfl rfl) rfl rfl rfl rfl ?_
  refine gq_val (s_index rfl rfl rfl (by decide) rfl) rfl rfl rfl rfl ?_
  refine gq_val (s_loadT rfl rfl rfl) rfl rfl rfl rfl ?_
  refine gq_val (s_str rfl rfl) rfl rfl rfl rfl ?_
  refine gq_val (s_eqlS (b := [120]) rfl rfl (by decide) (by decide) rfl) rfl rfl rfl rfl ?_
  refine g_val (s_pickT rfl rfl rfl) rfl ?_
  refine g_val (s_move rfl rfl) rfl ?_
  refine g_probe (j := 82) rfl (fun c hg82 => ?_)
  rw [← hg82, hg82.trans (show _ = true from rfl)]
  clear hg82 c
  refine gq_val (s_move rfl rfl) rfl rfl rfl rfl ?_
  refine gq_val (s_eql rfl rfl rfl) rfl rfl rfl rfl ?_
  refine g_val (s_pickT rfl rfl rfl) rfl ?_
  refine g_val (s_move rfl rfl) rfl ?_
  refine g_probe (j := 86) rfl (fun c hg86 => ?_)
  rw [← hg86, hg86.trans (show _ = true from rfl)]
  clear hg86 c
  refine gq_val (s_move rfl rfl) rfl rfl rfl rfl ?_
  refine g_val (s_pickT rfl rfl rfl) rfl ?_
  refine g_val (s_move rfl rfl) rfl ?_
  refine g_probe (j := 89) rfl (fun c hg89 => ?_)
  rw [← hg89, hg89.trans (show _ = true from rfl)]
  clear hg89 c
  refine gq_val (s_field rfl rfl rfl rfl) rfl rfl rfl rfl ?_
  refine gq_val (s_load rfl rfl rfl rfl) rfl rfl rfl rfl ?_
  refine gq_val (s_eql rfl rfl rfl) rfl rfl rfl rfl ?_
  refine g_val (s_pickT rfl rfl rfl) rfl ?_
  refine g_val (s_move rfl rfl) rfl ?_
  refine g_probe (j := 94) rfl (fun c hg94 => ?_)
  rw [← hg94, hg94.trans (show _ = true from rfl)]
  clear hg94 c
  refine gq_val (s_field rfl rfl rfl rfl) rfl rfl rfl rfl ?_
  refine gq_val (s_load rfl rfl rfl rfl) rfl rfl rfl rfl ?_
  refine gq_val (s_len rfl rfl) rfl rfl rfl rfl ?_
  refine gq_val (s_eql rfl rfl rfl) rfl rfl rfl rfl ?_
  refine g_val (s_pickT rfl rfl rfl) rfl ?_
  refine g_val (s_move rfl rfl) rfl ?_
  refine g_probe (j := 100) rfl (fun c hg100 => ?_)
  rw [← hg100, hg100.trans (show _ = true from rfl)]
  clear hg100 c
  refine gq_val (s_field rfl rfl rfl rfl) rfl rfl rfl rfl ?_
  refine gq_val (s_load rfl rfl rfl rfl) rfl rfl rfl rfl ?_
  refine gq_val (s_index rfl rfl rfl (by decide) rfl) rfl rfl rfl rfl ?_
  refine gq_val (s_fieldT rfl rfl rfl rfl rfl) rfl rfl rfl rfl ?_
  refine gq_val (s_loadT rfl rfl rfl) rfl rfl rfl rfl ?_
  refine gq_val (s_index rfl rfl rfl (by decide) rfl) rfl rfl rfl rfl ?_
  refine gq_val (s_fieldT rfl rfl rfl rfl rfl) rfl rfl rfl rfl ?_
  refine gq_val (s_loadT rfl rfl rfl) rfl rfl rfl rfl ?_
  refine gq_val (s_eql rfl rfl rfl) rfl rfl rfl rfl ?_
  refine g_val (s_pickT rfl rfl rfl) rfl ?_
  refine g_val (s_move rfl rfl) rfl ?_
  refine g_probe (j := 111) rfl (fun c hg111 => ?_)
  rw [← hg111, hg111.trans (show _ = true from rfl)]
  clear hg111 c
  refine gq_val (s_move rfl rfl) rfl rfl rfl rfl ?_
  refine gq_val (s_eql rfl rfl rfl) rfl rfl rfl rfl ?_
  refine g_val (s_pickT rfl rfl rfl) rfl ?_
  refine g_val (s_move rfl rfl) rfl ?_
  refine g_probe (j := 115) rfl (fun c hg115 => ?_)
  rw [← hg115, hg115.trans (show _ = true from rfl)]
  clear hg115 c
  refine gq_val (s_loadA rfl rfl rfl rfl rfl) rfl rfl rfl rfl ?_
  refine gq_val (s_call [] (h7) (evArgs_cons rfl evArgs_nil) trivial rfl (okVL_nil _) rfl (.inl rfl) rfl) rfl rfl rfl rfl ?_
  refine g_val (s_pickT rfl rfl rfl) rfl ?_
  refine g_val (s_move rfl rfl) rfl ?_
  refine g_probe (j := 119) rfl (fun c hg119 => ?_)
  rw [← hg119, hg119.trans (show _ = true from rfl)]
  clear hg119 c
  refine gq_val (s_loadA rfl rfl rfl rfl rfl) rfl rfl rfl rfl ?_
  refine gq_val (s_call [] (h8) (evArgs_cons rfl evArgs_nil) trivial rfl (okVL_nil _) rfl (.inl rfl) rfl) rfl rfl rfl rfl ?_
  refine gq_val (s_eql rfl rfl rfl) rfl rfl rfl rfl ?_
  refine g_val (s_pickT rfl rfl rfl) rfl ?_
  refine g_val (s_assign rfl rfl) rfl ?_
  refine g_nil ?_
  exact vc_ret (ret_of _ (.cons (.tmp rfl) .nil) rfl rfl)

end Go.Eng

set_option maxHeartbeats 8000000
namespace Go.Eng
open Go.Proofs

instance : BoolC Try.prog 4 := ⟨by kernel_rfl⟩

theorem c_mementoref16_Same (a b : Volume) : Con Try.prog 10 [sC (volC a), sC (volC b)] [] (AB (decide (a = b))) [] := by
  refine con_intro [] [] Try.func10 rfl Try.ntmps10 Try.results10 rfl rfl ?_
  intro E
  refine vc_rseq mixed ?_
  refine g_new (s_box 2 rfl rfl rfl rfl) rfl ?_
  refine g_new (s_box 3 rfl rfl rfl rfl) rfl ?_
  refine g_val (s_assign rfl rfl) rfl ?_
  refine g_nil ?_
  refine vc_rseq mixed ?_
  refine g_val (s_loadA rfl rfl rfl rfl rfl) rfl ?_
  refine g_val (s_loadA rfl rfl rfl rfl rfl) rfl ?_
  refine g_val (s_call [] (c_mementoref16_Shape a b) (evArgs_cons rfl (evArgs_cons rfl evArgs_nil)) trivial rfl (okVL_nil _) rfl (.inl rfl) rfl) rfl ?_
  refine g_val (s_move rfl rfl) rfl ?_
  refine g_probe (j := 8) rfl (fun c hg8 => ?_)
  cases c
  rw [← hg8]; replace hg8 := hg8.symm; replace hg8 := of_decide_eq_false hg8
  refine gn_val rfl rfl rfl rfl rfl rfl (by decide) ?_
  refine gn_val rfl rfl rfl rfl rfl rfl (by decide) ?_
  refine gn_val rfl rfl rfl rfl rfl rfl (by decide) ?_
  refine gn_val rfl rfl rfl rfl rfl rfl (by decide) ?_
  refine gn_val rfl rfl rfl rfl rfl rfl (by decide) ?_
  refine g_val (s_pickF rfl rfl rfl) rfl ?_
  refine g_val (s_move rfl rfl) rfl ?_
  refine gn_val rfl rfl rfl rfl rfl rfl (by decide) ?_
  refine gn_val rfl rfl rfl rfl rfl rfl (by decide) ?_
  refine gn_val rfl rfl rfl rfl rfl rfl (by decide) ?_
  refine gn_val rfl rfl rfl rfl rfl rfl (by decide) ?_
  refine gn_val rfl rfl rfl rfl rfl rfl (by decide) ?_
  refine g_val (s_pickF rfl rfl rfl) rfl ?_
  refine g_val (s_move rfl rfl) rfl ?_
  refine gn_val rfl rfl rfl rfl rfl rfl (by decide) ?_
  refine gn_val rfl rfl rfl rfl rfl rfl (by decide) ?_
  refine gn_val rfl rfl rfl rfl rfl rfl (by decide) ?_
  refine gn_val rfl rfl rfl rfl rfl rfl (by decide) ?_
  refine gn_val rfl rfl rfl rfl rfl rfl (by decide) ?_
  refine g_val (s_pickF rfl rfl rfl) rfl ?_
  refine g_val (s_move rfl rfl) rfl ?_
  refine gn_val rfl rfl rfl rfl rfl rfl (by decide) ?_
  refine gn_val rfl rfl rfl rfl rfl rfl (by decide) ?_
  refine gn_val rfl rfl rfl rfl rfl rfl (by decide) ?_
  refine gn_val rfl rfl rfl rfl rfl rfl (by decide) ?_
  refine gn_val rfl rfl rfl rfl rfl rfl (by decide) ?_
  refine g_val (s_pickF rfl rfl rfl) rfl ?_
  refine g_val (s_move rfl rfl) rfl ?_
  refine gn_val rfl rfl rfl rfl rfl rfl (by decide) ?_
  refine gn_val rfl rfl rfl rfl rfl rfl (by decide) ?_
  refine gn_val rfl rfl rfl rfl rfl rfl (by decide) ?_
  refine gn_val rfl rfl rfl rfl rfl rfl (by decide) ?_
  refine gn_val rfl rfl rfl rfl rfl rfl (by decide) ?_
  refine g_val (s_pickF rfl rfl rfl) rfl ?_
  refine g_val (s_assign rfl rfl) rfl ?_
  refine g_nil ?_
  first
  | exact vc_ret (ret_of _ (.cons (.tmp rfl) .nil) (congrArg (fun b => AV.t (T.k (Value.bool b))) (decide_eq_false (fun h => by subst h; first | exact absurd rfl hg15 | exact absurd rfl hg29 | exact absurd rfl hg36 | exact hg8 ⟨rfl, rfl, rfl, rfl, rfl, rfl⟩ | (simp at hg22))).symm) rfl)
  | exact vc_ret (ret_of _ (.cons (.tmp rfl) .nil) (congrArg (fun b => AV.t (T.k (Value.bool b))) (decide_eq_decide.2 ⟨fun h => by
      obtain ⟨e1, e2, e3, e4, e5, e6⟩ := hg8
      have e7 : a.hidden = b.hidden := by simpa using hg22
      cases a; cases b; simp_all, fun h => h ▸ rfl⟩)) rfl)
  rw [← hg8]; replace hg8 := hg8.symm; replace hg8 := of_decide_eq_true hg8
  refine gq_val (s_field rfl rfl rfl rfl) rfl rfl rfl rfl ?_
  refine gq_val (s_load rfl rfl rfl rfl) rfl rfl rfl rfl ?_
  refine gq_val (s_field rfl rfl rfl rfl) rfl rfl rfl rfl ?_
  refine gq_val (s_load rfl rfl rfl rfl) rfl rfl rfl rfl ?_
  refine gq_val (s_eql rfl rfl rfl) rfl rfl rfl rfl ?_
  refine g_val (s_pickT rfl rfl rfl) rfl ?_
  refine g_val (s_move rfl rfl) rfl ?_
  refine g_probe (j := 15) rfl (fun c hg15 => ?_)
  cases c
  rw [← hg15]; replace hg15 := hg15.symm; replace hg15 := of_decide_eq_false hg15
  refine gn_val rfl rfl rfl rfl rfl rfl (by decide) ?_
  refine gn_val rfl rfl rfl rfl rfl rfl (by decide) ?_
  refine gn_val rfl rfl rfl rfl rfl rfl (by decide) ?_
  refine gn_val rfl rfl rfl rfl rfl rfl (by decide) ?_
  refine gn_val rfl rfl rfl rfl rfl rfl (by decide) ?_
  refine g_val (s_pickF rfl rfl rfl) rfl ?_
  refine g_val (s_move rfl rfl) rfl ?_
  refine gn_val rfl rfl rfl rfl rfl rfl (by decide) ?_
  refine gn_val rfl rfl rfl rfl rfl rfl (by decide) ?_
  refine gn_val rfl rfl rfl rfl rfl rfl (by decide) ?_
  refine gn_val rfl rfl rfl rfl rfl rfl (by decide) ?_
  refine gn_val rfl rfl rfl rfl rfl rfl (by decide) ?_
  refine g_val (s_pickF rfl rfl rfl) rfl ?_
  refine g_val (s_move rfl rfl) rfl ?_
  refine gn_val rfl rfl rfl rfl rfl rfl (by decide) ?_
  refine gn_val rfl rfl rfl rfl rfl rfl (by decide) ?_
  refine gn_val rfl rfl rfl rfl rfl rfl (by decide) ?_
  refine gn_val rfl rfl rfl rfl rfl rfl (by decide) ?_
  refine gn_val rfl rfl rfl rfl rfl rfl (by decide) ?_
  refine g_val (s_pickF rfl rfl rfl) rfl ?_
  refine g_val (s_move rfl rfl) rfl ?_
  refine gn_val rfl rfl rfl rfl rfl rfl (by decide) ?_
  refine gn_val rfl rfl rfl rfl rfl rfl (by decide) ?_
  refine gn_val rfl rfl rfl rfl rfl rfl (by decide) ?_
  refine gn_val rfl rfl rfl rfl rfl rfl (by decide) ?_
  refine gn_val rfl rfl rfl rfl rfl rfl (by decide) ?_
  refine g_val (s_pickF rfl rfl rfl) rfl ?_
  refine g_val (s_assign rfl rfl) rfl ?_
  refine g_nil ?_
  first
  | exact vc_ret (ret_of _ (.cons (.tmp rfl) .nil) (congrArg (fun b => AV.t (T.k (Value.bool b))) (decide_eq_false (fun h => by subst h; first | exact absurd rfl hg15 | exact absurd rfl hg29 | exact absurd rfl hg36 | exact hg8 ⟨rfl, rfl, rfl, rfl, rfl, rfl⟩ | (simp at hg22))).symm) rfl)
  | exact vc_ret (ret_of _ (.cons (.tmp rfl) .nil) (congrArg (fun b => AV.t (T.k (Value.bool b))) (decide_eq_decide.2 ⟨fun h => by
      obtain ⟨e1, e2, e3, e4, e5, e6⟩ := hg8
      have e7 : a.hidden = b.hidden := by simpa using hg22
      cases a; cases b; simp_all, fun h => h ▸ rfl⟩)) rfl)
  rw [← hg15]; replace hg15 := hg15.symm; replace hg15 := of_decide_eq_true hg15
  refine gq_val (s_field rfl rfl rfl rfl) rfl rfl rfl rfl ?_
  refine gq_val (s_load rfl rfl rfl rfl) rfl rfl rfl rfl ?_
  refine gq_val (s_field rfl rfl rfl rfl) rfl rfl rfl rfl ?_
  refine gq_val (s_load rfl rfl rfl rfl) rfl rfl rfl rfl ?_
  refine gq_val (s_eqlB rfl rfl rfl) rfl rfl rfl rfl ?_
  refine g_val (s_pickT rfl rfl rfl) rfl ?_
  refine g_val (s_move rfl rfl) rfl ?_
  refine g_probe (j := 22) rfl (fun c hg22 => ?_)
  cases c
  rw [← hg22]; replace hg22 := hg22.symm; replace hg22 := of_decide_eq_false hg22
  refine gn_val rfl rfl rfl rfl rfl rfl (by decide) ?_
  refine gn_val rfl rfl rfl rfl rfl rfl (by decide) ?_
  refine gn_val rfl rfl rfl rfl rfl rfl (by decide) ?_
  refine gn_val rfl rfl rfl rfl rfl rfl (by decide) ?_
  refine gn_val rfl rfl rfl rfl rfl rfl (by decide) ?_
  refine g_val (s_pickF rfl rfl rfl) rfl ?_
  refine g_val (s_move rfl rfl) rfl ?_
  refine gn_val rfl rfl rfl rfl rfl rfl (by decide) ?_
  refine gn_val rfl rfl rfl rfl rfl rfl (by decide) ?_
  refine gn_val rfl rfl rfl rfl rfl rfl (by decide) ?_
  refine gn_val rfl rfl rfl rfl rfl rfl (by decide) ?_
  refine gn_val rfl rfl rfl rfl rfl rfl (by decide) ?_
  refine g_val (s_pickF rfl rfl rfl) rfl ?_
  refine g_val (s_move rfl rfl) rfl ?_
  refine gn_val rfl rfl rfl rfl rfl rfl (by decide) ?_
  refine gn_val rfl rfl rfl rfl rfl rfl (by decide) ?_
  refine gn_val rfl rfl rfl rfl rfl rfl (by decide) ?_
  refine gn_val rfl rfl rfl rfl rfl rfl (by decide) ?_
  refine gn_val rfl rfl rfl rfl rfl rfl (by decide) ?_
  refine g_val (s_pickF rfl rfl rfl) rfl ?_
  refine g_val (s_assign rfl rfl) rfl ?_
  refine g_nil ?_
  first
  | exact vc_ret (ret_of _ (.cons (.tmp rfl) .nil) (congrArg (fun b => AV.t (T.k (Value.bool b))) (decide_eq_false (fun h => by subst h; first | exact absurd rfl hg15 | exact absurd rfl hg29 | exact absurd rfl hg36 | exact hg8 ⟨rfl, rfl, rfl, rfl, rfl, rfl⟩ | (simp at hg22))).symm) rfl)
  | exact vc_ret (ret_of _ (.cons (.tmp rfl) .nil) (congrArg (fun b => AV.t (T.k (Value.bool b))) (decide_eq_decide.2 ⟨fun h => by
      obtain ⟨e1, e2, e3, e4, e5, e6⟩ := hg8
      have e7 : a.hidden = b.hidden := by simpa using hg22
      cases a; cases b; simp_all, fun h => h ▸ rfl⟩)) rfl)
  rw [← hg22]; replace hg22 := hg22.symm; replace hg22 := of_decide_eq_true hg22
  refine gq_val (s_field rfl rfl rfl rfl) rfl rfl rfl rfl ?_
  refine gq_val (s_load rfl rfl rfl rfl) rfl rfl rfl rfl ?_
  refine gq_val (s_field rfl rfl rfl rfl) rfl rfl rfl rfl ?_
  refine gq_val (s_load rfl rfl rfl rfl) rfl rfl rfl rfl ?_
  refine gq_val (s_eql rfl rfl rfl) rfl rfl rfl rfl ?_
  refine g_val (s_pickT rfl rfl rfl) rfl ?_
  refine g_val (s_move rfl rfl) rfl ?_
  refine g_probe (j := 29) rfl (fun c hg29 => ?_)
  cases c
  rw [← hg29]; replace hg29 := hg29.symm; replace hg29 := of_decide_eq_false hg29
  refine gn_val rfl rfl rfl rfl rfl rfl (by decide) ?_
  refine gn_val rfl rfl rfl rfl rfl rfl (by decide) ?_
  refine gn_val rfl rfl rfl rfl rfl rfl (by decide) ?_
  refine gn_val rfl rfl rfl rfl rfl rfl (by decide) ?_
  refine gn_val rfl rfl rfl rfl rfl rfl (by decide) ?_
  refine g_val (s_pickF rfl rfl rfl) rfl ?_
  refine g_val (s_move rfl rfl) rfl ?_
  refine gn_val rfl rfl rfl rfl rfl rfl (by decide) ?_
  refine gn_val rfl rfl rfl rfl rfl rfl (by decide) ?_
  refine gn_val rfl rfl rfl rfl rfl rfl (by decide) ?_
  refine gn_val rfl rfl rfl rfl rfl rfl (by decide) ?_
  refine gn_val rfl rfl rfl rfl rfl rfl (by decide) ?_
  refine g_val (s_pickF rfl rfl rfl) rfl ?_
  refine g_val (s_assign rfl rfl) rfl ?_
  refine g_nil ?_
  first
  | exact vc_ret (ret_of _ (.cons (.tmp rfl) .nil) (congrArg (fun b => AV.t (T.k (Value.bool b))) (decide_eq_false (fun h => by subst h; first | exact absurd rfl hg15 | exact absurd rfl hg29 | exact absurd rfl hg36 | exact hg8 ⟨rfl, rfl, rfl, rfl, rfl, rfl⟩ | (simp at hg22))).symm) rfl)
  | exact vc_ret (ret_of _ (.cons (.tmp rfl) .nil) (congrArg (fun b => AV.t (T.k (Value.bool b))) (decide_eq_decide.2 ⟨fun h => by
      obtain ⟨e1, e2, e3, e4, e5, e6⟩ := hg8
      have e7 : a.hidden = b.hidden := by simpa using hg22
      cases a; cases b; simp_all, fun h => h ▸ rfl⟩)) rfl)
  rw [← hg29]; replace hg29 := hg29.symm; replace hg29 := of_decide_eq_true hg29
  refine gq_val (s_field rfl rfl rfl rfl) rfl rfl rfl rfl ?_
  refine gq_val (s_load rfl rfl rfl rfl) rfl rfl rfl rfl ?_
  refine gq_val (s_field rfl rfl rfl rfl) rfl rfl rfl rfl ?_
  refine gq_val (s_load rfl rfl rfl rfl) rfl rfl rfl rfl ?_
  refine gq_val (s_call [] (c_mementoref16_samePins a.pins b.pins) (evArgs_cons rfl (evArgs_cons rfl evArgs_nil)) trivial rfl (okVL_nil _) rfl (.inl rfl) rfl) rfl rfl rfl rfl ?_
  refine g_val (s_pickT rfl rfl rfl) rfl ?_
  refine g_val (s_move rfl rfl) rfl ?_
  refine g_probe (j := 36) rfl (fun c hg36 => ?_)
  cases c
  rw [← hg36]; replace hg36 := hg36.symm; replace hg36 := of_decide_eq_false hg36
  refine gn_val rfl rfl rfl rfl rfl rfl (by decide) ?_
  refine gn_val rfl rfl rfl rfl rfl rfl (by decide) ?_
  refine gn_val rfl rfl rfl rfl rfl rfl (by decide) ?_
  refine gn_val rfl rfl rfl rfl rfl rfl (by decide) ?_
  refine gn_val rfl rfl rfl rfl rfl rfl (by decide) ?_
  refine g_val (s_pickF rfl rfl rfl) rfl ?_
  refine g_val (s_assign rfl rfl) rfl ?_
  refine g_nil ?_
  first
  | exact vc_ret (ret_of _ (.cons (.tmp rfl) .nil) (congrArg (fun b => AV.t (T.k (Value.bool b))) (decide_eq_false (fun h => by subst h; first | exact absurd rfl hg15 | exact absurd rfl hg29 | exact absurd rfl hg36 | exact hg8 ⟨rfl, rfl, rfl, rfl, rfl, rfl⟩ | (simp at hg22))).symm) rfl)
  | exact vc_ret (ret_of _ (.cons (.tmp rfl) .nil) (congrArg (fun b => AV.t (T.k (Value.bool b))) (decide_eq_decide.2 ⟨fun h => by
      obtain ⟨e1, e2, e3, e4, e5, e6⟩ := hg8
      have e7 : a.hidden = b.hidden := by simpa using hg22
      cases a; cases b; simp_all, fun h => h ▸ rfl⟩)) rfl)
  rw [← hg36]; replace hg36 := hg36.symm; replace hg36 := of_decide_eq_true hg36
  refine gq_val (s_field rfl rfl rfl rfl) rfl rfl rfl rfl ?_
  refine gq_val (s_load rfl rfl rfl rfl) rfl rfl rfl rfl ?_
  refine gq_val (s_field rfl rfl rfl rfl) rfl rfl rfl rfl ?_
  refine gq_val (s_load rfl rfl rfl rfl) rfl rfl rfl rfl ?_
  refine gq_val (s_call [] (c_mementoref13_SameWrites a.writes b.writes) (evArgs_cons rfl (evArgs_cons rfl evArgs_nil)) trivial rfl (okVL_nil _) rfl (.inl rfl) rfl) rfl rfl rfl rfl ?_
  refine g_val (s_pickT rfl rfl rfl) rfl ?_
  refine g_val (s_assign rfl rfl) rfl ?_
  refine g_nil ?_
  first
  | exact vc_ret (ret_of _ (.cons (.tmp rfl) .nil) (congrArg (fun b => AV.t (T.k (Value.bool b))) (decide_eq_false (fun h => by subst h; first | exact absurd rfl hg15 | exact absurd rfl hg29 | exact absurd rfl hg36 | exact hg8 ⟨rfl, rfl, rfl, rfl, rfl, rfl⟩ | (simp at hg22))).symm) rfl)
  | exact vc_ret (ret_of _ (.cons (.tmp rfl) .nil) (congrArg (fun b => AV.t (T.k (Value.bool b))) (decide_eq_decide.2 ⟨fun h => by
      obtain ⟨e1, e2, e3, e4, e5, e6⟩ := hg8
      have e7 : a.hidden = b.hidden := by simpa using hg22
      cases a; cases b; simp_all, fun h => h ▸ rfl⟩)) rfl)

theorem VR.st {k : Nat} {v : Volume} (h : VR k v) (hk : k ≤ 1000000) : volSt v := by
  obtain ⟨s1, s2, s3, s4, s5, s6, s7, s8, s9, s10, s11, s12⟩ := h.shape
  refine ⟨⟨s3, s4⟩, by omega, by have := h.nw; omega, fun w hw => ?_, ?_⟩
  obtain ⟨i, hi⟩ := List.mem_iff_getElem?.1 hw
  have := (h.wr i w hi).2.2.1
  omega
  rw [List.pairwise_iff_getElem]
  intro i j hi hj hij
  have h1 := (h.wr i _ (List.getElem?_eq_getElem hi)).1
  have h2 := (h.wr j _ (List.getElem?_eq_getElem hj)).1
  omega

end Go.Eng

set_option maxHeartbeats 8000000
namespace Go.Eng
open Go.Proofs

theorem stateF_ok {v : Volume} {t : Int} (h1 : v.floor ≤ t) (h2 : t ≤ v.writes.length) : stateF v t = ((List.range v.blocks.toNat).map (stB v t), 0) := by
  unfold stateF; rw [if_neg (by omega), if_neg (by omega)]

def pinC (p : Int) : VolCmd := { cmdZ with kind := 4, time := p }
def prnC (p : Int) : VolCmd := { cmdZ with kind := 3, time := p }
theorem doF_pin {v : Volume} {p : Int} (hh : v.hidden = false) (h1 : v.floor ≤ p) (h2 : p ≤ v.writes.length) : doF v (pinC p) = ({ v with pins := insPin v.pins p }, repOf { v with pins := insPin v.pins p }) := by
  have e : doneF v (pinC p) = ({ v with pins := insPin v.pins p }, 0) := by
    unfold doneF
    rw [if_neg (by simp [hh]), if_neg (by simp [pinC]), if_neg (by simp [pinC]), if_pos (show (pinC p).kind = 4 from rfl), if_neg (by simp [pinC]; omega), if_neg (by simp [pinC]; omega)]
    rfl
  unfold doF
  rw [e, if_neg (by simp)]
theorem doF_prn {v : Volume} {p : Int} (hh : v.hidden = false) : (v.floor ≤ p ∧ p ≤ lowV v ∧ doF v (prnC p) = ({ v with floor := p }, repOf { v with floor := p })) ∨ (¬ (v.floor ≤ p ∧ p ≤ lowV v) ∧ ∃ e, e ≠ 0 ∧ doF v (prnC p) = (v, repE e)) := by
  have e : doneF v (prnC p) = if p < v.floor then (v, 30) else if lowV v < p then (v, 31) else ({ v with floor := p }, 0) := by
    unfold doneF
    rw [if_neg (by simp [hh]), if_neg (by simp [prnC]), if_pos (show (prnC p).kind = 3 from rfl)]
    rfl
  unfold doF
  rw [e]
  by_cases h1 : p < v.floor
  rw [if_pos h1]
  exact .inr ⟨by omega, 30, by decide, by rw [if_pos (by simp)]⟩
  rw [if_neg h1]
  by_cases h2 : lowV v < p
  rw [if_pos h2]
  exact .inr ⟨by omega, 31, by decide, by rw [if_pos (by simp)]⟩
  rw [if_neg h2]
  exact .inl ⟨by omega, by omega, by rw [if_neg (by simp)]⟩

theorem insPin_self (l : List Int) (x : Int) : x ∈ insPin l x := by simp [insPin]

theorem stB_congr {v y : Volume} (h1 : y.writes = v.writes) (h2 : y.size = v.size) (t : Int) : stB y t = stB v t := by
  funext j; unfold stB; rw [h1, h2]

theorem c_law_VolumePrunes (l : List Int) (at_ pin : Int) : Con Try.prog 3 [.t (bytesT l), AI .u8 at_, AI .u8 pin] [] (AB true) [] := by
  refine con_intro [] [] Try.func3 rfl Try.ntmps3 Try.results3 rfl rfl ?_
  intro E
  refine vc_int (t := 1) rfl fun ha => ?_
  refine vc_int (t := 2) rfl fun hp => ?_
  simp only [inI, kMin, kMax] at ha hp
  refine vc_rseq mixed ?_
  refine g_val (s_assign rfl rfl) rfl ?_
  refine g_nil ?_
  refine vc_seq ?_
  refine vc_rseq mixed ?_
  refine g_val (s_call [] (c_law16_known) evArgs_nil trivial rfl (okVL_nil _) rfl (.inl rfl) rfl) rfl ?_
  refine g_val (s_not rfl rfl) rfl ?_
  refine g_nil ?_
  refine vc_cond rfl (fun h => by cases h) (fun _ => ?_)
  refine vc_skip ?_
  refine vc_seq ?_
  refine vc_rseq mixed ?_
  refine g_val (s_move rfl rfl) rfl ?_
  refine g_val (s_len rfl rfl) rfl ?_
  refine g_val (s_gtr rfl rfl rfl) rfl ?_
  refine g_nil ?_
  refine vc_cond rfl (fun hc25 => ?_) (fun hc25 => ?_)
  replace hc25 := of_decide_eq_true hc25
  simp only [List.length_map] at hc25
  refine vc_rseq mixed ?_
  refine g_val (s_assign rfl rfl) rfl ?_
  refine g_nil ?_
  exact vc_ret (ret_of _ (.cons (.tmp rfl) .nil) rfl rfl)
  replace hc25 := of_decide_eq_false hc25
  simp only [List.length_map, Int.not_lt] at hc25
  refine vc_skip ?_
  refine vc_rseq mixed ?_
  refine g_val (s_move rfl rfl) rfl ?_
  refine g_val (s_call [] (c_mementoseat_Volume l (by omega)) (evArgs_cons rfl evArgs_nil) trivial rfl (okVL_nil _) rfl (.inl rfl) rfl) rfl ?_
  refine g_new (s_alloc 7 rfl rfl) rfl ?_
  refine g_sto (s_store rfl rfl rfl rfl rfl rfl) rfl ?_
  refine g_nil ?_
  refine vc_seq ?_
  have hVR := seatVol_VR l
  generalize seatVol l = v at *
  have hVR := hVR.mono (show l.length ≤ 60 by omega)
  have hfl := hVR.floor
  have hnw := hVR.nw
  have hnp := hVR.np
  refine vc_rseq mixed ?_
  refine g_val (s_field rfl rfl rfl rfl) rfl ?_
  refine g_val (s_load rfl rfl rfl rfl) rfl ?_
  refine g_nil ?_
  refine vc_cond rfl (fun hc29 => ?_) (fun hc29 => ?_)
  refine vc_rseq mixed ?_
  refine g_val (s_assign rfl rfl) rfl ?_
  refine g_nil ?_
  exact vc_ret (ret_of _ (.cons (.tmp rfl) .nil) rfl rfl)
  refine vc_skip ?_
  have hh : v.hidden = false := by simpa [bT] using hc29
  refine vc_rseq mixed ?_
  refine g_val (s_loadA rfl rfl rfl rfl rfl) rfl ?_
  refine g_val (s_call [] (c_mementoref16_Len v) (evArgs_cons rfl evArgs_nil) trivial rfl (okVL_nil _) rfl (.inl rfl) rfl) rfl ?_
  refine g_val (s_assign rfl rfl) rfl ?_
  refine g_nil ?_
  have hr1 := Int.emod_nonneg pin (b := (v.writes.length : Int) - v.floor + 1) (by omega)
  have hr2 := Int.emod_lt_of_pos pin (b := (v.writes.length : Int) - v.floor + 1) (by omega)
  refine vc_rseq mixed ?_
  refine d_val (s_field rfl rfl rfl rfl) rfl ?_
  refine d_val (s_load rfl rfl rfl rfl) rfl ?_
  refine d_val (s_move rfl rfl) rfl ?_
  refine d_val (s_conv rfl rfl (by simp only [inI, kMin, kMax]; omega)) rfl ?_
  refine d_val (s_move rfl rfl) rfl ?_
  refine d_val (s_field rfl rfl rfl rfl) rfl ?_
  refine d_val (s_load rfl rfl rfl rfl) rfl ?_
  refine d_val (s_sub rfl rfl rfl (by simp only [inI, kMin, kMax]; omega)) rfl ?_
  refine d_val (s_add rfl rfl rfl (by simp only [inI, kMin, kMax]; omega)) rfl ?_
  refine d_val (s_rem rfl rfl rfl (by omega) (by omega)) rfl ?_
  refine d_val (s_add rfl rfl rfl (by simp only [inI, kMin, kMax]; omega)) rfl ?_
  refine d_val (s_assign rfl rfl) rfl ?_
  refine d_nil rfl ?_
  have hp1 : v.floor ≤ v.floor + pin % ((v.writes.length : Int) - v.floor + 1) := by omega
  have hp2 : v.floor + pin % ((v.writes.length : Int) - v.floor + 1) ≤ v.writes.length := by omega
  generalize v.floor + pin % ((v.writes.length : Int) - v.floor + 1) = p at *
  have hdo := (c_volume_Do_pin v (pinC p) rfl hVR.sorted (by omega)).args (leL_cons (.same _) (leL_cons (cmdNA_nil (pinC p) rfl rfl) leL_nil))
  have hVx := hVR.doF (pinC p)
  rw [doF_pin hh hp1 hp2] at hdo hVx
  have hlx : lowV { v with pins := insPin v.pins p } ≤ p := (lowV_le { v with pins := insPin v.pins p }).2 p (insPin_self _ _)
  obtain ⟨x, hx⟩ : ∃ x, ({ v with pins := insPin v.pins p } : Volume) = x := ⟨_, rfl⟩
  have hxf : x.floor = v.floor := by rw [← hx]
  have hxw : x.writes = v.writes := by rw [← hx]
  have hxb : x.blocks = v.blocks := by rw [← hx]
  have hxs : x.size = v.size := by rw [← hx]
  have hxh : x.hidden = false := by rw [← hx]; exact hh
  rw [hx] at hdo hVx hlx
  refine vc_rseq mixed ?_
  refine g_val (s_loadA rfl rfl rfl rfl rfl) rfl ?_
  refine g_val (s_move rfl rfl) rfl ?_
  refine g_val (s_build (evArgs_cons rfl (evArgs_cons rfl evArgs_nil)) rfl rfl rfl) rfl ?_
  refine g_val (s_call [] (hdo) (evArgs_cons rfl (evArgs_cons rfl evArgs_nil)) trivial rfl (okVL_nil _) rfl (.inl rfl) rfl) rfl ?_
  refine g_val (s_move rfl rfl) rfl ?_
  refine g_val (s_extract rfl rfl rfl) rfl ?_
  refine g_val (s_extract rfl rfl rfl) rfl ?_
  refine g_new (s_alloc 10 rfl rfl) rfl ?_
  refine g_new (s_alloc 11 rfl rfl) rfl ?_
  refine g_sto (s_store rfl rfl rfl rfl rfl rfl) rfl ?_
  refine g_sto (s_store rfl rfl rfl rfl rfl rfl) rfl ?_
  refine g_nil ?_
  refine vc_seq ?_
  refine vc_rseq mixed ?_
  refine g_val (s_field rfl rfl rfl rfl) rfl ?_
  refine g_val (s_load rfl rfl rfl rfl) rfl ?_
  refine g_val (s_neq rfl rfl rfl) rfl ?_
  refine g_val (s_move rfl rfl) rfl ?_
  refine g_probe (j := 53) rfl (fun c hg53 => ?_)
  rw [← hg53, hg53.trans (show _ = false from rfl)]
  clear hg53 c
  refine gq_val (s_loadA rfl rfl rfl rfl rfl) rfl rfl rfl rfl ?_
  refine gq_val (s_call [] (c_volume_Low x) (evArgs_cons rfl evArgs_nil) trivial rfl (okVL_nil _) rfl (.inl rfl) rfl) rfl rfl rfl rfl ?_
  refine gq_val (s_move rfl rfl) rfl rfl rfl rfl ?_
  refine gq_val (s_gtr rfl rfl rfl) rfl rfl rfl rfl ?_
  refine g_val (s_pickF rfl rfl rfl) rfl ?_
  refine g_nil ?_
  refine vc_cond rfl (fun h => absurd (of_decide_eq_true h) (by omega)) (fun _ => ?_)
  refine vc_skip ?_
  refine vc_rseq mixed ?_
  refine g_val (s_move rfl rfl) rfl ?_
  refine g_val (s_conv rfl rfl (by simp only [inI, kMin, kMax]; omega)) rfl ?_
  refine g_val (s_move rfl rfl) rfl ?_
  refine g_val (s_add rfl rfl rfl (by simp only [inI, kMin, kMax]; omega)) rfl ?_
  refine g_val (s_rem rfl rfl rfl (by omega) (by omega)) rfl ?_
  refine g_val (s_assign rfl rfl) rfl ?_
  refine g_nil ?_
  have hf1 := Int.emod_nonneg at_ (b := (v.writes.length : Int) + 2) (by omega)
  generalize at_ % ((v.writes.length : Int) + 2) = f at *
  have hd2 := (c_volume_Do_prune x (prnC f) rfl).args (leL_cons (.same _) (leL_cons (cmdNA_nil (prnC f) rfl rfl) leL_nil))
  have hVy := hVx.doF (prnC f)
  obtain ⟨y, s, hys, hcs⟩ : ∃ y s, doF x (prnC f) = (y, s) ∧ ((v.floor ≤ f ∧ f ≤ lowV x ∧ s.code = 0 ∧ s.floor = f ∧ y = { x with floor := f }) ∨ (¬ (v.floor ≤ f ∧ f ≤ lowV x) ∧ s.code ≠ 0 ∧ y = x)) := by
    rcases doF_prn (p := f) hxh with ⟨g1, g2, g3⟩ | ⟨g1, e, g2, g3⟩
    exact ⟨_, _, g3, .inl ⟨by omega, g2, rfl, rfl, rfl⟩⟩
    exact ⟨_, _, g3, .inr ⟨by rw [hxf] at g1; exact g1, g2, rfl⟩⟩
  rw [hys] at hd2 hVy
  refine vc_rseq mixed ?_
  refine g_val (s_loadA rfl rfl rfl rfl rfl) rfl ?_
  refine g_val (s_move rfl rfl) rfl ?_
  refine g_val (s_build (evArgs_cons rfl (evArgs_cons rfl evArgs_nil)) rfl rfl rfl) rfl ?_
  refine g_val (s_call [] (hd2) (evArgs_cons rfl (evArgs_cons rfl evArgs_nil)) trivial rfl (okVL_nil _) rfl (.inl rfl) rfl) rfl ?_
  refine g_val (s_move rfl rfl) rfl ?_
  refine g_val (s_extract rfl rfl rfl) rfl ?_
  refine g_val (s_extract rfl rfl rfl) rfl ?_
  refine g_new (s_alloc 13 rfl rfl) rfl ?_
  refine g_new (s_alloc 14 rfl rfl) rfl ?_
  refine g_sto (s_store rfl rfl rfl rfl rfl rfl) rfl ?_
  refine g_sto (s_store rfl rfl rfl rfl rfl rfl) rfl ?_
  refine g_nil ?_
  refine vc_rseq mixed ?_
  refine g_val (s_move rfl rfl) rfl ?_
  refine g_val (s_field rfl rfl rfl rfl) rfl ?_
  refine g_val (s_load rfl rfl rfl rfl) rfl ?_
  refine g_val (s_geq rfl rfl rfl) rfl ?_
  refine g_val (s_move rfl rfl) rfl ?_
  refine g_probe (j := 75) rfl (fun c hg75 => ?_)
  cases c
  rw [← hg75]; replace hg75 := hg75.symm; replace hg75 := of_decide_eq_false hg75
  simp only [Int.not_le] at hg75
  have e : decide (s.code = 0) = false := by
    rcases hcs with ⟨g1, g2, g3, g4, g5⟩ | ⟨g1, g2, g3⟩
    omega
    exact decide_eq_false g2
  have hno : (!(decide (s.code = 0) == false)) = true → False := by rw [e]; simp
  refine gn_val rfl rfl rfl rfl rfl rfl (by decide) ?_
  refine gn_val rfl rfl rfl rfl rfl rfl (by decide) ?_
  refine gn_val rfl rfl rfl rfl rfl rfl (by decide) ?_
  refine gn_val rfl rfl rfl rfl rfl rfl (by decide) ?_
  refine g_val (s_pickF rfl rfl rfl) rfl ?_
  refine g_val (s_assign rfl rfl) rfl ?_
  refine g_nil ?_
  refine vc_seq ?_
  refine vc_rseq mixed ?_
  refine g_val (s_field rfl rfl rfl rfl) rfl ?_
  refine g_val (s_load rfl rfl rfl rfl) rfl ?_
  refine g_val (s_eql rfl rfl rfl) rfl ?_
  refine g_val (s_move rfl rfl) rfl ?_
  refine g_val (s_neqB rfl rfl rfl) rfl ?_
  refine g_nil ?_
  refine vc_cond rfl (fun h => (hno h).elim) (fun _ => ?_)
  refine vc_skip ?_
  refine vc_seq ?_
  refine vc_rseq mixed ?_
  refine g_val (s_move rfl rfl) rfl ?_
  refine g_val (s_not rfl rfl) rfl ?_
  refine g_nil ?_
  refine vc_cond rfl (fun _ => ?_) (fun h => by cases h)
  refine vc_rseq mixed ?_
  refine g_val (s_loadA rfl rfl rfl rfl rfl) rfl ?_
  refine g_val (s_loadA rfl rfl rfl rfl rfl) rfl ?_
  refine g_val (s_call [] (c_mementoref16_Same x y) (evArgs_cons rfl (evArgs_cons rfl evArgs_nil)) trivial rfl (okVL_nil _) rfl (.inl rfl) rfl) rfl ?_
  refine g_val (s_assign rfl rfl) rfl ?_
  refine g_nil ?_
  exact vc_ret (ret_of _ (.cons (.tmp rfl) .nil) (congrArg (fun b => AV.t (T.k (Value.bool b))) (decide_eq_true (show x = y by rcases hcs with ⟨g1, g2, g3, g4, g5⟩ | ⟨g1, g2, g3⟩; (exfalso; simp only [Bool.not_eq_true'] at *; omega); exact g3.symm))) rfl)
  rw [← hg75]; replace hg75 := hg75.symm; replace hg75 := of_decide_eq_true hg75
  have e : decide (s.code = 0) = decide (f ≤ lowV x) := by
    rcases hcs with ⟨g1, g2, g3, g4, g5⟩ | ⟨g1, g2, g3⟩
    rw [decide_eq_true g3, decide_eq_true g2]
    rw [decide_eq_false g2, decide_eq_false (by omega)]
  have hno : (!(decide (s.code = 0) == decide (f ≤ lowV x))) = true → False := by rw [e]; simp
  refine gq_val (s_move rfl rfl) rfl rfl rfl rfl ?_
  refine gq_val (s_loadA rfl rfl rfl rfl rfl) rfl rfl rfl rfl ?_
  refine gq_val (s_call [] (c_volume_Low x) (evArgs_cons rfl evArgs_nil) trivial rfl (okVL_nil _) rfl (.inl rfl) rfl) rfl rfl rfl rfl ?_
  refine gq_val (s_leq rfl rfl rfl) rfl rfl rfl rfl ?_
  refine g_val (s_pickT rfl rfl rfl) rfl ?_
  refine g_val (s_assign rfl rfl) rfl ?_
  refine g_nil ?_
  refine vc_seq ?_
  refine vc_rseq mixed ?_
  refine g_val (s_field rfl rfl rfl rfl) rfl ?_
  refine g_val (s_load rfl rfl rfl rfl) rfl ?_
  refine g_val (s_eql rfl rfl rfl) rfl ?_
  refine g_val (s_move rfl rfl) rfl ?_
  refine g_val (s_neqB rfl rfl rfl) rfl ?_
  refine g_nil ?_
  refine vc_cond rfl (fun h => (hno h).elim) (fun _ => ?_)
  refine vc_skip ?_
  refine vc_seq ?_
  refine vc_rseq mixed ?_
  refine g_val (s_move rfl rfl) rfl ?_
  refine g_val (s_not rfl rfl) rfl ?_
  refine g_nil ?_
  refine vc_cond rfl (fun hc87 => ?_) (fun hc87 => ?_)
  simp only [Bool.not_eq_true', decide_eq_false_iff_not, Int.not_le] at hc87
  refine vc_rseq mixed ?_
  refine g_val (s_loadA rfl rfl rfl rfl rfl) rfl ?_
  refine g_val (s_loadA rfl rfl rfl rfl rfl) rfl ?_
  refine g_val (s_call [] (c_mementoref16_Same x y) (evArgs_cons rfl (evArgs_cons rfl evArgs_nil)) trivial rfl (okVL_nil _) rfl (.inl rfl) rfl) rfl ?_
  refine g_val (s_assign rfl rfl) rfl ?_
  refine g_nil ?_
  exact vc_ret (ret_of _ (.cons (.tmp rfl) .nil) (congrArg (fun b => AV.t (T.k (Value.bool b))) (decide_eq_true (show x = y by rcases hcs with ⟨g1, g2, g3, g4, g5⟩ | ⟨g1, g2, g3⟩; (exfalso; simp only [Bool.not_eq_true'] at *; omega); exact g3.symm))) rfl)
  simp only [Bool.not_eq_false', decide_eq_true_eq] at hc87
  refine vc_skip ?_
  refine vc_seq ?_
  obtain ⟨g1, g2, g3, g4, g5⟩ : v.floor ≤ f ∧ f ≤ lowV x ∧ s.code = 0 ∧ s.floor = f ∧ y = { x with floor := f } := by
    rcases hcs with h | ⟨g1, g2, g3⟩
    exact h
    exfalso; omega
  have hyw : y.writes = v.writes := by rw [g5]; exact hxw
  have hys : y.size = v.size := by rw [g5]; exact hxs
  have hyb : y.blocks = v.blocks := by rw [g5]; exact hxb
  have hyf : y.floor = f := by rw [g5]
  have hfn := (lowV_le x).1
  rw [hxw] at hfn
  refine vc_rseq mixed ?_
  refine g_val (s_move rfl rfl) rfl ?_
  refine g_val (s_assign rfl rfl) rfl ?_
  refine g_nil ?_
  refine vc_block ?_
  refine vc_up ((v.writes.length : Int) + 1 - f).toNat (fun i => ⟨[(7, .ref 7 0), (8, AI .i64 v.writes.length), (12, AI .i64 f), (13, .ref 13 0), (14, .ref 14 0), (16, AI .i64 (f + (i : Int)))], [(7, some (.box ((volC v).map .t))), (13, some (.box ((volC y).map .t))), (14, some (.box ((repC s).map .t)))], [7, 13, 14]⟩) (fun i => True) (leE_same (by repeat (first | exact letm_nil _ _ | refine letm_cons rfl ?_ ?_ | exact .same _ | exact .nl (by decide) (by decide) | exact .nn | exact .id' rfl | exact .id' (by simp; done))) (by repeat (first | exact lehp_nil _ _ | refine lehp_cons rfl ?_ ?_ | exact leB_same _ | exact leB_row (by first | rfl | (simp; done)) | exact leB_obj (by simp; done) | exact leB_nest (by first | rfl | (simp; done)) | refine leB_box ?_ | exact leL_nil | refine leL_cons ?_ ?_ | exact .same _ | exact .nl (by decide) (by decide) | exact .nn | exact .id' rfl | exact .id' (by simp; done))) rfl) trivial (fun i hi _ => ?_)
  refine vc_seq ?_
  refine vc_rseq mixed ?_
  refine g_val (s_move rfl rfl) rfl ?_
  refine g_val (s_move rfl rfl) rfl ?_
  refine g_val (s_leq rfl rfl rfl) rfl ?_
  refine g_nil ?_
  refine vc_cond rfl (fun hc94 => ?_) (fun hc94 => ?_)
  replace hc94 := of_decide_eq_true hc94
  have hs1 := c_volume_State v (f + (i : Int)) (hVR.st (by omega))
  have hs2 := c_volume_State y (f + (i : Int)) (hVy.st (by omega))
  rw [stateF_ok (by omega) (by omega)] at hs1
  rw [stateF_ok (by omega) (by rw [hyw]; omega), hyb, stB_congr hyw hys] at hs2
  generalize (List.range v.blocks.toNat).map (stB v (f + (i : Int))) = S at *
  refine vc_skip ?_
  refine vc_seq ?_
  refine vc_block ?_
  refine vc_rseq mixed ?_
  refine g_val (s_loadA rfl rfl rfl rfl rfl) rfl ?_
  refine g_val (s_move rfl rfl) rfl ?_
  refine g_val (s_call [] (hs1) (evArgs_cons rfl (evArgs_cons rfl evArgs_nil)) trivial rfl (okVL_nil _) rfl (.inl rfl) rfl) rfl ?_
  refine g_val (s_move rfl rfl) rfl ?_
  refine g_val (s_extract rfl rfl rfl) rfl ?_
  refine g_val (s_extract rfl rfl rfl) rfl ?_
  refine g_val (s_assign rfl rfl) rfl ?_
  refine g_val (s_assign rfl rfl) rfl ?_
  refine g_nil ?_
  refine vc_rseq mixed ?_
  refine g_val (s_loadA rfl rfl rfl rfl rfl) rfl ?_
  refine g_val (s_move rfl rfl) rfl ?_
  refine g_val (s_call [] (hs2) (evArgs_cons rfl (evArgs_cons rfl evArgs_nil)) trivial rfl (okVL_nil _) rfl (.inl rfl) rfl) rfl ?_
  refine g_val (s_move rfl rfl) rfl ?_
  refine g_val (s_extract rfl rfl rfl) rfl ?_
  refine g_val (s_extract rfl rfl rfl) rfl ?_
  refine g_val (s_assign rfl rfl) rfl ?_
  refine g_val (s_assign rfl rfl) rfl ?_
  refine g_nil ?_
  refine vc_rseq mixed ?_
  refine g_val (s_move rfl rfl) rfl ?_
  refine g_val (s_neq rfl rfl rfl) rfl ?_
  refine g_val (s_move rfl rfl) rfl ?_
  refine g_probe (j := 111) rfl (fun c hg111 => ?_)
  rw [← hg111, hg111.trans (show _ = false from rfl)]
  clear hg111 c
  refine gq_val (s_move rfl rfl) rfl rfl rfl rfl ?_
  refine gq_val (s_neq rfl rfl rfl) rfl rfl rfl rfl ?_
  refine g_val (s_pickF rfl rfl rfl) rfl ?_
  refine g_val (s_move rfl rfl) rfl ?_
  refine g_probe (j := 115) rfl (fun c hg115 => ?_)
  rw [← hg115, hg115.trans (show _ = false from rfl)]
  clear hg115 c
  refine gq_val (s_move rfl rfl) rfl rfl rfl rfl ?_
  refine gq_val (s_move rfl rfl) rfl rfl rfl rfl ?_
  refine gq_val (s_call [] (c_mementohelp_Bodies S S) (evArgs_cons rfl (evArgs_cons rfl evArgs_nil)) trivial rfl (okVL_nil _) rfl (.inl rfl) rfl) rfl rfl rfl rfl ?_
  refine gq_val (s_not rfl rfl) rfl rfl rfl rfl ?_
  refine g_val (s_pickF rfl rfl rfl) rfl ?_
  refine g_nil ?_
  refine vc_cond rfl (fun h => by simp at h) (fun _ => ?_)
  refine vc_skip ?_
  refine vc_region mixed ?_
  refine g_val (s_move rfl rfl) rfl ?_
  refine g_val (s_add rfl rfl rfl (by simp only [inI, kMin, kMax]; omega)) rfl ?_
  refine g_val (s_assign rfl rfl) rfl ?_
  refine g_nil ?_
  exact ⟨by omega, trivial, (leE_same (by repeat (first | exact letm_nil _ _ | refine letm_cons rfl ?_ ?_ | exact .same _ | exact .nl (by decide) (by decide) | exact .nn | exact .id' rfl | exact .id' (by simp; omega))) (by repeat (first | exact lehp_nil _ _ | refine lehp_cons rfl ?_ ?_ | exact leB_same _ | exact leB_row (by first | rfl | (simp; omega)) | exact leB_obj (by simp; omega) | exact leB_nest (by first | rfl | (simp; omega)) | refine leB_box ?_ | exact leL_nil | refine leL_cons ?_ ?_ | exact .same _ | exact .nl (by decide) (by decide) | exact .nn | exact .id' rfl | exact .id' (by simp; omega))) rfl)⟩
  replace hc94 := of_decide_eq_false hc94
  simp only [Int.not_le] at hc94
  refine vc_exit ?_
  refine vc_rseq mixed ?_
  refine g_val (s_field rfl rfl rfl rfl) rfl ?_
  refine g_val (s_load rfl rfl rfl rfl) rfl ?_
  refine g_val (s_move rfl rfl) rfl ?_
  refine g_val (s_eql rfl rfl rfl) rfl ?_
  refine g_val (s_move rfl rfl) rfl ?_
  refine g_probe (j := 125) rfl (fun c hg125 => ?_)
  rw [← hg125, hg125.trans (show _ = true from decide_eq_true hyf)]
  clear hg125 c
  refine gq_val (s_field rfl rfl rfl rfl) rfl rfl rfl rfl ?_
  refine gq_val (s_load rfl rfl rfl rfl) rfl rfl rfl rfl ?_
  refine gq_val (s_move rfl rfl) rfl rfl rfl rfl ?_
  refine gq_val (s_eql rfl rfl rfl) rfl rfl rfl rfl ?_
  refine g_val (s_pickT rfl rfl rfl) rfl ?_
  refine g_val (s_assign rfl rfl) rfl ?_
  refine g_nil ?_
  exact vc_ret (ret_of _ (.cons (.tmp rfl) .nil) (congrArg (fun b => AV.t (T.k (Value.bool b))) (decide_eq_true g4)) rfl)

end Go.Eng

set_option maxHeartbeats 8000000
namespace Go.Eng
open Go.Proofs

/-! ### The items are right -/
structure SeatOK (blocks size : Int) (acc : List Item) : Prop where
  len : acc.length ≤ 8
  all : ∀ x ∈ acc, 0 ≤ x.block ∧ x.block < blocks ∧ (x.data.length : Int) = size
  nd : (acc.map (·.block)).Nodup
theorem dataF_len (size k : Int) (hs : 0 ≤ size) : ((dataF size k).length : Int) = size := by simp [dataF]; omega
theorem seatG_ok {blocks size : Int} (hb : 1 ≤ blocks) (hs : 0 ≤ size) : ∀ (l : List Int) (acc : List Item), SeatOK blocks size acc → SeatOK blocks size (seatG blocks size l acc) ∧ acc.length ≤ (seatG blocks size l acc).length
  | [], acc, h => ⟨h, Nat.le_refl _⟩
  | k :: l, acc, h => by
    simp only [seatG]
    split
    rename_i h8
    split
    exact seatG_ok hb hs l acc h
    rename_i hany
    have hmax : max blocks 1 = blocks := by omega
    have h0 := Int.emod_nonneg k (b := blocks) (by omega)
    have h1 := Int.emod_lt_of_pos k (b := blocks) (by omega)
    rw [hmax] at hany ⊢
    have hacc : SeatOK blocks size (acc ++ [⟨k % blocks, dataF size k⟩]) := by
      refine ⟨by simp; omega, fun x hx => ?_, ?_⟩
      rcases List.mem_append.1 hx with hx | hx
      exact h.all x hx
      simp at hx; subst hx; exact ⟨h0, h1, dataF_len size k hs⟩
      rw [List.map_append, List.nodup_append]
      refine ⟨h.nd, by simp, fun a ha b hb' => ?_⟩
      simp at hb'
      subst hb'
      obtain ⟨x, hx, rfl⟩ := List.mem_map.1 ha
      intro e
      apply hany
      rw [List.any_eq_true]
      exact ⟨x, hx, by simpa using e⟩
    obtain ⟨g1, g2⟩ := seatG_ok hb hs l _ hacc
    exact ⟨g1, by simp at g2; omega⟩
    exact ⟨h, Nat.le_refl _⟩
theorem seatItems_ok {blocks size : Int} (hb : 1 ≤ blocks) (hs : 0 ≤ size) {l : List Int} (hl : l ≠ []) : itemsOK blocks size (seatItems blocks size l) := by
  cases l with
  | nil => exact absurd rfl hl
  | cons k l =>
    have h0 : SeatOK blocks size [] := ⟨by simp, by simp, by simp⟩
    have e : seatItems blocks size (k :: l) = seatG blocks size l [⟨k % max blocks 1, dataF size k⟩] := by simp [seatItems, seatG]
    obtain ⟨g1, _⟩ := seatG_ok hb hs (k :: l) [] h0
    have hmax : max blocks 1 = blocks := by omega
    have h1 : SeatOK blocks size [⟨k % max blocks 1, dataF size k⟩] := by
      rw [hmax]
      exact ⟨by simp, fun x hx => by simp at hx; subst hx; exact ⟨Int.emod_nonneg k (by omega), Int.emod_lt_of_pos k (by omega), dataF_len size k hs⟩, by simp⟩
    obtain ⟨_, g2⟩ := seatG_ok hb hs l _ h1
    rw [← e] at g2
    exact ⟨by simpa using g2, g1.len, g1.all, g1.nd⟩

/-! ### What a block is at a time -/
def finV (l : List Ver) (z : List Int) : List Int := l.foldl (fun _ v => v.data) z
theorem finV_app (a b : List Ver) (z : List Int) : finV (a ++ b) z = finV b (finV a z) := by simp [finV]
theorem finV_last : ∀ (l : List Ver) (z : List Int), finV l z = ((l.getLast?).map (·.data)).getD z
  | [], z => rfl
  | [v], z => rfl
  | v :: u :: l, z => by
    have := finV_last (u :: l) v.data
    simp only [finV, List.foldl_cons] at this ⊢
    rw [this, List.getLast?_cons_cons]
    cases h : (u :: l).getLast? with
    | none => simp at h
    | some x => rfl
theorem atF_fin (l : List Ver) (t : Int) (z : List Int) : (if (atF l t).2 = true then (atF l t).1 else z) = finV (l.takeWhile fun v => decide (v.seq ≤ t)) z := by
  rw [finV_last]
  cases h : l.takeWhile (fun v => decide (v.seq ≤ t)) with
  | nil =>
    have e : atF l t = ([], false) := by unfold atF behN; rw [h]; rfl
    rw [e]; rfl
  | cons a r =>
    have e : atF l t = (((l[(a :: r).length - 1]?).map (·.data)).getD [], true) := by unfold atF behN; rw [h, if_neg (by simp)]
    rw [e, if_pos rfl]
    have hp : (a :: r) <+: l := h ▸ List.takeWhile_prefix _
    obtain ⟨s, rfl⟩ := hp
    rw [List.getElem?_append_left (by simp), List.getLast?_eq_getElem?]
    rw [List.getElem?_eq_getElem (by simp)]
    rfl
theorem stB_fin (v : Volume) (t : Int) (j : Nat) : stB v t j = finV ((histF v.writes j).takeWhile fun x => decide (x.seq ≤ t)) (zerB v.size.toNat) := atF_fin _ _ _

def wantF (it : List Item) (j : Nat) (d : List Int) : List Int := it.foldl (fun d x => if x.block = (j : Int) then x.data else d) d
theorem finV_verI (s : Int) : ∀ (it : List Item) (j : Nat) (d : List Int), finV (verI s it j) d = wantF it j d
  | [], j, d => rfl
  | x :: it, j, d => by
    have h := finV_verI s it j
    simp only [verI, wantF, List.foldl_cons, List.filter_cons] at h ⊢
    by_cases e : x.block = (j : Int)
    rw [if_pos (by simpa using e), if_pos e, List.map_cons]
    exact h x.data
    rw [if_neg (by simpa using e), if_neg e]
    exact h d

theorem histF_seq {k : Nat} {v : Volume} (h : VR k v) (j : Nat) : ∀ x ∈ histF v.writes j, x.seq ≤ v.writes.length := by
  intro x hx
  simp only [histF, List.mem_flatten, List.mem_map] at hx
  obtain ⟨l, ⟨w, hw, rfl⟩, hx⟩ := hx
  rw [verI_mem hx]
  obtain ⟨i, hi⟩ := List.mem_iff_getElem?.1 hw
  have := (h.wr i w hi).1
  have := (List.getElem?_eq_some_iff.1 hi).1
  omega
theorem takeWhile_all {α : Type} {p : α → Bool} {l : List α} (h : ∀ x ∈ l, p x = true) : l.takeWhile p = l := by
  induction l with
  | nil => rfl
  | cons a l ih => rw [List.takeWhile_cons, h a (List.mem_cons_self ..), if_pos rfl, ih fun x hx => h x (List.mem_cons_of_mem _ hx)]
theorem takeWhile_none {α : Type} {p : α → Bool} {l : List α} (h : ∀ x ∈ l, p x = false) : l.takeWhile p = [] := by
  cases l with
  | nil => rfl
  | cons a l => rw [List.takeWhile_cons, h a (List.mem_cons_self ..)]; rfl

theorem st_old {k : Nat} {v : Volume} (h : VR k v) (it : List Item) (j : Nat) : stB (writeV v it) v.writes.length j = stB v v.writes.length j := by
  rw [stB_fin, stB_fin]
  have e : histF (writeV v it).writes j = histF v.writes j ++ verI (v.writes.length + 1) it j := histF_snoc _ _ _
  have hH := histF_seq h j
  rw [e, List.takeWhile_append_of_pos (fun x hx => by simpa using hH x hx), takeWhile_none (fun x hx => by rw [verI_mem hx]; simp; omega), List.append_nil, takeWhile_all (fun x hx => by simpa using hH x hx)]
  rfl
theorem st_new {k : Nat} {v : Volume} (h : VR k v) (it : List Item) (j : Nat) : stB (writeV v it) (v.writes.length + 1) j = wantF it j (stB v v.writes.length j) := by
  rw [stB_fin, stB_fin]
  have e : histF (writeV v it).writes j = histF v.writes j ++ verI (v.writes.length + 1) it j := histF_snoc _ _ _
  have hH := histF_seq h j
  rw [e, takeWhile_all (fun x hx => by
    rcases List.mem_append.1 hx with hx | hx
    have := hH x hx; simp; omega
    rw [verI_mem hx]; simp), takeWhile_all (fun x hx => by simpa using hH x hx), finV_app, finV_verI]
  rfl

def putKC (it : List Item) : VolCmd := { cmdZ with kind := 2, items := it }
theorem doF_put {v : Volume} {it : List Item} (hh : v.hidden = false) (hi : itemsOK v.blocks v.size it) : doF v (putKC it) = (writeV v it, repOf (writeV v it)) := by
  have e : doneF v (putKC it) = (writeV v it, 0) := by
    unfold doneF
    rw [if_neg (by simp [hh]), if_pos (show (putKC it).kind = 2 from rfl), if_pos (show itemsOK v.blocks v.size (putKC it).items from hi)]
    rfl
  unfold doF
  rw [e, if_neg (by simp)]

end Go.Eng

set_option maxHeartbeats 8000000
namespace Go.Eng
open Go.Proofs

theorem range_get {α : Type} {n i : Nat} (f : Nat → α) (h : i < n) : ((List.range n).map f)[i]? = some (f i) := by simp [h]

theorem c_law_VolumeStates (l items : List Int) : Con Try.prog 4 [.t (bytesT l), .t (bytesT items)] [] (AB true) [] := by
  refine con_intro [] [] Try.func4 rfl Try.ntmps4 Try.results4 rfl rfl ?_
  intro E
  refine vc_rseq mixed ?_
  refine g_val (s_assign rfl rfl) rfl ?_
  refine g_nil ?_
  refine vc_seq ?_
  refine vc_rseq mixed ?_
  refine g_val (s_call [] (c_law16_known) evArgs_nil trivial rfl (okVL_nil _) rfl (.inl rfl) rfl) rfl ?_
  refine g_val (s_not rfl rfl) rfl ?_
  refine g_nil ?_
  refine vc_cond rfl (fun h => by cases h) (fun _ => ?_)
  refine vc_skip ?_
  refine vc_seq ?_
  refine vc_rseq mixed ?_
  refine g_val (s_move rfl rfl) rfl ?_
  refine g_val (s_len rfl rfl) rfl ?_
  refine g_val (s_gtr rfl rfl rfl) rfl ?_
  refine g_val (s_move rfl rfl) rfl ?_
  refine g_probe (j := 24) rfl (fun c hg24 => ?_)
  cases c
  rw [← hg24]; replace hg24 := hg24.symm; replace hg24 := of_decide_eq_false hg24
  simp only [List.length_map, Int.not_lt] at hg24
  refine gq_val (s_move rfl rfl) rfl rfl rfl rfl ?_
  refine gq_val (s_len rfl rfl) rfl rfl rfl rfl ?_
  refine gq_val (s_gtr rfl rfl rfl) rfl rfl rfl rfl ?_
  refine g_val (s_pickF rfl rfl rfl) rfl ?_
  refine g_val (s_move rfl rfl) rfl ?_
  refine g_probe (j := 29) rfl (fun c hg29 => ?_)
  cases c
  rw [← hg29]; replace hg29 := hg29.symm; replace hg29 := of_decide_eq_false hg29
  simp only [List.length_map, Int.not_lt] at hg29
  refine gq_val (s_move rfl rfl) rfl rfl rfl rfl ?_
  refine gq_val (s_len rfl rfl) rfl rfl rfl rfl ?_
  refine gq_val (s_eql rfl rfl rfl) rfl rfl rfl rfl ?_
  refine g_val (s_pickF rfl rfl rfl) rfl ?_
  refine g_nil ?_
  refine vc_cond rfl (fun hc33 => ?_) (fun hc33 => ?_)
  replace hc33 := of_decide_eq_true hc33
  simp only [List.length_map] at hc33
  refine vc_rseq mixed ?_
  refine g_val (s_assign rfl rfl) rfl ?_
  refine g_nil ?_
  exact vc_ret (ret_of _ (.cons (.tmp rfl) .nil) rfl rfl)
  replace hc33 := of_decide_eq_false hc33
  simp only [List.length_map] at hc33
  refine vc_skip ?_
  have hi0 : items ≠ [] := by rintro rfl; simp at *
  refine vc_rseq mixed ?_
  refine g_val (s_move rfl rfl) rfl ?_
  refine g_val (s_call [] (c_mementoseat_Volume l (by omega)) (evArgs_cons rfl evArgs_nil) trivial rfl (okVL_nil _) rfl (.inl rfl) rfl) rfl ?_
  refine g_new (s_alloc 5 rfl rfl) rfl ?_
  refine g_sto (s_store rfl rfl rfl rfl rfl rfl) rfl ?_
  refine g_nil ?_
  refine vc_seq ?_
  have hVR := seatVol_VR l
  generalize seatVol l = v at *
  have hVR := hVR.mono (show l.length ≤ 60 by omega)
  have hnw := hVR.nw
  have hsh := hVR.shape
  have hfl := hVR.floor
  obtain ⟨s1, s2, s3, s4, s5, s6, s7, s8, s9, s10, s11, s12⟩ := hsh
  refine vc_rseq mixed ?_
  refine g_val (s_field rfl rfl rfl rfl) rfl ?_
  refine g_val (s_load rfl rfl rfl rfl) rfl ?_
  refine g_nil ?_
  refine vc_cond rfl (fun hc37 => ?_) (fun hc37 => ?_)
  refine vc_rseq mixed ?_
  refine g_val (s_assign rfl rfl) rfl ?_
  refine g_nil ?_
  exact vc_ret (ret_of _ (.cons (.tmp rfl) .nil) rfl rfl)
  refine vc_skip ?_
  have hh : v.hidden = false := by simpa [bT] using hc37
  refine vc_rseq mixed ?_
  refine g_val (s_loadA rfl rfl rfl rfl rfl) rfl ?_
  refine g_val (s_call [] (c_mementoref16_Len v) (evArgs_cons rfl evArgs_nil) trivial rfl (okVL_nil _) rfl (.inl rfl) rfl) rfl ?_
  refine g_val (s_assign rfl rfl) rfl ?_
  refine g_nil ?_
  refine vc_rseq mixed ?_
  refine g_val (s_field rfl rfl rfl rfl) rfl ?_
  refine g_val (s_load rfl rfl rfl rfl) rfl ?_
  refine g_val (s_field rfl rfl rfl rfl) rfl ?_
  refine g_val (s_load rfl rfl rfl rfl) rfl ?_
  refine g_val (s_move rfl rfl) rfl ?_
  refine g_val (s_call [] (c_mementoseat_Items v.blocks v.size items (by omega)) (evArgs_cons rfl (evArgs_cons rfl (evArgs_cons rfl evArgs_nil))) trivial rfl (okVL_nil _) rfl (.inl rfl) rfl) rfl ?_
  refine g_val (s_assign rfl rfl) rfl ?_
  refine g_nil ?_
  have hit := seatItems_ok (blocks := v.blocks) (size := v.size) s3 (by omega) hi0
  have hitl := hit.2.1
  generalize seatItems v.blocks v.size items = it at *
  have hdo := (c_volume_Do_put v (putKC it) rfl hh (hVR.small (by omega))).args (leL_cons (.same _) (leL_cons (cmdNA_p (putKC it) rfl) leL_nil))
  have hVw := hVR.doF (putKC it)
  rw [doF_put hh hit] at hdo hVw
  have hs1 := c_volume_State (writeV v it) v.writes.length (hVw.st (by omega))
  have hs2 := c_volume_State (writeV v it) ((v.writes.length : Int) + 1) (hVw.st (by omega))
  have hs3 := c_volume_State v v.writes.length (hVR.st (by omega))
  have hwl : ((writeV v it).writes.length : Int) = (v.writes.length : Int) + 1 := by simp [writeV]
  rw [stateF_ok (show (writeV v it).floor ≤ (v.writes.length : Int) from hfl.2) (by omega)] at hs1
  rw [stateF_ok (show (writeV v it).floor ≤ (v.writes.length : Int) + 1 by have := hfl.2; simp only [writeV]; omega) (by omega)] at hs2
  rw [stateF_ok hfl.2 (by omega)] at hs3
  rw [show stB (writeV v it) (v.writes.length : Int) = stB v v.writes.length from funext fun j => st_old hVR it j] at hs1
  rw [show stB (writeV v it) ((v.writes.length : Int) + 1) = fun j => wantF it j (stB v v.writes.length j) from funext fun j => st_new hVR it j] at hs2
  have hwb : (writeV v it).blocks = v.blocks := rfl
  rw [hwb] at hs1 hs2
  obtain ⟨nb, hnb⟩ : ∃ nb, v.blocks.toNat = nb := ⟨_, rfl⟩
  rw [hnb] at hs1 hs2 hs3
  generalize stB v v.writes.length = fo at *
  refine vc_rseq mixed ?_
  refine g_val (s_loadA rfl rfl rfl rfl rfl) rfl ?_
  refine g_val (s_move rfl rfl) rfl ?_
  refine g_val (s_build (evArgs_cons rfl (evArgs_cons rfl evArgs_nil)) rfl rfl rfl) rfl ?_
  refine g_val (s_call [] (hdo) (evArgs_cons rfl (evArgs_cons rfl evArgs_nil)) trivial rfl (okVL_nil _) rfl (.inl rfl) rfl) rfl ?_
  refine g_val (s_move rfl rfl) rfl ?_
  refine g_val (s_extract rfl rfl rfl) rfl ?_
  refine g_val (s_extract rfl rfl rfl) rfl ?_
  refine g_new (s_alloc 8 rfl rfl) rfl ?_
  refine g_new (s_alloc 9 rfl rfl) rfl ?_
  refine g_sto (s_store rfl rfl rfl rfl rfl rfl) rfl ?_
  refine g_sto (s_store rfl rfl rfl rfl rfl rfl) rfl ?_
  refine g_nil ?_
  refine vc_rseq mixed ?_
  refine g_val (s_loadA rfl rfl rfl rfl rfl) rfl ?_
  refine g_val (s_move rfl rfl) rfl ?_
  refine g_val (s_call [] (hs1) (evArgs_cons rfl (evArgs_cons rfl evArgs_nil)) trivial rfl (okVL_nil _) rfl (.inl rfl) rfl) rfl ?_
  refine g_val (s_move rfl rfl) rfl ?_
  refine g_val (s_extract rfl rfl rfl) rfl ?_
  refine g_val (s_extract rfl rfl rfl) rfl ?_
  refine g_val (s_assign rfl rfl) rfl ?_
  refine g_val (s_assign rfl rfl) rfl ?_
  refine g_nil ?_
  refine vc_rseq mixed ?_
  refine g_val (s_loadA rfl rfl rfl rfl rfl) rfl ?_
  refine g_val (s_move rfl rfl) rfl ?_
  refine g_val (s_add rfl rfl rfl (by simp only [inI, kMin, kMax]; omega)) rfl ?_
  refine g_val (s_call [] (hs2) (evArgs_cons rfl (evArgs_cons rfl evArgs_nil)) trivial rfl (okVL_nil _) rfl (.inl rfl) rfl) rfl ?_
  refine g_val (s_move rfl rfl) rfl ?_
  refine g_val (s_extract rfl rfl rfl) rfl ?_
  refine g_val (s_extract rfl rfl rfl) rfl ?_
  refine g_val (s_assign rfl rfl) rfl ?_
  refine g_val (s_assign rfl rfl) rfl ?_
  refine g_nil ?_
  refine vc_rseq mixed ?_
  refine g_val (s_loadA rfl rfl rfl rfl rfl) rfl ?_
  refine g_val (s_move rfl rfl) rfl ?_
  refine g_val (s_call [] (hs3) (evArgs_cons rfl (evArgs_cons rfl evArgs_nil)) trivial rfl (okVL_nil _) rfl (.inl rfl) rfl) rfl ?_
  refine g_val (s_move rfl rfl) rfl ?_
  refine g_val (s_extract rfl rfl rfl) rfl ?_
  refine g_val (s_extract rfl rfl rfl) rfl ?_
  refine g_val (s_assign rfl rfl) rfl ?_
  refine g_val (s_assign rfl rfl) rfl ?_
  refine g_nil ?_
  refine vc_seq ?_
  refine vc_rseq mixed ?_
  refine g_val (s_field rfl rfl rfl rfl) rfl ?_
  refine g_val (s_load rfl rfl rfl rfl) rfl ?_
  refine g_val (s_neq rfl rfl rfl) rfl ?_
  refine g_val (s_move rfl rfl) rfl ?_
  refine g_probe (j := 75) rfl (fun c hg75 => ?_)
  rw [← hg75, hg75.trans (show _ = false from rfl)]
  clear hg75 c
  refine gq_val (s_field rfl rfl rfl rfl) rfl rfl rfl rfl ?_
  refine gq_val (s_load rfl rfl rfl rfl) rfl rfl rfl rfl ?_
  refine gq_val (s_move rfl rfl) rfl rfl rfl rfl ?_
  refine gq_val (s_add rfl rfl rfl (by simp only [inI, kMin, kMax]; omega)) rfl rfl rfl rfl ?_
  refine gq_val (s_neq rfl rfl rfl) rfl rfl rfl rfl ?_
  refine g_val (s_pickF rfl rfl rfl) rfl ?_
  refine g_val (s_move rfl rfl) rfl ?_
  refine g_probe (j := 82) rfl (fun c hg82 => ?_)
  rw [← hg82, hg82.trans (show _ = false from decide_eq_false (by simp [repOf, writeV]))]
  clear hg82 c
  refine gq_val (s_move rfl rfl) rfl rfl rfl rfl ?_
  refine gq_val (s_neq rfl rfl rfl) rfl rfl rfl rfl ?_
  refine g_val (s_pickF rfl rfl rfl) rfl ?_
  refine g_val (s_move rfl rfl) rfl ?_
  refine g_probe (j := 86) rfl (fun c hg86 => ?_)
  rw [← hg86, hg86.trans (show _ = false from rfl)]
  clear hg86 c
  refine gq_val (s_move rfl rfl) rfl rfl rfl rfl ?_
  refine gq_val (s_neq rfl rfl rfl) rfl rfl rfl rfl ?_
  refine g_val (s_pickF rfl rfl rfl) rfl ?_
  refine g_val (s_move rfl rfl) rfl ?_
  refine g_probe (j := 90) rfl (fun c hg90 => ?_)
  rw [← hg90, hg90.trans (show _ = false from rfl)]
  clear hg90 c
  refine gq_val (s_move rfl rfl) rfl rfl rfl rfl ?_
  refine gq_val (s_neq rfl rfl rfl) rfl rfl rfl rfl ?_
  refine g_val (s_pickF rfl rfl rfl) rfl ?_
  refine g_val (s_move rfl rfl) rfl ?_
  refine g_probe (j := 94) rfl (fun c hg94 => ?_)
  rw [← hg94, hg94.trans (show _ = false from rfl)]
  clear hg94 c
  refine gq_val (s_move rfl rfl) rfl rfl rfl rfl ?_
  refine gq_val (s_move rfl rfl) rfl rfl rfl rfl ?_
  refine gq_val (s_call [] (c_mementohelp_Bodies ((List.range nb).map fo) ((List.range nb).map fo)) (evArgs_cons rfl (evArgs_cons rfl evArgs_nil)) trivial rfl (okVL_nil _) rfl (.inl rfl) rfl) rfl rfl rfl rfl ?_
  refine gq_val (s_not rfl rfl) rfl rfl rfl rfl ?_
  refine g_val (s_pickF rfl rfl rfl) rfl ?_
  refine g_nil ?_
  refine vc_cond rfl (fun h => by simp at h) (fun _ => ?_)
  refine vc_skip ?_
  refine vc_seq ?_
  refine vc_rseq mixed ?_
  refine g_val (s_assign rfl rfl) rfl ?_
  refine g_nil ?_
  refine vc_block ?_
  refine vc_up nb (fun i => ⟨[(5, .ref 5 0), (7, .t (itemsT it)), (10, .t (bodiesT ((List.range nb).map fo))), (12, .t (bodiesT ((List.range nb).map fun j => wantF it j (fo j)))), (16, AI .i64 i)], [(5, some (.box ((volC v).map .t)))], [5]⟩) (fun i => True) (leE_same (by repeat (first | exact letm_nil _ _ | refine letm_cons rfl ?_ ?_ | exact .same _ | exact .nl (by decide) (by decide) | exact .nn | exact .id' rfl | exact .id' (by simp; done))) (by repeat (first | exact lehp_nil _ _ | refine lehp_cons rfl ?_ ?_ | exact leB_same _ | exact leB_row (by first | rfl | (simp; done)) | exact leB_obj (by simp; done) | exact leB_nest (by first | rfl | (simp; done)) | refine leB_box ?_ | exact leL_nil | refine leL_cons ?_ ?_ | exact .same _ | exact .nl (by decide) (by decide) | exact .nn | exact .id' rfl | exact .id' (by simp; done))) rfl) trivial (fun i hi _ => ?_)
  refine vc_seq ?_
  refine vc_rseq mixed ?_
  refine g_val (s_move rfl rfl) rfl ?_
  refine g_val (s_field rfl rfl rfl rfl) rfl ?_
  refine g_val (s_load rfl rfl rfl rfl) rfl ?_
  refine g_val (s_lss rfl rfl rfl) rfl ?_
  refine g_nil ?_
  refine vc_cond rfl (fun hc103 => ?_) (fun hc103 => ?_)
  replace hc103 := of_decide_eq_true hc103
  have hga : ((List.range nb).map fo)[i]? = some (fo i) := range_get fo (by omega)
  have hgb : ((List.range nb).map fun j => wantF it j (fo j))[i]? = some (wantF it i (fo i)) := range_get _ (by omega)
  refine vc_skip ?_
  refine vc_seq ?_
  refine vc_block ?_
  refine vc_rseq mixed ?_
  refine g_val (s_move rfl rfl) rfl ?_
  refine g_val (s_move rfl rfl) rfl ?_
  refine g_val (s_index rfl rfl rfl (by omega) (idx_map hga)) rfl ?_
  refine g_val (s_loadT rfl rfl rfl) rfl ?_
  refine g_val (s_assign rfl rfl) rfl ?_
  refine g_nil ?_
  refine vc_seq ?_
  refine vc_rseq mixed ?_
  refine g_val (s_assign rfl rfl) rfl ?_
  refine g_nil ?_
  refine vc_block ?_
  refine vc_up it.length (fun k => ⟨[(5, .ref 5 0), (7, .t (itemsT it)), (10, .t (bodiesT ((List.range nb).map fo))), (12, .t (bodiesT ((List.range nb).map fun j => wantF it j (fo j)))), (16, AI .i64 i), (17, .t (bytesT (wantF (it.take k) i (fo i)))), (18, AI .i64 k)], [(5, some (.box ((volC v).map .t)))], [5]⟩) (fun k => True) (leE_same (by repeat (first | exact letm_nil _ _ | refine letm_cons rfl ?_ ?_ | exact .same _ | exact .nl (by decide) (by decide) | exact .nn | exact .id' rfl | exact .id' (by simp; done))) (by repeat (first | exact lehp_nil _ _ | refine lehp_cons rfl ?_ ?_ | exact leB_same _ | exact leB_row (by first | rfl | (simp; done)) | exact leB_obj (by simp; done) | exact leB_nest (by first | rfl | (simp; done)) | refine leB_box ?_ | exact leL_nil | refine leL_cons ?_ ?_ | exact .same _ | exact .nl (by decide) (by decide) | exact .nn | exact .id' rfl | exact .id' (by simp; done))) rfl) trivial (fun k hk _ => ?_)
  refine vc_seq ?_
  refine vc_rseq mixed ?_
  refine g_val (s_move rfl rfl) rfl ?_
  refine g_val (s_move rfl rfl) rfl ?_
  refine g_val (s_len rfl rfl) rfl ?_
  refine g_val (s_lss rfl rfl rfl) rfl ?_
  refine g_nil ?_
  refine vc_cond rfl (fun hc113 => ?_) (fun hc113 => ?_)
  replace hc113 := of_decide_eq_true hc113
  simp only [List.length_map] at hc113
  obtain ⟨x, hx⟩ := get_of_lt (l := it) (i := k) (by omega)
  have hsn : wantF (it.take (k + 1)) i (fo i) = if x.block = (i : Int) then x.data else wantF (it.take k) i (fo i) := by
    unfold wantF; rw [foldl_take hx]
  refine vc_skip ?_
  refine vc_seq ?_
  refine vc_block ?_
  refine vc_rseq mixed ?_
  refine g_val (s_move rfl rfl) rfl ?_
  refine g_val (s_move rfl rfl) rfl ?_
  refine g_val (s_index rfl rfl rfl (by omega) (idx_map hx)) rfl ?_
  refine g_val (s_fieldT rfl rfl rfl rfl rfl) rfl ?_
  refine g_val (s_loadT rfl rfl rfl) rfl ?_
  refine g_val (s_move rfl rfl) rfl ?_
  refine g_val (s_eql rfl rfl rfl) rfl ?_
  refine g_nil ?_
  refine vc_cond rfl (fun hc122 => ?_) (fun hc122 => ?_)
  replace hc122 := of_decide_eq_true hc122
  refine vc_region mixed ?_
  refine g_val (s_move rfl rfl) rfl ?_
  refine g_val (s_move rfl rfl) rfl ?_
  refine g_val (s_index rfl rfl rfl (by omega) (idx_map hx)) rfl ?_
  refine g_val (s_fieldT rfl rfl rfl rfl rfl) rfl ?_
  refine g_val (s_loadT rfl rfl rfl) rfl ?_
  refine g_val (s_assign rfl rfl) rfl ?_
  refine g_nil ?_
  refine vc_region mixed ?_
  refine g_val (s_move rfl rfl) rfl ?_
  refine g_val (s_add rfl rfl rfl (by simp only [inI, kMin, kMax]; omega)) rfl ?_
  refine g_val (s_assign rfl rfl) rfl ?_
  refine g_nil ?_
  exact ⟨by omega, trivial, by
  rw [hsn]
  first | rw [if_pos hc122] | rw [if_neg hc122]
  exact (leE_same (by repeat (first | exact letm_nil _ _ | refine letm_cons rfl ?_ ?_ | exact .same _ | exact .nl (by decide) (by decide) | exact .nn | exact .id' rfl | exact .id' (by simp; done))) (by repeat (first | exact lehp_nil _ _ | refine lehp_cons rfl ?_ ?_ | exact leB_same _ | exact leB_row (by first | rfl | (simp; done)) | exact leB_obj (by simp; done) | exact leB_nest (by first | rfl | (simp; done)) | refine leB_box ?_ | exact leL_nil | refine leL_cons ?_ ?_ | exact .same _ | exact .nl (by decide) (by decide) | exact .nn | exact .id' rfl | exact .id' (by simp; done))) rfl)⟩
  replace hc122 := of_decide_eq_false hc122
  refine vc_skip ?_
  refine vc_region mixed ?_
  refine g_val (s_move rfl rfl) rfl ?_
  refine g_val (s_add rfl rfl rfl (by simp only [inI, kMin, kMax]; omega)) rfl ?_
  refine g_val (s_assign rfl rfl) rfl ?_
  refine g_nil ?_
  exact ⟨by omega, trivial, by
  rw [hsn]
  first | rw [if_pos hc122] | rw [if_neg hc122]
  exact (leE_same (by repeat (first | exact letm_nil _ _ | refine letm_cons rfl ?_ ?_ | exact .same _ | exact .nl (by decide) (by decide) | exact .nn | exact .id' rfl | exact .id' (by simp; done))) (by repeat (first | exact lehp_nil _ _ | refine lehp_cons rfl ?_ ?_ | exact leB_same _ | exact leB_row (by first | rfl | (simp; done)) | exact leB_obj (by simp; done) | exact leB_nest (by first | rfl | (simp; done)) | refine leB_box ?_ | exact leL_nil | refine leL_cons ?_ ?_ | exact .same _ | exact .nl (by decide) (by decide) | exact .nn | exact .id' rfl | exact .id' (by simp; done))) rfl)⟩
  replace hc113 := of_decide_eq_false hc113
  simp only [List.length_map, Int.not_lt] at hc113
  refine vc_exit ?_
  obtain rfl : k = it.length := by omega
  rw [List.take_length]
  refine vc_okT (i := 12) rfl fun ok12 => ?_
  refine vc_okT (i := 17) rfl fun ok17 => ?_
  have okb : okT (bytesT (wantF it i (fo i))) := ok12.cell (List.mem_of_getElem? (idx_map hgb)) (by simp [bodyC])
  refine vc_rseq mixed ?_
  refine d_val (s_move rfl rfl) rfl ?_
  refine d_val (s_move rfl rfl) rfl ?_
  refine d_val (s_index rfl rfl rfl (by omega) (idx_map hgb)) rfl ?_
  refine d_val (s_loadT rfl rfl rfl) rfl ?_
  refine d_val (s_str rfl rfl) rfl ?_
  refine d_val (s_move rfl rfl) rfl ?_
  refine d_val (s_str rfl rfl) rfl ?_
  refine d_val (s_neqS rfl rfl (by first | assumption | exact okT.bytes (by assumption)) (by first | assumption | exact okT.bytes (by assumption)) rfl) rfl ?_
  refine d_nil rfl ?_
  refine vc_cond rfl (fun h => by simp at h) (fun _ => ?_)
  refine vc_skip ?_
  refine vc_region mixed ?_
  refine g_val (s_move rfl rfl) rfl ?_
  refine g_val (s_add rfl rfl rfl (by simp only [inI, kMin, kMax]; omega)) rfl ?_
  refine g_val (s_assign rfl rfl) rfl ?_
  refine g_nil ?_
  exact ⟨by omega, trivial, (leE_same (by repeat (first | exact letm_nil _ _ | refine letm_cons rfl ?_ ?_ | exact .same _ | exact .nl (by decide) (by decide) | exact .nn | exact .id' rfl | exact .id' (by simp; done))) (by repeat (first | exact lehp_nil _ _ | refine lehp_cons rfl ?_ ?_ | exact leB_same _ | exact leB_row (by first | rfl | (simp; done)) | exact leB_obj (by simp; done) | exact leB_nest (by first | rfl | (simp; done)) | refine leB_box ?_ | exact leL_nil | refine leL_cons ?_ ?_ | exact .same _ | exact .nl (by decide) (by decide) | exact .nn | exact .id' rfl | exact .id' (by simp; done))) rfl)⟩
  replace hc103 := of_decide_eq_false hc103
  simp only [Int.not_lt] at hc103
  refine vc_exit ?_
  refine vc_rseq mixed ?_
  refine g_val (s_assign rfl rfl) rfl ?_
  refine g_nil ?_
  exact vc_ret (ret_of _ (.cons (.tmp rfl) .nil) rfl rfl)
  rw [← hg29]; replace hg29 := hg29.symm; replace hg29 := of_decide_eq_true hg29
  simp only [List.length_map] at hg29
  refine gn_val rfl rfl rfl rfl rfl rfl (by decide) ?_
  refine gn_val rfl rfl rfl rfl rfl rfl (by decide) ?_
  refine gn_val rfl rfl rfl rfl rfl rfl (by decide) ?_
  refine g_val (s_pickT rfl rfl rfl) rfl ?_
  refine g_nil ?_
  refine vc_cond rfl (fun _ => ?_) (fun h => by cases h)
  refine vc_rseq mixed ?_
  refine g_val (s_assign rfl rfl) rfl ?_
  refine g_nil ?_
  exact vc_ret (ret_of _ (.cons (.tmp rfl) .nil) rfl rfl)
  rw [← hg24]; replace hg24 := hg24.symm; replace hg24 := of_decide_eq_true hg24
  simp only [List.length_map] at hg24
  refine gn_val rfl rfl rfl rfl rfl rfl (by decide) ?_
  refine gn_val rfl rfl rfl rfl rfl rfl (by decide) ?_
  refine gn_val rfl rfl rfl rfl rfl rfl (by decide) ?_
  refine g_val (s_pickT rfl rfl rfl) rfl ?_
  refine g_val (s_move rfl rfl) rfl ?_
  refine gn_val rfl rfl rfl rfl rfl rfl (by decide) ?_
  refine gn_val rfl rfl rfl rfl rfl rfl (by decide) ?_
  refine gn_val rfl rfl rfl rfl rfl rfl (by decide) ?_
  refine g_val (s_pickT rfl rfl rfl) rfl ?_
  refine g_nil ?_
  refine vc_cond rfl (fun _ => ?_) (fun h => by cases h)
  refine vc_rseq mixed ?_
  refine g_val (s_assign rfl rfl) rfl ?_
  refine g_nil ?_
  exact vc_ret (ret_of _ (.cons (.tmp rfl) .nil) rfl rfl)

end Go.Eng
