/- The law mementolaw23.ExportWhich returns true for every input and leaves its arguments as they were; no condition beyond the row's own. Part 5. -/
import Derived.Test.YtliedpopdcjkeaaGreatM4
set_option linter.unusedVariables false
set_option linter.unusedSimpArgs false
set_option maxHeartbeats 4000000
namespace Go.Eng
open Go.Proofs

theorem AB_dd {p q : Prop} [Decidable p] [Decidable q] (h : p ↔ q) : AB (decide p) = AB (decide q) := congrArg (fun b => AV.t (T.k (.bool b))) (decide_eq_decide.2 h)
theorem AB_td {q : Prop} [Decidable q] (h : q) : AB true = AB (decide q) := congrArg (fun b => AV.t (T.k (.bool b))) (decide_eq_true h).symm
theorem AB_fd {q : Prop} [Decidable q] (h : ¬ q) : AB false = AB (decide q) := congrArg (fun b => AV.t (T.k (.bool b))) (decide_eq_false h).symm

def histT (l : List (List Ver)) : T := .sl 1 24 (l.map fun es => [versT es])
def chkC (c : Chunk) : List T := [i64 c.vol, i64 c.chunk, i64 c.count, i64 c.size, i64 c.mark, i64 c.floor, histT c.hist]
def chksT (l : List Chunk) : T := .sl 7 72 (l.map chkC)
def cntF (v : Volume) (n : Int) : Int := if n < 0 ∨ v.place.length ≤ n ∨ v.per < 1 then 0 else min v.per (v.blocks - n * v.per)

theorem c_mementoref16_Count (v : Volume) (n : Int) (hb : 0 ≤ v.blocks ∧ v.blocks ≤ 1000) (hp : v.per ≤ 1000) (hl : v.place.length ≤ 1000) : Con Tryz.prog 45 [sC (volC v), AI .i64 n] [] (AI .i64 (cntF v n)) [] := by
  refine con_intro [] [] Tryz.func45 rfl Tryz.ntmps45 Tryz.results45 rfl rfl ?_
  intro E
  refine vc_rseq mixed ?_
  refine g_new (s_box 2 rfl rfl rfl rfl) rfl ?_
  refine g_val (s_assign rfl rfl) rfl ?_
  refine g_nil ?_
  refine vc_seq ?_
  refine vc_cut (⟨[(1, AI .i64 n), (2, .ref 2 0), (18, AB (decide (n < 0 ∨ v.place.length ≤ n ∨ v.per < 1)))], [(2, some (.box ((volC v).map .t)))], [2]⟩) ?_ ?_
  refine vc_region mixed ?_
  refine g_val (s_move rfl rfl) rfl ?_
  refine g_val (s_lss rfl rfl rfl) rfl ?_
  refine g_val (s_move rfl rfl) rfl ?_
  refine g_probe (j := 7) rfl (fun c hg7 => ?_)
  cases c
  rw [← hg7]; replace hg7 := hg7.symm; replace hg7 := of_decide_eq_false hg7
  simp only [Int.not_lt] at hg7
  refine gq_val (s_move rfl rfl) rfl rfl rfl rfl ?_
  refine gq_val (s_field rfl rfl rfl rfl) rfl rfl rfl rfl ?_
  refine gq_val (s_load rfl rfl rfl rfl) rfl rfl rfl rfl ?_
  refine gq_val (s_len rfl rfl) rfl rfl rfl rfl ?_
  refine gq_val (s_geq rfl rfl rfl) rfl rfl rfl rfl ?_
  refine g_val (s_pickF rfl rfl rfl) rfl ?_
  refine g_val (s_move rfl rfl) rfl ?_
  refine g_probe (j := 14) rfl (fun c hg14 => ?_)
  cases c
  rw [← hg14]; replace hg14 := hg14.symm; replace hg14 := of_decide_eq_false hg14
  simp only [List.length_map, Int.not_le] at hg14
  refine gq_val (s_field rfl rfl rfl rfl) rfl rfl rfl rfl ?_
  refine gq_val (s_load rfl rfl rfl rfl) rfl rfl rfl rfl ?_
  refine gq_val (s_lss rfl rfl rfl) rfl rfl rfl rfl ?_
  refine g_val (s_pickF rfl rfl rfl) rfl ?_
  refine g_nil ?_
  exact (leE_same (by repeat (first | exact letm_nil _ _ | refine letm_cons rfl ?_ ?_ | exact .same _ | exact .nl (by decide) (by decide) | exact .nn | exact .id' rfl | exact .id' (by first | (exact AB_td (by first | omega | (simp only [List.length_map] at *; omega))) | (exact AB_dd ⟨fun hh => by first | omega | (simp only [List.length_map] at *; omega), fun hn => by first | omega | (simp only [List.length_map] at *; omega)⟩)))) (by repeat (first | exact lehp_nil _ _ | refine lehp_cons rfl ?_ ?_ | exact leB_same _ | exact leB_row (by first | rfl | (first | (exact AB_td (by first | omega | (simp only [List.length_map] at *; omega))) | (exact AB_dd ⟨fun hh => by first | omega | (simp only [List.length_map] at *; omega), fun hn => by first | omega | (simp only [List.length_map] at *; omega)⟩))) | exact leB_obj (by first | (exact AB_td (by first | omega | (simp only [List.length_map] at *; omega))) | (exact AB_dd ⟨fun hh => by first | omega | (simp only [List.length_map] at *; omega), fun hn => by first | omega | (simp only [List.length_map] at *; omega)⟩)) | exact leB_nest (by first | rfl | (first | (exact AB_td (by first | omega | (simp only [List.length_map] at *; omega))) | (exact AB_dd ⟨fun hh => by first | omega | (simp only [List.length_map] at *; omega), fun hn => by first | omega | (simp only [List.length_map] at *; omega)⟩))) | refine leB_box ?_ | exact leL_nil | refine leL_cons ?_ ?_ | exact .same _ | exact .nl (by decide) (by decide) | exact .nn | exact .id' rfl | exact .id' (by first | (exact AB_td (by first | omega | (simp only [List.length_map] at *; omega))) | (exact AB_dd ⟨fun hh => by first | omega | (simp only [List.length_map] at *; omega), fun hn => by first | omega | (simp only [List.length_map] at *; omega)⟩)))) rfl)
  rw [← hg14]; replace hg14 := hg14.symm; replace hg14 := of_decide_eq_true hg14
  simp only [List.length_map] at hg14
  refine gn_val rfl rfl rfl rfl rfl rfl (by decide) ?_
  refine gn_val rfl rfl rfl rfl rfl rfl (by decide) ?_
  refine gn_val rfl rfl rfl rfl rfl rfl (by decide) ?_
  refine g_val (s_pickT rfl rfl rfl) rfl ?_
  refine g_nil ?_
  exact (leE_same (by repeat (first | exact letm_nil _ _ | refine letm_cons rfl ?_ ?_ | exact .same _ | exact .nl (by decide) (by decide) | exact .nn | exact .id' rfl | exact .id' (by first | (exact AB_td (by first | omega | (simp only [List.length_map] at *; omega))) | (exact AB_dd ⟨fun hh => by first | omega | (simp only [List.length_map] at *; omega), fun hn => by first | omega | (simp only [List.length_map] at *; omega)⟩)))) (by repeat (first | exact lehp_nil _ _ | refine lehp_cons rfl ?_ ?_ | exact leB_same _ | exact leB_row (by first | rfl | (first | (exact AB_td (by first | omega | (simp only [List.length_map] at *; omega))) | (exact AB_dd ⟨fun hh => by first | omega | (simp only [List.length_map] at *; omega), fun hn => by first | omega | (simp only [List.length_map] at *; omega)⟩))) | exact leB_obj (by first | (exact AB_td (by first | omega | (simp only [List.length_map] at *; omega))) | (exact AB_dd ⟨fun hh => by first | omega | (simp only [List.length_map] at *; omega), fun hn => by first | omega | (simp only [List.length_map] at *; omega)⟩)) | exact leB_nest (by first | rfl | (first | (exact AB_td (by first | omega | (simp only [List.length_map] at *; omega))) | (exact AB_dd ⟨fun hh => by first | omega | (simp only [List.length_map] at *; omega), fun hn => by first | omega | (simp only [List.length_map] at *; omega)⟩))) | refine leB_box ?_ | exact leL_nil | refine leL_cons ?_ ?_ | exact .same _ | exact .nl (by decide) (by decide) | exact .nn | exact .id' rfl | exact .id' (by first | (exact AB_td (by first | omega | (simp only [List.length_map] at *; omega))) | (exact AB_dd ⟨fun hh => by first | omega | (simp only [List.length_map] at *; omega), fun hn => by first | omega | (simp only [List.length_map] at *; omega)⟩)))) rfl)
  rw [← hg7]; replace hg7 := hg7.symm; replace hg7 := of_decide_eq_true hg7
  refine gn_val rfl rfl rfl rfl rfl rfl (by decide) ?_
  refine gn_val rfl rfl rfl rfl rfl rfl (by decide) ?_
  refine gn_val rfl rfl rfl rfl rfl rfl (by decide) ?_
  refine gn_val rfl rfl rfl rfl rfl rfl (by decide) ?_
  refine gn_val rfl rfl rfl rfl rfl rfl (by decide) ?_
  refine g_val (s_pickT rfl rfl rfl) rfl ?_
  refine g_val (s_move rfl rfl) rfl ?_
  refine gn_val rfl rfl rfl rfl rfl rfl (by decide) ?_
  refine gn_val rfl rfl rfl rfl rfl rfl (by decide) ?_
  refine gn_val rfl rfl rfl rfl rfl rfl (by decide) ?_
  refine g_val (s_pickT rfl rfl rfl) rfl ?_
  refine g_nil ?_
  exact (leE_same (by repeat (first | exact letm_nil _ _ | refine letm_cons rfl ?_ ?_ | exact .same _ | exact .nl (by decide) (by decide) | exact .nn | exact .id' rfl | exact .id' (by first | (exact AB_td (by first | omega | (simp only [List.length_map] at *; omega))) | (exact AB_dd ⟨fun hh => by first | omega | (simp only [List.length_map] at *; omega), fun hn => by first | omega | (simp only [List.length_map] at *; omega)⟩)))) (by repeat (first | exact lehp_nil _ _ | refine lehp_cons rfl ?_ ?_ | exact leB_same _ | exact leB_row (by first | rfl | (first | (exact AB_td (by first | omega | (simp only [List.length_map] at *; omega))) | (exact AB_dd ⟨fun hh => by first | omega | (simp only [List.length_map] at *; omega), fun hn => by first | omega | (simp only [List.length_map] at *; omega)⟩))) | exact leB_obj (by first | (exact AB_td (by first | omega | (simp only [List.length_map] at *; omega))) | (exact AB_dd ⟨fun hh => by first | omega | (simp only [List.length_map] at *; omega), fun hn => by first | omega | (simp only [List.length_map] at *; omega)⟩)) | exact leB_nest (by first | rfl | (first | (exact AB_td (by first | omega | (simp only [List.length_map] at *; omega))) | (exact AB_dd ⟨fun hh => by first | omega | (simp only [List.length_map] at *; omega), fun hn => by first | omega | (simp only [List.length_map] at *; omega)⟩))) | refine leB_box ?_ | exact leL_nil | refine leL_cons ?_ ?_ | exact .same _ | exact .nl (by decide) (by decide) | exact .nn | exact .id' rfl | exact .id' (by first | (exact AB_td (by first | omega | (simp only [List.length_map] at *; omega))) | (exact AB_dd ⟨fun hh => by first | omega | (simp only [List.length_map] at *; omega), fun hn => by first | omega | (simp only [List.length_map] at *; omega)⟩)))) rfl)
  refine vc_cond rfl (fun hc18 => ?_) (fun hc18 => ?_)
  replace hc18 := of_decide_eq_true hc18
  have hx : cntF v n = 0 := if_pos (by simpa using hc18)
  rw [hx]
  refine vc_rseq mixed ?_
  refine g_val (s_assign rfl rfl) rfl ?_
  refine g_nil ?_
  exact vc_ret (ret_of _ (.cons (.tmp rfl) .nil) rfl rfl)
  replace hc18 := of_decide_eq_false hc18
  refine vc_skip ?_
  have hno : ¬ (n < 0 ∨ (v.place.length : Int) ≤ n ∨ v.per < 1) := by simpa using hc18
  have hx : cntF v n = min v.per (v.blocks - n * v.per) := if_neg hno
  rw [hx]
  have h0 : 0 ≤ n * v.per := Int.mul_nonneg (by omega) (by omega)
  have h1 : n * v.per ≤ 1000 * 1000 := Int.mul_le_mul (by omega) (by omega) (by omega) (by omega)
  refine vc_rseq mixed ?_
  refine g_val (s_field rfl rfl rfl rfl) rfl ?_
  refine g_val (s_load rfl rfl rfl rfl) rfl ?_
  refine g_val (s_field rfl rfl rfl rfl) rfl ?_
  refine g_val (s_load rfl rfl rfl rfl) rfl ?_
  refine g_val (s_move rfl rfl) rfl ?_
  refine g_val (s_field rfl rfl rfl rfl) rfl ?_
  refine g_val (s_load rfl rfl rfl rfl) rfl ?_
  refine g_val (s_mul rfl rfl rfl (by simp only [inI, kMin, kMax]; omega)) rfl ?_
  refine g_val (s_sub rfl rfl rfl (by simp only [inI, kMin, kMax]; omega)) rfl ?_
  refine g_val (s_min rfl rfl rfl) rfl ?_
  refine g_val (s_assign rfl rfl) rfl ?_
  refine g_nil ?_
  exact vc_ret (ret_of _ (.cons (.tmp rfl) .nil) rfl rfl)

theorem c_mementoref13_New (p : PushCmd) : Con Tryz.prog 35 [sC (pshC p)] [] (sC (chkC (newChk p))) [] := by
  refine con_intro [] [] Tryz.func35 rfl Tryz.ntmps35 Tryz.results35 rfl rfl ?_
  intro E
  obtain ⟨n, hn⟩ : ∃ n : Nat, (min (max p.count 0) 256).toNat = n := ⟨_, rfl⟩
  have hn' : min (max p.count 0) 256 = (n : Int) := by omega
  refine vc_rseq mixed ?_
  refine g_new (s_box 1 rfl rfl rfl rfl) rfl ?_
  refine g_new (s_alloc 2 rfl rfl) rfl ?_
  refine g_nil ?_
  refine vc_rseq mixed ?_
  refine d_val (s_field rfl rfl rfl rfl) rfl ?_
  refine d_val (s_load rfl rfl rfl rfl) rfl ?_
  refine d_val (s_field rfl rfl rfl rfl) rfl ?_
  refine d_val (s_load rfl rfl rfl rfl) rfl ?_
  refine d_val (s_field rfl rfl rfl rfl) rfl ?_
  refine d_val (s_load rfl rfl rfl rfl) rfl ?_
  refine d_val (s_field rfl rfl rfl rfl) rfl ?_
  refine d_val (s_load rfl rfl rfl rfl) rfl ?_
  refine d_val (s_field rfl rfl rfl rfl) rfl ?_
  refine d_val (s_load rfl rfl rfl rfl) rfl ?_
  refine d_val (s_max rfl rfl rfl) rfl ?_
  refine d_val (s_min rfl rfl rfl) rfl ?_
  refine d_new (s_make 15 n (congrArg (fun z => some (AI .i64 z)) hn') (congrArg (fun z => some (AI .i64 z)) hn') rfl rfl (by omega)) rfl ?_
  refine d_val (s_build (evArgs_cons rfl (evArgs_cons rfl (evArgs_cons rfl (evArgs_cons rfl (evArgs_cons rfl evArgs_nil))))) rfl rfl rfl) rfl ?_
  refine d_sto (s_store rfl rfl rfl rfl rfl rfl) rfl ?_
  refine d_nil rfl ?_
  refine vc_nilrow 15 2 32 rfl rfl ?_
  exact vc_ret (ret_le [(15, _)] _ (.cons (.agg rfl rfl rfl rfl) .nil) ⟨rfl, trivial⟩ (by repeat (first | exact leL_nil | refine leL_cons ?_ ?_ | exact LeV.tt rfl | exact .nl (by decide) (by decide) | exact .nn | refine LeV.tupL ?_ | refine LeV.aggL ?_ | exact .eq (by first | exact trivial | (simp [AV.okV, okR, lkB]; done) | (simp [AV.okV, okR, lkB]; omega)) (by first | rfl | (simp [AV.view, viewR, lkB, AV.ren, List.take_of_length_le]; done) | (simp [AV.view, viewR, lkB, AV.ren, List.take_of_length_le]; simp [histT, i64, newChk, hn, versT]; done)))) rfl)

theorem c_mementoref13_Add (l : List Ver) (seq : Int) (data : List Int) (hl : l.length ≤ 1000000) : Con Tryz.prog 66 [.t (versT l), AI .i64 seq, .t (bytesT data)] [] (.t (versT (addV l seq data))) [] := by
  refine con_intro [] [] Tryz.func66 rfl Tryz.ntmps66 Tryz.results66 rfl rfl ?_
  intro E
  refine vc_okT (i := 2) rfl fun ok2 => ?_
  have hld := ok2.len
  refine vc_rseq mixed ?_
  refine g_val (s_assign rfl rfl) rfl ?_
  refine g_nil ?_
  refine vc_seq ?_
  refine vc_rseq mixed ?_
  refine g_val (s_move rfl rfl) rfl ?_
  refine g_val (s_lss rfl rfl rfl) rfl ?_
  refine g_val (s_move rfl rfl) rfl ?_
  refine g_probe (j := 9) rfl (fun c hg9 => ?_)
  cases c
  rw [← hg9]; replace hg9 := hg9.symm; replace hg9 := of_decide_eq_false hg9
  simp only [Int.not_lt] at hg9
  refine gq_val (s_move rfl rfl) rfl rfl rfl rfl ?_
  refine gq_val (s_gtr rfl rfl rfl) rfl rfl rfl rfl ?_
  refine g_val (s_pickF rfl rfl rfl) rfl ?_
  refine g_val (s_move rfl rfl) rfl ?_
  refine g_probe (j := 13) rfl (fun c hg13 => ?_)
  cases c
  rw [← hg13]; replace hg13 := hg13.symm; replace hg13 := of_decide_eq_false hg13
  simp only [Int.not_lt] at hg13
  refine gq_val (s_move rfl rfl) rfl rfl rfl rfl ?_
  refine gq_val (s_len rfl rfl) rfl rfl rfl rfl ?_
  refine gq_val (s_gtr rfl rfl rfl) rfl rfl rfl rfl ?_
  refine gq_val (s_move rfl rfl) rfl rfl rfl rfl ?_
  refine g_probe (j := 17) rfl (fun c hg17 => ?_)
  cases c
  rw [← hg17]; replace hg17 := hg17.symm; replace hg17 := of_decide_eq_false hg17
  simp only [List.length_map, Int.not_lt] at hg17
  have hlast : lastB l seq = false := by rw [show l = [] from List.eq_nil_of_length_eq_zero (by first | omega | (simp only [List.length_map] at *; omega))]; rfl
  refine gn_val rfl rfl rfl rfl rfl rfl (by decide) ?_
  refine gn_val rfl rfl rfl rfl rfl rfl (by decide) ?_
  refine gn_val rfl rfl rfl rfl rfl rfl (by decide) ?_
  refine gn_val rfl rfl rfl rfl rfl rfl (by decide) ?_
  refine gn_val rfl rfl rfl rfl rfl rfl (by decide) ?_
  refine gn_val rfl rfl rfl rfl rfl rfl (by decide) ?_
  refine gn_val rfl rfl rfl rfl rfl rfl (by decide) ?_
  refine gn_val rfl rfl rfl rfl rfl rfl (by decide) ?_
  refine gn_val rfl rfl rfl rfl rfl rfl (by decide) ?_
  refine gq_val (s_pickF rfl rfl rfl) rfl rfl rfl rfl ?_
  refine g_val (s_pickF rfl rfl rfl) rfl ?_
  refine g_nil ?_
  refine vc_cond rfl (fun h => by cases h) (fun _ => ?_)
  refine vc_skip ?_
  have he : addV l seq data = l ++ [⟨seq, data⟩] := if_neg (by rw [hlast]; rintro (h | h | h); omega; omega; first | cases h | (simp only [decide_eq_true_eq] at h; omega))
  rw [he]
  refine vc_rseq mixed ?_
  refine g_val (s_move rfl rfl) rfl ?_
  refine g_new (s_appendN 31 rfl rfl rfl rfl (by rw [List.length_map]; omega)) rfl ?_
  refine g_val (s_move rfl rfl) rfl ?_
  refine g_val (s_move rfl rfl) rfl ?_
  refine g_fz ((s_appendN 34 rfl rfl rfl rfl (by simpa using hld)).fzE rfl) rfl ?_
  refine g_val (s_build (evArgs_cons rfl (evArgs_cons rfl evArgs_nil)) rfl rfl rfl) rfl ?_
  refine g_fz ((s_buildSlice 36 (evArgs_cons rfl evArgs_nil) rfl rfl rfl rfl).fzE rfl) rfl ?_
  refine g_app (s_append 37 rfl rfl rfl rfl rfl (by first | exact Nat.le_refl _ | (simp; done) | (simp; omega)) rfl rfl (by simp; omega)) rfl ?_
  refine g_val (s_assign rfl rfl) rfl ?_
  refine g_nil ?_
  exact vc_ret (ret_le [(37, _)] _ (.cons (.tmp rfl) .nil) ⟨rfl, trivial⟩ (.eq (by simp [single, AV.okV, okR, lkB]) (by simp [single, AV.view, viewR, lkB, AV.ren, versT, verC, i64, bytesT, List.take_of_length_le])) rfl)
  rw [← hg17]; replace hg17 := hg17.symm; replace hg17 := of_decide_eq_true hg17
  simp only [List.length_map] at hg17
  obtain ⟨x, hx⟩ := get_of_lt (l := l) (i := l.length - 1) (by first | omega | (simp only [List.length_map] at *; omega))
  have hlast : lastB l seq = decide (seq ≤ x.seq) := by unfold lastB; rw [List.getLast?_eq_getElem?, hx]
  refine gq_val (s_move rfl rfl) rfl rfl rfl rfl ?_
  refine gq_val (s_move rfl rfl) rfl rfl rfl rfl ?_
  refine gq_val (s_move rfl rfl) rfl rfl rfl rfl ?_
  refine gq_val (s_len rfl rfl) rfl rfl rfl rfl ?_
  refine gq_val (s_sub rfl rfl rfl (by simp only [inI, kMin, kMax, List.length_map]; omega)) rfl rfl rfl rfl ?_
  refine gq_val (s_index rfl rfl rfl (by simp only [List.length_map]; omega) (idx_map (by rw [List.length_map, show ((l.length : Int) - 1).toNat = l.length - 1 by omega]; exact hx))) rfl rfl rfl rfl ?_
  refine gq_val (s_fieldT rfl rfl rfl rfl rfl) rfl rfl rfl rfl ?_
  refine gq_val (s_loadT rfl rfl rfl) rfl rfl rfl rfl ?_
  refine gq_val (s_leq rfl rfl rfl) rfl rfl rfl rfl ?_
  refine gq_val (s_pickT rfl rfl rfl) rfl rfl rfl rfl ?_
  refine g_val (s_pickF rfl rfl rfl) rfl ?_
  refine g_nil ?_
  refine vc_cond rfl (fun hc28 => ?_) (fun hc28 => ?_)
  replace hc28 := of_decide_eq_true hc28
  have he : addV l seq data = l := if_pos (by first | exact .inl (by omega) | exact .inr (.inl (by omega)) | exact .inr (.inr (by rw [hlast]; simpa using hc28)))
  rw [he]
  refine vc_rseq mixed ?_
  refine g_val (s_move rfl rfl) rfl ?_
  refine g_val (s_assign rfl rfl) rfl ?_
  refine g_nil ?_
  exact vc_ret (ret_of _ (.cons (.tmp rfl) .nil) rfl rfl)
  replace hc28 := of_decide_eq_false hc28
  simp only [Int.not_le] at hc28
  refine vc_skip ?_
  have he : addV l seq data = l ++ [⟨seq, data⟩] := if_neg (by rw [hlast]; rintro (h | h | h); omega; omega; first | cases h | (simp only [decide_eq_true_eq] at h; omega))
  rw [he]
  refine vc_rseq mixed ?_
  refine g_val (s_move rfl rfl) rfl ?_
  refine g_new (s_appendN 31 rfl rfl rfl rfl (by rw [List.length_map]; omega)) rfl ?_
  refine g_val (s_move rfl rfl) rfl ?_
  refine g_val (s_move rfl rfl) rfl ?_
  refine g_fz ((s_appendN 34 rfl rfl rfl rfl (by simpa using hld)).fzE rfl) rfl ?_
  refine g_val (s_build (evArgs_cons rfl (evArgs_cons rfl evArgs_nil)) rfl rfl rfl) rfl ?_
  refine g_fz ((s_buildSlice 36 (evArgs_cons rfl evArgs_nil) rfl rfl rfl rfl).fzE rfl) rfl ?_
  refine g_app (s_append 37 rfl rfl rfl rfl rfl (by first | exact Nat.le_refl _ | (simp; done) | (simp; omega)) rfl rfl (by simp; omega)) rfl ?_
  refine g_val (s_assign rfl rfl) rfl ?_
  refine g_nil ?_
  exact vc_ret (ret_le [(37, _)] _ (.cons (.tmp rfl) .nil) ⟨rfl, trivial⟩ (.eq (by simp [single, AV.okV, okR, lkB]) (by simp [single, AV.view, viewR, lkB, AV.ren, versT, verC, i64, bytesT, List.take_of_length_le])) rfl)
  rw [← hg13]; replace hg13 := hg13.symm; replace hg13 := of_decide_eq_true hg13
  refine gn_val rfl rfl rfl rfl rfl rfl (by decide) ?_
  refine gn_val rfl rfl rfl rfl rfl rfl (by decide) ?_
  refine gn_val rfl rfl rfl rfl rfl rfl (by decide) ?_
  refine gn_val rfl rfl rfl rfl rfl rfl (by decide) ?_
  refine gz_val rfl rfl rfl rfl rfl rfl ?_
  refine gz_val rfl rfl rfl rfl rfl rfl ?_
  refine gz_val rfl rfl rfl rfl rfl rfl ?_
  refine gz_val rfl rfl rfl rfl rfl rfl ?_
  refine gz_val rfl rfl rfl rfl rfl rfl ?_
  refine gz_val rfl rfl rfl rfl rfl rfl ?_
  refine gz_val rfl rfl rfl rfl rfl rfl ?_
  refine gz_val rfl rfl rfl rfl rfl rfl ?_
  refine gz_val rfl rfl rfl rfl rfl rfl ?_
  refine gn_val rfl rfl rfl rfl rfl rfl (by decide) ?_
  refine g_val (s_pickT rfl rfl rfl) rfl ?_
  refine g_nil ?_
  refine vc_cond rfl (fun _ => ?_) (fun h => by cases h)
  have he : addV l seq data = l := if_pos (by first | exact .inl (by omega) | exact .inr (.inl (by omega)) | exact .inr (.inr (by rw [hlast]; simpa using hc28)))
  rw [he]
  refine vc_rseq mixed ?_
  refine g_val (s_move rfl rfl) rfl ?_
  refine g_val (s_assign rfl rfl) rfl ?_
  refine g_nil ?_
  exact vc_ret (ret_of _ (.cons (.tmp rfl) .nil) rfl rfl)
  rw [← hg9]; replace hg9 := hg9.symm; replace hg9 := of_decide_eq_true hg9
  refine gn_val rfl rfl rfl rfl rfl rfl (by decide) ?_
  refine gn_val rfl rfl rfl rfl rfl rfl (by decide) ?_
  refine g_val (s_pickT rfl rfl rfl) rfl ?_
  refine g_val (s_move rfl rfl) rfl ?_
  refine gn_val rfl rfl rfl rfl rfl rfl (by decide) ?_
  refine gn_val rfl rfl rfl rfl rfl rfl (by decide) ?_
  refine gn_val rfl rfl rfl rfl rfl rfl (by decide) ?_
  refine gn_val rfl rfl rfl rfl rfl rfl (by decide) ?_
  refine gz_val rfl rfl rfl rfl rfl rfl ?_
  refine gz_val rfl rfl rfl rfl rfl rfl ?_
  refine gz_val rfl rfl rfl rfl rfl rfl ?_
  refine gz_val rfl rfl rfl rfl rfl rfl ?_
  refine gz_val rfl rfl rfl rfl rfl rfl ?_
  refine gz_val rfl rfl rfl rfl rfl rfl ?_
  refine gz_val rfl rfl rfl rfl rfl rfl ?_
  refine gz_val rfl rfl rfl rfl rfl rfl ?_
  refine gz_val rfl rfl rfl rfl rfl rfl ?_
  refine gn_val rfl rfl rfl rfl rfl rfl (by decide) ?_
  refine g_val (s_pickT rfl rfl rfl) rfl ?_
  refine g_nil ?_
  refine vc_cond rfl (fun _ => ?_) (fun h => by cases h)
  have he : addV l seq data = l := if_pos (by first | exact .inl (by omega) | exact .inr (.inl (by omega)) | exact .inr (.inr (by rw [hlast]; simpa using hc28)))
  rw [he]
  refine vc_rseq mixed ?_
  refine g_val (s_move rfl rfl) rfl ?_
  refine g_val (s_assign rfl rfl) rfl ?_
  refine g_nil ?_
  exact vc_ret (ret_of _ (.cons (.tmp rfl) .nil) rfl rfl)

theorem pruI_snoc {l : List Ver} {floor : Int} {i : Nat} {x : Ver} (hx : l[i]? = some x) : pruI l floor (i + 1) = pruI l floor i ++ (if keepB l floor i = true then [x] else []) := by
  simp only [pruI, List.range_succ, List.filterMap_append, List.filterMap_cons, List.filterMap_nil]
  split
  rename_i e; split at e <;> rename_i hk
  rw [hx] at e; cases e
  rw [if_neg hk]
  rename_i e; split at e <;> rename_i hk
  rw [hx] at e; injection e with e; subst e; rw [if_pos hk]
  cases e
theorem pruI_len (l : List Ver) (floor : Int) (i : Nat) : (pruI l floor i).length ≤ i := by
  have := List.length_filterMap_le (fun j => if keepB l floor j = true then l[j]? else none) (List.range i)
  simpa [pruI] using this

theorem c_mementoref13_Prune (l : List Ver) (floor : Int) (hl : l.length ≤ 1000000) : Con Tryz.prog 67 [.t (versT l), AI .i64 floor] [] (.t (versT (pruV l floor))) [] := by
  refine con_intro [] [] Tryz.func67 rfl Tryz.ntmps67 Tryz.results67 rfl rfl ?_
  intro E
  refine vc_rseq mixed ?_
  refine g_val (s_assign rfl rfl) rfl ?_
  refine g_nil ?_
  refine vc_rseq mixed ?_
  refine g_val (s_assign rfl rfl) rfl ?_
  refine g_nil ?_
  refine vc_seq ?_
  refine vc_ownnil (i := 5) 5 2 32 rfl rfl rfl ?_
  refine vc_rseq mixed ?_
  refine g_val (s_assign rfl rfl) rfl ?_
  refine g_nil ?_
  refine vc_block ?_
  refine vc_up l.length (fun i => ⟨[(0, .t (versT l)), (1, AI .i64 floor), (5, .rows 5 2 0 (pruI l floor i).length), (6, AI .i64 i)], [(5, some (.row 2 32 ((pruI l floor i).map verC)))], [5]⟩) (fun i => True) (leE_same (by repeat (first | exact letm_nil _ _ | refine letm_cons rfl ?_ ?_ | exact .same _ | exact .nl (by decide) (by decide) | exact .nn | exact .id' rfl | exact .id' (by first | (simp; done) | (simp [pruI]; done)))) (by repeat (first | exact lehp_nil _ _ | refine lehp_cons rfl ?_ ?_ | exact leB_same _ | exact leB_row (by first | rfl | (first | (simp; done) | (simp [pruI]; done))) | exact leB_obj (by first | (simp; done) | (simp [pruI]; done)) | exact leB_nest (by first | rfl | (first | (simp; done) | (simp [pruI]; done))) | refine leB_box ?_ | exact leL_nil | refine leL_cons ?_ ?_ | exact .same _ | exact .nl (by decide) (by decide) | exact .nn | exact .id' rfl | exact .id' (by first | (simp; done) | (simp [pruI]; done)))) rfl) trivial (fun i hi _ => ?_)
  refine vc_seq ?_
  refine vc_rseq mixed ?_
  refine g_val (s_move rfl rfl) rfl ?_
  refine g_val (s_move rfl rfl) rfl ?_
  refine g_val (s_len rfl rfl) rfl ?_
  refine g_val (s_lss rfl rfl rfl) rfl ?_
  refine g_nil ?_
  refine vc_cond rfl (fun hc10 => ?_) (fun hc10 => ?_)
  replace hc10 := of_decide_eq_true hc10
  simp only [List.length_map] at hc10
  obtain ⟨x, hx⟩ := get_of_lt (l := l) (i := i) (by omega)
  have hpl := pruI_len l floor i
  refine vc_skip ?_
  refine vc_seq ?_
  refine vc_block ?_
  refine vc_rseq mixed ?_
  refine g_val (s_move rfl rfl) rfl ?_
  refine g_val (s_add rfl rfl rfl (by simp only [inI, kMin, kMax]; omega)) rfl ?_
  refine g_val (s_move rfl rfl) rfl ?_
  refine g_val (s_len rfl rfl) rfl ?_
  refine g_val (s_geq rfl rfl rfl) rfl ?_
  refine g_val (s_move rfl rfl) rfl ?_
  refine g_probe (j := 18) rfl (fun c hg18 => ?_)
  cases c
  rw [← hg18]; replace hg18 := hg18.symm; replace hg18 := of_decide_eq_false hg18
  simp only [List.length_map, Int.not_le] at hg18
  obtain ⟨y, hy⟩ := get_of_lt (l := l) (i := i + 1) (by first | omega | (simp only [List.length_map] at *; omega))
  have hkp : keepB l floor i = decide (floor < y.seq) := by unfold keepB; rw [hy]
  refine gq_val (s_move rfl rfl) rfl rfl rfl rfl ?_
  refine gq_val (s_move rfl rfl) rfl rfl rfl rfl ?_
  refine gq_val (s_add rfl rfl rfl (by simp only [inI, kMin, kMax]; omega)) rfl rfl rfl rfl ?_
  refine gq_val (s_index rfl rfl rfl (by omega) (idx_map hy)) rfl rfl rfl rfl ?_
  refine gq_val (s_fieldT rfl rfl rfl rfl rfl) rfl rfl rfl rfl ?_
  refine gq_val (s_loadT rfl rfl rfl) rfl rfl rfl rfl ?_
  refine gq_val (s_move rfl rfl) rfl rfl rfl rfl ?_
  refine gq_val (s_gtr rfl rfl rfl) rfl rfl rfl rfl ?_
  refine g_val (s_pickF rfl rfl rfl) rfl ?_
  refine g_nil ?_
  refine vc_cond rfl (fun hc27 => ?_) (fun hc27 => ?_)
  replace hc27 := of_decide_eq_true hc27
  refine vc_region mixed ?_
  refine g_val (s_move rfl rfl) rfl ?_
  refine g_val (s_move rfl rfl) rfl ?_
  refine g_val (s_move rfl rfl) rfl ?_
  refine g_val (s_index rfl rfl rfl (by omega) (idx_map hx)) rfl ?_
  refine g_val (s_loadTA rfl rfl rfl) rfl ?_
  refine g_fz ((s_buildSlice 33 (evArgs_cons rfl evArgs_nil) rfl rfl rfl rfl).fzE rfl) rfl ?_
  refine g_app (s_append 34 rfl rfl rfl rfl rfl (by simp) rfl rfl (by (try simp only [List.length_cons, List.length_nil]); omega)) rfl ?_
  refine g_val (s_assign rfl rfl) rfl ?_
  refine g_nil ?_
  refine vc_region mixed ?_
  refine g_val (s_move rfl rfl) rfl ?_
  refine g_val (s_add rfl rfl rfl (by simp only [inI, kMin, kMax]; omega)) rfl ?_
  refine g_val (s_assign rfl rfl) rfl ?_
  refine g_nil ?_
  first
  | exact ⟨by omega, trivial, by
      rw [pruI_snoc hx, if_pos (by first | exact hkp | (rw [hkp]; simpa using hc27))]
      simp only [List.length_append, List.length_cons, List.length_nil]
      exact (leE_gen [] [(5, 34)] (by repeat (first | exact letm_nil _ _ | refine letm_cons rfl ?_ ?_ | exact LeV.tt rfl | exact .eq (okV_nil _) rfl | exact LeV.tt (by rw [List.take_of_length_le (by simp)]; simp [verC, i64, bytesT]) | exact .eq (okV_nil _) (by rw [List.take_of_length_le (by simp)]; simp [verC, i64, bytesT]))) (by repeat (first | exact lehp_nil _ _ | refine lehp_cons rfl ?_ ?_ | exact leB_row (by first | rfl | (rw [List.take_of_length_le (by simp)]; simp [verC, i64, bytesT])) | exact leB_obj (by rw [List.take_of_length_le (by simp)]; simp [verC, i64, bytesT]) | exact leB_nest (by first | rfl | (rw [List.take_of_length_le (by simp)]; simp [verC, i64, bytesT])) | refine leB_box ?_ | exact leL_nil | refine leL_cons ?_ ?_ | exact LeV.tt rfl | exact .eq (okV_nil _) rfl | exact LeV.tt (by rw [List.take_of_length_le (by simp)]; simp [verC, i64, bytesT]) | exact .eq (okV_nil _) (by rw [List.take_of_length_le (by simp)]; simp [verC, i64, bytesT]))) trivial rfl)⟩
  | exact ⟨by omega, trivial, by
      rw [pruI_snoc hx, if_neg (by rw [hkp]; simpa using hc27), List.append_nil]
      exact (leE_same (by repeat (first | exact letm_nil _ _ | refine letm_cons rfl ?_ ?_ | exact .same _ | exact .nl (by decide) (by decide) | exact .nn | exact .id' rfl | exact .id' (by simp; done))) (by repeat (first | exact lehp_nil _ _ | refine lehp_cons rfl ?_ ?_ | exact leB_same _ | exact leB_row (by first | rfl | (simp; done)) | exact leB_obj (by simp; done) | exact leB_nest (by first | rfl | (simp; done)) | refine leB_box ?_ | exact leL_nil | refine leL_cons ?_ ?_ | exact .same _ | exact .nl (by decide) (by decide) | exact .nn | exact .id' rfl | exact .id' (by simp; done))) rfl)⟩
  replace hc27 := of_decide_eq_false hc27
  simp only [Int.not_lt] at hc27
  refine vc_skip ?_
  refine vc_region mixed ?_
  refine g_val (s_move rfl rfl) rfl ?_
  refine g_val (s_add rfl rfl rfl (by simp only [inI, kMin, kMax]; omega)) rfl ?_
  refine g_val (s_assign rfl rfl) rfl ?_
  refine g_nil ?_
  first
  | exact ⟨by omega, trivial, by
      rw [pruI_snoc hx, if_pos (by first | exact hkp | (rw [hkp]; simpa using hc27))]
      simp only [List.length_append, List.length_cons, List.length_nil]
      exact (leE_gen [] [(5, 34)] (by repeat (first | exact letm_nil _ _ | refine letm_cons rfl ?_ ?_ | exact LeV.tt rfl | exact .eq (okV_nil _) rfl | exact LeV.tt (by rw [List.take_of_length_le (by simp)]; simp [verC, i64, bytesT]) | exact .eq (okV_nil _) (by rw [List.take_of_length_le (by simp)]; simp [verC, i64, bytesT]))) (by repeat (first | exact lehp_nil _ _ | refine lehp_cons rfl ?_ ?_ | exact leB_row (by first | rfl | (rw [List.take_of_length_le (by simp)]; simp [verC, i64, bytesT])) | exact leB_obj (by rw [List.take_of_length_le (by simp)]; simp [verC, i64, bytesT]) | exact leB_nest (by first | rfl | (rw [List.take_of_length_le (by simp)]; simp [verC, i64, bytesT])) | refine leB_box ?_ | exact leL_nil | refine leL_cons ?_ ?_ | exact LeV.tt rfl | exact .eq (okV_nil _) rfl | exact LeV.tt (by rw [List.take_of_length_le (by simp)]; simp [verC, i64, bytesT]) | exact .eq (okV_nil _) (by rw [List.take_of_length_le (by simp)]; simp [verC, i64, bytesT]))) trivial rfl)⟩
  | exact ⟨by omega, trivial, by
      rw [pruI_snoc hx, if_neg (by rw [hkp]; simpa using hc27), List.append_nil]
      exact (leE_same (by repeat (first | exact letm_nil _ _ | refine letm_cons rfl ?_ ?_ | exact .same _ | exact .nl (by decide) (by decide) | exact .nn | exact .id' rfl | exact .id' (by simp; done))) (by repeat (first | exact lehp_nil _ _ | refine lehp_cons rfl ?_ ?_ | exact leB_same _ | exact leB_row (by first | rfl | (simp; done)) | exact leB_obj (by simp; done) | exact leB_nest (by first | rfl | (simp; done)) | refine leB_box ?_ | exact leL_nil | refine leL_cons ?_ ?_ | exact .same _ | exact .nl (by decide) (by decide) | exact .nn | exact .id' rfl | exact .id' (by simp; done))) rfl)⟩
  rw [← hg18]; replace hg18 := hg18.symm; replace hg18 := of_decide_eq_true hg18
  simp only [List.length_map] at hg18
  have hkp : keepB l floor i = true := by unfold keepB; rw [List.getElem?_eq_none_iff.2 (by first | omega | (simp only [List.length_map] at *; omega))]
  refine gn_val rfl rfl rfl rfl rfl rfl (by decide) ?_
  refine gn_val rfl rfl rfl rfl rfl rfl (by decide) ?_
  refine gn_val rfl rfl rfl rfl rfl rfl (by decide) ?_
  refine gn_val rfl rfl rfl rfl rfl rfl (by decide) ?_
  refine gn_val rfl rfl rfl rfl rfl rfl (by decide) ?_
  refine gn_val rfl rfl rfl rfl rfl rfl (by decide) ?_
  refine gn_val rfl rfl rfl rfl rfl rfl (by decide) ?_
  refine gn_val rfl rfl rfl rfl rfl rfl (by decide) ?_
  refine g_val (s_pickT rfl rfl rfl) rfl ?_
  refine g_nil ?_
  refine vc_cond rfl (fun _ => ?_) (fun h => by cases h)
  refine vc_region mixed ?_
  refine g_val (s_move rfl rfl) rfl ?_
  refine g_val (s_move rfl rfl) rfl ?_
  refine g_val (s_move rfl rfl) rfl ?_
  refine g_val (s_index rfl rfl rfl (by omega) (idx_map hx)) rfl ?_
  refine g_val (s_loadTA rfl rfl rfl) rfl ?_
  refine g_fz ((s_buildSlice 33 (evArgs_cons rfl evArgs_nil) rfl rfl rfl rfl).fzE rfl) rfl ?_
  refine g_app (s_append 34 rfl rfl rfl rfl rfl (by simp) rfl rfl (by (try simp only [List.length_cons, List.length_nil]); omega)) rfl ?_
  refine g_val (s_assign rfl rfl) rfl ?_
  refine g_nil ?_
  refine vc_region mixed ?_
  refine g_val (s_move rfl rfl) rfl ?_
  refine g_val (s_add rfl rfl rfl (by simp only [inI, kMin, kMax]; omega)) rfl ?_
  refine g_val (s_assign rfl rfl) rfl ?_
  refine g_nil ?_
  first
  | exact ⟨by omega, trivial, by
      rw [pruI_snoc hx, if_pos (by first | exact hkp | (rw [hkp]; simpa using hc27))]
      simp only [List.length_append, List.length_cons, List.length_nil]
      exact (leE_gen [] [(5, 34)] (by repeat (first | exact letm_nil _ _ | refine letm_cons rfl ?_ ?_ | exact LeV.tt rfl | exact .eq (okV_nil _) rfl | exact LeV.tt (by rw [List.take_of_length_le (by simp)]; simp [verC, i64, bytesT]) | exact .eq (okV_nil _) (by rw [List.take_of_length_le (by simp)]; simp [verC, i64, bytesT]))) (by repeat (first | exact lehp_nil _ _ | refine lehp_cons rfl ?_ ?_ | exact leB_row (by first | rfl | (rw [List.take_of_length_le (by simp)]; simp [verC, i64, bytesT])) | exact leB_obj (by rw [List.take_of_length_le (by simp)]; simp [verC, i64, bytesT]) | exact leB_nest (by first | rfl | (rw [List.take_of_length_le (by simp)]; simp [verC, i64, bytesT])) | refine leB_box ?_ | exact leL_nil | refine leL_cons ?_ ?_ | exact LeV.tt rfl | exact .eq (okV_nil _) rfl | exact LeV.tt (by rw [List.take_of_length_le (by simp)]; simp [verC, i64, bytesT]) | exact .eq (okV_nil _) (by rw [List.take_of_length_le (by simp)]; simp [verC, i64, bytesT]))) trivial rfl)⟩
  | exact ⟨by omega, trivial, by
      rw [pruI_snoc hx, if_neg (by rw [hkp]; simpa using hc27), List.append_nil]
      exact (leE_same (by repeat (first | exact letm_nil _ _ | refine letm_cons rfl ?_ ?_ | exact .same _ | exact .nl (by decide) (by decide) | exact .nn | exact .id' rfl | exact .id' (by simp; done))) (by repeat (first | exact lehp_nil _ _ | refine lehp_cons rfl ?_ ?_ | exact leB_same _ | exact leB_row (by first | rfl | (simp; done)) | exact leB_obj (by simp; done) | exact leB_nest (by first | rfl | (simp; done)) | refine leB_box ?_ | exact leL_nil | refine leL_cons ?_ ?_ | exact .same _ | exact .nl (by decide) (by decide) | exact .nn | exact .id' rfl | exact .id' (by simp; done))) rfl)⟩
  replace hc10 := of_decide_eq_false hc10
  simp only [List.length_map, Int.not_lt] at hc10
  refine vc_exit ?_
  obtain rfl : i = l.length := by omega
  refine vc_rseq mixed ?_
  refine g_val (s_move rfl rfl) rfl ?_
  refine g_val (s_assign rfl rfl) rfl ?_
  refine g_nil ?_
  exact vc_ret (ret_le [(5, _)] _ (.cons (.tmp rfl) .nil) ⟨rfl, trivial⟩ (.eq (by simp [single, AV.okV, okR, lkB]) (by simp [single, AV.view, viewR, lkB, AV.ren, versT, pruV, take_map_len])) rfl)

end Go.Eng

set_option maxHeartbeats 8000000
namespace Go.Eng
open Go.Proofs

theorem c_mementoref13_shape (a b c d : Int) : Con Tryz.prog 91 [AI .i64 a, AI .i64 b, AI .i64 c, AI .i64 d] [] (AB (decide (shapeK a b c d))) [] := by
  refine con_intro [] [] Tryz.func91 rfl Tryz.ntmps91 Tryz.results91 rfl rfl ?_
  intro E
  refine vc_rseq mixed ?_
  refine g_val (s_assign rfl rfl) rfl ?_
  refine g_nil ?_
  refine vc_rseq mixed ?_
  refine g_val (s_move rfl rfl) rfl ?_
  refine g_val (s_geq rfl rfl rfl) rfl ?_
  refine g_val (s_move rfl rfl) rfl ?_
  refine g_probe (j := 11) rfl (fun c hg11 => ?_)
  cases c
  rw [← hg11]; replace hg11 := hg11.symm; replace hg11 := of_decide_eq_false hg11
  simp only [Int.not_le] at hg11
  refine gn_val rfl rfl rfl rfl rfl rfl (by decide) ?_
  refine gn_val rfl rfl rfl rfl rfl rfl (by decide) ?_
  refine g_val (s_pickF rfl rfl rfl) rfl ?_
  refine g_val (s_move rfl rfl) rfl ?_
  refine gn_val rfl rfl rfl rfl rfl rfl (by decide) ?_
  refine gn_val rfl rfl rfl rfl rfl rfl (by decide) ?_
  refine g_val (s_pickF rfl rfl rfl) rfl ?_
  refine g_val (s_move rfl rfl) rfl ?_
  refine gn_val rfl rfl rfl rfl rfl rfl (by decide) ?_
  refine gn_val rfl rfl rfl rfl rfl rfl (by decide) ?_
  refine g_val (s_pickF rfl rfl rfl) rfl ?_
  refine g_val (s_move rfl rfl) rfl ?_
  refine gn_val rfl rfl rfl rfl rfl rfl (by decide) ?_
  refine gn_val rfl rfl rfl rfl rfl rfl (by decide) ?_
  refine g_val (s_pickF rfl rfl rfl) rfl ?_
  refine g_val (s_move rfl rfl) rfl ?_
  refine gn_val rfl rfl rfl rfl rfl rfl (by decide) ?_
  refine gn_val rfl rfl rfl rfl rfl rfl (by decide) ?_
  refine g_val (s_pickF rfl rfl rfl) rfl ?_
  refine g_val (s_move rfl rfl) rfl ?_
  refine gn_val rfl rfl rfl rfl rfl rfl (by decide) ?_
  refine gn_val rfl rfl rfl rfl rfl rfl (by decide) ?_
  refine g_val (s_pickF rfl rfl rfl) rfl ?_
  refine g_val (s_move rfl rfl) rfl ?_
  refine gn_val rfl rfl rfl rfl rfl rfl (by decide) ?_
  refine gn_val rfl rfl rfl rfl rfl rfl (by decide) ?_
  refine g_val (s_pickF rfl rfl rfl) rfl ?_
  refine g_val (s_assign rfl rfl) rfl ?_
  refine g_nil ?_
  exact vc_ret (ret_of _ (.cons (.tmp rfl) .nil) (by first | (exact AB_fd (by unfold shapeK; omega)) | (exact AB_dd (by unfold shapeK; omega))) rfl)
  rw [← hg11]; replace hg11 := hg11.symm; replace hg11 := of_decide_eq_true hg11
  refine gq_val (s_move rfl rfl) rfl rfl rfl rfl ?_
  refine gq_val (s_lss rfl rfl rfl) rfl rfl rfl rfl ?_
  refine g_val (s_pickT rfl rfl rfl) rfl ?_
  refine g_val (s_move rfl rfl) rfl ?_
  refine g_probe (j := 15) rfl (fun c hg15 => ?_)
  cases c
  rw [← hg15]; replace hg15 := hg15.symm; replace hg15 := of_decide_eq_false hg15
  simp only [Int.not_lt] at hg15
  refine gn_val rfl rfl rfl rfl rfl rfl (by decide) ?_
  refine gn_val rfl rfl rfl rfl rfl rfl (by decide) ?_
  refine g_val (s_pickF rfl rfl rfl) rfl ?_
  refine g_val (s_move rfl rfl) rfl ?_
  refine gn_val rfl rfl rfl rfl rfl rfl (by decide) ?_
  refine gn_val rfl rfl rfl rfl rfl rfl (by decide) ?_
  refine g_val (s_pickF rfl rfl rfl) rfl ?_
  refine g_val (s_move rfl rfl) rfl ?_
  refine gn_val rfl rfl rfl rfl rfl rfl (by decide) ?_
  refine gn_val rfl rfl rfl rfl rfl rfl (by decide) ?_
  refine g_val (s_pickF rfl rfl rfl) rfl ?_
  refine g_val (s_move rfl rfl) rfl ?_
  refine gn_val rfl rfl rfl rfl rfl rfl (by decide) ?_
  refine gn_val rfl rfl rfl rfl rfl rfl (by decide) ?_
  refine g_val (s_pickF rfl rfl rfl) rfl ?_
  refine g_val (s_move rfl rfl) rfl ?_
  refine gn_val rfl rfl rfl rfl rfl rfl (by decide) ?_
  refine gn_val rfl rfl rfl rfl rfl rfl (by decide) ?_
  refine g_val (s_pickF rfl rfl rfl) rfl ?_
  refine g_val (s_move rfl rfl) rfl ?_
  refine gn_val rfl rfl rfl rfl rfl rfl (by decide) ?_
  refine gn_val rfl rfl rfl rfl rfl rfl (by decide) ?_
  refine g_val (s_pickF rfl rfl rfl) rfl ?_
  refine g_val (s_assign rfl rfl) rfl ?_
  refine g_nil ?_
  exact vc_ret (ret_of _ (.cons (.tmp rfl) .nil) (by first | (exact AB_fd (by unfold shapeK; omega)) | (exact AB_dd (by unfold shapeK; omega))) rfl)
  rw [← hg15]; replace hg15 := hg15.symm; replace hg15 := of_decide_eq_true hg15
  refine gq_val (s_move rfl rfl) rfl rfl rfl rfl ?_
  refine gq_val (s_geq rfl rfl rfl) rfl rfl rfl rfl ?_
  refine g_val (s_pickT rfl rfl rfl) rfl ?_
  refine g_val (s_move rfl rfl) rfl ?_
  refine g_probe (j := 19) rfl (fun c hg19 => ?_)
  cases c
  rw [← hg19]; replace hg19 := hg19.symm; replace hg19 := of_decide_eq_false hg19
  simp only [Int.not_le] at hg19
  refine gn_val rfl rfl rfl rfl rfl rfl (by decide) ?_
  refine gn_val rfl rfl rfl rfl rfl rfl (by decide) ?_
  refine g_val (s_pickF rfl rfl rfl) rfl ?_
  refine g_val (s_move rfl rfl) rfl ?_
  refine gn_val rfl rfl rfl rfl rfl rfl (by decide) ?_
  refine gn_val rfl rfl rfl rfl rfl rfl (by decide) ?_
  refine g_val (s_pickF rfl rfl rfl) rfl ?_
  refine g_val (s_move rfl rfl) rfl ?_
  refine gn_val rfl rfl rfl rfl rfl rfl (by decide) ?_
  refine gn_val rfl rfl rfl rfl rfl rfl (by decide) ?_
  refine g_val (s_pickF rfl rfl rfl) rfl ?_
  refine g_val (s_move rfl rfl) rfl ?_
  refine gn_val rfl rfl rfl rfl rfl rfl (by decide) ?_
  refine gn_val rfl rfl rfl rfl rfl rfl (by decide) ?_
  refine g_val (s_pickF rfl rfl rfl) rfl ?_
  refine g_val (s_move rfl rfl) rfl ?_
  refine gn_val rfl rfl rfl rfl rfl rfl (by decide) ?_
  refine gn_val rfl rfl rfl rfl rfl rfl (by decide) ?_
  refine g_val (s_pickF rfl rfl rfl) rfl ?_
  refine g_val (s_assign rfl rfl) rfl ?_
  refine g_nil ?_
  exact vc_ret (ret_of _ (.cons (.tmp rfl) .nil) (by first | (exact AB_fd (by unfold shapeK; omega)) | (exact AB_dd (by unfold shapeK; omega))) rfl)
  rw [← hg19]; replace hg19 := hg19.symm; replace hg19 := of_decide_eq_true hg19
  refine gq_val (s_move rfl rfl) rfl rfl rfl rfl ?_
  refine gq_val (s_lss rfl rfl rfl) rfl rfl rfl rfl ?_
  refine g_val (s_pickT rfl rfl rfl) rfl ?_
  refine g_val (s_move rfl rfl) rfl ?_
  refine g_probe (j := 23) rfl (fun c hg23 => ?_)
  cases c
  rw [← hg23]; replace hg23 := hg23.symm; replace hg23 := of_decide_eq_false hg23
  simp only [Int.not_lt] at hg23
  refine gn_val rfl rfl rfl rfl rfl rfl (by decide) ?_
  refine gn_val rfl rfl rfl rfl rfl rfl (by decide) ?_
  refine g_val (s_pickF rfl rfl rfl) rfl ?_
  refine g_val (s_move rfl rfl) rfl ?_
  refine gn_val rfl rfl rfl rfl rfl rfl (by decide) ?_
  refine gn_val rfl rfl rfl rfl rfl rfl (by decide) ?_
  refine g_val (s_pickF rfl rfl rfl) rfl ?_
  refine g_val (s_move rfl rfl) rfl ?_
  refine gn_val rfl rfl rfl rfl rfl rfl (by decide) ?_
  refine gn_val rfl rfl rfl rfl rfl rfl (by decide) ?_
  refine g_val (s_pickF rfl rfl rfl) rfl ?_
  refine g_val (s_move rfl rfl) rfl ?_
  refine gn_val rfl rfl rfl rfl rfl rfl (by decide) ?_
  refine gn_val rfl rfl rfl rfl rfl rfl (by decide) ?_
  refine g_val (s_pickF rfl rfl rfl) rfl ?_
  refine g_val (s_assign rfl rfl) rfl ?_
  refine g_nil ?_
  exact vc_ret (ret_of _ (.cons (.tmp rfl) .nil) (by first | (exact AB_fd (by unfold shapeK; omega)) | (exact AB_dd (by unfold shapeK; omega))) rfl)
  rw [← hg23]; replace hg23 := hg23.symm; replace hg23 := of_decide_eq_true hg23
  refine gq_val (s_move rfl rfl) rfl rfl rfl rfl ?_
  refine gq_val (s_geq rfl rfl rfl) rfl rfl rfl rfl ?_
  refine g_val (s_pickT rfl rfl rfl) rfl ?_
  refine g_val (s_move rfl rfl) rfl ?_
  refine g_probe (j := 27) rfl (fun c hg27 => ?_)
  cases c
  rw [← hg27]; replace hg27 := hg27.symm; replace hg27 := of_decide_eq_false hg27
  simp only [Int.not_le] at hg27
  refine gn_val rfl rfl rfl rfl rfl rfl (by decide) ?_
  refine gn_val rfl rfl rfl rfl rfl rfl (by decide) ?_
  refine g_val (s_pickF rfl rfl rfl) rfl ?_
  refine g_val (s_move rfl rfl) rfl ?_
  refine gn_val rfl rfl rfl rfl rfl rfl (by decide) ?_
  refine gn_val rfl rfl rfl rfl rfl rfl (by decide) ?_
  refine g_val (s_pickF rfl rfl rfl) rfl ?_
  refine g_val (s_move rfl rfl) rfl ?_
  refine gn_val rfl rfl rfl rfl rfl rfl (by decide) ?_
  refine gn_val rfl rfl rfl rfl rfl rfl (by decide) ?_
  refine g_val (s_pickF rfl rfl rfl) rfl ?_
  refine g_val (s_assign rfl rfl) rfl ?_
  refine g_nil ?_
  exact vc_ret (ret_of _ (.cons (.tmp rfl) .nil) (by first | (exact AB_fd (by unfold shapeK; omega)) | (exact AB_dd (by unfold shapeK; omega))) rfl)
  rw [← hg27]; replace hg27 := hg27.symm; replace hg27 := of_decide_eq_true hg27
  refine gq_val (s_move rfl rfl) rfl rfl rfl rfl ?_
  refine gq_val (s_leq rfl rfl rfl) rfl rfl rfl rfl ?_
  refine g_val (s_pickT rfl rfl rfl) rfl ?_
  refine g_val (s_move rfl rfl) rfl ?_
  refine g_probe (j := 31) rfl (fun c hg31 => ?_)
  cases c
  rw [← hg31]; replace hg31 := hg31.symm; replace hg31 := of_decide_eq_false hg31
  simp only [Int.not_le] at hg31
  refine gn_val rfl rfl rfl rfl rfl rfl (by decide) ?_
  refine gn_val rfl rfl rfl rfl rfl rfl (by decide) ?_
  refine g_val (s_pickF rfl rfl rfl) rfl ?_
  refine g_val (s_move rfl rfl) rfl ?_
  refine gn_val rfl rfl rfl rfl rfl rfl (by decide) ?_
  refine gn_val rfl rfl rfl rfl rfl rfl (by decide) ?_
  refine g_val (s_pickF rfl rfl rfl) rfl ?_
  refine g_val (s_assign rfl rfl) rfl ?_
  refine g_nil ?_
  exact vc_ret (ret_of _ (.cons (.tmp rfl) .nil) (by first | (exact AB_fd (by unfold shapeK; omega)) | (exact AB_dd (by unfold shapeK; omega))) rfl)
  rw [← hg31]; replace hg31 := hg31.symm; replace hg31 := of_decide_eq_true hg31
  refine gq_val (s_move rfl rfl) rfl rfl rfl rfl ?_
  refine gq_val (s_geq rfl rfl rfl) rfl rfl rfl rfl ?_
  refine g_val (s_pickT rfl rfl rfl) rfl ?_
  refine g_val (s_move rfl rfl) rfl ?_
  refine g_probe (j := 35) rfl (fun c hg35 => ?_)
  cases c
  rw [← hg35]; replace hg35 := hg35.symm; replace hg35 := of_decide_eq_false hg35
  simp only [Int.not_le] at hg35
  refine gn_val rfl rfl rfl rfl rfl rfl (by decide) ?_
  refine gn_val rfl rfl rfl rfl rfl rfl (by decide) ?_
  refine g_val (s_pickF rfl rfl rfl) rfl ?_
  refine g_val (s_assign rfl rfl) rfl ?_
  refine g_nil ?_
  exact vc_ret (ret_of _ (.cons (.tmp rfl) .nil) (by first | (exact AB_fd (by unfold shapeK; omega)) | (exact AB_dd (by unfold shapeK; omega))) rfl)
  rw [← hg35]; replace hg35 := hg35.symm; replace hg35 := of_decide_eq_true hg35
  refine gq_val (s_move rfl rfl) rfl rfl rfl rfl ?_
  refine gq_val (s_leq rfl rfl rfl) rfl rfl rfl rfl ?_
  refine g_val (s_pickT rfl rfl rfl) rfl ?_
  refine g_val (s_assign rfl rfl) rfl ?_
  refine g_nil ?_
  exact vc_ret (ret_of _ (.cons (.tmp rfl) .nil) (by first | (exact AB_fd (by unfold shapeK; omega)) | (exact AB_dd (by unfold shapeK; omega))) rfl)

def headP (p : PushCmd) : Prop := shapeK p.vol p.chunk p.count p.size ∧ 0 ≤ p.frm ∧ p.frm ≤ p.to ∧ p.to ≤ 1099511627776 ∧ 0 ≤ p.floor ∧ p.floor ≤ p.to ∧ p.writes.length ≤ 4
instance (p : PushCmd) : Decidable (headP p) := by unfold headP; infer_instance
theorem pushB_iff (p : PushCmd) : pushB p = true ↔ headP p ∧ wrsOK p.count p.size p.to p.frm p.writes = true := by
  unfold pushB headP
  rw [Bool.and_eq_true, decide_eq_true_eq]
theorem wrsOK_drop {c s t last : Int} {ws : List Write} {i : Nat} {w : Write} (hw : ws[i]? = some w) : wrsOK c s t last (ws.drop i) = (decide (last < w.seq ∧ w.seq ≤ t ∧ itemsOK c s w.items) && wrsOK c s t w.seq (ws.drop (i + 1))) := by
  obtain ⟨h1, h2⟩ := List.getElem?_eq_some_iff.1 hw
  rw [List.drop_eq_getElem_cons h1, h2]; rfl

theorem c_mementoref13_PushRight (p : PushCmd) : Con Tryz.prog 65 [sC (pshC p)] [] (AB (pushB p)) [] := by
  refine con_intro [] [] Tryz.func65 rfl Tryz.ntmps65 Tryz.results65 rfl rfl ?_
  intro E
  have hpb := pushB_iff p
  refine vc_rseq mixed ?_
  refine g_new (s_box 1 rfl rfl rfl rfl) rfl ?_
  refine g_val (s_assign rfl rfl) rfl ?_
  refine g_nil ?_
  refine vc_seq ?_
  refine vc_cut (⟨[(1, .ref 1 0), (2, AB false), (50, AB (decide (¬ headP p)))], [(1, some (.box ((pshC p).map .t)))], [1]⟩) ?_ ?_
  refine vc_region mixed ?_
  refine g_val (s_field rfl rfl rfl rfl) rfl ?_
  refine g_val (s_load rfl rfl rfl rfl) rfl ?_
  refine g_val (s_field rfl rfl rfl rfl) rfl ?_
  refine g_val (s_load rfl rfl rfl rfl) rfl ?_
  refine g_val (s_field rfl rfl rfl rfl) rfl ?_
  refine g_val (s_load rfl rfl rfl rfl) rfl ?_
  refine g_val (s_field rfl rfl rfl rfl) rfl ?_
  refine g_val (s_load rfl rfl rfl rfl) rfl ?_
  refine g_val (s_call [] (c_mementoref13_shape p.vol p.chunk p.count p.size) (evArgs_cons rfl (evArgs_cons rfl (evArgs_cons rfl (evArgs_cons rfl evArgs_nil)))) trivial rfl (okVL_nil _) rfl (.inl rfl) rfl) rfl ?_
  refine g_val (s_not rfl rfl) rfl ?_
  refine g_val (s_move rfl rfl) rfl ?_
  refine g_probe (j := 16) rfl (fun c hg16 => ?_)
  cases c
  rw [← hg16]; replace hg16 := hg16.symm
  simp only [Bool.not_eq_false', decide_eq_true_eq] at hg16
  refine gq_val (s_field rfl rfl rfl rfl) rfl rfl rfl rfl ?_
  refine gq_val (s_load rfl rfl rfl rfl) rfl rfl rfl rfl ?_
  refine gq_val (s_lss rfl rfl rfl) rfl rfl rfl rfl ?_
  refine g_val (s_pickF rfl rfl rfl) rfl ?_
  refine g_val (s_move rfl rfl) rfl ?_
  refine g_probe (j := 21) rfl (fun c hg21 => ?_)
  cases c
  rw [← hg21]; replace hg21 := hg21.symm; replace hg21 := of_decide_eq_false hg21
  simp only [Int.not_lt] at hg21
  refine gq_val (s_field rfl rfl rfl rfl) rfl rfl rfl rfl ?_
  refine gq_val (s_load rfl rfl rfl rfl) rfl rfl rfl rfl ?_
  refine gq_val (s_field rfl rfl rfl rfl) rfl rfl rfl rfl ?_
  refine gq_val (s_load rfl rfl rfl rfl) rfl rfl rfl rfl ?_
  refine gq_val (s_gtr rfl rfl rfl) rfl rfl rfl rfl ?_
  refine g_val (s_pickF rfl rfl rfl) rfl ?_
  refine g_val (s_move rfl rfl) rfl ?_
  refine g_probe (j := 28) rfl (fun c hg28 => ?_)
  cases c
  rw [← hg28]; replace hg28 := hg28.symm; replace hg28 := of_decide_eq_false hg28
  simp only [Int.not_lt] at hg28
  refine gq_val (s_field rfl rfl rfl rfl) rfl rfl rfl rfl ?_
  refine gq_val (s_load rfl rfl rfl rfl) rfl rfl rfl rfl ?_
  refine gq_val (s_gtr rfl rfl rfl) rfl rfl rfl rfl ?_
  refine g_val (s_pickF rfl rfl rfl) rfl ?_
  refine g_val (s_move rfl rfl) rfl ?_
  refine g_probe (j := 33) rfl (fun c hg33 => ?_)
  cases c
  rw [← hg33]; replace hg33 := hg33.symm; replace hg33 := of_decide_eq_false hg33
  simp only [Int.not_lt] at hg33
  refine gq_val (s_field rfl rfl rfl rfl) rfl rfl rfl rfl ?_
  refine gq_val (s_load rfl rfl rfl rfl) rfl rfl rfl rfl ?_
  refine gq_val (s_lss rfl rfl rfl) rfl rfl rfl rfl ?_
  refine g_val (s_pickF rfl rfl rfl) rfl ?_
  refine g_val (s_move rfl rfl) rfl ?_
  refine g_probe (j := 38) rfl (fun c hg38 => ?_)
  cases c
  rw [← hg38]; replace hg38 := hg38.symm; replace hg38 := of_decide_eq_false hg38
  simp only [Int.not_lt] at hg38
  refine gq_val (s_field rfl rfl rfl rfl) rfl rfl rfl rfl ?_
  refine gq_val (s_load rfl rfl rfl rfl) rfl rfl rfl rfl ?_
  refine gq_val (s_field rfl rfl rfl rfl) rfl rfl rfl rfl ?_
  refine gq_val (s_load rfl rfl rfl rfl) rfl rfl rfl rfl ?_
  refine gq_val (s_gtr rfl rfl rfl) rfl rfl rfl rfl ?_
  refine g_val (s_pickF rfl rfl rfl) rfl ?_
  refine g_val (s_move rfl rfl) rfl ?_
  refine g_probe (j := 45) rfl (fun c hg45 => ?_)
  cases c
  rw [← hg45]; replace hg45 := hg45.symm; replace hg45 := of_decide_eq_false hg45
  simp only [Int.not_lt] at hg45
  refine gq_val (s_field rfl rfl rfl rfl) rfl rfl rfl rfl ?_
  refine gq_val (s_load rfl rfl rfl rfl) rfl rfl rfl rfl ?_
  refine gq_val (s_len rfl rfl) rfl rfl rfl rfl ?_
  refine gq_val (s_gtr rfl rfl rfl) rfl rfl rfl rfl ?_
  refine g_val (s_pickF rfl rfl rfl) rfl ?_
  refine g_nil ?_
  exact (leE_same (by repeat (first | exact letm_nil _ _ | refine letm_cons rfl ?_ ?_ | exact .same _ | exact .nl (by decide) (by decide) | exact .nn | exact .id' rfl | exact .id' (by first | (exact AB_td (by simp only [headP, shapeK, List.length_map] at *; omega)) | (exact AB_dd (by simp only [headP, shapeK, List.length_map] at *; omega))))) (by repeat (first | exact lehp_nil _ _ | refine lehp_cons rfl ?_ ?_ | exact leB_same _ | exact leB_row (by first | rfl | (first | (exact AB_td (by simp only [headP, shapeK, List.length_map] at *; omega)) | (exact AB_dd (by simp only [headP, shapeK, List.length_map] at *; omega)))) | exact leB_obj (by first | (exact AB_td (by simp only [headP, shapeK, List.length_map] at *; omega)) | (exact AB_dd (by simp only [headP, shapeK, List.length_map] at *; omega))) | exact leB_nest (by first | rfl | (first | (exact AB_td (by simp only [headP, shapeK, List.length_map] at *; omega)) | (exact AB_dd (by simp only [headP, shapeK, List.length_map] at *; omega)))) | refine leB_box ?_ | exact leL_nil | refine leL_cons ?_ ?_ | exact .same _ | exact .nl (by decide) (by decide) | exact .nn | exact .id' rfl | exact .id' (by first | (exact AB_td (by simp only [headP, shapeK, List.length_map] at *; omega)) | (exact AB_dd (by simp only [headP, shapeK, List.length_map] at *; omega))))) rfl)
  rw [← hg45]; replace hg45 := hg45.symm; replace hg45 := of_decide_eq_true hg45
  refine gn_val rfl rfl rfl rfl rfl rfl (by decide) ?_
  refine gn_val rfl rfl rfl rfl rfl rfl (by decide) ?_
  refine gn_val rfl rfl rfl rfl rfl rfl (by decide) ?_
  refine gn_val rfl rfl rfl rfl rfl rfl (by decide) ?_
  refine g_val (s_pickT rfl rfl rfl) rfl ?_
  refine g_nil ?_
  exact (leE_same (by repeat (first | exact letm_nil _ _ | refine letm_cons rfl ?_ ?_ | exact .same _ | exact .nl (by decide) (by decide) | exact .nn | exact .id' rfl | exact .id' (by first | (exact AB_td (by simp only [headP, shapeK, List.length_map] at *; omega)) | (exact AB_dd (by simp only [headP, shapeK, List.length_map] at *; omega))))) (by repeat (first | exact lehp_nil _ _ | refine lehp_cons rfl ?_ ?_ | exact leB_same _ | exact leB_row (by first | rfl | (first | (exact AB_td (by simp only [headP, shapeK, List.length_map] at *; omega)) | (exact AB_dd (by simp only [headP, shapeK, List.length_map] at *; omega)))) | exact leB_obj (by first | (exact AB_td (by simp only [headP, shapeK, List.length_map] at *; omega)) | (exact AB_dd (by simp only [headP, shapeK, List.length_map] at *; omega))) | exact leB_nest (by first | rfl | (first | (exact AB_td (by simp only [headP, shapeK, List.length_map] at *; omega)) | (exact AB_dd (by simp only [headP, shapeK, List.length_map] at *; omega)))) | refine leB_box ?_ | exact leL_nil | refine leL_cons ?_ ?_ | exact .same _ | exact .nl (by decide) (by decide) | exact .nn | exact .id' rfl | exact .id' (by first | (exact AB_td (by simp only [headP, shapeK, List.length_map] at *; omega)) | (exact AB_dd (by simp only [headP, shapeK, List.length_map] at *; omega))))) rfl)
  rw [← hg38]; replace hg38 := hg38.symm; replace hg38 := of_decide_eq_true hg38
  refine gn_val rfl rfl rfl rfl rfl rfl (by decide) ?_
  refine gn_val rfl rfl rfl rfl rfl rfl (by decide) ?_
  refine gn_val rfl rfl rfl rfl rfl rfl (by decide) ?_
  refine gn_val rfl rfl rfl rfl rfl rfl (by decide) ?_
  refine gn_val rfl rfl rfl rfl rfl rfl (by decide) ?_
  refine g_val (s_pickT rfl rfl rfl) rfl ?_
  refine g_val (s_move rfl rfl) rfl ?_
  refine gn_val rfl rfl rfl rfl rfl rfl (by decide) ?_
  refine gn_val rfl rfl rfl rfl rfl rfl (by decide) ?_
  refine gn_val rfl rfl rfl rfl rfl rfl (by decide) ?_
  refine gn_val rfl rfl rfl rfl rfl rfl (by decide) ?_
  refine g_val (s_pickT rfl rfl rfl) rfl ?_
  refine g_nil ?_
  exact (leE_same (by repeat (first | exact letm_nil _ _ | refine letm_cons rfl ?_ ?_ | exact .same _ | exact .nl (by decide) (by decide) | exact .nn | exact .id' rfl | exact .id' (by first | (exact AB_td (by simp only [headP, shapeK, List.length_map] at *; omega)) | (exact AB_dd (by simp only [headP, shapeK, List.length_map] at *; omega))))) (by repeat (first | exact lehp_nil _ _ | refine lehp_cons rfl ?_ ?_ | exact leB_same _ | exact leB_row (by first | rfl | (first | (exact AB_td (by simp only [headP, shapeK, List.length_map] at *; omega)) | (exact AB_dd (by simp only [headP, shapeK, List.length_map] at *; omega)))) | exact leB_obj (by first | (exact AB_td (by simp only [headP, shapeK, List.length_map] at *; omega)) | (exact AB_dd (by simp only [headP, shapeK, List.length_map] at *; omega))) | exact leB_nest (by first | rfl | (first | (exact AB_td (by simp only [headP, shapeK, List.length_map] at *; omega)) | (exact AB_dd (by simp only [headP, shapeK, List.length_map] at *; omega)))) | refine leB_box ?_ | exact leL_nil | refine leL_cons ?_ ?_ | exact .same _ | exact .nl (by decide) (by decide) | exact .nn | exact .id' rfl | exact .id' (by first | (exact AB_td (by simp only [headP, shapeK, List.length_map] at *; omega)) | (exact AB_dd (by simp only [headP, shapeK, List.length_map] at *; omega))))) rfl)
  rw [← hg33]; replace hg33 := hg33.symm; replace hg33 := of_decide_eq_true hg33
  refine gn_val rfl rfl rfl rfl rfl rfl (by decide) ?_
  refine gn_val rfl rfl rfl rfl rfl rfl (by decide) ?_
  refine gn_val rfl rfl rfl rfl rfl rfl (by decide) ?_
  refine g_val (s_pickT rfl rfl rfl) rfl ?_
  refine g_val (s_move rfl rfl) rfl ?_
  refine gn_val rfl rfl rfl rfl rfl rfl (by decide) ?_
  refine gn_val rfl rfl rfl rfl rfl rfl (by decide) ?_
  refine gn_val rfl rfl rfl rfl rfl rfl (by decide) ?_
  refine gn_val rfl rfl rfl rfl rfl rfl (by decide) ?_
  refine gn_val rfl rfl rfl rfl rfl rfl (by decide) ?_
  refine g_val (s_pickT rfl rfl rfl) rfl ?_
  refine g_val (s_move rfl rfl) rfl ?_
  refine gn_val rfl rfl rfl rfl rfl rfl (by decide) ?_
  refine gn_val rfl rfl rfl rfl rfl rfl (by decide) ?_
  refine gn_val rfl rfl rfl rfl rfl rfl (by decide) ?_
  refine gn_val rfl rfl rfl rfl rfl rfl (by decide) ?_
  refine g_val (s_pickT rfl rfl rfl) rfl ?_
  refine g_nil ?_
  exact (leE_same (by repeat (first | exact letm_nil _ _ | refine letm_cons rfl ?_ ?_ | exact .same _ | exact .nl (by decide) (by decide) | exact .nn | exact .id' rfl | exact .id' (by first | (exact AB_td (by simp only [headP, shapeK, List.length_map] at *; omega)) | (exact AB_dd (by simp only [headP, shapeK, List.length_map] at *; omega))))) (by repeat (first | exact lehp_nil _ _ | refine lehp_cons rfl ?_ ?_ | exact leB_same _ | exact leB_row (by first | rfl | (first | (exact AB_td (by simp only [headP, shapeK, List.length_map] at *; omega)) | (exact AB_dd (by simp only [headP, shapeK, List.length_map] at *; omega)))) | exact leB_obj (by first | (exact AB_td (by simp only [headP, shapeK, List.length_map] at *; omega)) | (exact AB_dd (by simp only [headP, shapeK, List.length_map] at *; omega))) | exact leB_nest (by first | rfl | (first | (exact AB_td (by simp only [headP, shapeK, List.length_map] at *; omega)) | (exact AB_dd (by simp only [headP, shapeK, List.length_map] at *; omega)))) | refine leB_box ?_ | exact leL_nil | refine leL_cons ?_ ?_ | exact .same _ | exact .nl (by decide) (by decide) | exact .nn | exact .id' rfl | exact .id' (by first | (exact AB_td (by simp only [headP, shapeK, List.length_map] at *; omega)) | (exact AB_dd (by simp only [headP, shapeK, List.length_map] at *; omega))))) rfl)
  rw [← hg28]; replace hg28 := hg28.symm; replace hg28 := of_decide_eq_true hg28
  refine gn_val rfl rfl rfl rfl rfl rfl (by decide) ?_
  refine gn_val rfl rfl rfl rfl rfl rfl (by decide) ?_
  refine gn_val rfl rfl rfl rfl rfl rfl (by decide) ?_
  refine g_val (s_pickT rfl rfl rfl) rfl ?_
  refine g_val (s_move rfl rfl) rfl ?_
  refine gn_val rfl rfl rfl rfl rfl rfl (by decide) ?_
  refine gn_val rfl rfl rfl rfl rfl rfl (by decide) ?_
  refine gn_val rfl rfl rfl rfl rfl rfl (by decide) ?_
  refine g_val (s_pickT rfl rfl rfl) rfl ?_
  refine g_val (s_move rfl rfl) rfl ?_
  refine gn_val rfl rfl rfl rfl rfl rfl (by decide) ?_
  refine gn_val rfl rfl rfl rfl rfl rfl (by decide) ?_
  refine gn_val rfl rfl rfl rfl rfl rfl (by decide) ?_
  refine gn_val rfl rfl rfl rfl rfl rfl (by decide) ?_
  refine gn_val rfl rfl rfl rfl rfl rfl (by decide) ?_
  refine g_val (s_pickT rfl rfl rfl) rfl ?_
  refine g_val (s_move rfl rfl) rfl ?_
  refine gn_val rfl rfl rfl rfl rfl rfl (by decide) ?_
  refine gn_val rfl rfl rfl rfl rfl rfl (by decide) ?_
  refine gn_val rfl rfl rfl rfl rfl rfl (by decide) ?_
  refine gn_val rfl rfl rfl rfl rfl rfl (by decide) ?_
  refine g_val (s_pickT rfl rfl rfl) rfl ?_
  refine g_nil ?_
  exact (leE_same (by repeat (first | exact letm_nil _ _ | refine letm_cons rfl ?_ ?_ | exact .same _ | exact .nl (by decide) (by decide) | exact .nn | exact .id' rfl | exact .id' (by first | (exact AB_td (by simp only [headP, shapeK, List.length_map] at *; omega)) | (exact AB_dd (by simp only [headP, shapeK, List.length_map] at *; omega))))) (by repeat (first | exact lehp_nil _ _ | refine lehp_cons rfl ?_ ?_ | exact leB_same _ | exact leB_row (by first | rfl | (first | (exact AB_td (by simp only [headP, shapeK, List.length_map] at *; omega)) | (exact AB_dd (by simp only [headP, shapeK, List.length_map] at *; omega)))) | exact leB_obj (by first | (exact AB_td (by simp only [headP, shapeK, List.length_map] at *; omega)) | (exact AB_dd (by simp only [headP, shapeK, List.length_map] at *; omega))) | exact leB_nest (by first | rfl | (first | (exact AB_td (by simp only [headP, shapeK, List.length_map] at *; omega)) | (exact AB_dd (by simp only [headP, shapeK, List.length_map] at *; omega)))) | refine leB_box ?_ | exact leL_nil | refine leL_cons ?_ ?_ | exact .same _ | exact .nl (by decide) (by decide) | exact .nn | exact .id' rfl | exact .id' (by first | (exact AB_td (by simp only [headP, shapeK, List.length_map] at *; omega)) | (exact AB_dd (by simp only [headP, shapeK, List.length_map] at *; omega))))) rfl)
  rw [← hg21]; replace hg21 := hg21.symm; replace hg21 := of_decide_eq_true hg21
  refine gn_val rfl rfl rfl rfl rfl rfl (by decide) ?_
  refine gn_val rfl rfl rfl rfl rfl rfl (by decide) ?_
  refine gn_val rfl rfl rfl rfl rfl rfl (by decide) ?_
  refine gn_val rfl rfl rfl rfl rfl rfl (by decide) ?_
  refine gn_val rfl rfl rfl rfl rfl rfl (by decide) ?_
  refine g_val (s_pickT rfl rfl rfl) rfl ?_
  refine g_val (s_move rfl rfl) rfl ?_
  refine gn_val rfl rfl rfl rfl rfl rfl (by decide) ?_
  refine gn_val rfl rfl rfl rfl rfl rfl (by decide) ?_
  refine gn_val rfl rfl rfl rfl rfl rfl (by decide) ?_
  refine g_val (s_pickT rfl rfl rfl) rfl ?_
  refine g_val (s_move rfl rfl) rfl ?_
  refine gn_val rfl rfl rfl rfl rfl rfl (by decide) ?_
  refine gn_val rfl rfl rfl rfl rfl rfl (by decide) ?_
  refine gn_val rfl rfl rfl rfl rfl rfl (by decide) ?_
  refine g_val (s_pickT rfl rfl rfl) rfl ?_
  refine g_val (s_move rfl rfl) rfl ?_
  refine gn_val rfl rfl rfl rfl rfl rfl (by decide) ?_
  refine gn_val rfl rfl rfl rfl rfl rfl (by decide) ?_
  refine gn_val rfl rfl rfl rfl rfl rfl (by decide) ?_
  refine gn_val rfl rfl rfl rfl rfl rfl (by decide) ?_
  refine gn_val rfl rfl rfl rfl rfl rfl (by decide) ?_
  refine g_val (s_pickT rfl rfl rfl) rfl ?_
  refine g_val (s_move rfl rfl) rfl ?_
  refine gn_val rfl rfl rfl rfl rfl rfl (by decide) ?_
  refine gn_val rfl rfl rfl rfl rfl rfl (by decide) ?_
  refine gn_val rfl rfl rfl rfl rfl rfl (by decide) ?_
  refine gn_val rfl rfl rfl rfl rfl rfl (by decide) ?_
  refine g_val (s_pickT rfl rfl rfl) rfl ?_
  refine g_nil ?_
  exact (leE_same (by repeat (first | exact letm_nil _ _ | refine letm_cons rfl ?_ ?_ | exact .same _ | exact .nl (by decide) (by decide) | exact .nn | exact .id' rfl | exact .id' (by first | (exact AB_td (by simp only [headP, shapeK, List.length_map] at *; omega)) | (exact AB_dd (by simp only [headP, shapeK, List.length_map] at *; omega))))) (by repeat (first | exact lehp_nil _ _ | refine lehp_cons rfl ?_ ?_ | exact leB_same _ | exact leB_row (by first | rfl | (first | (exact AB_td (by simp only [headP, shapeK, List.length_map] at *; omega)) | (exact AB_dd (by simp only [headP, shapeK, List.length_map] at *; omega)))) | exact leB_obj (by first | (exact AB_td (by simp only [headP, shapeK, List.length_map] at *; omega)) | (exact AB_dd (by simp only [headP, shapeK, List.length_map] at *; omega))) | exact leB_nest (by first | rfl | (first | (exact AB_td (by simp only [headP, shapeK, List.length_map] at *; omega)) | (exact AB_dd (by simp only [headP, shapeK, List.length_map] at *; omega)))) | refine leB_box ?_ | exact leL_nil | refine leL_cons ?_ ?_ | exact .same _ | exact .nl (by decide) (by decide) | exact .nn | exact .id' rfl | exact .id' (by first | (exact AB_td (by simp only [headP, shapeK, List.length_map] at *; omega)) | (exact AB_dd (by simp only [headP, shapeK, List.length_map] at *; omega))))) rfl)
  rw [← hg16]; replace hg16 := hg16.symm
  simp only [Bool.not_eq_true', decide_eq_false_iff_not] at hg16
  refine gn_val rfl rfl rfl rfl rfl rfl (by decide) ?_
  refine gn_val rfl rfl rfl rfl rfl rfl (by decide) ?_
  refine gn_val rfl rfl rfl rfl rfl rfl (by decide) ?_
  refine g_val (s_pickT rfl rfl rfl) rfl ?_
  refine g_val (s_move rfl rfl) rfl ?_
  refine gn_val rfl rfl rfl rfl rfl rfl (by decide) ?_
  refine gn_val rfl rfl rfl rfl rfl rfl (by decide) ?_
  refine gn_val rfl rfl rfl rfl rfl rfl (by decide) ?_
  refine gn_val rfl rfl rfl rfl rfl rfl (by decide) ?_
  refine gn_val rfl rfl rfl rfl rfl rfl (by decide) ?_
  refine g_val (s_pickT rfl rfl rfl) rfl ?_
  refine g_val (s_move rfl rfl) rfl ?_
  refine gn_val rfl rfl rfl rfl rfl rfl (by decide) ?_
  refine gn_val rfl rfl rfl rfl rfl rfl (by decide) ?_
  refine gn_val rfl rfl rfl rfl rfl rfl (by decide) ?_
  refine g_val (s_pickT rfl rfl rfl) rfl ?_
  refine g_val (s_move rfl rfl) rfl ?_
  refine gn_val rfl rfl rfl rfl rfl rfl (by decide) ?_
  refine gn_val rfl rfl rfl rfl rfl rfl (by decide) ?_
  refine gn_val rfl rfl rfl rfl rfl rfl (by decide) ?_
  refine g_val (s_pickT rfl rfl rfl) rfl ?_
  refine g_val (s_move rfl rfl) rfl ?_
  refine gn_val rfl rfl rfl rfl rfl rfl (by decide) ?_
  refine gn_val rfl rfl rfl rfl rfl rfl (by decide) ?_
  refine gn_val rfl rfl rfl rfl rfl rfl (by decide) ?_
  refine gn_val rfl rfl rfl rfl rfl rfl (by decide) ?_
  refine gn_val rfl rfl rfl rfl rfl rfl (by decide) ?_
  refine g_val (s_pickT rfl rfl rfl) rfl ?_
  refine g_val (s_move rfl rfl) rfl ?_
  refine gn_val rfl rfl rfl rfl rfl rfl (by decide) ?_
  refine gn_val rfl rfl rfl rfl rfl rfl (by decide) ?_
  refine gn_val rfl rfl rfl rfl rfl rfl (by decide) ?_
  refine gn_val rfl rfl rfl rfl rfl rfl (by decide) ?_
  refine g_val (s_pickT rfl rfl rfl) rfl ?_
  refine g_nil ?_
  exact (leE_same (by repeat (first | exact letm_nil _ _ | refine letm_cons rfl ?_ ?_ | exact .same _ | exact .nl (by decide) (by decide) | exact .nn | exact .id' rfl | exact .id' (by first | (exact AB_td (by simp only [headP, shapeK, List.length_map] at *; omega)) | (exact AB_dd (by simp only [headP, shapeK, List.length_map] at *; omega))))) (by repeat (first | exact lehp_nil _ _ | refine lehp_cons rfl ?_ ?_ | exact leB_same _ | exact leB_row (by first | rfl | (first | (exact AB_td (by simp only [headP, shapeK, List.length_map] at *; omega)) | (exact AB_dd (by simp only [headP, shapeK, List.length_map] at *; omega)))) | exact leB_obj (by first | (exact AB_td (by simp only [headP, shapeK, List.length_map] at *; omega)) | (exact AB_dd (by simp only [headP, shapeK, List.length_map] at *; omega))) | exact leB_nest (by first | rfl | (first | (exact AB_td (by simp only [headP, shapeK, List.length_map] at *; omega)) | (exact AB_dd (by simp only [headP, shapeK, List.length_map] at *; omega)))) | refine leB_box ?_ | exact leL_nil | refine leL_cons ?_ ?_ | exact .same _ | exact .nl (by decide) (by decide) | exact .nn | exact .id' rfl | exact .id' (by first | (exact AB_td (by simp only [headP, shapeK, List.length_map] at *; omega)) | (exact AB_dd (by simp only [headP, shapeK, List.length_map] at *; omega))))) rfl)
  refine vc_cond rfl (fun hc50 => ?_) (fun hc50 => ?_)
  replace hc50 := of_decide_eq_true hc50
  rw [show pushB p = false from Bool.eq_false_iff.2 fun hr => (by simpa using hc50 : ¬ headP p) (hpb.1 hr).1]
  refine vc_rseq mixed ?_
  refine g_val (s_assign rfl rfl) rfl ?_
  refine g_nil ?_
  exact vc_ret (ret_of _ (.cons (.tmp rfl) .nil) rfl rfl)
  replace hc50 := of_decide_eq_false hc50
  simp only [Decidable.not_not] at hc50
  refine vc_skip ?_
  have hh : headP p := by simpa using hc50
  have hw4 := hh.2.2.2.2.2.2
  refine vc_rseq mixed ?_
  refine g_val (s_field rfl rfl rfl rfl) rfl ?_
  refine g_val (s_load rfl rfl rfl rfl) rfl ?_
  refine g_val (s_assign rfl rfl) rfl ?_
  refine g_nil ?_
  refine vc_seq ?_
  refine vc_rseq mixed ?_
  refine g_val (s_assign rfl rfl) rfl ?_
  refine g_nil ?_
  refine vc_block ?_
  refine vc_while (α := Nat × Int) (fun s => ⟨[(1, .ref 1 0), (3, AI .i64 s.2), (4, AI .i64 s.1)], [(1, some (.box ((pshC p).map .t)))], [1]⟩) (fun s => s.1 ≤ p.writes.length ∧ wrsOK p.count p.size p.to s.2 (p.writes.drop s.1) = wrsOK p.count p.size p.to p.frm p.writes) (fun s => p.writes.length - s.1) (0, p.frm) (leE_same (by repeat (first | exact letm_nil _ _ | refine letm_cons rfl ?_ ?_ | exact .same _ | exact .nl (by decide) (by decide) | exact .nn | exact .id' rfl | exact .id' (by simp; done))) (by repeat (first | exact lehp_nil _ _ | refine lehp_cons rfl ?_ ?_ | exact leB_same _ | exact leB_row (by first | rfl | (simp; done)) | exact leB_obj (by simp; done) | exact leB_nest (by first | rfl | (simp; done)) | refine leB_box ?_ | exact leL_nil | refine leL_cons ?_ ?_ | exact .same _ | exact .nl (by decide) (by decide) | exact .nn | exact .id' rfl | exact .id' (by simp; done))) rfl) ⟨Nat.zero_le _, rfl⟩ (fun s ⟨hs1, hs2⟩ => ?_)
  obtain ⟨i, last⟩ := s
  simp only at hs1 hs2
  refine vc_seq ?_
  refine vc_rseq mixed ?_
  refine g_val (s_move rfl rfl) rfl ?_
  refine g_val (s_field rfl rfl rfl rfl) rfl ?_
  refine g_val (s_load rfl rfl rfl rfl) rfl ?_
  refine g_val (s_len rfl rfl) rfl ?_
  refine g_val (s_lss rfl rfl rfl) rfl ?_
  refine g_nil ?_
  refine vc_cond rfl (fun hc57 => ?_) (fun hc57 => ?_)
  replace hc57 := of_decide_eq_true hc57
  simp only [List.length_map] at hc57
  obtain ⟨w, hw⟩ := get_of_lt (l := p.writes) (i := i) (by omega)
  rw [wrsOK_drop hw] at hs2
  refine vc_skip ?_
  refine vc_seq ?_
  refine vc_block ?_
  refine vc_rseq mixed ?_
  refine g_val (s_field rfl rfl rfl rfl) rfl ?_
  refine g_val (s_load rfl rfl rfl rfl) rfl ?_
  refine g_val (s_move rfl rfl) rfl ?_
  refine g_val (s_index rfl rfl rfl (by omega) (idx_map hw)) rfl ?_
  refine g_val (s_loadTA rfl rfl rfl) rfl ?_
  refine g_new (s_alloc 5 rfl rfl) rfl ?_
  refine g_sto (s_store rfl rfl rfl rfl rfl rfl) rfl ?_
  refine g_nil ?_
  refine vc_seq ?_
  refine vc_rseq mixed ?_
  refine g_val (s_field rfl rfl rfl rfl) rfl ?_
  refine g_val (s_load rfl rfl rfl rfl) rfl ?_
  refine g_val (s_move rfl rfl) rfl ?_
  refine g_val (s_leq rfl rfl rfl) rfl ?_
  refine g_val (s_move rfl rfl) rfl ?_
  refine g_probe (j := 69) rfl (fun c hg69 => ?_)
  cases c
  rw [← hg69]; replace hg69 := hg69.symm; replace hg69 := of_decide_eq_false hg69
  simp only [Int.not_le] at hg69
  refine gq_val (s_field rfl rfl rfl rfl) rfl rfl rfl rfl ?_
  refine gq_val (s_load rfl rfl rfl rfl) rfl rfl rfl rfl ?_
  refine gq_val (s_field rfl rfl rfl rfl) rfl rfl rfl rfl ?_
  refine gq_val (s_load rfl rfl rfl rfl) rfl rfl rfl rfl ?_
  refine gq_val (s_gtr rfl rfl rfl) rfl rfl rfl rfl ?_
  refine g_val (s_pickF rfl rfl rfl) rfl ?_
  refine g_val (s_move rfl rfl) rfl ?_
  refine g_probe (j := 76) rfl (fun c hg76 => ?_)
  cases c
  rw [← hg76]; replace hg76 := hg76.symm; replace hg76 := of_decide_eq_false hg76
  simp only [Int.not_lt] at hg76
  refine gq_val (s_field rfl rfl rfl rfl) rfl rfl rfl rfl ?_
  refine gq_val (s_load rfl rfl rfl rfl) rfl rfl rfl rfl ?_
  refine gq_val (s_field rfl rfl rfl rfl) rfl rfl rfl rfl ?_
  refine gq_val (s_load rfl rfl rfl rfl) rfl rfl rfl rfl ?_
  refine gq_val (s_field rfl rfl rfl rfl) rfl rfl rfl rfl ?_
  refine gq_val (s_load rfl rfl rfl rfl) rfl rfl rfl rfl ?_
  refine gq_val (s_call [] (c_mementoref13_ItemsRight p.count p.size w.items) (evArgs_cons rfl (evArgs_cons rfl (evArgs_cons rfl evArgs_nil))) trivial rfl (okVL_nil _) rfl (.inl rfl) rfl) rfl rfl rfl rfl ?_
  refine gq_val (s_not rfl rfl) rfl rfl rfl rfl ?_
  refine g_val (s_pickF rfl rfl rfl) rfl ?_
  refine g_nil ?_
  refine vc_cond rfl (fun hc85 => ?_) (fun hc85 => ?_)
  simp only [Bool.not_eq_true', decide_eq_false_iff_not] at hc85
  rw [show pushB p = false from Bool.eq_false_iff.2 fun hr => by
  have h7 := (hpb.1 hr).2
  rw [← hs2, Bool.and_eq_true, decide_eq_true_eq] at h7
  first | omega | (exact absurd h7.1.2.2 (by simpa using hc85))]
  refine vc_rseq mixed ?_
  refine g_val (s_assign rfl rfl) rfl ?_
  refine g_nil ?_
  exact vc_ret (ret_of _ (.cons (.tmp rfl) .nil) rfl rfl)
  simp only [Bool.not_eq_false', decide_eq_true_eq] at hc85
  refine vc_skip ?_
  refine vc_region mixed ?_
  refine g_val (s_field rfl rfl rfl rfl) rfl ?_
  refine g_val (s_load rfl rfl rfl rfl) rfl ?_
  refine g_val (s_assign rfl rfl) rfl ?_
  refine g_nil ?_
  refine vc_region mixed ?_
  refine g_val (s_move rfl rfl) rfl ?_
  refine g_val (s_add rfl rfl rfl (by simp only [inI, kMin, kMax]; omega)) rfl ?_
  refine g_val (s_assign rfl rfl) rfl ?_
  refine g_nil ?_
  exact ⟨(i + 1, w.seq), ⟨by simp only; omega, by simp only; rw [← hs2, decide_eq_true (show last < w.seq ∧ w.seq ≤ p.to ∧ itemsOK p.count p.size w.items from ⟨by omega, by omega, by simpa using hc85⟩), Bool.true_and]⟩, by simp only; omega, (leE_same (by repeat (first | exact letm_nil _ _ | refine letm_cons rfl ?_ ?_ | exact .same _ | exact .nl (by decide) (by decide) | exact .nn | exact .id' rfl | exact .id' (by simp; done))) (by repeat (first | exact lehp_nil _ _ | refine lehp_cons rfl ?_ ?_ | exact leB_same _ | exact leB_row (by first | rfl | (simp; done)) | exact leB_obj (by simp; done) | exact leB_nest (by first | rfl | (simp; done)) | refine leB_box ?_ | exact leL_nil | refine leL_cons ?_ ?_ | exact .same _ | exact .nl (by decide) (by decide) | exact .nn | exact .id' rfl | exact .id' (by simp; done))) rfl)⟩
  rw [← hg76]; replace hg76 := hg76.symm; replace hg76 := of_decide_eq_true hg76
  refine gn_val rfl rfl rfl rfl rfl rfl (by decide) ?_
  refine gn_val rfl rfl rfl rfl rfl rfl (by decide) ?_
  refine gn_val rfl rfl rfl rfl rfl rfl (by decide) ?_
  refine gn_val rfl rfl rfl rfl rfl rfl (by decide) ?_
  refine gn_val rfl rfl rfl rfl rfl rfl (by decide) ?_
  refine gn_val rfl rfl rfl rfl rfl rfl (by decide) ?_
  refine gn_val rfl rfl rfl rfl rfl rfl (by decide) ?_
  refine gn_val rfl rfl rfl rfl rfl rfl (by decide) ?_
  refine g_val (s_pickT rfl rfl rfl) rfl ?_
  refine g_nil ?_
  refine vc_cond rfl (fun _ => ?_) (fun h => by cases h)
  rw [show pushB p = false from Bool.eq_false_iff.2 fun hr => by
  have h7 := (hpb.1 hr).2
  rw [← hs2, Bool.and_eq_true, decide_eq_true_eq] at h7
  first | omega | (exact absurd h7.1.2.2 (by simpa using hc85))]
  refine vc_rseq mixed ?_
  refine g_val (s_assign rfl rfl) rfl ?_
  refine g_nil ?_
  exact vc_ret (ret_of _ (.cons (.tmp rfl) .nil) rfl rfl)
  rw [← hg69]; replace hg69 := hg69.symm; replace hg69 := of_decide_eq_true hg69
  try simp only [List.length_map, ne_eq, Decidable.not_not, Int.not_lt, Int.not_le, ge_iff_le, gt_iff_lt, Bool.not_eq_true', Bool.not_eq_false', decide_eq_true_eq, decide_eq_false_iff_not] at hg69
  refine gn_val rfl rfl rfl rfl rfl rfl (by decide) ?_
  refine gn_val rfl rfl rfl rfl rfl rfl (by decide) ?_
  refine gn_val rfl rfl rfl rfl rfl rfl (by decide) ?_
  refine gn_val rfl rfl rfl rfl rfl rfl (by decide) ?_
  refine gn_val rfl rfl rfl rfl rfl rfl (by decide) ?_
  refine g_val (s_pickT rfl rfl rfl) rfl ?_
  refine g_val (s_move rfl rfl) rfl ?_
  refine gn_val rfl rfl rfl rfl rfl rfl (by decide) ?_
  refine gn_val rfl rfl rfl rfl rfl rfl (by decide) ?_
  refine gn_val rfl rfl rfl rfl rfl rfl (by decide) ?_
  refine gn_val rfl rfl rfl rfl rfl rfl (by decide) ?_
  refine gn_val rfl rfl rfl rfl rfl rfl (by decide) ?_
  refine gn_val rfl rfl rfl rfl rfl rfl (by decide) ?_
  refine gn_val rfl rfl rfl rfl rfl rfl (by decide) ?_
  refine gn_val rfl rfl rfl rfl rfl rfl (by decide) ?_
  refine g_val (s_pickT rfl rfl rfl) rfl ?_
  refine g_nil ?_
  refine vc_cond rfl (fun _ => ?_) (fun h => by cases h)
  rw [show pushB p = false from Bool.eq_false_iff.2 fun hr => by
  have h7 := (hpb.1 hr).2
  rw [← hs2, Bool.and_eq_true, decide_eq_true_eq] at h7
  first | omega | (exact absurd h7.1.2.2 (by simpa using hc85))]
  refine vc_rseq mixed ?_
  refine g_val (s_assign rfl rfl) rfl ?_
  refine g_nil ?_
  exact vc_ret (ret_of _ (.cons (.tmp rfl) .nil) rfl rfl)
  replace hc57 := of_decide_eq_false hc57
  simp only [List.length_map, Int.not_lt] at hc57
  refine vc_exit ?_
  have hwr : wrsOK p.count p.size p.to p.frm p.writes = true := by rw [← hs2, List.drop_of_length_le (by omega)]; rfl
  rw [hpb.2 ⟨hh, hwr⟩]
  refine vc_rseq mixed ?_
  refine g_val (s_assign rfl rfl) rfl ?_
  refine g_nil ?_
  exact vc_ret (ret_of _ (.cons (.tmp rfl) .nil) rfl rfl)

theorem addV_len (l : List Ver) (s : Int) (d : List Int) : (addV l s d).length ≤ l.length + 1 := by
  unfold addV; split <;> simp
theorem pruV_len (l : List Ver) (f : Int) : (pruV l f).length ≤ l.length := pruI_len l f l.length
theorem applyI_le {s : Int} {B : Nat} : ∀ {l : List Item} {h : List (List Ver)}, (∀ e ∈ h, e.length ≤ B) → ∀ e ∈ applyI s h l, e.length ≤ B + l.length
  | [], h, hh, e, he => hh e he
  | x :: l, h, hh, e, he => by
    have := applyI_le (s := s) (B := B + 1) (l := l) (h := h.modify x.block.toNat fun e => addV e s x.data) (fun e he => by
      obtain ⟨i, hi⟩ := List.mem_iff_getElem?.1 he
      by_cases e1 : x.block.toNat = i
      rw [mod_eq e1] at hi
      cases h0 : h[i]? with
      | none => rw [h0] at hi; cases hi
      | some e0 =>
        rw [h0] at hi
        injection hi with hi
        have h1 := hh e0 (List.mem_of_getElem? h0)
        have h2 := addV_len e0 s x.data
        simp only at hi
        rw [hi] at h2
        omega
      rw [mod_ne e1] at hi
      have := hh e (List.mem_of_getElem? hi); omega) e he
    simp only [List.length_cons]; omega
theorem applyW_le {m : Int} {B : Nat} : ∀ {ws : List Write} {h : List (List Ver)}, (∀ w ∈ ws, w.items.length ≤ 8) → (∀ e ∈ h, e.length ≤ B) → ∀ e ∈ applyW m h ws, e.length ≤ B + 8 * ws.length
  | [], h, _, hh, e, he => hh e he
  | w :: ws, h, hw, hh, e, he => by
    have h8 := hw w (List.mem_cons_self ..)
    simp only [applyW, List.foldl_cons] at he
    have := applyW_le (m := m) (B := B + 8) (ws := ws) (h := if m < w.seq then applyI w.seq h w.items else h) (fun w' hw' => hw w' (List.mem_cons_of_mem _ hw')) (fun e he => by
      split at he
      have := applyI_le hh e he; omega
      have := hh e he; omega) e he
    simp only [List.length_cons]; omega
theorem applyW_snoc {m : Int} {h : List (List Ver)} {ws : List Write} {w : Write} : applyW m h (ws ++ [w]) = if m < w.seq then applyI w.seq (applyW m h ws) w.items else applyW m h ws := by
  simp [applyW]
theorem applyI_snoc {s : Int} {h : List (List Ver)} {l : List Item} {x : Item} : applyI s h (l ++ [x]) = (applyI s h l).modify x.block.toNat fun e => addV e s x.data := by
  simp [applyI]
theorem wrsOK_all {c s t : Int} : ∀ {ws : List Write} {last : Int}, wrsOK c s t last ws = true → ∀ w ∈ ws, itemsOK c s w.items
  | [], _, _, w, hw => by cases hw
  | x :: ws, last, h, w, hw => by
    simp only [wrsOK, Bool.and_eq_true, decide_eq_true_eq] at h
    rcases List.mem_cons.1 hw with rfl | hw
    exact h.1.2.2
    exact wrsOK_all h.2 w hw
def verC1 (es : List Ver) : List T := [versT es]
theorem map_modify_set {l : List (List Ver)} {i : Nat} {f : List Ver → List Ver} {e : List Ver} (h : l[i]? = some e) : (l.map verC1).set i [versT (f e)] = (l.modify i f).map verC1 := by
  apply List.ext_getElem?
  intro k
  rw [List.getElem?_set, List.getElem?_map, List.getElem?_map]
  by_cases hk : i = k
  subst hk
  rw [mod_eq rfl, h]
  simp [(List.getElem?_eq_some_iff.1 h).1, verC1]
  rw [mod_ne hk]; simp [hk]

theorem setdrop {H : List (List Ver)} {i : Nat} {e : List Ver} {f : List Ver → List Ver} (he : H[i]? = some e) : (((H.take i).map fun l => verC1 (f l)) ++ (H.drop i).map verC1).set i [versT (f e)] = ((H.take (i + 1)).map fun l => verC1 (f l)) ++ (H.drop (i + 1)).map verC1 := by
  obtain ⟨h1, h2⟩ := List.getElem?_eq_some_iff.1 he
  rw [List.set_append, if_neg (by simp; omega)]
  rw [show i - ((H.take i).map fun l => verC1 (f l)).length = 0 by simp; omega, List.drop_eq_getElem_cons h1, List.map_cons, List.set_cons_zero, take_snoc he, List.map_append]
  simp [verC1]

theorem c_mementoref13_Apply (c : Chunk) (p : PushCmd) (hl : (c.hist.length : Int) = c.count) (hb : c.hist.length ≤ 1000) (hs : ∀ e ∈ c.hist, e.length ≤ 100000) : Con Tryz.prog 36 [sC (chkC c), sC (pshC p)] [] (sC (chkC (applyK c p))) [] := by
  refine con_intro [] [] Tryz.func36 rfl Tryz.ntmps36 Tryz.results36 rfl rfl ?_
  intro E
  have hfit : fitB c p = true ↔ _ := decide_eq_true_iff (p := c.vol = p.vol ∧ c.chunk = p.chunk ∧ c.count = p.count ∧ c.size = p.size ∧ p.frm ≤ c.mark)
  refine vc_rseq mixed ?_
  refine g_new (s_box 2 rfl rfl rfl rfl) rfl ?_
  refine g_new (s_box 3 rfl rfl rfl rfl) rfl ?_
  refine g_new (s_alloc 4 rfl rfl) rfl ?_
  refine g_nil ?_
  refine vc_seq ?_
  refine vc_cut (⟨[(2, .ref 2 0), (3, .ref 3 0), (4, .ref 4 0), (48, AB (decide (¬ (pushB p = true ∧ fitB c p = true))))], [(2, some (.box ((chkC c).map .t))), (3, some (.box ((pshC p).map .t))), (4, some (.box ((chkC chkZ).map .t)))], [2, 3, 4]⟩) ?_ ?_
  refine vc_region mixed ?_
  refine g_val (s_loadA rfl rfl rfl rfl rfl) rfl ?_
  refine g_val (s_call [] (c_mementoref13_PushRight p) (evArgs_cons rfl evArgs_nil) trivial rfl (okVL_nil _) rfl (.inl rfl) rfl) rfl ?_
  refine g_val (s_not rfl rfl) rfl ?_
  refine g_val (s_move rfl rfl) rfl ?_
  refine g_probe (j := 14) rfl (fun c hg14 => ?_)
  cases c
  rw [← hg14]; replace hg14 := hg14.symm
  simp only [Bool.not_eq_false'] at hg14
  refine gq_val (s_field rfl rfl rfl rfl) rfl rfl rfl rfl ?_
  refine gq_val (s_load rfl rfl rfl rfl) rfl rfl rfl rfl ?_
  refine gq_val (s_field rfl rfl rfl rfl) rfl rfl rfl rfl ?_
  refine gq_val (s_load rfl rfl rfl rfl) rfl rfl rfl rfl ?_
  refine gq_val (s_neq rfl rfl rfl) rfl rfl rfl rfl ?_
  refine g_val (s_pickF rfl rfl rfl) rfl ?_
  refine g_val (s_move rfl rfl) rfl ?_
  refine g_probe (j := 21) rfl (fun c hg21 => ?_)
  cases c
  rw [← hg21]; replace hg21 := hg21.symm; replace hg21 := of_decide_eq_false hg21
  simp only [ne_eq, Decidable.not_not] at hg21
  refine gq_val (s_field rfl rfl rfl rfl) rfl rfl rfl rfl ?_
  refine gq_val (s_load rfl rfl rfl rfl) rfl rfl rfl rfl ?_
  refine gq_val (s_field rfl rfl rfl rfl) rfl rfl rfl rfl ?_
  refine gq_val (s_load rfl rfl rfl rfl) rfl rfl rfl rfl ?_
  refine gq_val (s_neq rfl rfl rfl) rfl rfl rfl rfl ?_
  refine g_val (s_pickF rfl rfl rfl) rfl ?_
  refine g_val (s_move rfl rfl) rfl ?_
  refine g_probe (j := 28) rfl (fun c hg28 => ?_)
  cases c
  rw [← hg28]; replace hg28 := hg28.symm; replace hg28 := of_decide_eq_false hg28
  simp only [ne_eq, Decidable.not_not] at hg28
  refine gq_val (s_field rfl rfl rfl rfl) rfl rfl rfl rfl ?_
  refine gq_val (s_load rfl rfl rfl rfl) rfl rfl rfl rfl ?_
  refine gq_val (s_field rfl rfl rfl rfl) rfl rfl rfl rfl ?_
  refine gq_val (s_load rfl rfl rfl rfl) rfl rfl rfl rfl ?_
  refine gq_val (s_neq rfl rfl rfl) rfl rfl rfl rfl ?_
  refine g_val (s_pickF rfl rfl rfl) rfl ?_
  refine g_val (s_move rfl rfl) rfl ?_
  refine g_probe (j := 35) rfl (fun c hg35 => ?_)
  cases c
  rw [← hg35]; replace hg35 := hg35.symm; replace hg35 := of_decide_eq_false hg35
  simp only [ne_eq, Decidable.not_not] at hg35
  refine gq_val (s_field rfl rfl rfl rfl) rfl rfl rfl rfl ?_
  refine gq_val (s_load rfl rfl rfl rfl) rfl rfl rfl rfl ?_
  refine gq_val (s_field rfl rfl rfl rfl) rfl rfl rfl rfl ?_
  refine gq_val (s_load rfl rfl rfl rfl) rfl rfl rfl rfl ?_
  refine gq_val (s_neq rfl rfl rfl) rfl rfl rfl rfl ?_
  refine g_val (s_pickF rfl rfl rfl) rfl ?_
  refine g_val (s_move rfl rfl) rfl ?_
  refine g_probe (j := 42) rfl (fun c hg42 => ?_)
  cases c
  rw [← hg42]; replace hg42 := hg42.symm; replace hg42 := of_decide_eq_false hg42
  simp only [ne_eq, Decidable.not_not] at hg42
  refine gq_val (s_field rfl rfl rfl rfl) rfl rfl rfl rfl ?_
  refine gq_val (s_load rfl rfl rfl rfl) rfl rfl rfl rfl ?_
  refine gq_val (s_field rfl rfl rfl rfl) rfl rfl rfl rfl ?_
  refine gq_val (s_load rfl rfl rfl rfl) rfl rfl rfl rfl ?_
  refine gq_val (s_lss rfl rfl rfl) rfl rfl rfl rfl ?_
  refine g_val (s_pickF rfl rfl rfl) rfl ?_
  refine g_nil ?_
  exact (leE_same (by repeat (first | exact letm_nil _ _ | refine letm_cons rfl ?_ ?_ | exact .same _ | exact .nl (by decide) (by decide) | exact .nn | exact .id' rfl | exact .id' (by first | (exact AB_td (fun hh => by have := hfit.1 hh.2; have := hh.1; first | omega | simp_all)) | (exact AB_dd ⟨fun hh hx => by have := hfit.1 hx.2; omega, fun hn => Int.not_le.1 fun hle => hn ⟨by simp_all, hfit.2 ⟨by omega, by omega, by omega, by omega, by omega⟩⟩⟩)))) (by repeat (first | exact lehp_nil _ _ | refine lehp_cons rfl ?_ ?_ | exact leB_same _ | exact leB_row (by first | rfl | (first | (exact AB_td (fun hh => by have := hfit.1 hh.2; have := hh.1; first | omega | simp_all)) | (exact AB_dd ⟨fun hh hx => by have := hfit.1 hx.2; omega, fun hn => Int.not_le.1 fun hle => hn ⟨by simp_all, hfit.2 ⟨by omega, by omega, by omega, by omega, by omega⟩⟩⟩))) | exact leB_obj (by first | (exact AB_td (fun hh => by have := hfit.1 hh.2; have := hh.1; first | omega | simp_all)) | (exact AB_dd ⟨fun hh hx => by have := hfit.1 hx.2; omega, fun hn => Int.not_le.1 fun hle => hn ⟨by simp_all, hfit.2 ⟨by omega, by omega, by omega, by omega, by omega⟩⟩⟩)) | exact leB_nest (by first | rfl | (first | (exact AB_td (fun hh => by have := hfit.1 hh.2; have := hh.1; first | omega | simp_all)) | (exact AB_dd ⟨fun hh hx => by have := hfit.1 hx.2; omega, fun hn => Int.not_le.1 fun hle => hn ⟨by simp_all, hfit.2 ⟨by omega, by omega, by omega, by omega, by omega⟩⟩⟩))) | refine leB_box ?_ | exact leL_nil | refine leL_cons ?_ ?_ | exact .same _ | exact .nl (by decide) (by decide) | exact .nn | exact .id' rfl | exact .id' (by first | (exact AB_td (fun hh => by have := hfit.1 hh.2; have := hh.1; first | omega | simp_all)) | (exact AB_dd ⟨fun hh hx => by have := hfit.1 hx.2; omega, fun hn => Int.not_le.1 fun hle => hn ⟨by simp_all, hfit.2 ⟨by omega, by omega, by omega, by omega, by omega⟩⟩⟩)))) rfl)
  rw [← hg42]; replace hg42 := hg42.symm; replace hg42 := of_decide_eq_true hg42
  simp only [ne_eq] at hg42
  refine gn_val rfl rfl rfl rfl rfl rfl (by decide) ?_
  refine gn_val rfl rfl rfl rfl rfl rfl (by decide) ?_
  refine gn_val rfl rfl rfl rfl rfl rfl (by decide) ?_
  refine gn_val rfl rfl rfl rfl rfl rfl (by decide) ?_
  refine gn_val rfl rfl rfl rfl rfl rfl (by decide) ?_
  refine g_val (s_pickT rfl rfl rfl) rfl ?_
  refine g_nil ?_
  exact (leE_same (by repeat (first | exact letm_nil _ _ | refine letm_cons rfl ?_ ?_ | exact .same _ | exact .nl (by decide) (by decide) | exact .nn | exact .id' rfl | exact .id' (by first | (exact AB_td (fun hh => by have := hfit.1 hh.2; have := hh.1; first | omega | simp_all)) | (exact AB_dd ⟨fun hh hx => by have := hfit.1 hx.2; omega, fun hn => Int.not_le.1 fun hle => hn ⟨by simp_all, hfit.2 ⟨by omega, by omega, by omega, by omega, by omega⟩⟩⟩)))) (by repeat (first | exact lehp_nil _ _ | refine lehp_cons rfl ?_ ?_ | exact leB_same _ | exact leB_row (by first | rfl | (first | (exact AB_td (fun hh => by have := hfit.1 hh.2; have := hh.1; first | omega | simp_all)) | (exact AB_dd ⟨fun hh hx => by have := hfit.1 hx.2; omega, fun hn => Int.not_le.1 fun hle => hn ⟨by simp_all, hfit.2 ⟨by omega, by omega, by omega, by omega, by omega⟩⟩⟩))) | exact leB_obj (by first | (exact AB_td (fun hh => by have := hfit.1 hh.2; have := hh.1; first | omega | simp_all)) | (exact AB_dd ⟨fun hh hx => by have := hfit.1 hx.2; omega, fun hn => Int.not_le.1 fun hle => hn ⟨by simp_all, hfit.2 ⟨by omega, by omega, by omega, by omega, by omega⟩⟩⟩)) | exact leB_nest (by first | rfl | (first | (exact AB_td (fun hh => by have := hfit.1 hh.2; have := hh.1; first | omega | simp_all)) | (exact AB_dd ⟨fun hh hx => by have := hfit.1 hx.2; omega, fun hn => Int.not_le.1 fun hle => hn ⟨by simp_all, hfit.2 ⟨by omega, by omega, by omega, by omega, by omega⟩⟩⟩))) | refine leB_box ?_ | exact leL_nil | refine leL_cons ?_ ?_ | exact .same _ | exact .nl (by decide) (by decide) | exact .nn | exact .id' rfl | exact .id' (by first | (exact AB_td (fun hh => by have := hfit.1 hh.2; have := hh.1; first | omega | simp_all)) | (exact AB_dd ⟨fun hh hx => by have := hfit.1 hx.2; omega, fun hn => Int.not_le.1 fun hle => hn ⟨by simp_all, hfit.2 ⟨by omega, by omega, by omega, by omega, by omega⟩⟩⟩)))) rfl)
  rw [← hg35]; replace hg35 := hg35.symm; replace hg35 := of_decide_eq_true hg35
  simp only [ne_eq] at hg35
  refine gn_val rfl rfl rfl rfl rfl rfl (by decide) ?_
  refine gn_val rfl rfl rfl rfl rfl rfl (by decide) ?_
  refine gn_val rfl rfl rfl rfl rfl rfl (by decide) ?_
  refine gn_val rfl rfl rfl rfl rfl rfl (by decide) ?_
  refine gn_val rfl rfl rfl rfl rfl rfl (by decide) ?_
  refine g_val (s_pickT rfl rfl rfl) rfl ?_
  refine g_val (s_move rfl rfl) rfl ?_
  refine gn_val rfl rfl rfl rfl rfl rfl (by decide) ?_
  refine gn_val rfl rfl rfl rfl rfl rfl (by decide) ?_
  refine gn_val rfl rfl rfl rfl rfl rfl (by decide) ?_
  refine gn_val rfl rfl rfl rfl rfl rfl (by decide) ?_
  refine gn_val rfl rfl rfl rfl rfl rfl (by decide) ?_
  refine g_val (s_pickT rfl rfl rfl) rfl ?_
  refine g_nil ?_
  exact (leE_same (by repeat (first | exact letm_nil _ _ | refine letm_cons rfl ?_ ?_ | exact .same _ | exact .nl (by decide) (by decide) | exact .nn | exact .id' rfl | exact .id' (by first | (exact AB_td (fun hh => by have := hfit.1 hh.2; have := hh.1; first | omega | simp_all)) | (exact AB_dd ⟨fun hh hx => by have := hfit.1 hx.2; omega, fun hn => Int.not_le.1 fun hle => hn ⟨by simp_all, hfit.2 ⟨by omega, by omega, by omega, by omega, by omega⟩⟩⟩)))) (by repeat (first | exact lehp_nil _ _ | refine lehp_cons rfl ?_ ?_ | exact leB_same _ | exact leB_row (by first | rfl | (first | (exact AB_td (fun hh => by have := hfit.1 hh.2; have := hh.1; first | omega | simp_all)) | (exact AB_dd ⟨fun hh hx => by have := hfit.1 hx.2; omega, fun hn => Int.not_le.1 fun hle => hn ⟨by simp_all, hfit.2 ⟨by omega, by omega, by omega, by omega, by omega⟩⟩⟩))) | exact leB_obj (by first | (exact AB_td (fun hh => by have := hfit.1 hh.2; have := hh.1; first | omega | simp_all)) | (exact AB_dd ⟨fun hh hx => by have := hfit.1 hx.2; omega, fun hn => Int.not_le.1 fun hle => hn ⟨by simp_all, hfit.2 ⟨by omega, by omega, by omega, by omega, by omega⟩⟩⟩)) | exact leB_nest (by first | rfl | (first | (exact AB_td (fun hh => by have := hfit.1 hh.2; have := hh.1; first | omega | simp_all)) | (exact AB_dd ⟨fun hh hx => by have := hfit.1 hx.2; omega, fun hn => Int.not_le.1 fun hle => hn ⟨by simp_all, hfit.2 ⟨by omega, by omega, by omega, by omega, by omega⟩⟩⟩))) | refine leB_box ?_ | exact leL_nil | refine leL_cons ?_ ?_ | exact .same _ | exact .nl (by decide) (by decide) | exact .nn | exact .id' rfl | exact .id' (by first | (exact AB_td (fun hh => by have := hfit.1 hh.2; have := hh.1; first | omega | simp_all)) | (exact AB_dd ⟨fun hh hx => by have := hfit.1 hx.2; omega, fun hn => Int.not_le.1 fun hle => hn ⟨by simp_all, hfit.2 ⟨by omega, by omega, by omega, by omega, by omega⟩⟩⟩)))) rfl)
  rw [← hg28]; replace hg28 := hg28.symm; replace hg28 := of_decide_eq_true hg28
  simp only [ne_eq] at hg28
  refine gn_val rfl rfl rfl rfl rfl rfl (by decide) ?_
  refine gn_val rfl rfl rfl rfl rfl rfl (by decide) ?_
  refine gn_val rfl rfl rfl rfl rfl rfl (by decide) ?_
  refine gn_val rfl rfl rfl rfl rfl rfl (by decide) ?_
  refine gn_val rfl rfl rfl rfl rfl rfl (by decide) ?_
  refine g_val (s_pickT rfl rfl rfl) rfl ?_
  refine g_val (s_move rfl rfl) rfl ?_
  refine gn_val rfl rfl rfl rfl rfl rfl (by decide) ?_
  refine gn_val rfl rfl rfl rfl rfl rfl (by decide) ?_
  refine gn_val rfl rfl rfl rfl rfl rfl (by decide) ?_
  refine gn_val rfl rfl rfl rfl rfl rfl (by decide) ?_
  refine gn_val rfl rfl rfl rfl rfl rfl (by decide) ?_
  refine g_val (s_pickT rfl rfl rfl) rfl ?_
  refine g_val (s_move rfl rfl) rfl ?_
  refine gn_val rfl rfl rfl rfl rfl rfl (by decide) ?_
  refine gn_val rfl rfl rfl rfl rfl rfl (by decide) ?_
  refine gn_val rfl rfl rfl rfl rfl rfl (by decide) ?_
  refine gn_val rfl rfl rfl rfl rfl rfl (by decide) ?_
  refine gn_val rfl rfl rfl rfl rfl rfl (by decide) ?_
  refine g_val (s_pickT rfl rfl rfl) rfl ?_
  refine g_nil ?_
  exact (leE_same (by repeat (first | exact letm_nil _ _ | refine letm_cons rfl ?_ ?_ | exact .same _ | exact .nl (by decide) (by decide) | exact .nn | exact .id' rfl | exact .id' (by first | (exact AB_td (fun hh => by have := hfit.1 hh.2; have := hh.1; first | omega | simp_all)) | (exact AB_dd ⟨fun hh hx => by have := hfit.1 hx.2; omega, fun hn => Int.not_le.1 fun hle => hn ⟨by simp_all, hfit.2 ⟨by omega, by omega, by omega, by omega, by omega⟩⟩⟩)))) (by repeat (first | exact lehp_nil _ _ | refine lehp_cons rfl ?_ ?_ | exact leB_same _ | exact leB_row (by first | rfl | (first | (exact AB_td (fun hh => by have := hfit.1 hh.2; have := hh.1; first | omega | simp_all)) | (exact AB_dd ⟨fun hh hx => by have := hfit.1 hx.2; omega, fun hn => Int.not_le.1 fun hle => hn ⟨by simp_all, hfit.2 ⟨by omega, by omega, by omega, by omega, by omega⟩⟩⟩))) | exact leB_obj (by first | (exact AB_td (fun hh => by have := hfit.1 hh.2; have := hh.1; first | omega | simp_all)) | (exact AB_dd ⟨fun hh hx => by have := hfit.1 hx.2; omega, fun hn => Int.not_le.1 fun hle => hn ⟨by simp_all, hfit.2 ⟨by omega, by omega, by omega, by omega, by omega⟩⟩⟩)) | exact leB_nest (by first | rfl | (first | (exact AB_td (fun hh => by have := hfit.1 hh.2; have := hh.1; first | omega | simp_all)) | (exact AB_dd ⟨fun hh hx => by have := hfit.1 hx.2; omega, fun hn => Int.not_le.1 fun hle => hn ⟨by simp_all, hfit.2 ⟨by omega, by omega, by omega, by omega, by omega⟩⟩⟩))) | refine leB_box ?_ | exact leL_nil | refine leL_cons ?_ ?_ | exact .same _ | exact .nl (by decide) (by decide) | exact .nn | exact .id' rfl | exact .id' (by first | (exact AB_td (fun hh => by have := hfit.1 hh.2; have := hh.1; first | omega | simp_all)) | (exact AB_dd ⟨fun hh hx => by have := hfit.1 hx.2; omega, fun hn => Int.not_le.1 fun hle => hn ⟨by simp_all, hfit.2 ⟨by omega, by omega, by omega, by omega, by omega⟩⟩⟩)))) rfl)
  rw [← hg21]; replace hg21 := hg21.symm; replace hg21 := of_decide_eq_true hg21
  simp only [ne_eq] at hg21
  refine gn_val rfl rfl rfl rfl rfl rfl (by decide) ?_
  refine gn_val rfl rfl rfl rfl rfl rfl (by decide) ?_
  refine gn_val rfl rfl rfl rfl rfl rfl (by decide) ?_
  refine gn_val rfl rfl rfl rfl rfl rfl (by decide) ?_
  refine gn_val rfl rfl rfl rfl rfl rfl (by decide) ?_
  refine g_val (s_pickT rfl rfl rfl) rfl ?_
  refine g_val (s_move rfl rfl) rfl ?_
  refine gn_val rfl rfl rfl rfl rfl rfl (by decide) ?_
  refine gn_val rfl rfl rfl rfl rfl rfl (by decide) ?_
  refine gn_val rfl rfl rfl rfl rfl rfl (by decide) ?_
  refine gn_val rfl rfl rfl rfl rfl rfl (by decide) ?_
  refine gn_val rfl rfl rfl rfl rfl rfl (by decide) ?_
  refine g_val (s_pickT rfl rfl rfl) rfl ?_
  refine g_val (s_move rfl rfl) rfl ?_
  refine gn_val rfl rfl rfl rfl rfl rfl (by decide) ?_
  refine gn_val rfl rfl rfl rfl rfl rfl (by decide) ?_
  refine gn_val rfl rfl rfl rfl rfl rfl (by decide) ?_
  refine gn_val rfl rfl rfl rfl rfl rfl (by decide) ?_
  refine gn_val rfl rfl rfl rfl rfl rfl (by decide) ?_
  refine g_val (s_pickT rfl rfl rfl) rfl ?_
  refine g_val (s_move rfl rfl) rfl ?_
  refine gn_val rfl rfl rfl rfl rfl rfl (by decide) ?_
  refine gn_val rfl rfl rfl rfl rfl rfl (by decide) ?_
  refine gn_val rfl rfl rfl rfl rfl rfl (by decide) ?_
  refine gn_val rfl rfl rfl rfl rfl rfl (by decide) ?_
  refine gn_val rfl rfl rfl rfl rfl rfl (by decide) ?_
  refine g_val (s_pickT rfl rfl rfl) rfl ?_
  refine g_nil ?_
  exact (leE_same (by repeat (first | exact letm_nil _ _ | refine letm_cons rfl ?_ ?_ | exact .same _ | exact .nl (by decide) (by decide) | exact .nn | exact .id' rfl | exact .id' (by first | (exact AB_td (fun hh => by have := hfit.1 hh.2; have := hh.1; first | omega | simp_all)) | (exact AB_dd ⟨fun hh hx => by have := hfit.1 hx.2; omega, fun hn => Int.not_le.1 fun hle => hn ⟨by simp_all, hfit.2 ⟨by omega, by omega, by omega, by omega, by omega⟩⟩⟩)))) (by repeat (first | exact lehp_nil _ _ | refine lehp_cons rfl ?_ ?_ | exact leB_same _ | exact leB_row (by first | rfl | (first | (exact AB_td (fun hh => by have := hfit.1 hh.2; have := hh.1; first | omega | simp_all)) | (exact AB_dd ⟨fun hh hx => by have := hfit.1 hx.2; omega, fun hn => Int.not_le.1 fun hle => hn ⟨by simp_all, hfit.2 ⟨by omega, by omega, by omega, by omega, by omega⟩⟩⟩))) | exact leB_obj (by first | (exact AB_td (fun hh => by have := hfit.1 hh.2; have := hh.1; first | omega | simp_all)) | (exact AB_dd ⟨fun hh hx => by have := hfit.1 hx.2; omega, fun hn => Int.not_le.1 fun hle => hn ⟨by simp_all, hfit.2 ⟨by omega, by omega, by omega, by omega, by omega⟩⟩⟩)) | exact leB_nest (by first | rfl | (first | (exact AB_td (fun hh => by have := hfit.1 hh.2; have := hh.1; first | omega | simp_all)) | (exact AB_dd ⟨fun hh hx => by have := hfit.1 hx.2; omega, fun hn => Int.not_le.1 fun hle => hn ⟨by simp_all, hfit.2 ⟨by omega, by omega, by omega, by omega, by omega⟩⟩⟩))) | refine leB_box ?_ | exact leL_nil | refine leL_cons ?_ ?_ | exact .same _ | exact .nl (by decide) (by decide) | exact .nn | exact .id' rfl | exact .id' (by first | (exact AB_td (fun hh => by have := hfit.1 hh.2; have := hh.1; first | omega | simp_all)) | (exact AB_dd ⟨fun hh hx => by have := hfit.1 hx.2; omega, fun hn => Int.not_le.1 fun hle => hn ⟨by simp_all, hfit.2 ⟨by omega, by omega, by omega, by omega, by omega⟩⟩⟩)))) rfl)
  rw [← hg14]; replace hg14 := hg14.symm
  simp only [Bool.not_eq_true'] at hg14
  refine gn_val rfl rfl rfl rfl rfl rfl (by decide) ?_
  refine gn_val rfl rfl rfl rfl rfl rfl (by decide) ?_
  refine gn_val rfl rfl rfl rfl rfl rfl (by decide) ?_
  refine gn_val rfl rfl rfl rfl rfl rfl (by decide) ?_
  refine gn_val rfl rfl rfl rfl rfl rfl (by decide) ?_
  refine g_val (s_pickT rfl rfl rfl) rfl ?_
  refine g_val (s_move rfl rfl) rfl ?_
  refine gn_val rfl rfl rfl rfl rfl rfl (by decide) ?_
  refine gn_val rfl rfl rfl rfl rfl rfl (by decide) ?_
  refine gn_val rfl rfl rfl rfl rfl rfl (by decide) ?_
  refine gn_val rfl rfl rfl rfl rfl rfl (by decide) ?_
  refine gn_val rfl rfl rfl rfl rfl rfl (by decide) ?_
  refine g_val (s_pickT rfl rfl rfl) rfl ?_
  refine g_val (s_move rfl rfl) rfl ?_
  refine gn_val rfl rfl rfl rfl rfl rfl (by decide) ?_
  refine gn_val rfl rfl rfl rfl rfl rfl (by decide) ?_
  refine gn_val rfl rfl rfl rfl rfl rfl (by decide) ?_
  refine gn_val rfl rfl rfl rfl rfl rfl (by decide) ?_
  refine gn_val rfl rfl rfl rfl rfl rfl (by decide) ?_
  refine g_val (s_pickT rfl rfl rfl) rfl ?_
  refine g_val (s_move rfl rfl) rfl ?_
  refine gn_val rfl rfl rfl rfl rfl rfl (by decide) ?_
  refine gn_val rfl rfl rfl rfl rfl rfl (by decide) ?_
  refine gn_val rfl rfl rfl rfl rfl rfl (by decide) ?_
  refine gn_val rfl rfl rfl rfl rfl rfl (by decide) ?_
  refine gn_val rfl rfl rfl rfl rfl rfl (by decide) ?_
  refine g_val (s_pickT rfl rfl rfl) rfl ?_
  refine g_val (s_move rfl rfl) rfl ?_
  refine gn_val rfl rfl rfl rfl rfl rfl (by decide) ?_
  refine gn_val rfl rfl rfl rfl rfl rfl (by decide) ?_
  refine gn_val rfl rfl rfl rfl rfl rfl (by decide) ?_
  refine gn_val rfl rfl rfl rfl rfl rfl (by decide) ?_
  refine gn_val rfl rfl rfl rfl rfl rfl (by decide) ?_
  refine g_val (s_pickT rfl rfl rfl) rfl ?_
  refine g_nil ?_
  exact (leE_same (by repeat (first | exact letm_nil _ _ | refine letm_cons rfl ?_ ?_ | exact .same _ | exact .nl (by decide) (by decide) | exact .nn | exact .id' rfl | exact .id' (by first | (exact AB_td (fun hh => by have := hfit.1 hh.2; have := hh.1; first | omega | simp_all)) | (exact AB_dd ⟨fun hh hx => by have := hfit.1 hx.2; omega, fun hn => Int.not_le.1 fun hle => hn ⟨by simp_all, hfit.2 ⟨by omega, by omega, by omega, by omega, by omega⟩⟩⟩)))) (by repeat (first | exact lehp_nil _ _ | refine lehp_cons rfl ?_ ?_ | exact leB_same _ | exact leB_row (by first | rfl | (first | (exact AB_td (fun hh => by have := hfit.1 hh.2; have := hh.1; first | omega | simp_all)) | (exact AB_dd ⟨fun hh hx => by have := hfit.1 hx.2; omega, fun hn => Int.not_le.1 fun hle => hn ⟨by simp_all, hfit.2 ⟨by omega, by omega, by omega, by omega, by omega⟩⟩⟩))) | exact leB_obj (by first | (exact AB_td (fun hh => by have := hfit.1 hh.2; have := hh.1; first | omega | simp_all)) | (exact AB_dd ⟨fun hh hx => by have := hfit.1 hx.2; omega, fun hn => Int.not_le.1 fun hle => hn ⟨by simp_all, hfit.2 ⟨by omega, by omega, by omega, by omega, by omega⟩⟩⟩)) | exact leB_nest (by first | rfl | (first | (exact AB_td (fun hh => by have := hfit.1 hh.2; have := hh.1; first | omega | simp_all)) | (exact AB_dd ⟨fun hh hx => by have := hfit.1 hx.2; omega, fun hn => Int.not_le.1 fun hle => hn ⟨by simp_all, hfit.2 ⟨by omega, by omega, by omega, by omega, by omega⟩⟩⟩))) | refine leB_box ?_ | exact leL_nil | refine leL_cons ?_ ?_ | exact .same _ | exact .nl (by decide) (by decide) | exact .nn | exact .id' rfl | exact .id' (by first | (exact AB_td (fun hh => by have := hfit.1 hh.2; have := hh.1; first | omega | simp_all)) | (exact AB_dd ⟨fun hh hx => by have := hfit.1 hx.2; omega, fun hn => Int.not_le.1 fun hle => hn ⟨by simp_all, hfit.2 ⟨by omega, by omega, by omega, by omega, by omega⟩⟩⟩)))) rfl)
  refine vc_cond rfl (fun hc48 => ?_) (fun hc48 => ?_)
  replace hc48 := of_decide_eq_true hc48
  rw [show applyK c p = c from if_neg (by simpa using hc48)]
  refine vc_rseq mixed ?_
  refine g_val (s_loadA rfl rfl rfl rfl rfl) rfl ?_
  refine g_sto (s_store rfl rfl rfl rfl rfl rfl) rfl ?_
  refine g_nil ?_
  exact vc_ret (ret_le [] _ (.cons (.agg rfl rfl rfl rfl) .nil) trivial (by repeat (first | exact leL_nil | refine leL_cons ?_ ?_ | exact LeV.tt rfl | exact .nl (by decide) (by decide) | exact .nn | refine LeV.tupL ?_ | refine LeV.aggL ?_ | exact .eq (by first | exact trivial | (simp [AV.okV, okR, lkB]; done) | (simp [AV.okV, okR, lkB]; omega)) (by first | rfl | (simp [AV.view, viewR, lkB, AV.ren, List.take_of_length_le]; done) | (simp [AV.view, viewR, lkB, AV.ren, List.take_of_length_le]; done)))) rfl)
  replace hc48 := of_decide_eq_false hc48
  simp only [Decidable.not_not] at hc48
  refine vc_skip ?_
  have hok : pushB p = true ∧ fitB c p = true := by simpa using hc48
  rw [show applyK c p = ⟨c.vol, c.chunk, c.count, c.size, max c.mark p.to, max c.floor p.floor, (applyW c.mark c.hist p.writes).map fun l => pruV l (max c.floor p.floor)⟩ from if_pos hok]
  obtain ⟨hhd, hwr⟩ := (pushB_iff p).1 hok.1
  obtain ⟨f1, f2, f3, f4, f5⟩ := hfit.1 hok.2
  have hw4 := hhd.2.2.2.2.2.2
  have hit := fun w hw => wrsOK_all hwr w hw
  refine vc_rseq mixed ?_
  refine g_val (s_field rfl rfl rfl rfl) rfl ?_
  refine g_val (s_load rfl rfl rfl rfl) rfl ?_
  refine g_new (s_appendN 52 rfl rfl rfl rfl (by rw [List.length_map]; omega)) rfl ?_
  refine g_val (s_assign rfl rfl) rfl ?_
  refine g_nil ?_
  refine vc_seq ?_
  refine vc_rseq mixed ?_
  refine g_val (s_assign rfl rfl) rfl ?_
  refine g_nil ?_
  refine vc_block ?_
  refine vc_up p.writes.length (fun i => ⟨[(2, .ref 2 0), (3, .ref 3 0), (4, .ref 4 0), (5, .rows 52 1 0 c.hist.length), (6, AI .i64 i)], [(2, some (.box ((chkC c).map .t))), (3, some (.box ((pshC p).map .t))), (4, some (.box ((chkC chkZ).map .t))), (52, some (.row 1 24 ((applyW c.mark c.hist (p.writes.take i)).map verC1)))], [2, 3, 4, 52]⟩) (fun i => True) (leE_same (by repeat (first | exact letm_nil _ _ | refine letm_cons rfl ?_ ?_ | exact .same _ | exact .nl (by decide) (by decide) | exact .nn | exact .id' rfl | exact .id' (by first | (simp; done) | (simp [applyW, verC1]; done)))) (by repeat (first | exact lehp_nil _ _ | refine lehp_cons rfl ?_ ?_ | exact leB_same _ | exact leB_row (by first | rfl | (first | (simp; done) | (simp [applyW, verC1]; done))) | exact leB_obj (by first | (simp; done) | (simp [applyW, verC1]; done)) | exact leB_nest (by first | rfl | (first | (simp; done) | (simp [applyW, verC1]; done))) | refine leB_box ?_ | exact leL_nil | refine leL_cons ?_ ?_ | exact .same _ | exact .nl (by decide) (by decide) | exact .nn | exact .id' rfl | exact .id' (by first | (simp; done) | (simp [applyW, verC1]; done)))) rfl) trivial (fun i hi _ => ?_)
  refine vc_seq ?_
  refine vc_rseq mixed ?_
  refine g_val (s_move rfl rfl) rfl ?_
  refine g_val (s_field rfl rfl rfl rfl) rfl ?_
  refine g_val (s_load rfl rfl rfl rfl) rfl ?_
  refine g_val (s_len rfl rfl) rfl ?_
  refine g_val (s_lss rfl rfl rfl) rfl ?_
  refine g_nil ?_
  refine vc_cond rfl (fun hc57 => ?_) (fun hc57 => ?_)
  replace hc57 := of_decide_eq_true hc57
  simp only [List.length_map] at hc57
  obtain ⟨w, hw⟩ := get_of_lt (l := p.writes) (i := i) (by omega)
  obtain ⟨i1, i2, i3, i4⟩ := hit w (List.mem_of_getElem? hw)
  have hHl := applyW_len c.mark (p.writes.take i) c.hist
  have hHs := applyW_le (m := c.mark) (ws := p.writes.take i) (h := c.hist) (B := 100000) (fun w hw => (hit w (List.mem_of_mem_take hw)).2.1) hs
  have htl : (p.writes.take i).length ≤ 4 := by simp; omega
  generalize hH : applyW c.mark c.hist (p.writes.take i) = H at *
  refine vc_skip ?_
  refine vc_seq ?_
  refine vc_block ?_
  refine vc_rseq mixed ?_
  refine g_val (s_field rfl rfl rfl rfl) rfl ?_
  refine g_val (s_load rfl rfl rfl rfl) rfl ?_
  refine g_val (s_move rfl rfl) rfl ?_
  refine g_val (s_index rfl rfl rfl (by omega) (idx_map hw)) rfl ?_
  refine g_val (s_loadTA rfl rfl rfl) rfl ?_
  refine g_new (s_alloc 7 rfl rfl) rfl ?_
  refine g_sto (s_store rfl rfl rfl rfl rfl rfl) rfl ?_
  refine g_nil ?_
  refine vc_rseq mixed ?_
  refine g_val (s_assign rfl rfl) rfl ?_
  refine g_nil ?_
  refine vc_block ?_
  refine vc_while (α := Nat) (fun k => ⟨[(2, .ref 2 0), (3, .ref 3 0), (4, .ref 4 0), (5, .rows 52 1 0 c.hist.length), (6, AI .i64 i), (7, .ref 7 0), (8, AI .i64 k)], [(2, some (.box ((chkC c).map .t))), (3, some (.box ((pshC p).map .t))), (4, some (.box ((chkC chkZ).map .t))), (7, some (.box ((writeC w).map .t))), (52, some (.row 1 24 ((applyI w.seq H (w.items.take k)).map verC1)))], [2, 3, 4, 7, 52]⟩) (fun k => k ≤ w.items.length ∧ (c.mark < w.seq ∨ k = 0)) (fun k => w.items.length - k) 0 (leE_same (by repeat (first | exact letm_nil _ _ | refine letm_cons rfl ?_ ?_ | exact .same _ | exact .nl (by decide) (by decide) | exact .nn | exact .id' rfl | exact .id' (by first | (simp [applyI]; done)))) (by repeat (first | exact lehp_nil _ _ | refine lehp_cons rfl ?_ ?_ | exact leB_same _ | exact leB_row (by first | rfl | (first | (simp [applyI]; done))) | exact leB_obj (by first | (simp [applyI]; done)) | exact leB_nest (by first | rfl | (first | (simp [applyI]; done))) | refine leB_box ?_ | exact leL_nil | refine leL_cons ?_ ?_ | exact .same _ | exact .nl (by decide) (by decide) | exact .nn | exact .id' rfl | exact .id' (by first | (simp [applyI]; done)))) rfl) ⟨Nat.zero_le _, .inr rfl⟩ (fun k ⟨hk1, hk2⟩ => ?_)
  refine vc_seq ?_
  refine vc_rseq mixed ?_
  refine g_val (s_move rfl rfl) rfl ?_
  refine g_val (s_field rfl rfl rfl rfl) rfl ?_
  refine g_val (s_load rfl rfl rfl rfl) rfl ?_
  refine g_val (s_len rfl rfl) rfl ?_
  refine g_val (s_lss rfl rfl rfl) rfl ?_
  refine g_val (s_move rfl rfl) rfl ?_
  refine g_probe (j := 70) rfl (fun c hg70 => ?_)
  cases c
  rw [← hg70]; replace hg70 := hg70.symm; replace hg70 := of_decide_eq_false hg70
  simp only [List.length_map, Int.not_lt] at hg70
  refine gn_val rfl rfl rfl rfl rfl rfl (by decide) ?_
  refine gn_val rfl rfl rfl rfl rfl rfl (by decide) ?_
  refine gn_val rfl rfl rfl rfl rfl rfl (by decide) ?_
  refine gn_val rfl rfl rfl rfl rfl rfl (by decide) ?_
  refine gn_val rfl rfl rfl rfl rfl rfl (by decide) ?_
  refine g_val (s_pickF rfl rfl rfl) rfl ?_
  refine g_nil ?_
  refine vc_cond rfl (fun h => by cases h) (fun _ => ?_)
  refine vc_exit ?_
  refine vc_region mixed ?_
  refine g_val (s_move rfl rfl) rfl ?_
  refine g_val (s_add rfl rfl rfl (by simp only [inI, kMin, kMax]; omega)) rfl ?_
  refine g_val (s_assign rfl rfl) rfl ?_
  refine g_nil ?_
  exact ⟨by omega, trivial, (leE_same (by repeat (first | exact letm_nil _ _ | refine letm_cons rfl ?_ ?_ | exact .same _ | exact .nl (by decide) (by decide) | exact .nn | exact .id' rfl | exact .id' (by first | (rw [take_snoc hw, applyW_snoc, hH, if_pos (by omega), List.take_of_length_le (l := w.items) (by omega)]; done) | (rw [take_snoc hw, applyW_snoc, hH, if_neg (by omega), show k = 0 by omega]; rfl)))) (by repeat (first | exact lehp_nil _ _ | refine lehp_cons rfl ?_ ?_ | exact leB_same _ | exact leB_row (by first | rfl | (first | (rw [take_snoc hw, applyW_snoc, hH, if_pos (by omega), List.take_of_length_le (l := w.items) (by omega)]; done) | (rw [take_snoc hw, applyW_snoc, hH, if_neg (by omega), show k = 0 by omega]; rfl))) | exact leB_obj (by first | (rw [take_snoc hw, applyW_snoc, hH, if_pos (by omega), List.take_of_length_le (l := w.items) (by omega)]; done) | (rw [take_snoc hw, applyW_snoc, hH, if_neg (by omega), show k = 0 by omega]; rfl)) | exact leB_nest (by first | rfl | (first | (rw [take_snoc hw, applyW_snoc, hH, if_pos (by omega), List.take_of_length_le (l := w.items) (by omega)]; done) | (rw [take_snoc hw, applyW_snoc, hH, if_neg (by omega), show k = 0 by omega]; rfl))) | refine leB_box ?_ | exact leL_nil | refine leL_cons ?_ ?_ | exact .same _ | exact .nl (by decide) (by decide) | exact .nn | exact .id' rfl | exact .id' (by first | (rw [take_snoc hw, applyW_snoc, hH, if_pos (by omega), List.take_of_length_le (l := w.items) (by omega)]; done) | (rw [take_snoc hw, applyW_snoc, hH, if_neg (by omega), show k = 0 by omega]; rfl)))) rfl)⟩
  rw [← hg70]; replace hg70 := hg70.symm; replace hg70 := of_decide_eq_true hg70
  simp only [List.length_map] at hg70
  refine gq_val (s_field rfl rfl rfl rfl) rfl rfl rfl rfl ?_
  refine gq_val (s_load rfl rfl rfl rfl) rfl rfl rfl rfl ?_
  refine gq_val (s_field rfl rfl rfl rfl) rfl rfl rfl rfl ?_
  refine gq_val (s_load rfl rfl rfl rfl) rfl rfl rfl rfl ?_
  refine gq_val (s_gtr rfl rfl rfl) rfl rfl rfl rfl ?_
  refine g_val (s_pickT rfl rfl rfl) rfl ?_
  refine g_nil ?_
  refine vc_cond rfl (fun hc76 => ?_) (fun hc76 => ?_)
  replace hc76 := of_decide_eq_true hc76
  obtain ⟨x, hx⟩ := get_of_lt (l := w.items) (i := k) (by omega)
  obtain ⟨x1, x2, x3⟩ := i3 x (List.mem_of_getElem? hx)
  have hIl := applyI_len w.seq (w.items.take k) H
  have hIs := applyI_le (s := w.seq) (l := w.items.take k) hHs
  have htk : (w.items.take k).length ≤ 8 := by simp; omega
  generalize hI : applyI w.seq H (w.items.take k) = I at *
  obtain ⟨e, he⟩ := get_of_lt (l := I) (i := x.block.toNat) (by omega)
  have hes := hIs e (List.mem_of_getElem? he)
  refine vc_skip ?_
  refine vc_seq ?_
  refine vc_block ?_
  refine vc_rseq mixed ?_
  refine g_val (s_field rfl rfl rfl rfl) rfl ?_
  refine g_val (s_load rfl rfl rfl rfl) rfl ?_
  refine g_val (s_move rfl rfl) rfl ?_
  refine g_val (s_index rfl rfl rfl (by omega) (idx_map hx)) rfl ?_
  refine g_val (s_fieldT rfl rfl rfl rfl rfl) rfl ?_
  refine g_val (s_loadT rfl rfl rfl) rfl ?_
  refine g_val (s_assign rfl rfl) rfl ?_
  refine g_nil ?_
  refine vc_region mixed ?_
  refine d_val (s_move rfl rfl) rfl ?_
  refine d_val (s_move rfl rfl) rfl ?_
  refine d_val (s_move rfl rfl) rfl ?_
  refine d_val (s_move rfl rfl) rfl ?_
  refine d_val (s_indexR rfl rfl rfl (by omega) (by omega)) rfl ?_
  refine d_val (s_loadR rfl rfl (show _ = some (verC1 e) from by rw [Nat.zero_add, List.getElem?_map, he]; rfl) rfl rfl) rfl ?_
  refine d_val (s_field rfl rfl rfl rfl) rfl ?_
  refine d_val (s_load rfl rfl rfl rfl) rfl ?_
  refine d_val (s_field rfl rfl rfl rfl) rfl ?_
  refine d_val (s_load rfl rfl rfl rfl) rfl ?_
  refine d_val (s_move rfl rfl) rfl ?_
  refine d_val (s_index rfl rfl rfl (by omega) (idx_map hx)) rfl ?_
  refine d_val (s_fieldT rfl rfl rfl rfl rfl) rfl ?_
  refine d_val (s_loadT rfl rfl rfl) rfl ?_
  refine d_val (s_call [] (c_mementoref13_Add e w.seq x.data (by omega)) (evArgs_cons rfl (evArgs_cons rfl (evArgs_cons rfl evArgs_nil))) trivial rfl (okVL_nil _) rfl (.inl rfl) rfl) rfl ?_
  refine d_val (s_indexR rfl rfl rfl (by omega) (by omega)) rfl ?_
  refine d_sto (s_storeR rfl rfl rfl rfl rfl (show _ = some (verC1 e) from by rw [Nat.zero_add, List.getElem?_map, he]; rfl) rfl) rfl ?_
  refine d_nil rfl ?_
  refine vc_region mixed ?_
  refine g_val (s_move rfl rfl) rfl ?_
  refine g_val (s_add rfl rfl rfl (by simp only [inI, kMin, kMax]; omega)) rfl ?_
  refine g_val (s_assign rfl rfl) rfl ?_
  refine g_nil ?_
  exact ⟨k + 1, ⟨by omega, .inl (by omega)⟩, by omega, (leE_same (by repeat (first | exact letm_nil _ _ | refine letm_cons rfl ?_ ?_ | exact .same _ | exact .nl (by decide) (by decide) | exact .nn | exact .id' rfl | exact .id' (by rw [Nat.zero_add, take_snoc hx, applyI_snoc, hI]; exact map_modify_set (f := fun e => addV e w.seq x.data) he))) (by repeat (first | exact lehp_nil _ _ | refine lehp_cons rfl ?_ ?_ | exact leB_same _ | exact leB_row (by first | rfl | (rw [Nat.zero_add, take_snoc hx, applyI_snoc, hI]; exact map_modify_set (f := fun e => addV e w.seq x.data) he)) | exact leB_obj (by rw [Nat.zero_add, take_snoc hx, applyI_snoc, hI]; exact map_modify_set (f := fun e => addV e w.seq x.data) he) | exact leB_nest (by first | rfl | (rw [Nat.zero_add, take_snoc hx, applyI_snoc, hI]; exact map_modify_set (f := fun e => addV e w.seq x.data) he)) | refine leB_box ?_ | exact leL_nil | refine leL_cons ?_ ?_ | exact .same _ | exact .nl (by decide) (by decide) | exact .nn | exact .id' rfl | exact .id' (by rw [Nat.zero_add, take_snoc hx, applyI_snoc, hI]; exact map_modify_set (f := fun e => addV e w.seq x.data) he))) rfl)⟩
  replace hc76 := of_decide_eq_false hc76
  simp only [Int.not_lt] at hc76
  refine vc_exit ?_
  refine vc_region mixed ?_
  refine g_val (s_move rfl rfl) rfl ?_
  refine g_val (s_add rfl rfl rfl (by simp only [inI, kMin, kMax]; omega)) rfl ?_
  refine g_val (s_assign rfl rfl) rfl ?_
  refine g_nil ?_
  exact ⟨by omega, trivial, (leE_same (by repeat (first | exact letm_nil _ _ | refine letm_cons rfl ?_ ?_ | exact .same _ | exact .nl (by decide) (by decide) | exact .nn | exact .id' rfl | exact .id' (by first | (rw [take_snoc hw, applyW_snoc, hH, if_pos (by omega), List.take_of_length_le (l := w.items) (by omega)]; done) | (rw [take_snoc hw, applyW_snoc, hH, if_neg (by omega), show k = 0 by omega]; rfl)))) (by repeat (first | exact lehp_nil _ _ | refine lehp_cons rfl ?_ ?_ | exact leB_same _ | exact leB_row (by first | rfl | (first | (rw [take_snoc hw, applyW_snoc, hH, if_pos (by omega), List.take_of_length_le (l := w.items) (by omega)]; done) | (rw [take_snoc hw, applyW_snoc, hH, if_neg (by omega), show k = 0 by omega]; rfl))) | exact leB_obj (by first | (rw [take_snoc hw, applyW_snoc, hH, if_pos (by omega), List.take_of_length_le (l := w.items) (by omega)]; done) | (rw [take_snoc hw, applyW_snoc, hH, if_neg (by omega), show k = 0 by omega]; rfl)) | exact leB_nest (by first | rfl | (first | (rw [take_snoc hw, applyW_snoc, hH, if_pos (by omega), List.take_of_length_le (l := w.items) (by omega)]; done) | (rw [take_snoc hw, applyW_snoc, hH, if_neg (by omega), show k = 0 by omega]; rfl))) | refine leB_box ?_ | exact leL_nil | refine leL_cons ?_ ?_ | exact .same _ | exact .nl (by decide) (by decide) | exact .nn | exact .id' rfl | exact .id' (by first | (rw [take_snoc hw, applyW_snoc, hH, if_pos (by omega), List.take_of_length_le (l := w.items) (by omega)]; done) | (rw [take_snoc hw, applyW_snoc, hH, if_neg (by omega), show k = 0 by omega]; rfl)))) rfl)⟩
  replace hc57 := of_decide_eq_false hc57
  simp only [List.length_map, Int.not_lt] at hc57
  refine vc_exit ?_
  obtain rfl : i = p.writes.length := by omega
  rw [List.take_length]
  have hHl := applyW_len c.mark p.writes c.hist
  have hHs := applyW_le (m := c.mark) (ws := p.writes) (h := c.hist) (B := 100000) (fun w hw => (hit w hw).2.1) hs
  generalize hH : applyW c.mark c.hist p.writes = H at *
  generalize hfl : max c.floor p.floor = fl at *
  refine vc_rseq mixed ?_
  refine d_val (s_field rfl rfl rfl rfl) rfl ?_
  refine d_val (s_load rfl rfl rfl rfl) rfl ?_
  refine d_val (s_field rfl rfl rfl rfl) rfl ?_
  refine d_val (s_load rfl rfl rfl rfl) rfl ?_
  refine d_val (s_max rfl rfl rfl) rfl ?_
  refine d_val (s_field rfl rfl rfl rfl) rfl ?_
  refine d_val (s_load rfl rfl rfl rfl) rfl ?_
  refine d_val (s_field rfl rfl rfl rfl) rfl ?_
  refine d_val (s_load rfl rfl rfl rfl) rfl ?_
  refine d_val (s_max rfl rfl rfl) rfl ?_
  refine d_val (s_field rfl rfl rfl rfl) rfl ?_
  refine d_sto (s_store rfl rfl rfl rfl rfl rfl) rfl ?_
  refine d_val (s_field rfl rfl rfl rfl) rfl ?_
  refine d_sto (s_store rfl rfl rfl rfl rfl rfl) rfl ?_
  refine d_nil rfl ?_
  refine vc_seq ?_
  refine vc_rseq mixed ?_
  refine g_val (s_assign rfl rfl) rfl ?_
  refine g_nil ?_
  refine vc_block ?_
  refine vc_up H.length (fun i => ⟨[(2, .ref 2 0), (3, .ref 3 0), (4, .ref 4 0), (5, .rows 52 1 0 c.hist.length), (10, AI .i64 i)], [(2, some (.box [.t (i64 c.vol), .t (i64 c.chunk), .t (i64 c.count), .t (i64 c.size), AI .i64 (max c.mark p.to), AI .i64 fl, .t (histT c.hist)])), (3, some (.box ((pshC p).map .t))), (4, some (.box ((chkC chkZ).map .t))), (52, some (.row 1 24 (((H.take i).map fun l => verC1 (pruV l fl)) ++ (H.drop i).map verC1)))], [2, 3, 4, 52]⟩) (fun i => True) (leE_same (by repeat (first | exact letm_nil _ _ | refine letm_cons rfl ?_ ?_ | exact .same _ | exact .nl (by decide) (by decide) | exact .nn | exact .id' rfl | exact .id' (by first | (simp; done) | (simp [hfl]; done)))) (by repeat (first | exact lehp_nil _ _ | refine lehp_cons rfl ?_ ?_ | exact leB_same _ | exact leB_row (by first | rfl | (first | (simp; done) | (simp [hfl]; done))) | exact leB_obj (by first | (simp; done) | (simp [hfl]; done)) | exact leB_nest (by first | rfl | (first | (simp; done) | (simp [hfl]; done))) | refine leB_box ?_ | exact leL_nil | refine leL_cons ?_ ?_ | exact .same _ | exact .nl (by decide) (by decide) | exact .nn | exact .id' rfl | exact .id' (by first | (simp; done) | (simp [hfl]; done)))) rfl) trivial (fun i hi _ => ?_)
  refine vc_seq ?_
  refine vc_rseq mixed ?_
  refine g_val (s_move rfl rfl) rfl ?_
  refine g_val (s_move rfl rfl) rfl ?_
  refine g_val (s_lenR rfl rfl (by first | omega | (simp; done) | (simp; omega)) rfl) rfl ?_
  refine g_val (s_lss rfl rfl rfl) rfl ?_
  refine g_nil ?_
  refine vc_cond rfl (fun hc116 => ?_) (fun hc116 => ?_)
  replace hc116 := of_decide_eq_true hc116
  obtain ⟨e, he⟩ := get_of_lt (l := H) (i := i) (by omega)
  have hes := hHs e (List.mem_of_getElem? he)
  have hget : (((H.take i).map fun l => verC1 (pruV l fl)) ++ (H.drop i).map verC1)[i]? = some (verC1 e) := by
    rw [List.getElem?_append_right (by simp; omega), List.getElem?_map, List.getElem?_drop]
    rw [show i + (i - ((H.take i).map fun l => verC1 (pruV l fl)).length) = i by simp; omega, he]; rfl
  refine vc_skip ?_
  refine vc_seq ?_
  refine vc_block ?_
  refine vc_region mixed ?_
  refine d_val (s_move rfl rfl) rfl ?_
  refine d_val (s_move rfl rfl) rfl ?_
  refine d_val (s_move rfl rfl) rfl ?_
  refine d_val (s_move rfl rfl) rfl ?_
  refine d_val (s_indexR rfl rfl rfl (by omega) (by omega)) rfl ?_
  refine d_val (s_loadR rfl rfl (show _ = some (verC1 e) from by rw [Nat.zero_add]; exact hget) rfl rfl) rfl ?_
  refine d_val (s_field rfl rfl rfl rfl) rfl ?_
  refine d_val (s_load rfl rfl rfl rfl) rfl ?_
  refine d_val (s_call [] (c_mementoref13_Prune e fl (by omega)) (evArgs_cons rfl (evArgs_cons rfl evArgs_nil)) trivial rfl (okVL_nil _) rfl (.inl rfl) rfl) rfl ?_
  refine d_val (s_indexR rfl rfl rfl (by omega) (by omega)) rfl ?_
  refine d_sto (s_storeR rfl rfl rfl rfl rfl (show _ = some (verC1 e) from by rw [Nat.zero_add]; exact hget) rfl) rfl ?_
  refine d_nil rfl ?_
  refine vc_region mixed ?_
  refine g_val (s_move rfl rfl) rfl ?_
  refine g_val (s_add rfl rfl rfl (by simp only [inI, kMin, kMax]; omega)) rfl ?_
  refine g_val (s_assign rfl rfl) rfl ?_
  refine g_nil ?_
  exact ⟨by omega, trivial, (leE_same (by repeat (first | exact letm_nil _ _ | refine letm_cons rfl ?_ ?_ | exact .same _ | exact .nl (by decide) (by decide) | exact .nn | exact .id' rfl | exact .id' (by rw [Nat.zero_add]; exact setdrop he))) (by repeat (first | exact lehp_nil _ _ | refine lehp_cons rfl ?_ ?_ | exact leB_same _ | exact leB_row (by first | rfl | (rw [Nat.zero_add]; exact setdrop he)) | exact leB_obj (by rw [Nat.zero_add]; exact setdrop he) | exact leB_nest (by first | rfl | (rw [Nat.zero_add]; exact setdrop he)) | refine leB_box ?_ | exact leL_nil | refine leL_cons ?_ ?_ | exact .same _ | exact .nl (by decide) (by decide) | exact .nn | exact .id' rfl | exact .id' (by rw [Nat.zero_add]; exact setdrop he))) rfl)⟩
  replace hc116 := of_decide_eq_false hc116
  simp only [Int.not_lt] at hc116
  refine vc_exit ?_
  obtain rfl : i = H.length := by omega
  refine vc_rseq mixed ?_
  refine g_val (s_move rfl rfl) rfl ?_
  refine g_val (s_field rfl rfl rfl rfl) rfl ?_
  refine g_sto (s_store rfl rfl rfl rfl rfl rfl) rfl ?_
  refine g_nil ?_
  refine vc_rseq mixed ?_
  refine g_val (s_loadA rfl rfl rfl rfl rfl) rfl ?_
  refine g_sto (s_store rfl rfl rfl rfl rfl rfl) rfl ?_
  refine g_nil ?_
  exact vc_ret (ret_le [(52, _)] _ (.cons (.agg rfl rfl rfl rfl) .nil) ⟨rfl, trivial⟩ (by repeat (first | exact leL_nil | refine leL_cons ?_ ?_ | exact LeV.tt rfl | exact .nl (by decide) (by decide) | exact .nn | refine LeV.tupL ?_ | refine LeV.aggL ?_ | exact .eq (by first | exact trivial | (simp [AV.okV, okR, lkB]; done) | (simp [AV.okV, okR, lkB]; omega)) (by first | rfl | (simp [AV.view, viewR, lkB, AV.ren, List.take_of_length_le]; done) | (simp [AV.view, viewR, lkB, AV.ren, List.take_of_length_le]; simp [histT, i64, verC1, List.take_of_length_le, hHl]; done)))) rfl)

end Go.Eng

set_option maxHeartbeats 8000000
namespace Go.Eng
open Go.Proofs

theorem pushOK_iff (v : Volume) (chunk mark : Int) : pushOK v chunk mark = true ↔ 0 ≤ chunk ∧ chunk < v.place.length ∧ 0 ≤ mark ∧ mark ≤ v.writes.length := decide_eq_true_iff (p := 0 ≤ chunk ∧ chunk < v.place.length ∧ 0 ≤ mark ∧ mark ≤ v.writes.length)

theorem c_mementoref16_Push (k : Nat) (v : Volume) (chunk mark : Int) (hv : VR k v) (hk : k ≤ 1000000) :
    Con Tryz.prog 34 [sC (volC v), AI .i64 chunk, AI .i64 mark] [] (.tup [sC (pshC (pushF v chunk mark).1), AB (pushF v chunk mark).2]) [] := by
  refine con_intro [] [] Tryz.func34 rfl Tryz.ntmps34 Tryz.results34 rfl rfl ?_
  intro E
  have hpk := pushOK_iff v chunk mark
  unfold pushF
  obtain ⟨s1, s2, s3, s4, s5, s6, s7, s8, s9, s10, s11, s12⟩ := hv.shape
  have hnw := hv.nw
  have hpl : (v.place.length : Int) ≤ 512 := by
    rw [s9]
    unfold chunksN
    have := Int.ediv_le_self (a := v.blocks + v.per - 1) v.per (by omega)
    omega
  have hcn : 0 ≤ chunk → chunk < v.place.length → 1 ≤ min v.per (v.blocks - chunk * v.per) := fun h1 h2 => by
    have := hv.cnt (n := chunk.toNat) (by omega)
    rwa [Int.toNat_of_nonneg h1] at this
  have hcf : cntF v chunk < 1 ↔ ¬ (0 ≤ chunk ∧ chunk < v.place.length) := by
    unfold cntF
    split
    omega
    have := hcn (by omega) (by omega); omega
  refine vc_rseq mixed ?_
  refine g_new (s_box 3 rfl rfl rfl rfl) rfl ?_
  refine g_new (s_alloc 6 rfl rfl) rfl ?_
  refine g_val (s_assign rfl rfl) rfl ?_
  refine g_nil ?_
  refine vc_rseq mixed ?_
  refine g_val (s_loadA rfl rfl rfl rfl rfl) rfl ?_
  refine g_val (s_move rfl rfl) rfl ?_
  refine g_val (s_call [] (c_mementoref16_Count v chunk (by omega) (by omega) (by omega)) (evArgs_cons rfl (evArgs_cons rfl evArgs_nil)) trivial rfl (okVL_nil _) rfl (.inl rfl) rfl) rfl ?_
  refine g_val (s_assign rfl rfl) rfl ?_
  refine g_nil ?_
  refine vc_seq ?_
  refine vc_cut (⟨[(1, AI .i64 chunk), (2, AI .i64 mark), (3, .ref 3 0), (6, .ref 6 0), (7, AB false), (8, AI .i64 (cntF v chunk)), (29, AB (!pushOK v chunk mark))], [(3, some (.box ((volC v).map .t))), (6, some (.box ((pshC pshZ).map .t)))], [3, 6]⟩) ?_ ?_
  refine vc_region mixed ?_
  refine g_val (s_move rfl rfl) rfl ?_
  refine g_val (s_lss rfl rfl rfl) rfl ?_
  refine g_val (s_move rfl rfl) rfl ?_
  refine g_probe (j := 20) rfl (fun c hg20 => ?_)
  cases c
  rw [← hg20]; replace hg20 := hg20.symm; replace hg20 := of_decide_eq_false hg20
  simp only [Int.not_lt] at hg20
  refine gq_val (s_move rfl rfl) rfl rfl rfl rfl ?_
  refine gq_val (s_lss rfl rfl rfl) rfl rfl rfl rfl ?_
  refine g_val (s_pickF rfl rfl rfl) rfl ?_
  refine g_val (s_move rfl rfl) rfl ?_
  refine g_probe (j := 24) rfl (fun c hg24 => ?_)
  cases c
  rw [← hg24]; replace hg24 := hg24.symm; replace hg24 := of_decide_eq_false hg24
  simp only [Int.not_lt] at hg24
  refine gq_val (s_move rfl rfl) rfl rfl rfl rfl ?_
  refine gq_val (s_loadA rfl rfl rfl rfl rfl) rfl rfl rfl rfl ?_
  refine gq_val (s_call [] (c_mementoref16_Len v) (evArgs_cons rfl evArgs_nil) trivial rfl (okVL_nil _) rfl (.inl rfl) rfl) rfl rfl rfl rfl ?_
  refine gq_val (s_gtr rfl rfl rfl) rfl rfl rfl rfl ?_
  refine g_val (s_pickF rfl rfl rfl) rfl ?_
  refine g_nil ?_
  exact (leE_same (by repeat (first | exact letm_nil _ _ | refine letm_cons rfl ?_ ?_ | exact .same _ | exact .nl (by decide) (by decide) | exact .nn | exact .id' rfl | exact .id' (by first | (exact AB_true fun hh => by have := hpk.1 hh; first | omega | (simp only [List.length_map] at *; omega)) | exact AB_dec ⟨fun hh => by have := hpk.1 hh; omega, fun hn => hpk.2 (by omega)⟩))) (by repeat (first | exact lehp_nil _ _ | refine lehp_cons rfl ?_ ?_ | exact leB_same _ | exact leB_row (by first | rfl | (first | (exact AB_true fun hh => by have := hpk.1 hh; first | omega | (simp only [List.length_map] at *; omega)) | exact AB_dec ⟨fun hh => by have := hpk.1 hh; omega, fun hn => hpk.2 (by omega)⟩)) | exact leB_obj (by first | (exact AB_true fun hh => by have := hpk.1 hh; first | omega | (simp only [List.length_map] at *; omega)) | exact AB_dec ⟨fun hh => by have := hpk.1 hh; omega, fun hn => hpk.2 (by omega)⟩) | exact leB_nest (by first | rfl | (first | (exact AB_true fun hh => by have := hpk.1 hh; first | omega | (simp only [List.length_map] at *; omega)) | exact AB_dec ⟨fun hh => by have := hpk.1 hh; omega, fun hn => hpk.2 (by omega)⟩)) | refine leB_box ?_ | exact leL_nil | refine leL_cons ?_ ?_ | exact .same _ | exact .nl (by decide) (by decide) | exact .nn | exact .id' rfl | exact .id' (by first | (exact AB_true fun hh => by have := hpk.1 hh; first | omega | (simp only [List.length_map] at *; omega)) | exact AB_dec ⟨fun hh => by have := hpk.1 hh; omega, fun hn => hpk.2 (by omega)⟩))) rfl)
  rw [← hg24]; replace hg24 := hg24.symm; replace hg24 := of_decide_eq_true hg24
  refine gn_val rfl rfl rfl rfl rfl rfl (by decide) ?_
  refine gn_val rfl rfl rfl rfl rfl rfl (by decide) ?_
  refine gn_val rfl rfl rfl rfl rfl rfl (by decide) ?_
  refine gn_val rfl rfl rfl rfl rfl rfl (by decide) ?_
  refine g_val (s_pickT rfl rfl rfl) rfl ?_
  refine g_nil ?_
  exact (leE_same (by repeat (first | exact letm_nil _ _ | refine letm_cons rfl ?_ ?_ | exact .same _ | exact .nl (by decide) (by decide) | exact .nn | exact .id' rfl | exact .id' (by first | (exact AB_true fun hh => by have := hpk.1 hh; first | omega | (simp only [List.length_map] at *; omega)) | exact AB_dec ⟨fun hh => by have := hpk.1 hh; omega, fun hn => hpk.2 (by omega)⟩))) (by repeat (first | exact lehp_nil _ _ | refine lehp_cons rfl ?_ ?_ | exact leB_same _ | exact leB_row (by first | rfl | (first | (exact AB_true fun hh => by have := hpk.1 hh; first | omega | (simp only [List.length_map] at *; omega)) | exact AB_dec ⟨fun hh => by have := hpk.1 hh; omega, fun hn => hpk.2 (by omega)⟩)) | exact leB_obj (by first | (exact AB_true fun hh => by have := hpk.1 hh; first | omega | (simp only [List.length_map] at *; omega)) | exact AB_dec ⟨fun hh => by have := hpk.1 hh; omega, fun hn => hpk.2 (by omega)⟩) | exact leB_nest (by first | rfl | (first | (exact AB_true fun hh => by have := hpk.1 hh; first | omega | (simp only [List.length_map] at *; omega)) | exact AB_dec ⟨fun hh => by have := hpk.1 hh; omega, fun hn => hpk.2 (by omega)⟩)) | refine leB_box ?_ | exact leL_nil | refine leL_cons ?_ ?_ | exact .same _ | exact .nl (by decide) (by decide) | exact .nn | exact .id' rfl | exact .id' (by first | (exact AB_true fun hh => by have := hpk.1 hh; first | omega | (simp only [List.length_map] at *; omega)) | exact AB_dec ⟨fun hh => by have := hpk.1 hh; omega, fun hn => hpk.2 (by omega)⟩))) rfl)
  rw [← hg20]; replace hg20 := hg20.symm; replace hg20 := of_decide_eq_true hg20
  refine gn_val rfl rfl rfl rfl rfl rfl (by decide) ?_
  refine gn_val rfl rfl rfl rfl rfl rfl (by decide) ?_
  refine g_val (s_pickT rfl rfl rfl) rfl ?_
  refine g_val (s_move rfl rfl) rfl ?_
  refine gn_val rfl rfl rfl rfl rfl rfl (by decide) ?_
  refine gn_val rfl rfl rfl rfl rfl rfl (by decide) ?_
  refine gn_val rfl rfl rfl rfl rfl rfl (by decide) ?_
  refine gn_val rfl rfl rfl rfl rfl rfl (by decide) ?_
  refine g_val (s_pickT rfl rfl rfl) rfl ?_
  refine g_nil ?_
  exact (leE_same (by repeat (first | exact letm_nil _ _ | refine letm_cons rfl ?_ ?_ | exact .same _ | exact .nl (by decide) (by decide) | exact .nn | exact .id' rfl | exact .id' (by first | (exact AB_true fun hh => by have := hpk.1 hh; first | omega | (simp only [List.length_map] at *; omega)) | exact AB_dec ⟨fun hh => by have := hpk.1 hh; omega, fun hn => hpk.2 (by omega)⟩))) (by repeat (first | exact lehp_nil _ _ | refine lehp_cons rfl ?_ ?_ | exact leB_same _ | exact leB_row (by first | rfl | (first | (exact AB_true fun hh => by have := hpk.1 hh; first | omega | (simp only [List.length_map] at *; omega)) | exact AB_dec ⟨fun hh => by have := hpk.1 hh; omega, fun hn => hpk.2 (by omega)⟩)) | exact leB_obj (by first | (exact AB_true fun hh => by have := hpk.1 hh; first | omega | (simp only [List.length_map] at *; omega)) | exact AB_dec ⟨fun hh => by have := hpk.1 hh; omega, fun hn => hpk.2 (by omega)⟩) | exact leB_nest (by first | rfl | (first | (exact AB_true fun hh => by have := hpk.1 hh; first | omega | (simp only [List.length_map] at *; omega)) | exact AB_dec ⟨fun hh => by have := hpk.1 hh; omega, fun hn => hpk.2 (by omega)⟩)) | refine leB_box ?_ | exact leL_nil | refine leL_cons ?_ ?_ | exact .same _ | exact .nl (by decide) (by decide) | exact .nn | exact .id' rfl | exact .id' (by first | (exact AB_true fun hh => by have := hpk.1 hh; first | omega | (simp only [List.length_map] at *; omega)) | exact AB_dec ⟨fun hh => by have := hpk.1 hh; omega, fun hn => hpk.2 (by omega)⟩))) rfl)
  refine vc_cond rfl (fun hc29 => ?_) (fun hc29 => ?_)
  simp only [Bool.not_eq_true'] at hc29
  rw [show pushOK v chunk mark = false by simpa using hc29, if_neg (by decide)]
  refine vc_rseq mixed ?_
  refine g_val (s_build evArgs_nil rfl rfl rfl) rfl ?_
  refine g_sto (s_store rfl rfl rfl rfl rfl rfl) rfl ?_
  refine g_val (s_assign rfl rfl) rfl ?_
  refine g_nil ?_
  exact vc_ret (ret_le [] _ (.cons (.agg rfl rfl rfl rfl) (.cons (.tmp rfl) .nil)) trivial (by repeat (first | exact leL_nil | refine leL_cons ?_ ?_ | exact LeV.tt rfl | exact .nl (by decide) (by decide) | exact .nn | refine LeV.tupL ?_ | refine LeV.aggL ?_ | exact .eq (by first | exact trivial | (simp [AV.okV, okR, lkB]; done) | (simp [AV.okV, okR, lkB]; omega)) (by first | rfl | (simp [AV.view, viewR, lkB, AV.ren, List.take_of_length_le]; done) | (simp [AV.view, viewR, lkB, AV.ren, List.take_of_length_le]; done)))) rfl)
  simp only [Bool.not_eq_false'] at hc29
  refine vc_skip ?_
  have hpt : pushOK v chunk mark = true := by simpa using hc29
  obtain ⟨p1, p2, p3, p4⟩ := hpk.1 hpt
  rw [if_pos hpt]
  have hf0 : 0 ≤ chunk * v.per := Int.mul_nonneg p1 (by omega)
  have hf1 : chunk * v.per ≤ 512 * 256 := Int.mul_le_mul (by omega) (by omega) (by omega) (by omega)
  have hcv : cntF v chunk = min v.per (v.blocks - chunk * v.per) := if_neg (by omega)
  rw [hcv]
  unfold pushP
  generalize hcnt : min v.per (v.blocks - chunk * v.per) = count
  generalize hto : min (mark + 4) (v.writes.length : Int) = to
  generalize hfl : min v.floor to = fl
  generalize hfi : chunk * v.per = first at *
  refine vc_rseq mixed ?_
  refine d_val (s_field rfl rfl rfl rfl) rfl ?_
  refine d_val (s_load rfl rfl rfl rfl) rfl ?_
  refine d_val (s_move rfl rfl) rfl ?_
  refine d_val (s_move rfl rfl) rfl ?_
  refine d_val (s_field rfl rfl rfl rfl) rfl ?_
  refine d_val (s_load rfl rfl rfl rfl) rfl ?_
  refine d_val (s_move rfl rfl) rfl ?_
  refine d_val (s_move rfl rfl) rfl ?_
  refine d_val (s_add rfl rfl rfl (by simp only [inI, kMin, kMax]; omega)) rfl ?_
  refine d_val (s_loadA rfl rfl rfl rfl rfl) rfl ?_
  refine d_val (s_call [] (c_mementoref16_Len v) (evArgs_cons rfl evArgs_nil) trivial rfl (okVL_nil _) rfl (.inl rfl) rfl) rfl ?_
  refine d_val (s_min rfl rfl rfl) rfl ?_
  refine d_val (s_build (evArgs_cons rfl (evArgs_cons rfl (evArgs_cons rfl (evArgs_cons rfl (evArgs_cons rfl (evArgs_cons rfl evArgs_nil)))))) rfl rfl rfl) rfl ?_
  refine d_new (s_alloc 9 rfl rfl) rfl ?_
  refine d_sto (s_store rfl rfl rfl rfl rfl rfl) rfl ?_
  refine d_nil rfl ?_
  refine vc_rseq mixed ?_
  refine g_val (s_field rfl rfl rfl rfl) rfl ?_
  refine g_val (s_load rfl rfl rfl rfl) rfl ?_
  refine g_val (s_field rfl rfl rfl rfl) rfl ?_
  refine g_val (s_load rfl rfl rfl rfl) rfl ?_
  refine g_val (s_min rfl rfl rfl) rfl ?_
  refine g_val (s_field rfl rfl rfl rfl) rfl ?_
  refine g_sto (s_store rfl rfl rfl rfl rfl rfl) rfl ?_
  refine g_nil ?_
  refine vc_seq ?_
  refine vc_ownnilB (q0 := 9) 7 7 2 32 rfl rfl rfl rfl ?_
  generalize hsub : (v.writes.take to.toNat).drop mark.toNat = sub
  have hsl : sub.length = (to - mark).toNat := by rw [← hsub]; simp; omega
  refine vc_rseq mixed ?_
  refine g_val (s_field rfl rfl rfl rfl) rfl ?_
  refine g_val (s_load rfl rfl rfl rfl) rfl ?_
  refine g_val (s_assign rfl rfl) rfl ?_
  refine g_nil ?_
  refine vc_block ?_
  refine vc_up sub.length (fun i => ⟨[(1, AI .i64 chunk), (3, .ref 3 0), (6, .ref 6 0), (7, AB false), (8, AI .i64 count), (9, .ref 9 0), (10, AI .i64 (mark + i))], [(3, some (.box ((volC v).map .t))), (6, some (.box ((pshC pshZ).map .t))), (9, some (.box [.t (i64 v.id), AI .i64 chunk, AI .i64 count, .t (i64 v.size), AI .i64 mark, AI .i64 to, AI .i64 fl, .rows 7 2 0 (pushW first count (sub.take i)).length])), (7, some (.row 2 32 ((pushW first count (sub.take i)).map writeC)))], [3, 6, 9, 7]⟩) (fun i => True) (leE_same (by repeat (first | exact letm_nil _ _ | refine letm_cons rfl ?_ ?_ | exact .same _ | exact .nl (by decide) (by decide) | exact .nn | exact .id' rfl | exact .id' (by first | (simp; done) | (simp [hfi, hcnt, hto, hfl]; done) | (simp [pushW]; done)))) (by repeat (first | exact lehp_nil _ _ | refine lehp_cons rfl ?_ ?_ | exact leB_same _ | exact leB_row (by first | rfl | (first | (simp; done) | (simp [hfi, hcnt, hto, hfl]; done) | (simp [pushW]; done))) | exact leB_obj (by first | (simp; done) | (simp [hfi, hcnt, hto, hfl]; done) | (simp [pushW]; done)) | exact leB_nest (by first | rfl | (first | (simp; done) | (simp [hfi, hcnt, hto, hfl]; done) | (simp [pushW]; done))) | refine leB_box ?_ | exact leL_nil | refine leL_cons ?_ ?_ | exact .same _ | exact .nl (by decide) (by decide) | exact .nn | exact .id' rfl | exact .id' (by first | (simp; done) | (simp [hfi, hcnt, hto, hfl]; done) | (simp [pushW]; done)))) rfl) trivial (fun i hi _ => ?_)
  refine vc_seq ?_
  refine vc_rseq mixed ?_
  refine g_val (s_move rfl rfl) rfl ?_
  refine g_val (s_field rfl rfl rfl rfl) rfl ?_
  refine g_val (s_load rfl rfl rfl rfl) rfl ?_
  refine g_val (s_lss rfl rfl rfl) rfl ?_
  refine g_nil ?_
  refine vc_cond rfl (fun hc55 => ?_) (fun hc55 => ?_)
  replace hc55 := of_decide_eq_true hc55
  obtain ⟨w, hw⟩ := get_of_lt (l := sub) (i := i) (by omega)
  have hwv : v.writes[(mark + (i : Int)).toNat]? = some w := by
    rw [← hsub, List.getElem?_drop, List.getElem?_take] at hw
    split at hw
    rw [show (mark + (i : Int)).toNat = mark.toNat + i by omega]; exact hw
    cases hw
  obtain ⟨hwq, hwi, hwl, hwb, hwn⟩ := hv.wr _ w hwv
  have hpw := pushW_len first count (sub.take i)
  simp only [List.length_take] at hpw
  refine vc_skip ?_
  refine vc_seq ?_
  refine vc_block ?_
  refine vc_rseq mixed ?_
  refine g_val (s_assign rfl rfl) rfl ?_
  refine g_nil ?_
  refine vc_rseq mixed ?_
  refine g_val (s_field rfl rfl rfl rfl) rfl ?_
  refine g_val (s_load rfl rfl rfl rfl) rfl ?_
  refine g_val (s_move rfl rfl) rfl ?_
  refine g_val (s_index rfl rfl rfl (by omega) (idx_map hwv)) rfl ?_
  refine g_val (s_loadTA rfl rfl rfl) rfl ?_
  refine g_new (s_alloc 12 rfl rfl) rfl ?_
  refine g_sto (s_store rfl rfl rfl rfl rfl rfl) rfl ?_
  refine g_nil ?_
  refine vc_seq ?_
  refine vc_ownnil (i := 11) 11 2 32 rfl rfl rfl ?_
  refine vc_rseq mixed ?_
  refine g_val (s_assign rfl rfl) rfl ?_
  refine g_nil ?_
  refine vc_block ?_
  refine vc_up w.items.length (fun k => ⟨[(1, AI .i64 chunk), (3, .ref 3 0), (6, .ref 6 0), (7, AB false), (8, AI .i64 count), (9, .ref 9 0), (10, AI .i64 (mark + i)), (11, .rows 11 2 0 (pushI first count (w.items.take k)).length), (12, .ref 12 0), (13, AI .i64 k)], [(3, some (.box ((volC v).map .t))), (6, some (.box ((pshC pshZ).map .t))), (9, some (.box [.t (i64 v.id), AI .i64 chunk, AI .i64 count, .t (i64 v.size), AI .i64 mark, AI .i64 to, AI .i64 fl, .rows 7 2 0 (pushW first count (sub.take i)).length])), (7, some (.row 2 32 ((pushW first count (sub.take i)).map writeC))), (11, some (.row 2 32 ((pushI first count (w.items.take k)).map itemC))), (12, some (.box ((writeC w).map .t)))], [3, 6, 9, 7, 11, 12]⟩) (fun k => True) (leE_same (by repeat (first | exact letm_nil _ _ | refine letm_cons rfl ?_ ?_ | exact .same _ | exact .nl (by decide) (by decide) | exact .nn | exact .id' rfl | exact .id' (by first | (simp; done) | (simp [pushI]; done)))) (by repeat (first | exact lehp_nil _ _ | refine lehp_cons rfl ?_ ?_ | exact leB_same _ | exact leB_row (by first | rfl | (first | (simp; done) | (simp [pushI]; done))) | exact leB_obj (by first | (simp; done) | (simp [pushI]; done)) | exact leB_nest (by first | rfl | (first | (simp; done) | (simp [pushI]; done))) | refine leB_box ?_ | exact leL_nil | refine leL_cons ?_ ?_ | exact .same _ | exact .nl (by decide) (by decide) | exact .nn | exact .id' rfl | exact .id' (by first | (simp; done) | (simp [pushI]; done)))) rfl) trivial (fun k hk _ => ?_)
  refine vc_seq ?_
  refine vc_rseq mixed ?_
  refine g_val (s_move rfl rfl) rfl ?_
  refine g_val (s_field rfl rfl rfl rfl) rfl ?_
  refine g_val (s_load rfl rfl rfl rfl) rfl ?_
  refine g_val (s_len rfl rfl) rfl ?_
  refine g_val (s_lss rfl rfl rfl) rfl ?_
  refine g_nil ?_
  refine vc_cond rfl (fun hc67 => ?_) (fun hc67 => ?_)
  replace hc67 := of_decide_eq_true hc67
  simp only [List.length_map] at hc67
  obtain ⟨x, hx⟩ := get_of_lt (l := w.items) (i := k) (by omega)
  have hxb := hwb x (List.mem_of_getElem? hx)
  have hpi := pushI_len first count (w.items.take k)
  simp only [List.length_take] at hpi
  refine vc_skip ?_
  refine vc_seq ?_
  refine vc_block ?_
  refine vc_rseq mixed ?_
  refine d_val (s_field rfl rfl rfl rfl) rfl ?_
  refine d_val (s_load rfl rfl rfl rfl) rfl ?_
  refine d_val (s_move rfl rfl) rfl ?_
  refine d_val (s_index rfl rfl rfl (by omega) (idx_map hx)) rfl ?_
  refine d_val (s_fieldT rfl rfl rfl rfl rfl) rfl ?_
  refine d_val (s_loadT rfl rfl rfl) rfl ?_
  refine d_val (s_move rfl rfl) rfl ?_
  refine d_val (s_field rfl rfl rfl rfl) rfl ?_
  refine d_val (s_load rfl rfl rfl rfl) rfl ?_
  refine d_val (s_mul rfl rfl rfl (by rw [hfi]; simp only [inI, kMin, kMax]; omega)) rfl ?_
  refine d_val (s_sub rfl rfl rfl (by rw [hfi]; simp only [inI, kMin, kMax]; omega)) rfl ?_
  refine d_val (s_assign rfl rfl) rfl ?_
  refine d_nil rfl ?_
  rw [hfi]
  refine vc_rseq mixed ?_
  refine g_val (s_move rfl rfl) rfl ?_
  refine g_val (s_geq rfl rfl rfl) rfl ?_
  refine g_val (s_move rfl rfl) rfl ?_
  refine g_probe (j := 83) rfl (fun c hg83 => ?_)
  cases c
  rw [← hg83]; replace hg83 := hg83.symm; replace hg83 := of_decide_eq_false hg83
  simp only [Int.not_le] at hg83
  refine gn_val rfl rfl rfl rfl rfl rfl (by decide) ?_
  refine gn_val rfl rfl rfl rfl rfl rfl (by decide) ?_
  refine gn_val rfl rfl rfl rfl rfl rfl (by decide) ?_
  refine g_val (s_pickF rfl rfl rfl) rfl ?_
  refine g_nil ?_
  refine vc_cond rfl (fun h => by cases h) (fun _ => ?_)
  refine vc_skip ?_
  refine vc_region mixed ?_
  refine g_val (s_move rfl rfl) rfl ?_
  refine g_val (s_add rfl rfl rfl (by simp only [inI, kMin, kMax]; omega)) rfl ?_
  refine g_val (s_assign rfl rfl) rfl ?_
  refine g_nil ?_
  first
  | exact ⟨by omega, trivial, by
      rw [show pushI first count (w.items.take (k + 1)) = pushI first count (w.items.take k) ++ [⟨x.block - first, x.data⟩] by rw [take_snoc hx, pushI_snoc, if_pos (by omega)]]
      simp only [List.length_append, List.length_cons, List.length_nil]
      exact (leE_gen [] [(11, 98)] (by repeat (first | exact letm_nil _ _ | refine letm_cons rfl ?_ ?_ | exact LeV.tt rfl | exact .eq (okV_nil _) rfl | exact LeV.tt (by rw [List.take_of_length_le (by simp)]; simp [itemC, i64, bytesT]) | exact .eq (okV_nil _) (by rw [List.take_of_length_le (by simp)]; simp [itemC, i64, bytesT]))) (by repeat (first | exact lehp_nil _ _ | refine lehp_cons rfl ?_ ?_ | exact leB_row (by first | rfl | (rw [List.take_of_length_le (by simp)]; simp [itemC, i64, bytesT])) | exact leB_obj (by rw [List.take_of_length_le (by simp)]; simp [itemC, i64, bytesT]) | exact leB_nest (by first | rfl | (rw [List.take_of_length_le (by simp)]; simp [itemC, i64, bytesT])) | refine leB_box ?_ | exact leL_nil | refine leL_cons ?_ ?_ | exact LeV.tt rfl | exact .eq (okV_nil _) rfl | exact LeV.tt (by rw [List.take_of_length_le (by simp)]; simp [itemC, i64, bytesT]) | exact .eq (okV_nil _) (by rw [List.take_of_length_le (by simp)]; simp [itemC, i64, bytesT]))) trivial rfl)⟩
  | exact ⟨by omega, trivial, by
      rw [show pushI first count (w.items.take (k + 1)) = pushI first count (w.items.take k) by rw [take_snoc hx, pushI_snoc, if_neg (by omega), List.append_nil]]
      exact (leE_same (by repeat (first | exact letm_nil _ _ | refine letm_cons rfl ?_ ?_ | exact .same _ | exact .nl (by decide) (by decide) | exact .nn | exact .id' rfl | exact .id' (by simp; done))) (by repeat (first | exact lehp_nil _ _ | refine lehp_cons rfl ?_ ?_ | exact leB_same _ | exact leB_row (by first | rfl | (simp; done)) | exact leB_obj (by simp; done) | exact leB_nest (by first | rfl | (simp; done)) | refine leB_box ?_ | exact leL_nil | refine leL_cons ?_ ?_ | exact .same _ | exact .nl (by decide) (by decide) | exact .nn | exact .id' rfl | exact .id' (by simp; done))) rfl)⟩
  rw [← hg83]; replace hg83 := hg83.symm; replace hg83 := of_decide_eq_true hg83
  refine gq_val (s_move rfl rfl) rfl rfl rfl rfl ?_
  refine gq_val (s_move rfl rfl) rfl rfl rfl rfl ?_
  refine gq_val (s_lss rfl rfl rfl) rfl rfl rfl rfl ?_
  refine g_val (s_pickT rfl rfl rfl) rfl ?_
  refine g_nil ?_
  refine vc_cond rfl (fun hc87 => ?_) (fun hc87 => ?_)
  replace hc87 := of_decide_eq_true hc87
  refine vc_region mixed ?_
  refine g_val (s_move rfl rfl) rfl ?_
  refine g_val (s_move rfl rfl) rfl ?_
  refine g_val (s_field rfl rfl rfl rfl) rfl ?_
  refine g_val (s_load rfl rfl rfl rfl) rfl ?_
  refine g_val (s_move rfl rfl) rfl ?_
  refine g_val (s_index rfl rfl rfl (by omega) (idx_map hx)) rfl ?_
  refine g_val (s_fieldT rfl rfl rfl rfl rfl) rfl ?_
  refine g_val (s_loadT rfl rfl rfl) rfl ?_
  refine g_val (s_build (evArgs_cons rfl (evArgs_cons rfl evArgs_nil)) rfl rfl rfl) rfl ?_
  refine g_fz ((s_buildSlice 97 (evArgs_cons rfl evArgs_nil) rfl rfl rfl rfl).fzE rfl) rfl ?_
  refine g_app (s_append 98 rfl rfl rfl rfl rfl (by simp) rfl rfl (by (try simp only [List.length_cons, List.length_nil]); omega)) rfl ?_
  refine g_val (s_assign rfl rfl) rfl ?_
  refine g_nil ?_
  refine vc_region mixed ?_
  refine g_val (s_move rfl rfl) rfl ?_
  refine g_val (s_add rfl rfl rfl (by simp only [inI, kMin, kMax]; omega)) rfl ?_
  refine g_val (s_assign rfl rfl) rfl ?_
  refine g_nil ?_
  first
  | exact ⟨by omega, trivial, by
      rw [show pushI first count (w.items.take (k + 1)) = pushI first count (w.items.take k) ++ [⟨x.block - first, x.data⟩] by rw [take_snoc hx, pushI_snoc, if_pos (by omega)]]
      simp only [List.length_append, List.length_cons, List.length_nil]
      exact (leE_gen [] [(11, 98)] (by repeat (first | exact letm_nil _ _ | refine letm_cons rfl ?_ ?_ | exact LeV.tt rfl | exact .eq (okV_nil _) rfl | exact LeV.tt (by rw [List.take_of_length_le (by simp)]; simp [itemC, i64, bytesT]) | exact .eq (okV_nil _) (by rw [List.take_of_length_le (by simp)]; simp [itemC, i64, bytesT]))) (by repeat (first | exact lehp_nil _ _ | refine lehp_cons rfl ?_ ?_ | exact leB_row (by first | rfl | (rw [List.take_of_length_le (by simp)]; simp [itemC, i64, bytesT])) | exact leB_obj (by rw [List.take_of_length_le (by simp)]; simp [itemC, i64, bytesT]) | exact leB_nest (by first | rfl | (rw [List.take_of_length_le (by simp)]; simp [itemC, i64, bytesT])) | refine leB_box ?_ | exact leL_nil | refine leL_cons ?_ ?_ | exact LeV.tt rfl | exact .eq (okV_nil _) rfl | exact LeV.tt (by rw [List.take_of_length_le (by simp)]; simp [itemC, i64, bytesT]) | exact .eq (okV_nil _) (by rw [List.take_of_length_le (by simp)]; simp [itemC, i64, bytesT]))) trivial rfl)⟩
  | exact ⟨by omega, trivial, by
      rw [show pushI first count (w.items.take (k + 1)) = pushI first count (w.items.take k) by rw [take_snoc hx, pushI_snoc, if_neg (by omega), List.append_nil]]
      exact (leE_same (by repeat (first | exact letm_nil _ _ | refine letm_cons rfl ?_ ?_ | exact .same _ | exact .nl (by decide) (by decide) | exact .nn | exact .id' rfl | exact .id' (by simp; done))) (by repeat (first | exact lehp_nil _ _ | refine lehp_cons rfl ?_ ?_ | exact leB_same _ | exact leB_row (by first | rfl | (simp; done)) | exact leB_obj (by simp; done) | exact leB_nest (by first | rfl | (simp; done)) | refine leB_box ?_ | exact leL_nil | refine leL_cons ?_ ?_ | exact .same _ | exact .nl (by decide) (by decide) | exact .nn | exact .id' rfl | exact .id' (by simp; done))) rfl)⟩
  replace hc87 := of_decide_eq_false hc87
  simp only [Int.not_lt] at hc87
  refine vc_skip ?_
  refine vc_region mixed ?_
  refine g_val (s_move rfl rfl) rfl ?_
  refine g_val (s_add rfl rfl rfl (by simp only [inI, kMin, kMax]; omega)) rfl ?_
  refine g_val (s_assign rfl rfl) rfl ?_
  refine g_nil ?_
  first
  | exact ⟨by omega, trivial, by
      rw [show pushI first count (w.items.take (k + 1)) = pushI first count (w.items.take k) ++ [⟨x.block - first, x.data⟩] by rw [take_snoc hx, pushI_snoc, if_pos (by omega)]]
      simp only [List.length_append, List.length_cons, List.length_nil]
      exact (leE_gen [] [(11, 98)] (by repeat (first | exact letm_nil _ _ | refine letm_cons rfl ?_ ?_ | exact LeV.tt rfl | exact .eq (okV_nil _) rfl | exact LeV.tt (by rw [List.take_of_length_le (by simp)]; simp [itemC, i64, bytesT]) | exact .eq (okV_nil _) (by rw [List.take_of_length_le (by simp)]; simp [itemC, i64, bytesT]))) (by repeat (first | exact lehp_nil _ _ | refine lehp_cons rfl ?_ ?_ | exact leB_row (by first | rfl | (rw [List.take_of_length_le (by simp)]; simp [itemC, i64, bytesT])) | exact leB_obj (by rw [List.take_of_length_le (by simp)]; simp [itemC, i64, bytesT]) | exact leB_nest (by first | rfl | (rw [List.take_of_length_le (by simp)]; simp [itemC, i64, bytesT])) | refine leB_box ?_ | exact leL_nil | refine leL_cons ?_ ?_ | exact LeV.tt rfl | exact .eq (okV_nil _) rfl | exact LeV.tt (by rw [List.take_of_length_le (by simp)]; simp [itemC, i64, bytesT]) | exact .eq (okV_nil _) (by rw [List.take_of_length_le (by simp)]; simp [itemC, i64, bytesT]))) trivial rfl)⟩
  | exact ⟨by omega, trivial, by
      rw [show pushI first count (w.items.take (k + 1)) = pushI first count (w.items.take k) by rw [take_snoc hx, pushI_snoc, if_neg (by omega), List.append_nil]]
      exact (leE_same (by repeat (first | exact letm_nil _ _ | refine letm_cons rfl ?_ ?_ | exact .same _ | exact .nl (by decide) (by decide) | exact .nn | exact .id' rfl | exact .id' (by simp; done))) (by repeat (first | exact lehp_nil _ _ | refine lehp_cons rfl ?_ ?_ | exact leB_same _ | exact leB_row (by first | rfl | (simp; done)) | exact leB_obj (by simp; done) | exact leB_nest (by first | rfl | (simp; done)) | refine leB_box ?_ | exact leL_nil | refine leL_cons ?_ ?_ | exact .same _ | exact .nl (by decide) (by decide) | exact .nn | exact .id' rfl | exact .id' (by simp; done))) rfl)⟩
  replace hc67 := of_decide_eq_false hc67
  simp only [List.length_map, Int.not_lt] at hc67
  refine vc_exit ?_
  obtain rfl : k = w.items.length := by omega
  rw [List.take_length]
  refine vc_rseq mixed ?_
  refine g_val (s_move rfl rfl) rfl ?_
  refine g_val (s_lenR rfl rfl (by first | omega | (simp; done) | (simp; omega)) rfl) rfl ?_
  refine g_val (s_gtr rfl rfl rfl) rfl ?_
  refine g_nil ?_
  refine vc_cond rfl (fun hc101 => ?_) (fun hc101 => ?_)
  replace hc101 := of_decide_eq_true hc101
  refine vc_freezeE 11 rfl rfl (by simp) ?_
  refine vc_region mixed ?_
  refine g_val (s_field rfl rfl rfl rfl) rfl ?_
  refine g_val (s_load rfl rfl rfl rfl) rfl ?_
  refine g_val (s_field rfl rfl rfl rfl) rfl ?_
  refine g_val (s_load rfl rfl rfl rfl) rfl ?_
  refine g_val (s_move rfl rfl) rfl ?_
  refine g_val (s_build (evArgs_cons rfl (evArgs_cons rfl evArgs_nil)) rfl rfl rfl) rfl ?_
  refine g_fz ((s_buildSlice 108 (evArgs_cons rfl evArgs_nil) rfl rfl rfl rfl).fzE rfl) rfl ?_
  refine g_app (s_append 109 rfl rfl rfl rfl rfl (by simp) rfl rfl (by (try simp only [List.length_cons, List.length_nil]); omega)) rfl ?_
  refine g_val (s_field rfl rfl rfl rfl) rfl ?_
  refine g_sto (s_store rfl rfl rfl rfl rfl rfl) rfl ?_
  refine g_nil ?_
  refine vc_region mixed ?_
  refine g_val (s_move rfl rfl) rfl ?_
  refine g_val (s_add rfl rfl rfl (by simp only [inI, kMin, kMax]; omega)) rfl ?_
  refine g_val (s_assign rfl rfl) rfl ?_
  refine g_nil ?_
  refine ⟨by omega, trivial, ?_⟩
  rcases Nat.eq_zero_or_pos (pushI first count w.items).length with hpe | hpe
  rw [show pushW first count (sub.take (i + 1)) = pushW first count (sub.take i) by rw [take_snoc hw, pushW_snoc, if_pos (List.eq_nil_of_length_eq_zero hpe), List.append_nil]]
  focus (first | (exfalso; omega) | exact (leE_same (by repeat (first | exact letm_nil _ _ | refine letm_cons rfl ?_ ?_ | exact .same _ | exact .nl (by decide) (by decide) | exact .nn | exact .id' rfl | exact .id' (by first | (simp; done) | (simp; omega)))) (by repeat (first | exact lehp_nil _ _ | refine lehp_cons rfl ?_ ?_ | exact leB_same _ | exact leB_row (by first | rfl | (first | (simp; done) | (simp; omega))) | exact leB_obj (by first | (simp; done) | (simp; omega)) | exact leB_nest (by first | rfl | (first | (simp; done) | (simp; omega))) | refine leB_box ?_ | exact leL_nil | refine leL_cons ?_ ?_ | exact .same _ | exact .nl (by decide) (by decide) | exact .nn | exact .id' rfl | exact .id' (by first | (simp; done) | (simp; omega)))) rfl))
  rw [show pushW first count (sub.take (i + 1)) = pushW first count (sub.take i) ++ [⟨w.seq, pushI first count w.items⟩] by rw [take_snoc hw, pushW_snoc, if_neg (by intro h; rw [h] at hpe; simp at hpe)]]
  simp only [List.length_append, List.length_cons, List.length_nil]
  focus (first | (exfalso; omega) | exact (leE_gen [] [(7, 109)] (by repeat (first | exact letm_nil _ _ | refine letm_cons rfl ?_ ?_ | exact LeV.tt rfl | exact .eq (okV_nil _) rfl | exact LeV.tt (by first | (simp; done) | (simp; omega) | (rw [List.take_of_length_le (by simp)]; simp [writeC, i64, itemsT])) | exact .eq (okV_nil _) (by first | (simp; done) | (simp; omega) | (rw [List.take_of_length_le (by simp)]; simp [writeC, i64, itemsT])))) (by repeat (first | exact lehp_nil _ _ | refine lehp_cons rfl ?_ ?_ | exact leB_row (by first | rfl | (first | (simp; done) | (simp; omega) | (rw [List.take_of_length_le (by simp)]; simp [writeC, i64, itemsT]))) | exact leB_obj (by first | (simp; done) | (simp; omega) | (rw [List.take_of_length_le (by simp)]; simp [writeC, i64, itemsT])) | exact leB_nest (by first | rfl | (first | (simp; done) | (simp; omega) | (rw [List.take_of_length_le (by simp)]; simp [writeC, i64, itemsT]))) | refine leB_box ?_ | exact leL_nil | refine leL_cons ?_ ?_ | exact LeV.tt rfl | exact .eq (okV_nil _) rfl | exact LeV.tt (by first | (simp; done) | (simp; omega) | (rw [List.take_of_length_le (by simp)]; simp [writeC, i64, itemsT])) | exact .eq (okV_nil _) (by first | (simp; done) | (simp; omega) | (rw [List.take_of_length_le (by simp)]; simp [writeC, i64, itemsT])))) trivial rfl))
  replace hc101 := of_decide_eq_false hc101
  simp only [Int.not_lt] at hc101
  refine vc_skip ?_
  refine vc_region mixed ?_
  refine g_val (s_move rfl rfl) rfl ?_
  refine g_val (s_add rfl rfl rfl (by simp only [inI, kMin, kMax]; omega)) rfl ?_
  refine g_val (s_assign rfl rfl) rfl ?_
  refine g_nil ?_
  refine ⟨by omega, trivial, ?_⟩
  rcases Nat.eq_zero_or_pos (pushI first count w.items).length with hpe | hpe
  rw [show pushW first count (sub.take (i + 1)) = pushW first count (sub.take i) by rw [take_snoc hw, pushW_snoc, if_pos (List.eq_nil_of_length_eq_zero hpe), List.append_nil]]
  focus (first | (exfalso; omega) | exact (leE_same (by repeat (first | exact letm_nil _ _ | refine letm_cons rfl ?_ ?_ | exact .same _ | exact .nl (by decide) (by decide) | exact .nn | exact .id' rfl | exact .id' (by first | (simp; done) | (simp; omega)))) (by repeat (first | exact lehp_nil _ _ | refine lehp_cons rfl ?_ ?_ | exact leB_same _ | exact leB_row (by first | rfl | (first | (simp; done) | (simp; omega))) | exact leB_obj (by first | (simp; done) | (simp; omega)) | exact leB_nest (by first | rfl | (first | (simp; done) | (simp; omega))) | refine leB_box ?_ | exact leL_nil | refine leL_cons ?_ ?_ | exact .same _ | exact .nl (by decide) (by decide) | exact .nn | exact .id' rfl | exact .id' (by first | (simp; done) | (simp; omega)))) rfl))
  rw [show pushW first count (sub.take (i + 1)) = pushW first count (sub.take i) ++ [⟨w.seq, pushI first count w.items⟩] by rw [take_snoc hw, pushW_snoc, if_neg (by intro h; rw [h] at hpe; simp at hpe)]]
  simp only [List.length_append, List.length_cons, List.length_nil]
  focus (first | (exfalso; omega) | exact (leE_gen [] [(7, 109)] (by repeat (first | exact letm_nil _ _ | refine letm_cons rfl ?_ ?_ | exact LeV.tt rfl | exact .eq (okV_nil _) rfl | exact LeV.tt (by first | (simp; done) | (simp; omega) | (rw [List.take_of_length_le (by simp)]; simp [writeC, i64, itemsT])) | exact .eq (okV_nil _) (by first | (simp; done) | (simp; omega) | (rw [List.take_of_length_le (by simp)]; simp [writeC, i64, itemsT])))) (by repeat (first | exact lehp_nil _ _ | refine lehp_cons rfl ?_ ?_ | exact leB_row (by first | rfl | (first | (simp; done) | (simp; omega) | (rw [List.take_of_length_le (by simp)]; simp [writeC, i64, itemsT]))) | exact leB_obj (by first | (simp; done) | (simp; omega) | (rw [List.take_of_length_le (by simp)]; simp [writeC, i64, itemsT])) | exact leB_nest (by first | rfl | (first | (simp; done) | (simp; omega) | (rw [List.take_of_length_le (by simp)]; simp [writeC, i64, itemsT]))) | refine leB_box ?_ | exact leL_nil | refine leL_cons ?_ ?_ | exact LeV.tt rfl | exact .eq (okV_nil _) rfl | exact LeV.tt (by first | (simp; done) | (simp; omega) | (rw [List.take_of_length_le (by simp)]; simp [writeC, i64, itemsT])) | exact .eq (okV_nil _) (by first | (simp; done) | (simp; omega) | (rw [List.take_of_length_le (by simp)]; simp [writeC, i64, itemsT])))) trivial rfl))
  replace hc55 := of_decide_eq_false hc55
  simp only [Int.not_lt] at hc55
  refine vc_exit ?_
  obtain rfl : i = sub.length := by omega
  rw [List.take_length]
  refine vc_rseq mixed ?_
  refine g_val (s_loadA rfl rfl rfl rfl rfl) rfl ?_
  refine g_sto (s_store rfl rfl rfl rfl rfl rfl) rfl ?_
  refine g_val (s_assign rfl rfl) rfl ?_
  refine g_nil ?_
  exact vc_ret (ret_le [(7, _)] _ (.cons (.agg rfl rfl rfl rfl) (.cons (.tmp rfl) .nil)) ⟨rfl, trivial⟩ (by repeat (first | exact leL_nil | refine leL_cons ?_ ?_ | exact LeV.tt rfl | exact .nl (by decide) (by decide) | exact .nn | refine LeV.tupL ?_ | refine LeV.aggL ?_ | exact .eq (by first | exact trivial | (simp [AV.okV, okR, lkB]; done) | (simp [AV.okV, okR, lkB]; omega)) (by first | rfl | (simp [AV.view, viewR, lkB, AV.ren, List.take_of_length_le]; done) | (simp [AV.view, viewR, lkB, AV.ren, List.take_of_length_le]; simp [writesT, i64, take_map_len, hfi, hcnt, hto, hfl, hsub]; done)))) rfl)

theorem c_mementoseat_Chunk (k : Nat) (v : Volume) (n : Nat) (mark : Int) (hv : VR k v) (hk : k ≤ 10000) (hn : n < v.place.length) : Con Tryz.prog 12 [sC (volC v), AI .i64 n, AI .i64 mark] [] (sC (chkC (seatK v n mark))) [] := by
  refine con_intro [] [] Tryz.func12 rfl Tryz.ntmps12 Tryz.results12 rfl rfl ?_
  intro E
  have hnw := hv.nw
  have hp : ∀ m : Int, 0 ≤ m ∧ m ≤ v.writes.length → pushF v n m = (pushP v n m, true) := fun m hm => if_pos ((pushOK_iff v n m).2 ⟨by omega, by omega, hm.1, hm.2⟩)
  have hP : ∀ m : Int, 0 ≤ m ∧ m ≤ v.writes.length → Con Tryz.prog 34 [sC (volC v), AI .i64 n, AI .i64 m] [] (.tup [sC (pshC (pushP v n m)), AB true]) [] := fun m hm => by
    have := c_mementoref16_Push k v n m hv (by omega)
    rw [hp m hm] at this
    exact this
  refine vc_rseq mixed ?_
  refine g_new (s_box 3 rfl rfl rfl rfl) rfl ?_
  refine g_new (s_alloc 6 rfl rfl) rfl ?_
  refine g_nil ?_
  refine vc_rseq mixed ?_
  refine g_val (s_loadA rfl rfl rfl rfl rfl) rfl ?_
  refine g_val (s_move rfl rfl) rfl ?_
  refine g_val (s_call [] (hP 0 (by omega)) (evArgs_cons rfl (evArgs_cons rfl (evArgs_cons rfl evArgs_nil))) trivial rfl (okVL_nil _) rfl (.inl rfl) rfl) rfl ?_
  refine g_val (s_move rfl rfl) rfl ?_
  refine g_val (s_extract rfl rfl rfl) rfl ?_
  refine g_val (s_extract rfl rfl rfl) rfl ?_
  refine g_new (s_alloc 7 rfl rfl) rfl ?_
  refine g_sto (s_store rfl rfl rfl rfl rfl rfl) rfl ?_
  refine g_val (s_assign rfl rfl) rfl ?_
  refine g_nil ?_
  refine vc_rseq mixed ?_
  refine g_val (s_loadA rfl rfl rfl rfl rfl) rfl ?_
  refine g_val (s_call [] (c_mementoref13_New (pushP v n 0)) (evArgs_cons rfl evArgs_nil) trivial rfl (okVL_nil _) rfl (.inl rfl) rfl) rfl ?_
  refine g_new (s_alloc 9 rfl rfl) rfl ?_
  refine g_sto (s_store rfl rfl rfl rfl rfl rfl) rfl ?_
  refine g_nil ?_
  refine vc_seq ?_
  refine vc_block ?_
  refine vc_while (α := Chunk × PushCmd) (fun s => ⟨[(1, AI .i64 n), (2, AI .i64 mark), (3, .ref 3 0), (6, .ref 6 0), (7, .ref 7 0), (8, AB true), (9, .ref 9 0)], [(3, some (.box ((volC v).map .t))), (6, some (.box ((chkC chkZ).map .t))), (7, some (.box ((pshC s.2).map .t))), (9, some (.box ((chkC s.1).map .t)))], [3, 6, 7, 9]⟩) (fun s => KR v n s.1 ∧ goK v n mark (v.writes.length + 1) s.1 = seatK v n mark) (fun s => ((v.writes.length : Int) - s.1.mark).toNat) (newChk (pushP v n 0), pushP v n 0) (leE_same (by repeat (first | exact letm_nil _ _ | refine letm_cons rfl ?_ ?_ | exact .same _ | exact .nl (by decide) (by decide) | exact .nn | exact .id' rfl | exact .id' (by done))) (by repeat (first | exact lehp_nil _ _ | refine lehp_cons rfl ?_ ?_ | exact leB_same _ | exact leB_row (by first | rfl | (done)) | exact leB_obj (by done) | exact leB_nest (by first | rfl | (done)) | refine leB_box ?_ | exact leL_nil | refine leL_cons ?_ ?_ | exact .same _ | exact .nl (by decide) (by decide) | exact .nn | exact .id' rfl | exact .id' (by done))) rfl) ⟨KR.new hv hn, rfl⟩ (fun s ⟨hs1, hs2⟩ => ?_)
  obtain ⟨c, p⟩ := s
  simp only at hs1 hs2
  have hcm := hs1.mark
  refine vc_seq ?_
  refine vc_rseq mixed ?_
  refine d_val (s_move rfl rfl) rfl ?_
  refine d_val (s_move rfl rfl) rfl ?_
  refine g_probe (j := 19) rfl (fun c hg19 => ?_)
  rw [← hg19, hg19.trans (show _ = true from rfl)]
  clear hg19 c
  refine dq_val (s_field rfl rfl rfl rfl) rfl rfl rfl rfl ?_
  refine dq_val (s_load rfl rfl rfl rfl) rfl rfl rfl rfl ?_
  refine dq_val (s_move rfl rfl) rfl rfl rfl rfl ?_
  refine dq_val (s_lss rfl rfl rfl) rfl rfl rfl rfl ?_
  refine d_val (s_pickT rfl rfl rfl) rfl ?_
  refine d_val (s_move rfl rfl) rfl ?_
  refine g_probe (j := 25) rfl (fun c hg25 => ?_)
  cases c
  rw [← hg25]; replace hg25 := hg25.symm; replace hg25 := of_decide_eq_false hg25
  simp only [Int.not_lt] at hg25
  refine dn_val rfl rfl rfl rfl rfl rfl (by decide) ?_
  refine dn_val rfl rfl rfl rfl rfl rfl (by decide) ?_
  refine dn_val rfl rfl rfl rfl rfl rfl (by decide) ?_
  refine dn_val rfl rfl rfl rfl rfl rfl (by decide) ?_
  refine dn_val rfl rfl rfl rfl rfl rfl (by decide) ?_
  refine d_val (s_pickF rfl rfl rfl) rfl ?_
  refine d_nil rfl ?_
  refine vc_cond rfl (fun h => by cases h) (fun _ => ?_)
  refine vc_exit ?_
  have he : seatK v n mark = c := by
    rw [← hs2]
    unfold goK
    rw [if_neg (by omega)]
  rw [he]
  refine vc_rseq mixed ?_
  refine g_val (s_loadA rfl rfl rfl rfl rfl) rfl ?_
  refine g_sto (s_store rfl rfl rfl rfl rfl rfl) rfl ?_
  refine g_nil ?_
  exact vc_ret (ret_le [] _ (.cons (.agg rfl rfl rfl rfl) .nil) trivial (by repeat (first | exact leL_nil | refine leL_cons ?_ ?_ | exact LeV.tt rfl | exact .nl (by decide) (by decide) | exact .nn | refine LeV.tupL ?_ | refine LeV.aggL ?_ | exact .eq (by first | exact trivial | (simp [AV.okV, okR, lkB]; done) | (simp [AV.okV, okR, lkB]; omega)) (by first | rfl | (simp [AV.view, viewR, lkB, AV.ren, List.take_of_length_le]; done) | (simp [AV.view, viewR, lkB, AV.ren, List.take_of_length_le]; done)))) rfl)
  rw [← hg25]; replace hg25 := hg25.symm; replace hg25 := of_decide_eq_true hg25
  try simp only [List.length_map, ne_eq, Decidable.not_not, Int.not_lt, Int.not_le, ge_iff_le, gt_iff_lt, Bool.not_eq_true', Bool.not_eq_false', decide_eq_true_eq, decide_eq_false_iff_not] at hg25
  refine dq_val (s_field rfl rfl rfl rfl) rfl rfl rfl rfl ?_
  refine dq_val (s_load rfl rfl rfl rfl) rfl rfl rfl rfl ?_
  refine dq_val (s_loadA rfl rfl rfl rfl rfl) rfl rfl rfl rfl ?_
  refine dq_val (s_call [] (c_mementoref16_Len v) (evArgs_cons rfl evArgs_nil) trivial rfl (okVL_nil _) rfl (.inl rfl) rfl) rfl rfl rfl rfl ?_
  refine dq_val (s_lss rfl rfl rfl) rfl rfl rfl rfl ?_
  refine d_val (s_pickT rfl rfl rfl) rfl ?_
  refine d_nil rfl ?_
  refine vc_cond rfl (fun hc31 => ?_) (fun hc31 => ?_)
  replace hc31 := of_decide_eq_true hc31
  try simp only [List.length_map, ne_eq, Decidable.not_not, Int.not_lt, Int.not_le, ge_iff_le, gt_iff_lt, Bool.not_eq_true', Bool.not_eq_false', decide_eq_true_eq, decide_eq_false_iff_not] at hc31
  obtain ⟨a1, a2⟩ := hs1.apply hv (by omega) hn
  have hcl := hs1.len
  have hcc := hs1.count
  obtain ⟨s1, s2, s3, s4, s5, s6, s7, s8, s9, s10, s11, s12⟩ := hv.shape
  have hst : goK v n mark (v.writes.length + 1) (applyK c (pushP v n c.mark)) = seatK v n mark := by
    rw [← hs2]
    conv => rhs; unfold goK
    rw [if_pos (by omega)]
    exact goK_more hv (by omega) hn mark _ _ _ a1 (by rw [a2]; omega) (by rw [a2]; omega)
  refine vc_skip ?_
  refine vc_block ?_
  refine vc_rseq mixed ?_
  refine g_val (s_loadA rfl rfl rfl rfl rfl) rfl ?_
  refine g_val (s_move rfl rfl) rfl ?_
  refine g_val (s_field rfl rfl rfl rfl) rfl ?_
  refine g_val (s_load rfl rfl rfl rfl) rfl ?_
  refine g_val (s_call [] (hP c.mark hcm) (evArgs_cons rfl (evArgs_cons rfl (evArgs_cons rfl evArgs_nil))) trivial rfl (okVL_nil _) rfl (.inl rfl) rfl) rfl ?_
  refine g_val (s_move rfl rfl) rfl ?_
  refine g_val (s_extract rfl rfl rfl) rfl ?_
  refine g_val (s_extract rfl rfl rfl) rfl ?_
  refine g_sto (s_store rfl rfl rfl rfl rfl rfl) rfl ?_
  refine g_val (s_assign rfl rfl) rfl ?_
  refine g_nil ?_
  refine vc_region mixed ?_
  refine g_val (s_loadA rfl rfl rfl rfl rfl) rfl ?_
  refine g_val (s_loadA rfl rfl rfl rfl rfl) rfl ?_
  refine g_val (s_call [] (c_mementoref13_Apply c (pushP v n c.mark) hcl (by omega) (fun e he => by
  obtain ⟨b, hb⟩ := List.mem_iff_getElem?.1 he
  have := (hs1.sorted hv hb).2
  omega)) (evArgs_cons rfl (evArgs_cons rfl evArgs_nil)) trivial rfl (okVL_nil _) rfl (.inl rfl) rfl) rfl ?_
  refine g_sto (s_store rfl rfl rfl rfl rfl rfl) rfl ?_
  refine g_nil ?_
  exact ⟨(applyK c (pushP v n c.mark), pushP v n c.mark), ⟨a1, hst⟩, by simp only; rw [a2]; omega, (leE_same (by repeat (first | exact letm_nil _ _ | refine letm_cons rfl ?_ ?_ | exact .same _ | exact .nl (by decide) (by decide) | exact .nn | exact .id' rfl | exact .id' (by simp; done))) (by repeat (first | exact lehp_nil _ _ | refine lehp_cons rfl ?_ ?_ | exact leB_same _ | exact leB_row (by first | rfl | (simp; done)) | exact leB_obj (by simp; done) | exact leB_nest (by first | rfl | (simp; done)) | refine leB_box ?_ | exact leL_nil | refine leL_cons ?_ ?_ | exact .same _ | exact .nl (by decide) (by decide) | exact .nn | exact .id' rfl | exact .id' (by simp; done))) rfl)⟩
  replace hc31 := of_decide_eq_false hc31
  simp only [Int.not_lt] at hc31
  refine vc_exit ?_
  have he : seatK v n mark = c := by
    rw [← hs2]
    unfold goK
    rw [if_neg (by omega)]
  rw [he]
  refine vc_rseq mixed ?_
  refine g_val (s_loadA rfl rfl rfl rfl rfl) rfl ?_
  refine g_sto (s_store rfl rfl rfl rfl rfl rfl) rfl ?_
  refine g_nil ?_
  exact vc_ret (ret_le [] _ (.cons (.agg rfl rfl rfl rfl) .nil) trivial (by repeat (first | exact leL_nil | refine leL_cons ?_ ?_ | exact LeV.tt rfl | exact .nl (by decide) (by decide) | exact .nn | refine LeV.tupL ?_ | refine LeV.aggL ?_ | exact .eq (by first | exact trivial | (simp [AV.okV, okR, lkB]; done) | (simp [AV.okV, okR, lkB]; omega)) (by first | rfl | (simp [AV.view, viewR, lkB, AV.ren, List.take_of_length_le]; done) | (simp [AV.view, viewR, lkB, AV.ren, List.take_of_length_le]; done)))) rfl)

end Go.Eng

set_option maxHeartbeats 8000000
namespace Go.Eng
open Go.Proofs

theorem c_Clone_LV_own (l : List (List Ver)) : Con Tryz.prog 112 [.t (histT l)] [] (.rows 0 1 0 l.length) [(0, .row 1 24 (l.map verC1))] := by
  refine con_intro [] [0] Tryz.func112 rfl Tryz.ntmps112 Tryz.results112 rfl rfl ?_
  intro E
  refine vc_okT (i := 0) rfl fun ok0 => ?_
  have hla := ok0.len
  refine vc_nil (t := 0) rfl (fun h0 => ?_) ?_
  have hl0 : l = [] := by simpa using h0
  subst hl0
  refine vc_rseq mixed ?_
  refine g_val (s_assign rfl rfl) rfl ?_
  refine g_nil ?_
  refine vc_seq ?_
  refine vc_rseq mixed ?_
  refine g_val (s_move rfl rfl) rfl ?_
  refine g_val (s_eqlX rfl rfl rfl) rfl ?_
  refine g_nil ?_
  refine vc_cond rfl (fun _ => ?_) (fun h => by cases h)
  refine vc_rseq mixed ?_
  refine g_val (s_assign rfl rfl) rfl ?_
  refine g_nil ?_
  refine vc_ownnil (i := 2) 0 1 24 rfl rfl rfl ?_
  exact vc_ret (ret_hand [] [] _ (.cons (.tmp rfl) .nil) trivial (.same _) (lehp_cons rfl (leB_row rfl) (lehp_nil _ _)) rfl)
  refine vc_rseq mixed ?_
  refine g_val (s_assign rfl rfl) rfl ?_
  refine g_nil ?_
  refine vc_seq ?_
  refine vc_rseq mixed ?_
  refine g_val (s_move rfl rfl) rfl ?_
  refine g_val (s_eqlN rfl rfl rfl) rfl ?_
  refine g_nil ?_
  refine vc_cond rfl (fun h => by cases h) (fun _ => ?_)
  refine vc_skip ?_
  refine vc_le ⟨[(0, .t (histT l))], [], []⟩ (leE_same (letm_cons rfl .nn (letm_nil _ _)) (lehp_nil _ _) rfl) ?_
  refine vc_rseq mixed ?_
  refine g_new (s_buildSlice 5 evArgs_nil rfl rfl rfl rfl) rfl ?_
  refine g_val (s_move rfl rfl) rfl ?_
  refine g_app (s_append 7 rfl rfl rfl rfl rfl (Nat.le_refl _) rfl rfl (by simpa using hla)) rfl ?_
  refine g_val (s_assign rfl rfl) rfl ?_
  refine g_nil ?_
  exact vc_ret (ret_hand [] [(0, 7)] _ (.cons (.tmp rfl) .nil) trivial (.eq (okV_nil _) (by simp [single, AV.view_nil, AV.ren, rnG, rnL]; rfl)) (lehp_cons rfl (leB_row (by simp [verC1])) (lehp_nil _ _)) rfl)

theorem c_Clone_Ver_own (l : List Ver) : Con Tryz.prog 113 [.t (versT l)] [] (.rows 0 2 0 l.length) [(0, .row 2 32 (l.map verC))] := by
  refine con_intro [] [0] Tryz.func113 rfl Tryz.ntmps113 Tryz.results113 rfl rfl ?_
  intro E
  refine vc_okT (i := 0) rfl fun ok0 => ?_
  have hla := ok0.len
  refine vc_nil (t := 0) rfl (fun h0 => ?_) ?_
  have hl0 : l = [] := by simpa using h0
  subst hl0
  refine vc_rseq mixed ?_
  refine g_val (s_assign rfl rfl) rfl ?_
  refine g_nil ?_
  refine vc_seq ?_
  refine vc_rseq mixed ?_
  refine g_val (s_move rfl rfl) rfl ?_
  refine g_val (s_eqlX rfl rfl rfl) rfl ?_
  refine g_nil ?_
  refine vc_cond rfl (fun _ => ?_) (fun h => by cases h)
  refine vc_rseq mixed ?_
  refine g_val (s_assign rfl rfl) rfl ?_
  refine g_nil ?_
  refine vc_ownnil (i := 2) 0 2 32 rfl rfl rfl ?_
  exact vc_ret (ret_hand [] [] _ (.cons (.tmp rfl) .nil) trivial (.same _) (lehp_cons rfl (leB_row rfl) (lehp_nil _ _)) rfl)
  refine vc_rseq mixed ?_
  refine g_val (s_assign rfl rfl) rfl ?_
  refine g_nil ?_
  refine vc_seq ?_
  refine vc_rseq mixed ?_
  refine g_val (s_move rfl rfl) rfl ?_
  refine g_val (s_eqlN rfl rfl rfl) rfl ?_
  refine g_nil ?_
  refine vc_cond rfl (fun h => by cases h) (fun _ => ?_)
  refine vc_skip ?_
  refine vc_le ⟨[(0, .t (versT l))], [], []⟩ (leE_same (letm_cons rfl .nn (letm_nil _ _)) (lehp_nil _ _) rfl) ?_
  refine vc_rseq mixed ?_
  refine g_new (s_buildSlice 5 evArgs_nil rfl rfl rfl rfl) rfl ?_
  refine g_val (s_move rfl rfl) rfl ?_
  refine g_app (s_append 7 rfl rfl rfl rfl rfl (Nat.le_refl _) rfl rfl (by simpa using hla)) rfl ?_
  refine g_val (s_assign rfl rfl) rfl ?_
  refine g_nil ?_
  exact vc_ret (ret_hand [] [(0, 7)] _ (.cons (.tmp rfl) .nil) trivial (.eq (okV_nil _) (by simp [single, AV.view_nil, AV.ren, rnG, rnL]; rfl)) (lehp_cons rfl (leB_row (by simp)) (lehp_nil _ _)) rfl)

theorem set_self {α : Type} {l : List α} {k : Nat} {a : α} (h : l[k]? = some a) : l.set k a = l := by
  apply List.ext_getElem?
  intro i
  rw [List.getElem?_set]
  by_cases e : k = i
  subst e; rw [if_pos rfl, h, if_pos (List.getElem?_eq_some_iff.1 h).1]
  rw [if_neg e]
def boxL (L : List T) (m : Nat) : List AV := L.map .t ++ List.replicate m .any
theorem boxL_get {L : List T} {m i : Nat} {t : T} (h : L[i]? = some t) : (boxL L m)[i]? = some (.t t) := by
  unfold boxL
  rw [List.getElem?_append_left (by simpa using (List.getElem?_eq_some_iff.1 h).1), List.getElem?_map, h]; rfl
theorem boxL_len {L : List T} {m i : Nat} {t : T} (h : L[i]? = some t) : i < (boxL L m).length := (List.getElem?_eq_some_iff.1 (boxL_get (m := m) h)).1
theorem boxL_back {L : List T} {m i : Nat} {t : T} {a : AV} (h : L[i]? = some t) : ((boxL L m).set i a).set i (.t t) = boxL L m := by
  rw [List.set_set]; exact set_self (boxL_get h)
theorem boxL_set {L : List T} {m i : Nat} {t : T} {a : AV} (h : L[i]? = some t) : ((boxL L m).set i a)[i]? = some a := by
  rw [List.getElem?_set, if_pos rfl, if_pos (boxL_len h)]

theorem ok4 {a b c d : Bool} (h1 : a = true) (h2 : b = true) (h3 : c = true) (h4 : d = true) : (a && b && c && d) = true := by subst h1; subst h2; subst h3; subst h4; rfl
theorem okH {us : List Nat} {q : Nat} {B : Blk} {l : List (Nat × Option Blk)} (h1 : memB q us = true) (h2 : subB B.keys us = true) (h3 : okUsH us l = true) : okUsH us ((q, some B) :: l) = true := by
  simp only [okUsH, h1, h2, h3]; rfl
theorem subB_all {m : List Nat} : ∀ {l : List Nat}, (∀ x ∈ l, x ∈ m) → subB l m = true
  | [], _ => rfl
  | x :: l, h => by simp only [subB, memB_iff.2 (h x (List.mem_cons_self ..)), subB_all fun y hy => h y (List.mem_cons_of_mem _ hy)]; rfl
theorem keysL_in {q : Nat} : ∀ {l : List AV}, q ∈ AV.keysL l → ∃ x ∈ l, q ∈ x.keys
  | [], h => by simp [AV.keysL] at h
  | x :: l, h => by
    simp only [AV.keysL, List.mem_append] at h
    rcases h with h | h
    exact ⟨x, List.mem_cons_self .., h⟩
    obtain ⟨y, hy, hq⟩ := keysL_in h
    exact ⟨y, List.mem_cons_of_mem _ hy, hq⟩
theorem bs_keys {L : List T} {m i : Nat} {a : AV} {us : List Nat} (h : subB a.keys us = true) : subB (Blk.box ((boxL L m).set i a)).keys us = true := by
  refine subB_all fun q hq => ?_
  obtain ⟨x, hx, hq2⟩ := keysL_in (show q ∈ AV.keysL ((boxL L m).set i a) from hq)
  rcases List.mem_or_eq_of_mem_set hx with hx | rfl
  rcases List.mem_append.1 hx with hx | hx
  obtain ⟨t, _, rfl⟩ := List.mem_map.1 hx
  simp [AV.keys] at hq2
  rw [(List.mem_replicate.1 hx).2] at hq2
  simp [AV.keys] at hq2
  exact subB_spec h q hq2

theorem c_chunk_copied (c : Chunk) (hb : c.hist.length ≤ 100000) (hs : ∀ e ∈ c.hist, e.length ≤ 1000000) : Con Tryz.prog 98 [sC (chkC c)] [] (sC (chkC c)) [] := by
  refine con_intro [] [] Tryz.func98 rfl Tryz.ntmps98 Tryz.results98 rfl rfl ?_
  intro E
  refine vc_rseq mixed ?_
  refine g_new (s_box 1 rfl rfl rfl rfl) rfl ?_
  refine g_new (s_alloc 2 rfl rfl) rfl ?_
  refine g_nil ?_
  refine vc_rseq mixed ?_
  refine g_val (s_field rfl rfl rfl rfl) rfl ?_
  refine g_val (s_load rfl rfl rfl rfl) rfl ?_
  refine g_new (s_callH [] [(0, 8)] (c_Clone_LV_own c.hist) (evArgs_cons rfl evArgs_nil) trivial rfl (okVL_nil _) rfl rfl rfl) rfl ?_
  refine g_val (s_field rfl rfl rfl rfl) rfl ?_
  refine g_sto (s_store rfl rfl rfl rfl rfl rfl) rfl ?_
  refine g_nil ?_
  refine vc_seq ?_
  refine vc_rseq mixed ?_
  refine g_val (s_field rfl rfl rfl rfl) rfl ?_
  refine g_val (s_load rfl rfl rfl rfl) rfl ?_
  refine g_val (s_lenR rfl rfl (by first | omega | (simp; done) | (simp; omega)) rfl) rfl ?_
  refine g_val (s_move rfl rfl) rfl ?_
  refine g_nil ?_
  refine vc_block ?_
  refine vc_up c.hist.length (fun i => ⟨[(1, .ref 1 0), (2, .ref 2 0), (11, .rows 8 1 0 c.hist.length), (12, AI .i64 c.hist.length), (13, AI .i64 i)], [(1, some (.box [.t (i64 c.vol), .t (i64 c.chunk), .t (i64 c.count), .t (i64 c.size), .t (i64 c.mark), .t (i64 c.floor), .rows 8 1 0 c.hist.length])), (2, some (.box ((chkC chkZ).map .t))), (8, some (.row 1 24 ((c.hist.map versT).map fun t => [t])))], [1, 2, 8]⟩) (fun i => True) (leE_same (by repeat (first | exact letm_nil _ _ | refine letm_cons rfl ?_ ?_ | exact .same _ | exact .nl (by decide) (by decide) | exact .nn | exact .id' rfl | exact .id' (by first | (simp; done) | (simp [verC1]; done)))) (by repeat (first | exact lehp_nil _ _ | refine lehp_cons rfl ?_ ?_ | exact leB_same _ | exact leB_row (by first | rfl | (first | (simp; done) | (simp [verC1]; done))) | exact leB_obj (by first | (simp; done) | (simp [verC1]; done)) | exact leB_nest (by first | rfl | (first | (simp; done) | (simp [verC1]; done))) | refine leB_box ?_ | exact leL_nil | refine leL_cons ?_ ?_ | exact .same _ | exact .nl (by decide) (by decide) | exact .nn | exact .id' rfl | exact .id' (by first | (simp; done) | (simp [verC1]; done)))) rfl) trivial (fun i hi _ => ?_)
  refine vc_rseq mixed ?_
  refine g_val (s_lss rfl rfl rfl) rfl ?_
  refine g_nil ?_
  refine vc_seq ?_
  refine vc_cond rfl (fun hc14 => ?_) (fun hc14 => ?_)
  replace hc14 := of_decide_eq_true hc14
  obtain ⟨e, he⟩ := get_of_lt (l := c.hist) (i := i) (by omega)
  have hes := hs e (List.mem_of_getElem? he)
  have heT : (c.hist.map versT)[i]? = some (versT e) := by rw [List.getElem?_map, he]; rfl
  refine vc_skip ?_
  refine vc_seq ?_
  refine vc_block ?_
  refine vc_rseq mixed ?_
  refine g_val (s_move rfl rfl) rfl ?_
  refine g_val (s_indexR rfl rfl rfl (by omega) (by omega)) rfl ?_
  refine g_val (s_loadR rfl rfl (show _ = some [versT e] from by rw [Nat.zero_add, List.getElem?_map, Int.toNat_natCast, heT]; rfl) rfl rfl) rfl ?_
  refine g_val (s_assign rfl rfl) rfl ?_
  refine g_val (s_assign rfl rfl) rfl ?_
  refine g_nil ?_
  refine vc_rowbox (L := c.hist.map versT) 8 rfl (by simp; omega) (fun m hm => ?_)
  rw [show (c.hist.map versT).map AV.t ++ List.replicate m AV.any = boxL (c.hist.map versT) m from rfl]
  refine vc_rseq mixed ?_
  refine d_val (s_field rfl rfl rfl rfl) rfl ?_
  refine d_val (s_load rfl rfl rfl rfl) rfl ?_
  refine d_val (s_move rfl rfl) rfl ?_
  refine d_val (s_move rfl rfl) rfl ?_
  refine d_new (s_callH [] [(0, 22)] (c_Clone_Ver_own e) (evArgs_cons rfl evArgs_nil) trivial rfl (okVL_nil _) rfl rfl rfl) rfl ?_
  refine d_val (s_indexR rfl rfl rfl (by omega) (by omega)) rfl ?_
  refine d_sto (s_storeX rfl (show (0 + (i : Int).toNat) * 1 + 0 = i by omega) rfl rfl rfl rfl (setO_set (boxL_len heT))) rfl ?_
  refine d_nil rfl ?_
  refine vc_rseq mixed ?_
  refine g_val (s_field rfl rfl rfl rfl) rfl ?_
  refine g_val (s_load rfl rfl rfl rfl) rfl ?_
  refine g_val (s_move rfl rfl) rfl ?_
  refine g_val (s_indexR rfl rfl rfl (by omega) (by omega)) rfl ?_
  refine g_val (s_loadX rfl (show (0 + (i : Int).toNat) * 1 + 0 = i by omega) rfl (boxL_set heT) rfl) rfl ?_
  refine g_val (s_lenR rfl rfl (by first | omega | (simp; done) | (simp; omega)) rfl) rfl ?_
  refine g_val (s_move rfl rfl) rfl ?_
  refine g_nil ?_
  refine vc_block ?_
  refine vc_up e.length (fun k => ⟨[(1, .ref 1 0), (2, .ref 2 0), (3, AI .i64 i), (11, .rows 8 1 0 c.hist.length), (12, AI .i64 c.hist.length), (13, AI .i64 i), (29, AI .i64 e.length), (30, AI .i64 k)], [(1, some (.box [.t (i64 c.vol), .t (i64 c.chunk), .t (i64 c.count), .t (i64 c.size), .t (i64 c.mark), .t (i64 c.floor), .rows 8 1 0 c.hist.length])), (2, some (.box ((chkC chkZ).map .t))), (8, some (.box ((boxL (c.hist.map versT) m).set i (.rows 22 2 0 e.length)))), (22, some (.row 2 32 (e.map verC)))], [1, 2, 8, 22]⟩) (fun k => True) (leE_same (by repeat (first | exact letm_nil _ _ | refine letm_cons rfl ?_ ?_ | exact .same _ | exact .nl (by decide) (by decide) | exact .nn | exact .id' rfl | exact .id' (by simp; done))) (by repeat (first | exact lehp_nil _ _ | refine lehp_cons rfl ?_ ?_ | exact leB_same _ | exact leB_row (by first | rfl | (simp; done)) | exact leB_obj (by simp; done) | exact leB_nest (by first | rfl | (simp; done)) | refine leB_box ?_ | exact leL_nil | refine leL_cons ?_ ?_ | exact .same _ | exact .nl (by decide) (by decide) | exact .nn | exact .id' rfl | exact .id' (by simp; done))) (ok4 rfl rfl rfl (okH rfl rfl (okH rfl rfl (okH rfl (bs_keys rfl) (okH rfl rfl rfl)))))) trivial (fun k hk _ => ?_)
  refine vc_rseq mixed ?_
  refine g_val (s_lss rfl rfl rfl) rfl ?_
  refine g_nil ?_
  refine vc_seq ?_
  refine vc_cond rfl (fun hc31 => ?_) (fun hc31 => ?_)
  replace hc31 := of_decide_eq_true hc31
  obtain ⟨x, hx⟩ := get_of_lt (l := e) (i := k) (by omega)
  have hxv : (e.map verC)[0 + (k : Int).toNat]? = some (verC x) := by rw [Nat.zero_add, List.getElem?_map, show (k : Int).toNat = k from rfl, hx]; rfl
  refine vc_skip ?_
  refine vc_seq ?_
  refine vc_block ?_
  refine vc_rseq mixed ?_
  refine g_val (s_move rfl rfl) rfl ?_
  refine g_val (s_assign rfl rfl) rfl ?_
  refine g_nil ?_
  refine vc_region mixed ?_
  refine d_val (s_field rfl rfl rfl rfl) rfl ?_
  refine d_val (s_load rfl rfl rfl rfl) rfl ?_
  refine d_val (s_move rfl rfl) rfl ?_
  refine d_val (s_indexR rfl rfl rfl (by omega) (by omega)) rfl ?_
  refine d_val (s_loadX rfl (show (0 + (i : Int).toNat) * 1 + 0 = i by omega) rfl (boxL_set heT) rfl) rfl ?_
  refine d_val (s_move rfl rfl) rfl ?_
  refine d_val (s_field rfl rfl rfl rfl) rfl ?_
  refine d_val (s_load rfl rfl rfl rfl) rfl ?_
  refine d_val (s_move rfl rfl) rfl ?_
  refine d_val (s_indexR rfl rfl rfl (by omega) (by omega)) rfl ?_
  refine d_val (s_loadX rfl (show (0 + (i : Int).toNat) * 1 + 0 = i by omega) rfl (boxL_set heT) rfl) rfl ?_
  refine d_val (s_move rfl rfl) rfl ?_
  refine d_val (s_indexR rfl rfl rfl (by omega) (by omega)) rfl ?_
  refine d_val (s_fieldR rfl rfl rfl rfl) rfl ?_
  refine d_val (s_loadR rfl rfl (hxv) rfl rfl) rfl ?_
  refine d_val (s_call [] (c_Clone_byte x.data) (evArgs_cons rfl evArgs_nil) trivial rfl (okVL_nil _) rfl (.inl rfl) rfl) rfl ?_
  refine d_val (s_indexR rfl rfl rfl (by omega) (by omega)) rfl ?_
  refine d_val (s_fieldR rfl rfl rfl rfl) rfl ?_
  refine d_sto (s_storeR rfl rfl rfl rfl rfl (hxv) rfl) rfl ?_
  refine d_nil rfl ?_
  refine vc_region mixed ?_
  refine g_val (s_add rfl rfl rfl (by simp only [inI, kMin, kMax]; omega)) rfl ?_
  refine g_val (s_move rfl rfl) rfl ?_
  refine g_nil ?_
  exact ⟨by omega, trivial, (leE_same (by repeat (first | exact letm_nil _ _ | refine letm_cons rfl ?_ ?_ | exact .same _ | exact .nl (by decide) (by decide) | exact .nn | exact .id' rfl | exact .id' (by first | (simp; done) | exact set_self hxv))) (by repeat (first | exact lehp_nil _ _ | refine lehp_cons rfl ?_ ?_ | exact leB_same _ | exact leB_row (by first | rfl | (first | (simp; done) | exact set_self hxv)) | exact leB_obj (by first | (simp; done) | exact set_self hxv) | exact leB_nest (by first | rfl | (first | (simp; done) | exact set_self hxv)) | refine leB_box ?_ | exact leL_nil | refine leL_cons ?_ ?_ | exact .same _ | exact .nl (by decide) (by decide) | exact .nn | exact .id' rfl | exact .id' (by first | (simp; done) | exact set_self hxv))) (ok4 rfl rfl rfl (okH rfl rfl (okH rfl rfl (okH rfl (bs_keys rfl) (okH rfl rfl rfl))))))⟩
  replace hc31 := of_decide_eq_false hc31
  simp only [Int.not_lt] at hc31
  refine vc_exit ?_
  refine vc_freezeB (q0 := 8) i rfl (by rw [nthL_eq]; exact boxL_set heT) rfl (by simp) ?_
  refine vc_boxrow 8 24 m (c.hist.map versT) rfl (boxL_back heT) hm ?_
  refine vc_region mixed ?_
  refine g_val (s_add rfl rfl rfl (by simp only [inI, kMin, kMax]; omega)) rfl ?_
  refine g_val (s_move rfl rfl) rfl ?_
  refine g_nil ?_
  exact ⟨by omega, trivial, (leE_same (by repeat (first | exact letm_nil _ _ | refine letm_cons rfl ?_ ?_ | exact .same _ | exact .nl (by decide) (by decide) | exact .nn | exact .id' rfl | exact .id' (by simp; done))) (by repeat (first | exact lehp_nil _ _ | refine lehp_cons rfl ?_ ?_ | exact leB_same _ | exact leB_row (by first | rfl | (simp; done)) | exact leB_obj (by simp; done) | exact leB_nest (by first | rfl | (simp; done)) | refine leB_box ?_ | exact leL_nil | refine leL_cons ?_ ?_ | exact .same _ | exact .nl (by decide) (by decide) | exact .nn | exact .id' rfl | exact .id' (by simp; done))) rfl)⟩
  replace hc14 := of_decide_eq_false hc14
  simp only [Int.not_lt] at hc14
  refine vc_exit ?_
  refine vc_rseq mixed ?_
  refine g_val (s_loadA rfl rfl rfl rfl rfl) rfl ?_
  refine g_sto (s_store rfl rfl rfl rfl rfl rfl) rfl ?_
  refine g_nil ?_
  exact vc_ret (ret_le [(8, _)] _ (.cons (.agg rfl rfl rfl rfl) .nil) ⟨rfl, trivial⟩ (by repeat (first | exact leL_nil | refine leL_cons ?_ ?_ | exact LeV.tt rfl | exact .nl (by decide) (by decide) | exact .nn | refine LeV.tupL ?_ | refine LeV.aggL ?_ | exact .eq (by first | exact trivial | (simp [AV.okV, okR, lkB]; done) | (simp [AV.okV, okR, lkB]; omega)) (by first | rfl | (simp [AV.view, viewR, lkB, AV.ren, List.take_of_length_le]; done) | (simp [AV.view, viewR, lkB, AV.ren, List.take_of_length_le]; simp [histT, i64, List.take_of_length_le]; done)))) rfl)

theorem c_chunk_within (n a b : Int) : Con Tryz.prog 115 [AI .i64 n, AI .i64 a, AI .i64 b] [] (AB (decide (a ≤ n ∧ n ≤ b))) [] := by
  refine con_intro [] [] Tryz.func115 rfl Tryz.ntmps115 Tryz.results115 rfl rfl ?_
  intro E
  refine vc_rseq mixed ?_
  refine g_val (s_assign rfl rfl) rfl ?_
  refine g_nil ?_
  refine vc_rseq mixed ?_
  refine g_val (s_move rfl rfl) rfl ?_
  refine g_val (s_move rfl rfl) rfl ?_
  refine g_val (s_geq rfl rfl rfl) rfl ?_
  refine g_val (s_move rfl rfl) rfl ?_
  refine g_probe (j := 10) rfl (fun c hg10 => ?_)
  cases c
  rw [← hg10]; replace hg10 := hg10.symm; replace hg10 := of_decide_eq_false hg10
  simp only [Int.not_le] at hg10
  refine gn_val rfl rfl rfl rfl rfl rfl (by decide) ?_
  refine gn_val rfl rfl rfl rfl rfl rfl (by decide) ?_
  refine gn_val rfl rfl rfl rfl rfl rfl (by decide) ?_
  refine g_val (s_pickF rfl rfl rfl) rfl ?_
  refine g_val (s_assign rfl rfl) rfl ?_
  refine g_nil ?_
  exact vc_ret (ret_of _ (.cons (.tmp rfl) .nil) (by first | (exact AB_fd (by omega)) | (exact AB_dd (by omega))) rfl)
  rw [← hg10]; replace hg10 := hg10.symm; replace hg10 := of_decide_eq_true hg10
  refine gq_val (s_move rfl rfl) rfl rfl rfl rfl ?_
  refine gq_val (s_move rfl rfl) rfl rfl rfl rfl ?_
  refine gq_val (s_leq rfl rfl rfl) rfl rfl rfl rfl ?_
  refine g_val (s_pickT rfl rfl rfl) rfl ?_
  refine g_val (s_assign rfl rfl) rfl ?_
  refine g_nil ?_
  exact vc_ret (ret_of _ (.cons (.tmp rfl) .nil) (by first | (exact AB_fd (by omega)) | (exact AB_dd (by omega))) rfl)

theorem c_chunk_shape_0 : Con Tryz.prog 114 [AI .i64 0, AI .i64 0, AI .i64 0, AI .i64 0] [] (AB false) [] := by
  refine con_intro [] [] Tryz.func114 rfl Tryz.ntmps114 Tryz.results114 rfl rfl ?_
  intro E
  refine vc_rseq mixed ?_
  refine g_val (s_assign rfl rfl) rfl ?_
  refine g_nil ?_
  refine vc_rseq mixed ?_
  refine g_val (s_move rfl rfl) rfl ?_
  refine g_val (s_call [] (c_chunk_within ..) (evArgs_cons rfl (evArgs_cons rfl (evArgs_cons rfl evArgs_nil))) trivial rfl (okVL_nil _) rfl (.inl rfl) rfl) rfl ?_
  refine g_val (s_move rfl rfl) rfl ?_
  refine g_probe (j := 11) rfl (fun c hg11 => ?_)
  cases c
  rw [← hg11]; replace hg11 := hg11.symm; replace hg11 := of_decide_eq_false hg11
  refine gn_val rfl rfl rfl rfl rfl rfl (by decide) ?_
  refine gn_val rfl rfl rfl rfl rfl rfl (by decide) ?_
  refine g_val (s_pickF rfl rfl rfl) rfl ?_
  refine g_val (s_move rfl rfl) rfl ?_
  refine gn_val rfl rfl rfl rfl rfl rfl (by decide) ?_
  refine gn_val rfl rfl rfl rfl rfl rfl (by decide) ?_
  refine g_val (s_pickF rfl rfl rfl) rfl ?_
  refine g_val (s_move rfl rfl) rfl ?_
  refine gn_val rfl rfl rfl rfl rfl rfl (by decide) ?_
  refine gn_val rfl rfl rfl rfl rfl rfl (by decide) ?_
  refine g_val (s_pickF rfl rfl rfl) rfl ?_
  refine g_val (s_assign rfl rfl) rfl ?_
  refine g_nil ?_
  exact vc_ret (ret_of _ (.cons (.tmp rfl) .nil) rfl rfl)
  rw [← hg11]; replace hg11 := hg11.symm; replace hg11 := of_decide_eq_true hg11
  refine gq_val (s_move rfl rfl) rfl rfl rfl rfl ?_
  refine gq_val (s_call [] (c_chunk_within ..) (evArgs_cons rfl (evArgs_cons rfl (evArgs_cons rfl evArgs_nil))) trivial rfl (okVL_nil _) rfl (.inl rfl) rfl) rfl rfl rfl rfl ?_
  refine g_val (s_pickT rfl rfl rfl) rfl ?_
  refine g_val (s_move rfl rfl) rfl ?_
  refine g_probe (j := 15) rfl (fun c hg15 => ?_)
  cases c
  rw [← hg15]; replace hg15 := hg15.symm; replace hg15 := of_decide_eq_false hg15
  refine gn_val rfl rfl rfl rfl rfl rfl (by decide) ?_
  refine gn_val rfl rfl rfl rfl rfl rfl (by decide) ?_
  refine g_val (s_pickF rfl rfl rfl) rfl ?_
  refine g_val (s_move rfl rfl) rfl ?_
  refine gn_val rfl rfl rfl rfl rfl rfl (by decide) ?_
  refine gn_val rfl rfl rfl rfl rfl rfl (by decide) ?_
  refine g_val (s_pickF rfl rfl rfl) rfl ?_
  refine g_val (s_assign rfl rfl) rfl ?_
  refine g_nil ?_
  exact vc_ret (ret_of _ (.cons (.tmp rfl) .nil) rfl rfl)
  rw [← hg15]; replace hg15 := hg15.symm; replace hg15 := of_decide_eq_true hg15
  refine gq_val (s_move rfl rfl) rfl rfl rfl rfl ?_
  refine gq_val (s_call [] (c_chunk_within ..) (evArgs_cons rfl (evArgs_cons rfl (evArgs_cons rfl evArgs_nil))) trivial rfl (okVL_nil _) rfl (.inl rfl) rfl) rfl rfl rfl rfl ?_
  refine g_val (s_pickT rfl rfl rfl) rfl ?_
  refine g_val (s_move rfl rfl) rfl ?_
  refine g_probe (j := 19) rfl (fun c hg19 => ?_)
  cases c
  rw [← hg19]; replace hg19 := hg19.symm; replace hg19 := of_decide_eq_false hg19
  refine gn_val rfl rfl rfl rfl rfl rfl (by decide) ?_
  refine gn_val rfl rfl rfl rfl rfl rfl (by decide) ?_
  refine g_val (s_pickF rfl rfl rfl) rfl ?_
  refine g_val (s_assign rfl rfl) rfl ?_
  refine g_nil ?_
  exact vc_ret (ret_of _ (.cons (.tmp rfl) .nil) rfl rfl)
  rw [← hg19]; replace hg19 := hg19.symm; replace hg19 := of_decide_eq_true hg19
  refine gq_val (s_move rfl rfl) rfl rfl rfl rfl ?_
  refine gq_val (s_call [] (c_chunk_within ..) (evArgs_cons rfl (evArgs_cons rfl (evArgs_cons rfl evArgs_nil))) trivial rfl (okVL_nil _) rfl (.inl rfl) rfl) rfl rfl rfl rfl ?_
  refine g_val (s_pickT rfl rfl rfl) rfl ?_
  refine g_val (s_assign rfl rfl) rfl ?_
  refine g_nil ?_
  exact vc_ret (ret_of _ (.cons (.tmp rfl) .nil) rfl rfl)

end Go.Eng

set_option maxHeartbeats 8000000
namespace Go.Eng
open Go.Proofs

theorem c_chunk_PushRight_0 : Con Tryz.prog 99 [sC (pshC pshZ)] [] (AB false) [] := by
  refine con_intro [] [] Tryz.func99 rfl Tryz.ntmps99 Tryz.results99 rfl rfl ?_
  intro E
  refine vc_rseq mixed ?_
  refine g_new (s_box 1 rfl rfl rfl rfl) rfl ?_
  refine g_val (s_assign rfl rfl) rfl ?_
  refine g_nil ?_
  refine vc_seq ?_
  refine vc_rseq mixed ?_
  refine g_val (s_field rfl rfl rfl rfl) rfl ?_
  refine g_val (s_load rfl rfl rfl rfl) rfl ?_
  refine g_val (s_field rfl rfl rfl rfl) rfl ?_
  refine g_val (s_load rfl rfl rfl rfl) rfl ?_
  refine g_val (s_field rfl rfl rfl rfl) rfl ?_
  refine g_val (s_load rfl rfl rfl rfl) rfl ?_
  refine g_val (s_field rfl rfl rfl rfl) rfl ?_
  refine g_val (s_load rfl rfl rfl rfl) rfl ?_
  refine g_val (s_call [] (c_chunk_shape_0) (evArgs_cons rfl (evArgs_cons rfl (evArgs_cons rfl (evArgs_cons rfl evArgs_nil)))) trivial rfl (okVL_nil _) rfl (.inl rfl) rfl) rfl ?_
  refine g_val (s_not rfl rfl) rfl ?_
  refine g_val (s_move rfl rfl) rfl ?_
  refine g_probe (j := 16) rfl (fun c hg16 => ?_)
  rw [← hg16, hg16.trans (show _ = true from rfl)]
  clear hg16 c
  refine gn_val rfl rfl rfl rfl rfl rfl (by decide) ?_
  refine gn_val rfl rfl rfl rfl rfl rfl (by decide) ?_
  refine gn_val rfl rfl rfl rfl rfl rfl (by decide) ?_
  refine gn_val rfl rfl rfl rfl rfl rfl (by decide) ?_
  refine g_val (s_pickT rfl rfl rfl) rfl ?_
  refine g_val (s_move rfl rfl) rfl ?_
  refine gn_val rfl rfl rfl rfl rfl rfl (by decide) ?_
  refine gn_val rfl rfl rfl rfl rfl rfl (by decide) ?_
  refine gn_val rfl rfl rfl rfl rfl rfl (by decide) ?_
  refine gn_val rfl rfl rfl rfl rfl rfl (by decide) ?_
  refine gn_val rfl rfl rfl rfl rfl rfl (by decide) ?_
  refine gn_val rfl rfl rfl rfl rfl rfl (by decide) ?_
  refine g_val (s_pickT rfl rfl rfl) rfl ?_
  refine g_val (s_move rfl rfl) rfl ?_
  refine gn_val rfl rfl rfl rfl rfl rfl (by decide) ?_
  refine gn_val rfl rfl rfl rfl rfl rfl (by decide) ?_
  refine gn_val rfl rfl rfl rfl rfl rfl (by decide) ?_
  refine gn_val rfl rfl rfl rfl rfl rfl (by decide) ?_
  refine gn_val rfl rfl rfl rfl rfl rfl (by decide) ?_
  refine gn_val rfl rfl rfl rfl rfl rfl (by decide) ?_
  refine g_val (s_pickT rfl rfl rfl) rfl ?_
  refine g_val (s_move rfl rfl) rfl ?_
  refine gn_val rfl rfl rfl rfl rfl rfl (by decide) ?_
  refine gn_val rfl rfl rfl rfl rfl rfl (by decide) ?_
  refine gn_val rfl rfl rfl rfl rfl rfl (by decide) ?_
  refine gn_val rfl rfl rfl rfl rfl rfl (by decide) ?_
  refine g_val (s_pickT rfl rfl rfl) rfl ?_
  refine g_nil ?_
  refine vc_cond rfl (fun _ => ?_) (fun h => by cases h)
  refine vc_rseq mixed ?_
  refine g_val (s_assign rfl rfl) rfl ?_
  refine g_nil ?_
  exact vc_ret (ret_of _ (.cons (.tmp rfl) .nil) rfl rfl)

structure chkSm (c : Chunk) : Prop where
  len : c.hist.length ≤ 100000
  vers : ∀ e ∈ c.hist, e.length ≤ 1000000 ∧ e.Pairwise fun a b => a.seq ≤ b.seq
  cnt : c.count ≤ 1000
theorem chkSm_Z : chkSm chkZ := ⟨by simp [chkZ], by simp [chkZ], by simp [chkZ]⟩

theorem c_chunk_Apply_0 (c : Chunk) (hc : chkSm c) : Con Tryz.prog 73 [sC (chkC c), sC (pshC pshZ)] [] (sC (chkC c)) [] := by
  refine con_intro [] [] Tryz.func73 rfl Tryz.ntmps73 Tryz.results73 rfl rfl ?_
  intro E
  refine vc_rseq mixed ?_
  refine g_new (s_box 2 rfl rfl rfl rfl) rfl ?_
  refine g_new (s_box 3 rfl rfl rfl rfl) rfl ?_
  refine g_new (s_alloc 4 rfl rfl) rfl ?_
  refine g_nil ?_
  refine vc_rseq mixed ?_
  refine g_val (s_loadA rfl rfl rfl rfl rfl) rfl ?_
  refine g_val (s_call [] (c_chunk_copied c hc.len (fun e he => (hc.vers e he).1)) (evArgs_cons rfl evArgs_nil) trivial rfl (okVL_nil _) rfl (.inl rfl) rfl) rfl ?_
  refine g_sto (s_store rfl rfl rfl rfl rfl rfl) rfl ?_
  refine g_nil ?_
  refine vc_seq ?_
  refine vc_rseq mixed ?_
  refine g_val (s_loadA rfl rfl rfl rfl rfl) rfl ?_
  refine g_val (s_call [] (c_chunk_PushRight_0) (evArgs_cons rfl evArgs_nil) trivial rfl (okVL_nil _) rfl (.inl rfl) rfl) rfl ?_
  refine g_val (s_not rfl rfl) rfl ?_
  refine g_val (s_move rfl rfl) rfl ?_
  refine g_probe (j := 16) rfl (fun c hg16 => ?_)
  rw [← hg16, hg16.trans (show _ = true from rfl)]
  clear hg16 c
  refine gn_val rfl rfl rfl rfl rfl rfl (by decide) ?_
  refine gn_val rfl rfl rfl rfl rfl rfl (by decide) ?_
  refine gn_val rfl rfl rfl rfl rfl rfl (by decide) ?_
  refine gn_val rfl rfl rfl rfl rfl rfl (by decide) ?_
  refine gn_val rfl rfl rfl rfl rfl rfl (by decide) ?_
  refine g_val (s_pickT rfl rfl rfl) rfl ?_
  refine g_val (s_move rfl rfl) rfl ?_
  refine gn_val rfl rfl rfl rfl rfl rfl (by decide) ?_
  refine gn_val rfl rfl rfl rfl rfl rfl (by decide) ?_
  refine gn_val rfl rfl rfl rfl rfl rfl (by decide) ?_
  refine gn_val rfl rfl rfl rfl rfl rfl (by decide) ?_
  refine gn_val rfl rfl rfl rfl rfl rfl (by decide) ?_
  refine g_val (s_pickT rfl rfl rfl) rfl ?_
  refine g_val (s_move rfl rfl) rfl ?_
  refine gn_val rfl rfl rfl rfl rfl rfl (by decide) ?_
  refine gn_val rfl rfl rfl rfl rfl rfl (by decide) ?_
  refine gn_val rfl rfl rfl rfl rfl rfl (by decide) ?_
  refine gn_val rfl rfl rfl rfl rfl rfl (by decide) ?_
  refine gn_val rfl rfl rfl rfl rfl rfl (by decide) ?_
  refine g_val (s_pickT rfl rfl rfl) rfl ?_
  refine g_val (s_move rfl rfl) rfl ?_
  refine gn_val rfl rfl rfl rfl rfl rfl (by decide) ?_
  refine gn_val rfl rfl rfl rfl rfl rfl (by decide) ?_
  refine gn_val rfl rfl rfl rfl rfl rfl (by decide) ?_
  refine gn_val rfl rfl rfl rfl rfl rfl (by decide) ?_
  refine gn_val rfl rfl rfl rfl rfl rfl (by decide) ?_
  refine g_val (s_pickT rfl rfl rfl) rfl ?_
  refine g_val (s_move rfl rfl) rfl ?_
  refine gn_val rfl rfl rfl rfl rfl rfl (by decide) ?_
  refine gn_val rfl rfl rfl rfl rfl rfl (by decide) ?_
  refine gn_val rfl rfl rfl rfl rfl rfl (by decide) ?_
  refine gn_val rfl rfl rfl rfl rfl rfl (by decide) ?_
  refine gn_val rfl rfl rfl rfl rfl rfl (by decide) ?_
  refine g_val (s_pickT rfl rfl rfl) rfl ?_
  refine g_nil ?_
  refine vc_cond rfl (fun _ => ?_) (fun h => by cases h)
  refine vc_rseq mixed ?_
  refine g_val (s_loadA rfl rfl rfl rfl rfl) rfl ?_
  refine g_sto (s_store rfl rfl rfl rfl rfl rfl) rfl ?_
  refine g_nil ?_
  exact vc_ret (ret_le [] _ (.cons (.agg rfl rfl rfl rfl) .nil) trivial (by repeat (first | exact leL_nil | refine leL_cons ?_ ?_ | exact LeV.tt rfl | exact .nl (by decide) (by decide) | exact .nn | refine LeV.tupL ?_ | refine LeV.aggL ?_ | exact .eq (by first | exact trivial | (simp [AV.okV, okR, lkB]; done) | (simp [AV.okV, okR, lkB]; omega)) (by first | rfl | (simp [AV.view, viewR, lkB, AV.ren, List.take_of_length_le]; done) | (simp [AV.view, viewR, lkB, AV.ren, List.take_of_length_le]; done)))) rfl)

def pshNA : AV := .agg [AI .i64 0, AI .i64 0, AI .i64 0, AI .i64 0, AI .i64 0, AI .i64 0, AI .i64 0, .t (.k (.slice none 0 0))]
theorem pshNA_le : LeV [] (rnG []) pshNA (sC (pshC pshZ)) := LeV.aggL (leL_cons (.same _) (leL_cons (.same _) (leL_cons (.same _) (leL_cons (.same _) (leL_cons (.same _) (leL_cons (.same _) (leL_cons (.same _) (leL_cons (.nl (by decide) (by decide)) leL_nil))))))))

theorem c_export_copied (c : Chunk) (hc : chkSm c) : Con Tryz.prog 44 [sC (chkC c)] [] (sC (chkC c)) [] := by
  refine con_intro [] [] Tryz.func44 rfl Tryz.ntmps44 Tryz.results44 rfl rfl ?_
  intro E
  have hA : Con Tryz.prog 73 [sC (chkC c), pshNA] [] (sC (chkC c)) [] := (c_chunk_Apply_0 c hc).args (leL_cons (.same _) (leL_cons pshNA_le leL_nil))
  refine vc_rseq mixed ?_
  refine g_new (s_box 1 rfl rfl rfl rfl) rfl ?_
  refine g_new (s_alloc 2 rfl rfl) rfl ?_
  refine g_nil ?_
  refine vc_rseq mixed ?_
  refine g_val (s_loadA rfl rfl rfl rfl rfl) rfl ?_
  refine g_val (s_build evArgs_nil rfl rfl rfl) rfl ?_
  refine g_val (s_call [] (hA) (evArgs_cons rfl (evArgs_cons rfl evArgs_nil)) trivial rfl (okVL_nil _) rfl (.inl rfl) rfl) rfl ?_
  refine g_sto (s_store rfl rfl rfl rfl rfl rfl) rfl ?_
  refine g_nil ?_
  exact vc_ret (ret_le [] _ (.cons (.agg rfl rfl rfl rfl) .nil) trivial (by repeat (first | exact leL_nil | refine leL_cons ?_ ?_ | exact LeV.tt rfl | exact .nl (by decide) (by decide) | exact .nn | refine LeV.tupL ?_ | refine LeV.aggL ?_ | exact .eq (by first | exact trivial | (simp [AV.okV, okR, lkB]; done) | (simp [AV.okV, okR, lkB]; omega)) (by first | rfl | (simp [AV.view, viewR, lkB, AV.ren, List.take_of_length_le]; done) | (simp [AV.view, viewR, lkB, AV.ren, List.take_of_length_le]; done)))) rfl)

def readK (c : Chunk) (b t : Int) : List Int × Int :=
  if b < 0 ∨ c.count ≤ b ∨ (c.hist.length : Int) ≤ b then ([], 28) else if t < c.floor then ([], 30) else if c.mark < t then ([], 32)
  else if (atF (c.hist.getD b.toNat []) t).2 = true then ((atF (c.hist.getD b.toNat []) t).1, 0) else (zerB (min (max c.size 0) 32).toNat, 0)

theorem c_chunk_Read (c : Chunk) (b t : Int) (hc : chkSm c) : Con Tryz.prog 68 [sC (chkC c), AI .i64 b, AI .i64 t] [] (.tup [.t (bytesT (readK c b t).1), AI .i64 (readK c b t).2]) [] := by
  refine con_intro [] [] Tryz.func68 rfl Tryz.ntmps68 Tryz.results68 rfl rfl ?_
  intro E
  obtain ⟨z, hz⟩ : ∃ z : Nat, (min (max c.size 0) 32).toNat = z := ⟨_, rfl⟩
  have hz' : min (max c.size 0) 32 = (z : Int) := by omega
  have hcl := hc.len
  refine vc_rseq mixed ?_
  refine g_new (s_box 3 rfl rfl rfl rfl) rfl ?_
  refine g_val (s_assign rfl rfl) rfl ?_
  refine g_val (s_assign rfl rfl) rfl ?_
  refine g_nil ?_
  refine vc_seq ?_
  refine vc_block ?_
  refine vc_cut (⟨[(1, AI .i64 b), (2, AI .i64 t), (3, .ref 3 0), (6, .t (.k (.slice none 0 0))), (7, AI .i64 0), (10, AB (decide (b < 0 ∨ c.count ≤ b ∨ (c.hist.length : Int) ≤ b)))], [(3, some (.box ((chkC c).map .t)))], [3]⟩) ?_ ?_
  refine vc_region mixed ?_
  refine g_val (s_move rfl rfl) rfl ?_
  refine g_val (s_lss rfl rfl rfl) rfl ?_
  refine g_val (s_move rfl rfl) rfl ?_
  refine g_probe (j := 13) rfl (fun c hg13 => ?_)
  cases c
  rw [← hg13]; replace hg13 := hg13.symm; replace hg13 := of_decide_eq_false hg13
  simp only [Int.not_lt] at hg13
  refine gq_val (s_move rfl rfl) rfl rfl rfl rfl ?_
  refine gq_val (s_field rfl rfl rfl rfl) rfl rfl rfl rfl ?_
  refine gq_val (s_load rfl rfl rfl rfl) rfl rfl rfl rfl ?_
  refine gq_val (s_geq rfl rfl rfl) rfl rfl rfl rfl ?_
  refine g_val (s_pickF rfl rfl rfl) rfl ?_
  refine g_val (s_move rfl rfl) rfl ?_
  refine g_probe (j := 19) rfl (fun c hg19 => ?_)
  cases c
  rw [← hg19]; replace hg19 := hg19.symm; replace hg19 := of_decide_eq_false hg19
  simp only [Int.not_le] at hg19
  refine gq_val (s_move rfl rfl) rfl rfl rfl rfl ?_
  refine gq_val (s_field rfl rfl rfl rfl) rfl rfl rfl rfl ?_
  refine gq_val (s_load rfl rfl rfl rfl) rfl rfl rfl rfl ?_
  refine gq_val (s_len rfl rfl) rfl rfl rfl rfl ?_
  refine gq_val (s_geq rfl rfl rfl) rfl rfl rfl rfl ?_
  refine g_val (s_pickF rfl rfl rfl) rfl ?_
  refine g_val (s_assign rfl rfl) rfl ?_
  refine g_nil ?_
  exact (leE_same (by repeat (first | exact letm_nil _ _ | refine letm_cons rfl ?_ ?_ | exact .same _ | exact .nl (by decide) (by decide) | exact .nn | exact .id' rfl | exact .id' (by first | (exact AB_td (by first | omega | (simp only [List.length_map] at *; omega))) | (exact AB_dd (by simp only [List.length_map]; omega))))) (by repeat (first | exact lehp_nil _ _ | refine lehp_cons rfl ?_ ?_ | exact leB_same _ | exact leB_row (by first | rfl | (first | (exact AB_td (by first | omega | (simp only [List.length_map] at *; omega))) | (exact AB_dd (by simp only [List.length_map]; omega)))) | exact leB_obj (by first | (exact AB_td (by first | omega | (simp only [List.length_map] at *; omega))) | (exact AB_dd (by simp only [List.length_map]; omega))) | exact leB_nest (by first | rfl | (first | (exact AB_td (by first | omega | (simp only [List.length_map] at *; omega))) | (exact AB_dd (by simp only [List.length_map]; omega)))) | refine leB_box ?_ | exact leL_nil | refine leL_cons ?_ ?_ | exact .same _ | exact .nl (by decide) (by decide) | exact .nn | exact .id' rfl | exact .id' (by first | (exact AB_td (by first | omega | (simp only [List.length_map] at *; omega))) | (exact AB_dd (by simp only [List.length_map]; omega))))) rfl)
  rw [← hg19]; replace hg19 := hg19.symm; replace hg19 := of_decide_eq_true hg19
  refine gn_val rfl rfl rfl rfl rfl rfl (by decide) ?_
  refine gn_val rfl rfl rfl rfl rfl rfl (by decide) ?_
  refine gn_val rfl rfl rfl rfl rfl rfl (by decide) ?_
  refine gn_val rfl rfl rfl rfl rfl rfl (by decide) ?_
  refine gn_val rfl rfl rfl rfl rfl rfl (by decide) ?_
  refine g_val (s_pickT rfl rfl rfl) rfl ?_
  refine g_val (s_assign rfl rfl) rfl ?_
  refine g_nil ?_
  exact (leE_same (by repeat (first | exact letm_nil _ _ | refine letm_cons rfl ?_ ?_ | exact .same _ | exact .nl (by decide) (by decide) | exact .nn | exact .id' rfl | exact .id' (by first | (exact AB_td (by first | omega | (simp only [List.length_map] at *; omega))) | (exact AB_dd (by simp only [List.length_map]; omega))))) (by repeat (first | exact lehp_nil _ _ | refine lehp_cons rfl ?_ ?_ | exact leB_same _ | exact leB_row (by first | rfl | (first | (exact AB_td (by first | omega | (simp only [List.length_map] at *; omega))) | (exact AB_dd (by simp only [List.length_map]; omega)))) | exact leB_obj (by first | (exact AB_td (by first | omega | (simp only [List.length_map] at *; omega))) | (exact AB_dd (by simp only [List.length_map]; omega))) | exact leB_nest (by first | rfl | (first | (exact AB_td (by first | omega | (simp only [List.length_map] at *; omega))) | (exact AB_dd (by simp only [List.length_map]; omega)))) | refine leB_box ?_ | exact leL_nil | refine leL_cons ?_ ?_ | exact .same _ | exact .nl (by decide) (by decide) | exact .nn | exact .id' rfl | exact .id' (by first | (exact AB_td (by first | omega | (simp only [List.length_map] at *; omega))) | (exact AB_dd (by simp only [List.length_map]; omega))))) rfl)
  rw [← hg13]; replace hg13 := hg13.symm; replace hg13 := of_decide_eq_true hg13
  refine gn_val rfl rfl rfl rfl rfl rfl (by decide) ?_
  refine gn_val rfl rfl rfl rfl rfl rfl (by decide) ?_
  refine gn_val rfl rfl rfl rfl rfl rfl (by decide) ?_
  refine gn_val rfl rfl rfl rfl rfl rfl (by decide) ?_
  refine g_val (s_pickT rfl rfl rfl) rfl ?_
  refine g_val (s_move rfl rfl) rfl ?_
  refine gn_val rfl rfl rfl rfl rfl rfl (by decide) ?_
  refine gn_val rfl rfl rfl rfl rfl rfl (by decide) ?_
  refine gn_val rfl rfl rfl rfl rfl rfl (by decide) ?_
  refine gn_val rfl rfl rfl rfl rfl rfl (by decide) ?_
  refine gn_val rfl rfl rfl rfl rfl rfl (by decide) ?_
  refine g_val (s_pickT rfl rfl rfl) rfl ?_
  refine g_val (s_assign rfl rfl) rfl ?_
  refine g_nil ?_
  exact (leE_same (by repeat (first | exact letm_nil _ _ | refine letm_cons rfl ?_ ?_ | exact .same _ | exact .nl (by decide) (by decide) | exact .nn | exact .id' rfl | exact .id' (by first | (exact AB_td (by first | omega | (simp only [List.length_map] at *; omega))) | (exact AB_dd (by simp only [List.length_map]; omega))))) (by repeat (first | exact lehp_nil _ _ | refine lehp_cons rfl ?_ ?_ | exact leB_same _ | exact leB_row (by first | rfl | (first | (exact AB_td (by first | omega | (simp only [List.length_map] at *; omega))) | (exact AB_dd (by simp only [List.length_map]; omega)))) | exact leB_obj (by first | (exact AB_td (by first | omega | (simp only [List.length_map] at *; omega))) | (exact AB_dd (by simp only [List.length_map]; omega))) | exact leB_nest (by first | rfl | (first | (exact AB_td (by first | omega | (simp only [List.length_map] at *; omega))) | (exact AB_dd (by simp only [List.length_map]; omega)))) | refine leB_box ?_ | exact leL_nil | refine leL_cons ?_ ?_ | exact .same _ | exact .nl (by decide) (by decide) | exact .nn | exact .id' rfl | exact .id' (by first | (exact AB_td (by first | omega | (simp only [List.length_map] at *; omega))) | (exact AB_dd (by simp only [List.length_map]; omega))))) rfl)
  refine vc_cond rfl (fun hc10 => ?_) (fun hc10 => ?_)
  replace hc10 := of_decide_eq_true hc10
  rw [show readK c b t = ([], 28) from if_pos (by simpa using hc10)]
  refine vc_rseq mixed ?_
  refine g_val (s_assign rfl rfl) rfl ?_
  refine g_val (s_assign rfl rfl) rfl ?_
  refine g_nil ?_
  exact vc_ret (ret_le [] _ (.cons (.tmp rfl) (.cons (.tmp rfl) .nil)) trivial (LeV.tupL (leL_cons (.nl (by decide) (by decide)) (leL_cons (LeV.tt rfl) leL_nil))) rfl)
  replace hc10 := of_decide_eq_false hc10
  have h1 : ¬ (b < 0 ∨ c.count ≤ b ∨ (c.hist.length : Int) ≤ b) := by simpa using hc10
  refine vc_rseq mixed ?_
  refine g_val (s_move rfl rfl) rfl ?_
  refine g_val (s_field rfl rfl rfl rfl) rfl ?_
  refine g_val (s_load rfl rfl rfl rfl) rfl ?_
  refine g_val (s_lss rfl rfl rfl) rfl ?_
  refine g_val (s_assign rfl rfl) rfl ?_
  refine g_nil ?_
  refine vc_cond rfl (fun hc26 => ?_) (fun hc26 => ?_)
  replace hc26 := of_decide_eq_true hc26
  rw [show readK c b t = ([], 30) by unfold readK; rw [if_neg h1, if_pos (by omega)]]
  refine vc_rseq mixed ?_
  refine g_val (s_assign rfl rfl) rfl ?_
  refine g_val (s_assign rfl rfl) rfl ?_
  refine g_nil ?_
  exact vc_ret (ret_le [] _ (.cons (.tmp rfl) (.cons (.tmp rfl) .nil)) trivial (LeV.tupL (leL_cons (.nl (by decide) (by decide)) (leL_cons (LeV.tt rfl) leL_nil))) rfl)
  replace hc26 := of_decide_eq_false hc26
  simp only [Int.not_lt] at hc26
  refine vc_rseq mixed ?_
  refine g_val (s_move rfl rfl) rfl ?_
  refine g_val (s_field rfl rfl rfl rfl) rfl ?_
  refine g_val (s_load rfl rfl rfl rfl) rfl ?_
  refine g_val (s_gtr rfl rfl rfl) rfl ?_
  refine g_val (s_assign rfl rfl) rfl ?_
  refine g_nil ?_
  refine vc_cond rfl (fun hc31 => ?_) (fun hc31 => ?_)
  replace hc31 := of_decide_eq_true hc31
  rw [show readK c b t = ([], 32) by unfold readK; rw [if_neg h1, if_neg (by omega), if_pos (by omega)]]
  refine vc_rseq mixed ?_
  refine g_val (s_assign rfl rfl) rfl ?_
  refine g_val (s_assign rfl rfl) rfl ?_
  refine g_nil ?_
  exact vc_ret (ret_le [] _ (.cons (.tmp rfl) (.cons (.tmp rfl) .nil)) trivial (LeV.tupL (leL_cons (.nl (by decide) (by decide)) (leL_cons (LeV.tt rfl) leL_nil))) rfl)
  replace hc31 := of_decide_eq_false hc31
  simp only [Int.not_lt] at hc31
  refine vc_skip ?_
  refine vc_seq ?_
  obtain ⟨e, he⟩ := get_of_lt (l := c.hist) (i := b.toNat) (by omega)
  obtain ⟨e1, e2⟩ := hc.vers e (List.mem_of_getElem? he)
  have hget : (c.hist.map fun es => [versT es])[b.toNat]? = some [versT e] := by rw [List.getElem?_map, he]; rfl
  have hge : c.hist.getD b.toNat [] = e := by rw [List.getD_eq_getElem?_getD, he]; rfl
  have hrk : readK c b t = if (atF e t).2 = true then ((atF e t).1, 0) else (zerB z, 0) := by
    unfold readK; rw [if_neg h1, if_neg (by omega), if_neg (by omega), hge, hz]
  rw [hrk]
  refine vc_rseq mixed ?_
  refine g_val (s_field rfl rfl rfl rfl) rfl ?_
  refine g_val (s_load rfl rfl rfl rfl) rfl ?_
  refine g_val (s_move rfl rfl) rfl ?_
  refine g_val (s_index rfl rfl rfl (by omega) hget) rfl ?_
  refine g_val (s_loadT rfl rfl rfl) rfl ?_
  refine g_val (s_move rfl rfl) rfl ?_
  refine g_val (s_call [] (c_hist_At e t e2 (by omega)) (evArgs_cons rfl (evArgs_cons rfl evArgs_nil)) trivial rfl (okVL_nil _) rfl (.inl rfl) rfl) rfl ?_
  refine g_val (s_move rfl rfl) rfl ?_
  refine g_val (s_extract rfl rfl rfl) rfl ?_
  refine g_val (s_extract rfl rfl rfl) rfl ?_
  refine g_val (s_assign rfl rfl) rfl ?_
  refine g_val (s_assign rfl rfl) rfl ?_
  refine g_nil ?_
  refine vc_rseq mixed ?_
  refine g_val (s_move rfl rfl) rfl ?_
  refine g_nil ?_
  refine vc_cond rfl (fun hc46 => ?_) (fun hc46 => ?_)
  rw [if_pos hc46]
  refine vc_rseq mixed ?_
  refine g_val (s_move rfl rfl) rfl ?_
  refine g_val (s_assign rfl rfl) rfl ?_
  refine g_val (s_assign rfl rfl) rfl ?_
  refine g_nil ?_
  exact vc_ret (ret_le [] _ (.cons (.tmp rfl) (.cons (.tmp rfl) .nil)) trivial (LeV.tupL (leL_cons (LeV.tt rfl) (leL_cons (LeV.tt rfl) leL_nil))) rfl)
  rw [if_neg (by simp [hc46])]
  refine vc_skip ?_
  refine vc_rseq mixed ?_
  refine g_val (s_field rfl rfl rfl rfl) rfl ?_
  refine g_val (s_load rfl rfl rfl rfl) rfl ?_
  refine g_val (s_max rfl rfl rfl) rfl ?_
  refine g_val (s_min rfl rfl rfl) rfl ?_
  refine g_new (s_make 52 z (congrArg (fun z => some (AI .i64 z)) hz') (congrArg (fun z => some (AI .i64 z)) hz') rfl rfl (by omega)) rfl ?_
  refine g_val (s_assign rfl rfl) rfl ?_
  refine g_val (s_assign rfl rfl) rfl ?_
  refine g_nil ?_
  exact vc_ret (ret_le [(52, _)] _ (.cons (.tmp rfl) (.cons (.tmp rfl) .nil)) ⟨rfl, trivial⟩ (LeV.tupL (leL_cons (.eq (by simp [AV.okV, okR, lkB]) (by simp [AV.view, viewR, lkB, AV.ren, bytesT, zerB, byteC])) (leL_cons (LeV.tt rfl) leL_nil))) rfl)

def mayF (v : Volume) (a b : Int) : Int := if v.hidden = true then 28 else if b < a then 23 else if a < v.floor then 30 else if (v.writes.length : Int) < b then 31 else 0

theorem c_export_may (v : Volume) (a b : Int) : Con Tryz.prog 37 [sC (volC v), AI .i64 a, AI .i64 b] [] (AI .i64 (mayF v a b)) [] := by
  refine con_intro [] [] Tryz.func37 rfl Tryz.ntmps37 Tryz.results37 rfl rfl ?_
  intro E
  refine vc_rseq mixed ?_
  refine g_new (s_box 3 rfl rfl rfl rfl) rfl ?_
  refine g_val (s_assign rfl rfl) rfl ?_
  refine g_nil ?_
  refine vc_seq ?_
  refine vc_block ?_
  refine vc_rseq mixed ?_
  refine g_val (s_field rfl rfl rfl rfl) rfl ?_
  refine g_val (s_load rfl rfl rfl rfl) rfl ?_
  refine g_val (s_assign rfl rfl) rfl ?_
  refine g_nil ?_
  refine vc_cond rfl (fun hc7 => ?_) (fun hc7 => ?_)
  rw [show mayF v a b = 28 by unfold mayF; rw [if_pos (by simpa [bT] using hc7)]]
  refine vc_rseq mixed ?_
  refine g_val (s_assign rfl rfl) rfl ?_
  refine g_nil ?_
  exact vc_ret (ret_of _ (.cons (.tmp rfl) .nil) rfl rfl)
  have h0 : ¬ v.hidden = true := by simpa [bT] using hc7
  refine vc_rseq mixed ?_
  refine g_val (s_move rfl rfl) rfl ?_
  refine g_val (s_move rfl rfl) rfl ?_
  refine g_val (s_gtr rfl rfl rfl) rfl ?_
  refine g_val (s_assign rfl rfl) rfl ?_
  refine g_nil ?_
  refine vc_cond rfl (fun hc10 => ?_) (fun hc10 => ?_)
  replace hc10 := of_decide_eq_true hc10
  rw [show mayF v a b = 23 by unfold mayF; rw [if_neg h0, if_pos (by omega)]]
  refine vc_rseq mixed ?_
  refine g_val (s_assign rfl rfl) rfl ?_
  refine g_nil ?_
  exact vc_ret (ret_of _ (.cons (.tmp rfl) .nil) rfl rfl)
  replace hc10 := of_decide_eq_false hc10
  simp only [Int.not_lt] at hc10
  refine vc_rseq mixed ?_
  refine g_val (s_move rfl rfl) rfl ?_
  refine g_val (s_field rfl rfl rfl rfl) rfl ?_
  refine g_val (s_load rfl rfl rfl rfl) rfl ?_
  refine g_val (s_lss rfl rfl rfl) rfl ?_
  refine g_val (s_assign rfl rfl) rfl ?_
  refine g_nil ?_
  refine vc_cond rfl (fun hc14 => ?_) (fun hc14 => ?_)
  replace hc14 := of_decide_eq_true hc14
  rw [show mayF v a b = 30 by unfold mayF; rw [if_neg h0, if_neg (by omega), if_pos (by omega)]]
  refine vc_rseq mixed ?_
  refine g_val (s_assign rfl rfl) rfl ?_
  refine g_nil ?_
  exact vc_ret (ret_of _ (.cons (.tmp rfl) .nil) rfl rfl)
  replace hc14 := of_decide_eq_false hc14
  simp only [Int.not_lt] at hc14
  refine vc_rseq mixed ?_
  refine g_val (s_move rfl rfl) rfl ?_
  refine g_val (s_loadA rfl rfl rfl rfl rfl) rfl ?_
  refine g_val (s_call [] (c_volume_Len v) (evArgs_cons rfl evArgs_nil) trivial rfl (okVL_nil _) rfl (.inl rfl) rfl) rfl ?_
  refine g_val (s_gtr rfl rfl rfl) rfl ?_
  refine g_val (s_assign rfl rfl) rfl ?_
  refine g_nil ?_
  refine vc_cond rfl (fun hc19 => ?_) (fun hc19 => ?_)
  replace hc19 := of_decide_eq_true hc19
  rw [show mayF v a b = 31 by unfold mayF; rw [if_neg h0, if_neg (by omega), if_neg (by omega), if_pos (by omega)]]
  refine vc_rseq mixed ?_
  refine g_val (s_assign rfl rfl) rfl ?_
  refine g_nil ?_
  exact vc_ret (ret_of _ (.cons (.tmp rfl) .nil) rfl rfl)
  replace hc19 := of_decide_eq_false hc19
  simp only [Int.not_lt] at hc19
  refine vc_skip ?_
  rw [show mayF v a b = 0 by unfold mayF; rw [if_neg h0, if_neg (by omega), if_neg (by omega), if_neg (by omega)]]
  refine vc_rseq mixed ?_
  refine g_val (s_assign rfl rfl) rfl ?_
  refine g_nil ?_
  exact vc_ret (ret_of _ (.cons (.tmp rfl) .nil) rfl rfl)

end Go.Eng

set_option maxHeartbeats 8000000
namespace Go.Eng
open Go.Proofs

def pickB (p : PushCmd) (a b : Int) (c : Chunk) : Bool := decide (c.vol = p.vol ∧ c.chunk = p.chunk ∧ c.count = p.count ∧ c.size = p.size ∧ c.floor ≤ a ∧ b ≤ c.mark)
def pickL (p : PushCmd) (l : List Chunk) (a b : Int) : Chunk × Bool := match l.find? (pickB p a b) with | some c => (c, true) | none => (chkZ, false)
def pickK (v : Volume) (l : List Chunk) (n a b : Int) : Chunk × Bool := if pushOK v n 0 then pickL (pushP v n 0) l a b else (chkZ, false)
theorem find_at {α : Type} {p : α → Bool} : ∀ {l : List α} {i : Nat} {x : α}, (∀ j y, j < i → l[j]? = some y → p y = false) → l[i]? = some x → p x = true → l.find? p = some x
  | [], i, x, _, hx, _ => by simp at hx
  | y :: l, 0, x, _, hx, hp => by simp at hx; subst hx; simp [List.find?, hp]
  | y :: l, i + 1, x, hj, hx, hp => by
    rw [List.find?, hj 0 y (by omega) rfl]
    exact find_at (i := i) (fun j z h1 h2 => hj (j + 1) z (by omega) (by simpa using h2)) (by simpa using hx) hp
theorem find_no {α : Type} {p : α → Bool} {l : List α} (h : ∀ j y, j < l.length → l[j]? = some y → p y = false) : l.find? p = none := by
  rw [List.find?_eq_none]
  intro x hx
  obtain ⟨j, hj⟩ := List.mem_iff_getElem?.1 hx
  rw [h j x (List.getElem?_eq_some_iff.1 hj).1 hj]; decide
theorem pickL_mem {p : PushCmd} {l : List Chunk} {a b : Int} (h : (pickL p l a b).2 = true) : (pickL p l a b).1 ∈ l ∧ pickB p a b (pickL p l a b).1 = true := by
  unfold pickL at h ⊢
  cases hf : l.find? (pickB p a b) with
  | none => rw [hf] at h; cases h
  | some c => exact ⟨List.mem_of_find?_eq_some hf, List.find?_some hf⟩

theorem VR.items {k : Nat} {v : Volume} (h : VR k v) : ∀ w ∈ v.writes, w.items.length ≤ 100 ∧ ∀ x ∈ w.items, 0 ≤ x.block ∧ x.block ≤ 1000 := fun w hw => by
  obtain ⟨s1, s2, s3, s4, s5, s6, s7, s8, s9, s10, s11, s12⟩ := h.shape
  obtain ⟨i, hi⟩ := List.mem_iff_getElem?.1 hw
  obtain ⟨h1, h2, h3, h4, h5⟩ := h.wr i w hi
  exact ⟨by omega, fun x hx => by have := h4 x hx; omega⟩

theorem c_export_Pick (k : Nat) (v : Volume) (l : List Chunk) (n a b : Int) (hv : VR k v) (hk : k ≤ 10000) (hl : ∀ c ∈ l, chkSm c) : Con Tryz.prog 22 [sC (volC v), .t (chksT l), AI .i64 n, AI .i64 a, AI .i64 b] [] (.tup [sC (chkC (pickK v l n a b).1), AB (pickK v l n a b).2]) [] := by
  refine con_intro [] [] Tryz.func22 rfl Tryz.ntmps22 Tryz.results22 rfl rfl ?_
  intro E
  refine vc_okT (i := 1) rfl fun ok1 => ?_
  have hll := ok1.len
  rw [List.length_map] at hll
  have hnw := hv.nw
  have hp := c_volume_Push v n 0 hv.shape hv.items (by omega)
  unfold pushF at hp
  unfold pickK
  refine vc_rseq mixed ?_
  refine g_new (s_box 5 rfl rfl rfl rfl) rfl ?_
  refine g_new (s_alloc 10 rfl rfl) rfl ?_
  refine g_val (s_assign rfl rfl) rfl ?_
  refine g_nil ?_
  refine vc_rseq mixed ?_
  refine g_val (s_loadA rfl rfl rfl rfl rfl) rfl ?_
  refine g_val (s_move rfl rfl) rfl ?_
  refine g_val (s_call [] (hp) (evArgs_cons rfl (evArgs_cons rfl (evArgs_cons rfl evArgs_nil))) trivial rfl (okVL_nil _) rfl (.inl rfl) rfl) rfl ?_
  refine g_val (s_move rfl rfl) rfl ?_
  refine g_val (s_extract rfl rfl rfl) rfl ?_
  refine g_val (s_extract rfl rfl rfl) rfl ?_
  refine g_new (s_alloc 12 rfl rfl) rfl ?_
  refine g_sto (s_store rfl rfl rfl rfl rfl rfl) rfl ?_
  refine g_val (s_assign rfl rfl) rfl ?_
  refine g_nil ?_
  refine vc_seq ?_
  refine vc_rseq mixed ?_
  refine g_val (s_move rfl rfl) rfl ?_
  refine g_val (s_not rfl rfl) rfl ?_
  refine g_nil ?_
  refine vc_cond rfl (fun hc23 => ?_) (fun hc23 => ?_)
  simp only [Bool.not_eq_true'] at hc23
  have h0 : pushOK v n 0 = false := by cases h : pushOK v n 0 with | false => rfl | true => (rw [if_pos h] at hc23; simp at hc23)
  rw [if_neg (show ¬ pushOK v n 0 = true by rw [h0]; decide), if_neg (show ¬ pushOK v n 0 = true by rw [h0]; decide)]
  refine vc_rseq mixed ?_
  refine g_val (s_build evArgs_nil rfl rfl rfl) rfl ?_
  refine g_sto (s_store rfl rfl rfl rfl rfl rfl) rfl ?_
  refine g_val (s_assign rfl rfl) rfl ?_
  refine g_nil ?_
  exact vc_ret (ret_le [] _ (.cons (.agg rfl rfl rfl rfl) (.cons (.tmp rfl) .nil)) trivial (by repeat (first | exact leL_nil | refine leL_cons ?_ ?_ | exact LeV.tt rfl | exact .nl (by decide) (by decide) | exact .nn | refine LeV.tupL ?_ | refine LeV.aggL ?_ | exact .eq (by first | exact trivial | (simp [AV.okV, okR, lkB]; done) | (simp [AV.okV, okR, lkB]; omega)) (by first | rfl | (simp [AV.view, viewR, lkB, AV.ren, List.take_of_length_le]; done) | (simp [AV.view, viewR, lkB, AV.ren, List.take_of_length_le]; done)))) rfl)
  simp only [Bool.not_eq_false'] at hc23
  refine vc_skip ?_
  refine vc_seq ?_
  have h0 : pushOK v n 0 = true := by cases h : pushOK v n 0 with | true => rfl | false => (rw [if_neg (by rw [h]; decide)] at hc23; simp at hc23)
  rw [if_pos h0, if_pos h0]
  generalize pushP v n 0 = p
  refine vc_rseq mixed ?_
  refine g_val (s_move rfl rfl) rfl ?_
  refine g_val (s_len rfl rfl) rfl ?_
  refine g_val (s_move rfl rfl) rfl ?_
  refine g_nil ?_
  refine vc_block ?_
  refine vc_up l.length (fun i => ⟨[(3, AI .i64 a), (4, AI .i64 b), (10, .ref 10 0), (11, AB false), (12, .ref 12 0), (25, .t (chksT l)), (26, AI .i64 l.length), (27, AI .i64 i)], [(10, some (.box ((chkC chkZ).map .t))), (12, some (.box ((pshC p).map .t)))], [10, 12]⟩) (fun i => ∀ j y, j < i → l[j]? = some y → pickB p a b y = false) (leE_same (by repeat (first | exact letm_nil _ _ | refine letm_cons rfl ?_ ?_ | exact .same _ | exact .nl (by decide) (by decide) | exact .nn | exact .id' rfl | exact .id' (by simp; done))) (by repeat (first | exact lehp_nil _ _ | refine lehp_cons rfl ?_ ?_ | exact leB_same _ | exact leB_row (by first | rfl | (simp; done)) | exact leB_obj (by simp; done) | exact leB_nest (by first | rfl | (simp; done)) | refine leB_box ?_ | exact leL_nil | refine leL_cons ?_ ?_ | exact .same _ | exact .nl (by decide) (by decide) | exact .nn | exact .id' rfl | exact .id' (by simp; done))) rfl) (fun j y h => by omega) (fun i hi hJ => ?_)
  refine vc_rseq mixed ?_
  refine g_val (s_lss rfl rfl rfl) rfl ?_
  refine g_nil ?_
  refine vc_seq ?_
  refine vc_cond rfl (fun hc28 => ?_) (fun hc28 => ?_)
  replace hc28 := of_decide_eq_true hc28
  obtain ⟨c, hc⟩ := get_of_lt (l := l) (i := i) (by omega)
  have hpb : pickB p a b c = true ↔ _ := decide_eq_true_iff (p := c.vol = p.vol ∧ c.chunk = p.chunk ∧ c.count = p.count ∧ c.size = p.size ∧ c.floor ≤ a ∧ b ≤ c.mark)
  refine vc_skip ?_
  refine vc_seq ?_
  refine vc_block ?_
  refine vc_rseq mixed ?_
  refine g_val (s_index rfl rfl rfl (by omega) (idx_map hc)) rfl ?_
  refine g_val (s_loadTA rfl rfl rfl) rfl ?_
  refine g_new (s_alloc 15 rfl rfl) rfl ?_
  refine g_sto (s_store rfl rfl rfl rfl rfl rfl) rfl ?_
  refine g_nil ?_
  refine vc_cut (⟨[(3, AI .i64 a), (4, AI .i64 b), (10, .ref 10 0), (11, AB false), (12, .ref 12 0), (15, .ref 15 0), (25, .t (chksT l)), (26, AI .i64 l.length), (27, AI .i64 i), (68, AB (pickB p a b c))], [(10, some (.box ((chkC chkZ).map .t))), (12, some (.box ((pshC p).map .t))), (15, some (.box ((chkC c).map .t)))], [10, 12, 15]⟩) ?_ ?_
  refine vc_region mixed ?_
  refine g_val (s_field rfl rfl rfl rfl) rfl ?_
  refine g_val (s_load rfl rfl rfl rfl) rfl ?_
  refine g_val (s_field rfl rfl rfl rfl) rfl ?_
  refine g_val (s_load rfl rfl rfl rfl) rfl ?_
  refine g_val (s_eql rfl rfl rfl) rfl ?_
  refine g_val (s_move rfl rfl) rfl ?_
  refine g_probe (j := 36) rfl (fun c hg36 => ?_)
  cases c
  rw [← hg36]; replace hg36 := hg36.symm; replace hg36 := of_decide_eq_false hg36
  refine gn_val rfl rfl rfl rfl rfl rfl (by decide) ?_
  refine gn_val rfl rfl rfl rfl rfl rfl (by decide) ?_
  refine gn_val rfl rfl rfl rfl rfl rfl (by decide) ?_
  refine gn_val rfl rfl rfl rfl rfl rfl (by decide) ?_
  refine gn_val rfl rfl rfl rfl rfl rfl (by decide) ?_
  refine g_val (s_pickF rfl rfl rfl) rfl ?_
  refine g_val (s_move rfl rfl) rfl ?_
  refine gn_val rfl rfl rfl rfl rfl rfl (by decide) ?_
  refine gn_val rfl rfl rfl rfl rfl rfl (by decide) ?_
  refine gn_val rfl rfl rfl rfl rfl rfl (by decide) ?_
  refine gn_val rfl rfl rfl rfl rfl rfl (by decide) ?_
  refine gn_val rfl rfl rfl rfl rfl rfl (by decide) ?_
  refine g_val (s_pickF rfl rfl rfl) rfl ?_
  refine g_val (s_move rfl rfl) rfl ?_
  refine gn_val rfl rfl rfl rfl rfl rfl (by decide) ?_
  refine gn_val rfl rfl rfl rfl rfl rfl (by decide) ?_
  refine gn_val rfl rfl rfl rfl rfl rfl (by decide) ?_
  refine gn_val rfl rfl rfl rfl rfl rfl (by decide) ?_
  refine gn_val rfl rfl rfl rfl rfl rfl (by decide) ?_
  refine g_val (s_pickF rfl rfl rfl) rfl ?_
  refine g_val (s_move rfl rfl) rfl ?_
  refine gn_val rfl rfl rfl rfl rfl rfl (by decide) ?_
  refine gn_val rfl rfl rfl rfl rfl rfl (by decide) ?_
  refine gn_val rfl rfl rfl rfl rfl rfl (by decide) ?_
  refine gn_val rfl rfl rfl rfl rfl rfl (by decide) ?_
  refine g_val (s_pickF rfl rfl rfl) rfl ?_
  refine g_val (s_move rfl rfl) rfl ?_
  refine gn_val rfl rfl rfl rfl rfl rfl (by decide) ?_
  refine gn_val rfl rfl rfl rfl rfl rfl (by decide) ?_
  refine gn_val rfl rfl rfl rfl rfl rfl (by decide) ?_
  refine gn_val rfl rfl rfl rfl rfl rfl (by decide) ?_
  refine g_val (s_pickF rfl rfl rfl) rfl ?_
  refine g_nil ?_
  exact (leE_same (by repeat (first | exact letm_nil _ _ | refine letm_cons rfl ?_ ?_ | exact .same _ | exact .nl (by decide) (by decide) | exact .nn | exact .id' rfl | exact .id' (by first | (exact congrArg (fun b => AV.t (T.k (.bool b))) (Bool.eq_false_iff.2 fun hh => by have := hpb.1 hh; omega).symm) | (exact congrArg (fun b => AV.t (T.k (.bool b))) (decide_eq_decide.2 (by omega)))))) (by repeat (first | exact lehp_nil _ _ | refine lehp_cons rfl ?_ ?_ | exact leB_same _ | exact leB_row (by first | rfl | (first | (exact congrArg (fun b => AV.t (T.k (.bool b))) (Bool.eq_false_iff.2 fun hh => by have := hpb.1 hh; omega).symm) | (exact congrArg (fun b => AV.t (T.k (.bool b))) (decide_eq_decide.2 (by omega))))) | exact leB_obj (by first | (exact congrArg (fun b => AV.t (T.k (.bool b))) (Bool.eq_false_iff.2 fun hh => by have := hpb.1 hh; omega).symm) | (exact congrArg (fun b => AV.t (T.k (.bool b))) (decide_eq_decide.2 (by omega)))) | exact leB_nest (by first | rfl | (first | (exact congrArg (fun b => AV.t (T.k (.bool b))) (Bool.eq_false_iff.2 fun hh => by have := hpb.1 hh; omega).symm) | (exact congrArg (fun b => AV.t (T.k (.bool b))) (decide_eq_decide.2 (by omega))))) | refine leB_box ?_ | exact leL_nil | refine leL_cons ?_ ?_ | exact .same _ | exact .nl (by decide) (by decide) | exact .nn | exact .id' rfl | exact .id' (by first | (exact congrArg (fun b => AV.t (T.k (.bool b))) (Bool.eq_false_iff.2 fun hh => by have := hpb.1 hh; omega).symm) | (exact congrArg (fun b => AV.t (T.k (.bool b))) (decide_eq_decide.2 (by omega)))))) rfl)
  rw [← hg36]; replace hg36 := hg36.symm; replace hg36 := of_decide_eq_true hg36
  refine gq_val (s_field rfl rfl rfl rfl) rfl rfl rfl rfl ?_
  refine gq_val (s_load rfl rfl rfl rfl) rfl rfl rfl rfl ?_
  refine gq_val (s_field rfl rfl rfl rfl) rfl rfl rfl rfl ?_
  refine gq_val (s_load rfl rfl rfl rfl) rfl rfl rfl rfl ?_
  refine gq_val (s_eql rfl rfl rfl) rfl rfl rfl rfl ?_
  refine g_val (s_pickT rfl rfl rfl) rfl ?_
  refine g_val (s_move rfl rfl) rfl ?_
  refine g_probe (j := 43) rfl (fun c hg43 => ?_)
  cases c
  rw [← hg43]; replace hg43 := hg43.symm; replace hg43 := of_decide_eq_false hg43
  refine gn_val rfl rfl rfl rfl rfl rfl (by decide) ?_
  refine gn_val rfl rfl rfl rfl rfl rfl (by decide) ?_
  refine gn_val rfl rfl rfl rfl rfl rfl (by decide) ?_
  refine gn_val rfl rfl rfl rfl rfl rfl (by decide) ?_
  refine gn_val rfl rfl rfl rfl rfl rfl (by decide) ?_
  refine g_val (s_pickF rfl rfl rfl) rfl ?_
  refine g_val (s_move rfl rfl) rfl ?_
  refine gn_val rfl rfl rfl rfl rfl rfl (by decide) ?_
  refine gn_val rfl rfl rfl rfl rfl rfl (by decide) ?_
  refine gn_val rfl rfl rfl rfl rfl rfl (by decide) ?_
  refine gn_val rfl rfl rfl rfl rfl rfl (by decide) ?_
  refine gn_val rfl rfl rfl rfl rfl rfl (by decide) ?_
  refine g_val (s_pickF rfl rfl rfl) rfl ?_
  refine g_val (s_move rfl rfl) rfl ?_
  refine gn_val rfl rfl rfl rfl rfl rfl (by decide) ?_
  refine gn_val rfl rfl rfl rfl rfl rfl (by decide) ?_
  refine gn_val rfl rfl rfl rfl rfl rfl (by decide) ?_
  refine gn_val rfl rfl rfl rfl rfl rfl (by decide) ?_
  refine g_val (s_pickF rfl rfl rfl) rfl ?_
  refine g_val (s_move rfl rfl) rfl ?_
  refine gn_val rfl rfl rfl rfl rfl rfl (by decide) ?_
  refine gn_val rfl rfl rfl rfl rfl rfl (by decide) ?_
  refine gn_val rfl rfl rfl rfl rfl rfl (by decide) ?_
  refine gn_val rfl rfl rfl rfl rfl rfl (by decide) ?_
  refine g_val (s_pickF rfl rfl rfl) rfl ?_
  refine g_nil ?_
  exact (leE_same (by repeat (first | exact letm_nil _ _ | refine letm_cons rfl ?_ ?_ | exact .same _ | exact .nl (by decide) (by decide) | exact .nn | exact .id' rfl | exact .id' (by first | (exact congrArg (fun b => AV.t (T.k (.bool b))) (Bool.eq_false_iff.2 fun hh => by have := hpb.1 hh; omega).symm) | (exact congrArg (fun b => AV.t (T.k (.bool b))) (decide_eq_decide.2 (by omega)))))) (by repeat (first | exact lehp_nil _ _ | refine lehp_cons rfl ?_ ?_ | exact leB_same _ | exact leB_row (by first | rfl | (first | (exact congrArg (fun b => AV.t (T.k (.bool b))) (Bool.eq_false_iff.2 fun hh => by have := hpb.1 hh; omega).symm) | (exact congrArg (fun b => AV.t (T.k (.bool b))) (decide_eq_decide.2 (by omega))))) | exact leB_obj (by first | (exact congrArg (fun b => AV.t (T.k (.bool b))) (Bool.eq_false_iff.2 fun hh => by have := hpb.1 hh; omega).symm) | (exact congrArg (fun b => AV.t (T.k (.bool b))) (decide_eq_decide.2 (by omega)))) | exact leB_nest (by first | rfl | (first | (exact congrArg (fun b => AV.t (T.k (.bool b))) (Bool.eq_false_iff.2 fun hh => by have := hpb.1 hh; omega).symm) | (exact congrArg (fun b => AV.t (T.k (.bool b))) (decide_eq_decide.2 (by omega))))) | refine leB_box ?_ | exact leL_nil | refine leL_cons ?_ ?_ | exact .same _ | exact .nl (by decide) (by decide) | exact .nn | exact .id' rfl | exact .id' (by first | (exact congrArg (fun b => AV.t (T.k (.bool b))) (Bool.eq_false_iff.2 fun hh => by have := hpb.1 hh; omega).symm) | (exact congrArg (fun b => AV.t (T.k (.bool b))) (decide_eq_decide.2 (by omega)))))) rfl)
  rw [← hg43]; replace hg43 := hg43.symm; replace hg43 := of_decide_eq_true hg43
  refine gq_val (s_field rfl rfl rfl rfl) rfl rfl rfl rfl ?_
  refine gq_val (s_load rfl rfl rfl rfl) rfl rfl rfl rfl ?_
  refine gq_val (s_field rfl rfl rfl rfl) rfl rfl rfl rfl ?_
  refine gq_val (s_load rfl rfl rfl rfl) rfl rfl rfl rfl ?_
  refine gq_val (s_eql rfl rfl rfl) rfl rfl rfl rfl ?_
  refine g_val (s_pickT rfl rfl rfl) rfl ?_
  refine g_val (s_move rfl rfl) rfl ?_
  refine g_probe (j := 50) rfl (fun c hg50 => ?_)
  cases c
  rw [← hg50]; replace hg50 := hg50.symm; replace hg50 := of_decide_eq_false hg50
  refine gn_val rfl rfl rfl rfl rfl rfl (by decide) ?_
  refine gn_val rfl rfl rfl rfl rfl rfl (by decide) ?_
  refine gn_val rfl rfl rfl rfl rfl rfl (by decide) ?_
  refine gn_val rfl rfl rfl rfl rfl rfl (by decide) ?_
  refine gn_val rfl rfl rfl rfl rfl rfl (by decide) ?_
  refine g_val (s_pickF rfl rfl rfl) rfl ?_
  refine g_val (s_move rfl rfl) rfl ?_
  refine gn_val rfl rfl rfl rfl rfl rfl (by decide) ?_
  refine gn_val rfl rfl rfl rfl rfl rfl (by decide) ?_
  refine gn_val rfl rfl rfl rfl rfl rfl (by decide) ?_
  refine gn_val rfl rfl rfl rfl rfl rfl (by decide) ?_
  refine g_val (s_pickF rfl rfl rfl) rfl ?_
  refine g_val (s_move rfl rfl) rfl ?_
  refine gn_val rfl rfl rfl rfl rfl rfl (by decide) ?_
  refine gn_val rfl rfl rfl rfl rfl rfl (by decide) ?_
  refine gn_val rfl rfl rfl rfl rfl rfl (by decide) ?_
  refine gn_val rfl rfl rfl rfl rfl rfl (by decide) ?_
  refine g_val (s_pickF rfl rfl rfl) rfl ?_
  refine g_nil ?_
  exact (leE_same (by repeat (first | exact letm_nil _ _ | refine letm_cons rfl ?_ ?_ | exact .same _ | exact .nl (by decide) (by decide) | exact .nn | exact .id' rfl | exact .id' (by first | (exact congrArg (fun b => AV.t (T.k (.bool b))) (Bool.eq_false_iff.2 fun hh => by have := hpb.1 hh; omega).symm) | (exact congrArg (fun b => AV.t (T.k (.bool b))) (decide_eq_decide.2 (by omega)))))) (by repeat (first | exact lehp_nil _ _ | refine lehp_cons rfl ?_ ?_ | exact leB_same _ | exact leB_row (by first | rfl | (first | (exact congrArg (fun b => AV.t (T.k (.bool b))) (Bool.eq_false_iff.2 fun hh => by have := hpb.1 hh; omega).symm) | (exact congrArg (fun b => AV.t (T.k (.bool b))) (decide_eq_decide.2 (by omega))))) | exact leB_obj (by first | (exact congrArg (fun b => AV.t (T.k (.bool b))) (Bool.eq_false_iff.2 fun hh => by have := hpb.1 hh; omega).symm) | (exact congrArg (fun b => AV.t (T.k (.bool b))) (decide_eq_decide.2 (by omega)))) | exact leB_nest (by first | rfl | (first | (exact congrArg (fun b => AV.t (T.k (.bool b))) (Bool.eq_false_iff.2 fun hh => by have := hpb.1 hh; omega).symm) | (exact congrArg (fun b => AV.t (T.k (.bool b))) (decide_eq_decide.2 (by omega))))) | refine leB_box ?_ | exact leL_nil | refine leL_cons ?_ ?_ | exact .same _ | exact .nl (by decide) (by decide) | exact .nn | exact .id' rfl | exact .id' (by first | (exact congrArg (fun b => AV.t (T.k (.bool b))) (Bool.eq_false_iff.2 fun hh => by have := hpb.1 hh; omega).symm) | (exact congrArg (fun b => AV.t (T.k (.bool b))) (decide_eq_decide.2 (by omega)))))) rfl)
  rw [← hg50]; replace hg50 := hg50.symm; replace hg50 := of_decide_eq_true hg50
  refine gq_val (s_field rfl rfl rfl rfl) rfl rfl rfl rfl ?_
  refine gq_val (s_load rfl rfl rfl rfl) rfl rfl rfl rfl ?_
  refine gq_val (s_field rfl rfl rfl rfl) rfl rfl rfl rfl ?_
  refine gq_val (s_load rfl rfl rfl rfl) rfl rfl rfl rfl ?_
  refine gq_val (s_eql rfl rfl rfl) rfl rfl rfl rfl ?_
  refine g_val (s_pickT rfl rfl rfl) rfl ?_
  refine g_val (s_move rfl rfl) rfl ?_
  refine g_probe (j := 57) rfl (fun c hg57 => ?_)
  cases c
  rw [← hg57]; replace hg57 := hg57.symm; replace hg57 := of_decide_eq_false hg57
  refine gn_val rfl rfl rfl rfl rfl rfl (by decide) ?_
  refine gn_val rfl rfl rfl rfl rfl rfl (by decide) ?_
  refine gn_val rfl rfl rfl rfl rfl rfl (by decide) ?_
  refine gn_val rfl rfl rfl rfl rfl rfl (by decide) ?_
  refine g_val (s_pickF rfl rfl rfl) rfl ?_
  refine g_val (s_move rfl rfl) rfl ?_
  refine gn_val rfl rfl rfl rfl rfl rfl (by decide) ?_
  refine gn_val rfl rfl rfl rfl rfl rfl (by decide) ?_
  refine gn_val rfl rfl rfl rfl rfl rfl (by decide) ?_
  refine gn_val rfl rfl rfl rfl rfl rfl (by decide) ?_
  refine g_val (s_pickF rfl rfl rfl) rfl ?_
  refine g_nil ?_
  exact (leE_same (by repeat (first | exact letm_nil _ _ | refine letm_cons rfl ?_ ?_ | exact .same _ | exact .nl (by decide) (by decide) | exact .nn | exact .id' rfl | exact .id' (by first | (exact congrArg (fun b => AV.t (T.k (.bool b))) (Bool.eq_false_iff.2 fun hh => by have := hpb.1 hh; omega).symm) | (exact congrArg (fun b => AV.t (T.k (.bool b))) (decide_eq_decide.2 (by omega)))))) (by repeat (first | exact lehp_nil _ _ | refine lehp_cons rfl ?_ ?_ | exact leB_same _ | exact leB_row (by first | rfl | (first | (exact congrArg (fun b => AV.t (T.k (.bool b))) (Bool.eq_false_iff.2 fun hh => by have := hpb.1 hh; omega).symm) | (exact congrArg (fun b => AV.t (T.k (.bool b))) (decide_eq_decide.2 (by omega))))) | exact leB_obj (by first | (exact congrArg (fun b => AV.t (T.k (.bool b))) (Bool.eq_false_iff.2 fun hh => by have := hpb.1 hh; omega).symm) | (exact congrArg (fun b => AV.t (T.k (.bool b))) (decide_eq_decide.2 (by omega)))) | exact leB_nest (by first | rfl | (first | (exact congrArg (fun b => AV.t (T.k (.bool b))) (Bool.eq_false_iff.2 fun hh => by have := hpb.1 hh; omega).symm) | (exact congrArg (fun b => AV.t (T.k (.bool b))) (decide_eq_decide.2 (by omega))))) | refine leB_box ?_ | exact leL_nil | refine leL_cons ?_ ?_ | exact .same _ | exact .nl (by decide) (by decide) | exact .nn | exact .id' rfl | exact .id' (by first | (exact congrArg (fun b => AV.t (T.k (.bool b))) (Bool.eq_false_iff.2 fun hh => by have := hpb.1 hh; omega).symm) | (exact congrArg (fun b => AV.t (T.k (.bool b))) (decide_eq_decide.2 (by omega)))))) rfl)
  rw [← hg57]; replace hg57 := hg57.symm; replace hg57 := of_decide_eq_true hg57
  refine gq_val (s_field rfl rfl rfl rfl) rfl rfl rfl rfl ?_
  refine gq_val (s_load rfl rfl rfl rfl) rfl rfl rfl rfl ?_
  refine gq_val (s_move rfl rfl) rfl rfl rfl rfl ?_
  refine gq_val (s_leq rfl rfl rfl) rfl rfl rfl rfl ?_
  refine g_val (s_pickT rfl rfl rfl) rfl ?_
  refine g_val (s_move rfl rfl) rfl ?_
  refine g_probe (j := 63) rfl (fun c hg63 => ?_)
  cases c
  rw [← hg63]; replace hg63 := hg63.symm; replace hg63 := of_decide_eq_false hg63
  simp only [Int.not_le] at hg63
  refine gn_val rfl rfl rfl rfl rfl rfl (by decide) ?_
  refine gn_val rfl rfl rfl rfl rfl rfl (by decide) ?_
  refine gn_val rfl rfl rfl rfl rfl rfl (by decide) ?_
  refine gn_val rfl rfl rfl rfl rfl rfl (by decide) ?_
  refine g_val (s_pickF rfl rfl rfl) rfl ?_
  refine g_nil ?_
  exact (leE_same (by repeat (first | exact letm_nil _ _ | refine letm_cons rfl ?_ ?_ | exact .same _ | exact .nl (by decide) (by decide) | exact .nn | exact .id' rfl | exact .id' (by first | (exact congrArg (fun b => AV.t (T.k (.bool b))) (Bool.eq_false_iff.2 fun hh => by have := hpb.1 hh; omega).symm) | (exact congrArg (fun b => AV.t (T.k (.bool b))) (decide_eq_decide.2 (by omega)))))) (by repeat (first | exact lehp_nil _ _ | refine lehp_cons rfl ?_ ?_ | exact leB_same _ | exact leB_row (by first | rfl | (first | (exact congrArg (fun b => AV.t (T.k (.bool b))) (Bool.eq_false_iff.2 fun hh => by have := hpb.1 hh; omega).symm) | (exact congrArg (fun b => AV.t (T.k (.bool b))) (decide_eq_decide.2 (by omega))))) | exact leB_obj (by first | (exact congrArg (fun b => AV.t (T.k (.bool b))) (Bool.eq_false_iff.2 fun hh => by have := hpb.1 hh; omega).symm) | (exact congrArg (fun b => AV.t (T.k (.bool b))) (decide_eq_decide.2 (by omega)))) | exact leB_nest (by first | rfl | (first | (exact congrArg (fun b => AV.t (T.k (.bool b))) (Bool.eq_false_iff.2 fun hh => by have := hpb.1 hh; omega).symm) | (exact congrArg (fun b => AV.t (T.k (.bool b))) (decide_eq_decide.2 (by omega))))) | refine leB_box ?_ | exact leL_nil | refine leL_cons ?_ ?_ | exact .same _ | exact .nl (by decide) (by decide) | exact .nn | exact .id' rfl | exact .id' (by first | (exact congrArg (fun b => AV.t (T.k (.bool b))) (Bool.eq_false_iff.2 fun hh => by have := hpb.1 hh; omega).symm) | (exact congrArg (fun b => AV.t (T.k (.bool b))) (decide_eq_decide.2 (by omega)))))) rfl)
  rw [← hg63]; replace hg63 := hg63.symm; replace hg63 := of_decide_eq_true hg63
  refine gq_val (s_field rfl rfl rfl rfl) rfl rfl rfl rfl ?_
  refine gq_val (s_load rfl rfl rfl rfl) rfl rfl rfl rfl ?_
  refine gq_val (s_move rfl rfl) rfl rfl rfl rfl ?_
  refine gq_val (s_geq rfl rfl rfl) rfl rfl rfl rfl ?_
  refine g_val (s_pickT rfl rfl rfl) rfl ?_
  refine g_nil ?_
  exact (leE_same (by repeat (first | exact letm_nil _ _ | refine letm_cons rfl ?_ ?_ | exact .same _ | exact .nl (by decide) (by decide) | exact .nn | exact .id' rfl | exact .id' (by first | (exact congrArg (fun b => AV.t (T.k (.bool b))) (Bool.eq_false_iff.2 fun hh => by have := hpb.1 hh; omega).symm) | (exact congrArg (fun b => AV.t (T.k (.bool b))) (decide_eq_decide.2 (by omega)))))) (by repeat (first | exact lehp_nil _ _ | refine lehp_cons rfl ?_ ?_ | exact leB_same _ | exact leB_row (by first | rfl | (first | (exact congrArg (fun b => AV.t (T.k (.bool b))) (Bool.eq_false_iff.2 fun hh => by have := hpb.1 hh; omega).symm) | (exact congrArg (fun b => AV.t (T.k (.bool b))) (decide_eq_decide.2 (by omega))))) | exact leB_obj (by first | (exact congrArg (fun b => AV.t (T.k (.bool b))) (Bool.eq_false_iff.2 fun hh => by have := hpb.1 hh; omega).symm) | (exact congrArg (fun b => AV.t (T.k (.bool b))) (decide_eq_decide.2 (by omega)))) | exact leB_nest (by first | rfl | (first | (exact congrArg (fun b => AV.t (T.k (.bool b))) (Bool.eq_false_iff.2 fun hh => by have := hpb.1 hh; omega).symm) | (exact congrArg (fun b => AV.t (T.k (.bool b))) (decide_eq_decide.2 (by omega))))) | refine leB_box ?_ | exact leL_nil | refine leL_cons ?_ ?_ | exact .same _ | exact .nl (by decide) (by decide) | exact .nn | exact .id' rfl | exact .id' (by first | (exact congrArg (fun b => AV.t (T.k (.bool b))) (Bool.eq_false_iff.2 fun hh => by have := hpb.1 hh; omega).symm) | (exact congrArg (fun b => AV.t (T.k (.bool b))) (decide_eq_decide.2 (by omega)))))) rfl)
  refine vc_cond rfl (fun hc68 => ?_) (fun hc68 => ?_)
  replace hc68 := of_decide_eq_true hc68
  rw [show pickL p l a b = (c, true) by unfold pickL; rw [find_at hJ hc (hpb.2 hc68)]]
  refine vc_rseq mixed ?_
  refine g_val (s_loadA rfl rfl rfl rfl rfl) rfl ?_
  refine g_val (s_call [] (c_export_copied c (hl c (List.mem_of_getElem? hc))) (evArgs_cons rfl evArgs_nil) trivial rfl (okVL_nil _) rfl (.inl rfl) rfl) rfl ?_
  refine g_sto (s_store rfl rfl rfl rfl rfl rfl) rfl ?_
  refine g_val (s_assign rfl rfl) rfl ?_
  refine g_nil ?_
  exact vc_ret (ret_le [] _ (.cons (.agg rfl rfl rfl rfl) (.cons (.tmp rfl) .nil)) trivial (by repeat (first | exact leL_nil | refine leL_cons ?_ ?_ | exact LeV.tt rfl | exact .nl (by decide) (by decide) | exact .nn | refine LeV.tupL ?_ | refine LeV.aggL ?_ | exact .eq (by first | exact trivial | (simp [AV.okV, okR, lkB]; done) | (simp [AV.okV, okR, lkB]; omega)) (by first | rfl | (simp [AV.view, viewR, lkB, AV.ren, List.take_of_length_le]; done) | (simp [AV.view, viewR, lkB, AV.ren, List.take_of_length_le]; done)))) rfl)
  replace hc68 := of_decide_eq_false hc68
  refine vc_skip ?_
  refine vc_region mixed ?_
  refine g_val (s_add rfl rfl rfl (by simp only [inI, kMin, kMax]; omega)) rfl ?_
  refine g_val (s_move rfl rfl) rfl ?_
  refine g_nil ?_
  exact ⟨by omega, fun j y hj hy => by rcases Nat.lt_succ_iff_lt_or_eq.1 hj with h | rfl; exact hJ j y h hy; rw [hc] at hy; injection hy with hy; subst hy; exact Bool.eq_false_iff.2 fun h => hc68 (hpb.1 h), (leE_same (by repeat (first | exact letm_nil _ _ | refine letm_cons rfl ?_ ?_ | exact .same _ | exact .nl (by decide) (by decide) | exact .nn | exact .id' rfl | exact .id' (by simp; done))) (by repeat (first | exact lehp_nil _ _ | refine lehp_cons rfl ?_ ?_ | exact leB_same _ | exact leB_row (by first | rfl | (simp; done)) | exact leB_obj (by simp; done) | exact leB_nest (by first | rfl | (simp; done)) | refine leB_box ?_ | exact leL_nil | refine leL_cons ?_ ?_ | exact .same _ | exact .nl (by decide) (by decide) | exact .nn | exact .id' rfl | exact .id' (by simp; done))) rfl)⟩
  replace hc28 := of_decide_eq_false hc28
  simp only [Int.not_lt] at hc28
  refine vc_exit ?_
  rw [show pickL p l a b = (chkZ, false) by unfold pickL; rw [find_no fun j y hj hy => hJ j y (by omega) hy]]
  refine vc_rseq mixed ?_
  refine g_val (s_build evArgs_nil rfl rfl rfl) rfl ?_
  refine g_sto (s_store rfl rfl rfl rfl rfl rfl) rfl ?_
  refine g_val (s_assign rfl rfl) rfl ?_
  refine g_nil ?_
  exact vc_ret (ret_le [] _ (.cons (.agg rfl rfl rfl rfl) (.cons (.tmp rfl) .nil)) trivial (by repeat (first | exact leL_nil | refine leL_cons ?_ ?_ | exact LeV.tt rfl | exact .nl (by decide) (by decide) | exact .nn | refine LeV.tupL ?_ | refine LeV.aggL ?_ | exact .eq (by first | exact trivial | (simp [AV.okV, okR, lkB]; done) | (simp [AV.okV, okR, lkB]; omega)) (by first | rfl | (simp [AV.view, viewR, lkB, AV.ren, List.take_of_length_le]; done) | (simp [AV.view, viewR, lkB, AV.ren, List.take_of_length_le]; done)))) rfl)

def picksR (v : Volume) (l : List Chunk) (a b : Int) (i : Nat) : List Chunk := (List.range i).map fun n : Nat => (pickK v l (n : Int) a b).1
def picksK (v : Volume) (l : List Chunk) (a b : Int) : List Chunk × Int := if ((List.range v.place.length).all fun n : Nat => (pickK v l (n : Int) a b).2) = true then (picksR v l a b v.place.length, 0) else ([], 32)

theorem c_export_picks (k : Nat) (v : Volume) (l : List Chunk) (a b : Int) (hv : VR k v) (hk : k ≤ 10000) (hl : ∀ c ∈ l, chkSm c) : Con Tryz.prog 38 [sC (volC v), .t (chksT l), AI .i64 a, AI .i64 b] [] (.tup [.t (chksT (picksK v l a b).1), AI .i64 (picksK v l a b).2]) [] := by
  refine con_intro [] [] Tryz.func38 rfl Tryz.ntmps38 Tryz.results38 rfl rfl ?_
  intro E
  have hpl : v.place.length ≤ 1000000 := by
    obtain ⟨s1, s2, s3, s4, s5, s6, s7, s8, s9, s10, s11, s12⟩ := hv.shape
    have : (v.place.length : Int) ≤ 512 := by
      rw [s9]
      unfold chunksN
      have := Int.ediv_le_self (a := v.blocks + v.per - 1) v.per (by omega)
      omega
    omega
  refine vc_rseq mixed ?_
  refine g_new (s_box 4 rfl rfl rfl rfl) rfl ?_
  refine g_val (s_assign rfl rfl) rfl ?_
  refine g_val (s_assign rfl rfl) rfl ?_
  refine g_nil ?_
  refine vc_rseq mixed ?_
  refine g_val (s_assign rfl rfl) rfl ?_
  refine g_nil ?_
  refine vc_seq ?_
  refine vc_ownnil (i := 10) 10 7 72 rfl rfl rfl ?_
  refine vc_rseq mixed ?_
  refine g_val (s_field rfl rfl rfl rfl) rfl ?_
  refine g_val (s_load rfl rfl rfl rfl) rfl ?_
  refine g_val (s_len rfl rfl) rfl ?_
  refine g_val (s_move rfl rfl) rfl ?_
  refine g_nil ?_
  refine vc_block ?_
  refine vc_up v.place.length (fun i => ⟨[(1, .t (chksT l)), (2, AI .i64 a), (3, AI .i64 b), (4, .ref 4 0), (10, .rows 10 7 0 i), (16, AI .i64 v.place.length), (17, AI .i64 i)], [(4, some (.box ((volC v).map .t))), (10, some (.row 7 72 ((picksR v l a b i).map chkC)))], [4, 10]⟩) (fun i => ∀ j : Nat, j < i → (pickK v l j a b).2 = true) (leE_same (by repeat (first | exact letm_nil _ _ | refine letm_cons rfl ?_ ?_ | exact .same _ | exact .nl (by decide) (by decide) | exact .nn | exact .id' rfl | exact .id' (by first | (simp; done) | (simp [picksR]; done)))) (by repeat (first | exact lehp_nil _ _ | refine lehp_cons rfl ?_ ?_ | exact leB_same _ | exact leB_row (by first | rfl | (first | (simp; done) | (simp [picksR]; done))) | exact leB_obj (by first | (simp; done) | (simp [picksR]; done)) | exact leB_nest (by first | rfl | (first | (simp; done) | (simp [picksR]; done))) | refine leB_box ?_ | exact leL_nil | refine leL_cons ?_ ?_ | exact .same _ | exact .nl (by decide) (by decide) | exact .nn | exact .id' rfl | exact .id' (by first | (simp; done) | (simp [picksR]; done)))) rfl) (fun j h => by omega) (fun i hi hJ => ?_)
  refine vc_rseq mixed ?_
  refine g_val (s_lss rfl rfl rfl) rfl ?_
  refine g_nil ?_
  refine vc_seq ?_
  refine vc_cond rfl (fun hc18 => ?_) (fun hc18 => ?_)
  replace hc18 := of_decide_eq_true hc18
  have hpk := c_export_Pick k v l i a b hv hk hl
  obtain ⟨c, ok, hck⟩ : ∃ c ok, pickK v l i a b = (c, ok) := ⟨_, _, rfl⟩
  rw [hck] at hpk
  have hlen : (picksR v l a b i).length = i := by simp [picksR]
  refine vc_skip ?_
  refine vc_seq ?_
  refine vc_block ?_
  refine vc_rseq mixed ?_
  refine g_val (s_move rfl rfl) rfl ?_
  refine g_val (s_assign rfl rfl) rfl ?_
  refine g_nil ?_
  refine vc_rseq mixed ?_
  refine g_val (s_loadA rfl rfl rfl rfl rfl) rfl ?_
  refine g_val (s_move rfl rfl) rfl ?_
  refine g_val (s_move rfl rfl) rfl ?_
  refine g_val (s_move rfl rfl) rfl ?_
  refine g_val (s_move rfl rfl) rfl ?_
  refine g_val (s_call [] (hpk) (evArgs_cons rfl (evArgs_cons rfl (evArgs_cons rfl (evArgs_cons rfl (evArgs_cons rfl evArgs_nil))))) trivial rfl (okVL_nil _) rfl (.inl rfl) rfl) rfl ?_
  refine g_val (s_move rfl rfl) rfl ?_
  refine g_val (s_extract rfl rfl rfl) rfl ?_
  refine g_val (s_extract rfl rfl rfl) rfl ?_
  refine g_new (s_alloc 12 rfl rfl) rfl ?_
  refine g_sto (s_store rfl rfl rfl rfl rfl rfl) rfl ?_
  refine g_val (s_assign rfl rfl) rfl ?_
  refine g_nil ?_
  refine vc_seq ?_
  refine vc_rseq mixed ?_
  refine g_val (s_move rfl rfl) rfl ?_
  refine g_val (s_not rfl rfl) rfl ?_
  refine g_nil ?_
  refine vc_cond rfl (fun hc30 => ?_) (fun hc30 => ?_)
  simp only [Bool.not_eq_true'] at hc30
  have hno : picksK v l a b = ([], 32) := if_neg (by
    intro h
    have := List.all_eq_true.1 h i (List.mem_range.2 (by omega))
    rw [hck] at this
    simp only at this
    rw [this] at hc30
    simp at hc30)
  rw [hno]
  refine vc_rseq mixed ?_
  refine g_val (s_assign rfl rfl) rfl ?_
  refine g_val (s_assign rfl rfl) rfl ?_
  refine g_nil ?_
  exact vc_ret (ret_le [] _ (.cons (.tmp rfl) (.cons (.tmp rfl) .nil)) trivial (LeV.tupL (leL_cons (.nl (by decide) (by decide)) (leL_cons (LeV.tt rfl) leL_nil))) rfl)
  simp only [Bool.not_eq_false'] at hc30
  refine vc_skip ?_
  refine vc_region mixed ?_
  refine g_val (s_move rfl rfl) rfl ?_
  refine g_val (s_loadA rfl rfl rfl rfl rfl) rfl ?_
  refine g_fz ((s_buildSlice 33 (evArgs_cons rfl evArgs_nil) rfl rfl rfl rfl).fzE rfl) rfl ?_
  refine g_app (s_append 34 rfl rfl rfl rfl rfl (by simp [hlen]) rfl rfl (by (try simp only [List.length_cons, List.length_nil, List.length_map]); omega)) rfl ?_
  refine g_val (s_assign rfl rfl) rfl ?_
  refine g_nil ?_
  refine vc_region mixed ?_
  refine g_val (s_add rfl rfl rfl (by simp only [inI, kMin, kMax]; omega)) rfl ?_
  refine g_val (s_move rfl rfl) rfl ?_
  refine g_nil ?_
  exact ⟨by omega, fun j hj => by rcases Nat.lt_succ_iff_lt_or_eq.1 hj with h | rfl; exact hJ j h; rw [hck]; simpa using hc30, by
  simp only [List.length_cons, List.length_nil]
  exact (leE_gen [] [(10, 34)] (by repeat (first | exact letm_nil _ _ | refine letm_cons rfl ?_ ?_ | exact LeV.tt rfl | exact .eq (okV_nil _) rfl | exact LeV.tt (by first | (simp; done) | (rw [List.take_of_length_le (by simp [hlen])]; simp [picksR, List.range_succ, hck, chkC])) | exact .eq (okV_nil _) (by first | (simp; done) | (rw [List.take_of_length_le (by simp [hlen])]; simp [picksR, List.range_succ, hck, chkC])))) (by repeat (first | exact lehp_nil _ _ | refine lehp_cons rfl ?_ ?_ | exact leB_row (by first | rfl | (first | (simp; done) | (rw [List.take_of_length_le (by simp [hlen])]; simp [picksR, List.range_succ, hck, chkC]))) | exact leB_obj (by first | (simp; done) | (rw [List.take_of_length_le (by simp [hlen])]; simp [picksR, List.range_succ, hck, chkC])) | exact leB_nest (by first | rfl | (first | (simp; done) | (rw [List.take_of_length_le (by simp [hlen])]; simp [picksR, List.range_succ, hck, chkC]))) | refine leB_box ?_ | exact leL_nil | refine leL_cons ?_ ?_ | exact LeV.tt rfl | exact .eq (okV_nil _) rfl | exact LeV.tt (by first | (simp; done) | (rw [List.take_of_length_le (by simp [hlen])]; simp [picksR, List.range_succ, hck, chkC])) | exact .eq (okV_nil _) (by first | (simp; done) | (rw [List.take_of_length_le (by simp [hlen])]; simp [picksR, List.range_succ, hck, chkC])))) trivial rfl)⟩
  replace hc18 := of_decide_eq_false hc18
  simp only [Int.not_lt] at hc18
  refine vc_exit ?_
  obtain rfl : i = v.place.length := by omega
  rw [show picksK v l a b = (picksR v l a b v.place.length, 0) from if_pos (List.all_eq_true.2 fun n hn => hJ n (List.mem_range.1 hn))]
  refine vc_rseq mixed ?_
  refine g_val (s_move rfl rfl) rfl ?_
  refine g_val (s_assign rfl rfl) rfl ?_
  refine g_val (s_assign rfl rfl) rfl ?_
  refine g_nil ?_
  exact vc_ret (ret_le [(10, _)] _ (.cons (.tmp rfl) (.cons (.tmp rfl) .nil)) ⟨rfl, trivial⟩ (LeV.tupL (leL_cons (.eq (by simp [AV.okV, okR, lkB, picksR]) (by simp [AV.view, viewR, lkB, AV.ren, chksT, picksR, List.take_of_length_le])) (leL_cons (LeV.tt rfl) leL_nil))) rfl)

def itemK (v : Volume) (n : Int) (c : Chunk) (b t : Int) : Item := ⟨n * v.per + b, (readK c b t).1⟩

theorem c_export_item (v : Volume) (n : Int) (c : Chunk) (b t : Int) (hc : chkSm c) (hn : 0 ≤ n ∧ n ≤ 100000) (hp : 0 ≤ v.per ∧ v.per ≤ 100000) (hb : 0 ≤ b ∧ b ≤ 100000) : Con Tryz.prog 39 [sC (volC v), AI .i64 n, sC (chkC c), AI .i64 b, AI .i64 t] [] (sC (itemC (itemK v n c b t))) [] := by
  refine con_intro [] [] Tryz.func39 rfl Tryz.ntmps39 Tryz.results39 rfl rfl ?_
  intro E
  have h0 : 0 ≤ n * v.per := Int.mul_nonneg hn.1 hp.1
  have h1 : n * v.per ≤ 100000 * 100000 := Int.mul_le_mul hn.2 hp.2 hp.1 (by omega)
  refine vc_rseq mixed ?_
  refine g_new (s_box 5 rfl rfl rfl rfl) rfl ?_
  refine g_new (s_box 7 rfl rfl rfl rfl) rfl ?_
  refine g_new (s_alloc 10 rfl rfl) rfl ?_
  refine g_nil ?_
  refine vc_rseq mixed ?_
  refine g_val (s_loadA rfl rfl rfl rfl rfl) rfl ?_
  refine g_val (s_move rfl rfl) rfl ?_
  refine g_val (s_move rfl rfl) rfl ?_
  refine g_val (s_call [] (c_chunk_Read c b t hc) (evArgs_cons rfl (evArgs_cons rfl (evArgs_cons rfl evArgs_nil))) trivial rfl (okVL_nil _) rfl (.inl rfl) rfl) rfl ?_
  refine g_val (s_move rfl rfl) rfl ?_
  refine g_val (s_extract rfl rfl rfl) rfl ?_
  refine g_val (s_extract rfl rfl rfl) rfl ?_
  refine g_val (s_assign rfl rfl) rfl ?_
  refine g_val (s_assign rfl rfl) rfl ?_
  refine g_nil ?_
  refine vc_rseq mixed ?_
  refine g_val (s_move rfl rfl) rfl ?_
  refine g_val (s_field rfl rfl rfl rfl) rfl ?_
  refine g_val (s_load rfl rfl rfl rfl) rfl ?_
  refine g_val (s_mul rfl rfl rfl (by simp only [inI, kMin, kMax]; omega)) rfl ?_
  refine g_val (s_move rfl rfl) rfl ?_
  refine g_val (s_add rfl rfl rfl (by simp only [inI, kMin, kMax]; omega)) rfl ?_
  refine g_val (s_move rfl rfl) rfl ?_
  refine g_val (s_build (evArgs_cons rfl (evArgs_cons rfl evArgs_nil)) rfl rfl rfl) rfl ?_
  refine g_sto (s_store rfl rfl rfl rfl rfl rfl) rfl ?_
  refine g_nil ?_
  exact vc_ret (ret_le [] _ (.cons (.agg rfl rfl rfl rfl) .nil) trivial (by repeat (first | exact leL_nil | refine leL_cons ?_ ?_ | exact LeV.tt rfl | exact .nl (by decide) (by decide) | exact .nn | refine LeV.tupL ?_ | refine LeV.aggL ?_ | exact .eq (by first | exact trivial | (simp [AV.okV, okR, lkB]; done) | (simp [AV.okV, okR, lkB]; omega)) (by first | rfl | (simp [AV.view, viewR, lkB, AV.ren, List.take_of_length_le]; done) | (simp [AV.view, viewR, lkB, AV.ren, List.take_of_length_le]; done)))) rfl)

end Go.Eng

set_option maxHeartbeats 8000000
namespace Go.Eng
open Go.Proofs

structure Strm where
  blocks : Int
  size : Int
  frm : Int
  to : Int
  items : List Item
deriving DecidableEq
def strC (s : Strm) : List T := [i64 s.blocks, i64 s.size, i64 s.frm, i64 s.to, itemsT s.items]
def strZ : Strm := ⟨0, 0, 0, 0, []⟩

def itsK (v : Volume) (n : Nat) (c : Chunk) (t : Int) (m : Nat) : List Item := (List.range m).map fun b : Nat => itemK v n c b t
def fullI (v : Volume) (t : Int) (cs : List Chunk) (i : Nat) : List Item := ((List.range i).map fun n : Nat => itsK v n (cs.getD n chkZ) t (cs.getD n chkZ).count.toNat).flatten
def fullK (v : Volume) (l : List Chunk) (t : Int) : Strm × Int :=
  if mayF v t t ≠ 0 then (strZ, mayF v t t) else if (picksK v l t t).2 ≠ 0 then (strZ, (picksK v l t t).2)
  else (⟨v.blocks, v.size, -1, t, fullI v t (picksK v l t t).1 (picksK v l t t).1.length⟩, 0)
theorem itsK_len (v : Volume) (n : Nat) (c : Chunk) (t : Int) (m : Nat) : (itsK v n c t m).length = m := by simp [itsK]
theorem itsK_snoc (v : Volume) (n : Nat) (c : Chunk) (t : Int) (m : Nat) : itsK v n c t (m + 1) = itsK v n c t m ++ [itemK v n c m t] := by simp [itsK, List.range_succ]
theorem fullI_snoc (v : Volume) (t : Int) (cs : List Chunk) (i : Nat) : fullI v t cs (i + 1) = fullI v t cs i ++ itsK v i (cs.getD i chkZ) t (cs.getD i chkZ).count.toNat := by simp [fullI, List.range_succ]
theorem fullI_len {v : Volume} {t : Int} {cs : List Chunk} (h : ∀ n, (cs.getD n chkZ).count ≤ 1000) : ∀ i, (fullI v t cs i).length ≤ 1000 * i
  | 0 => by simp [fullI]
  | i + 1 => by
    have h1 := fullI_len h (v := v) (t := t) i
    have h2 := h i
    rw [fullI_snoc, List.length_append, itsK_len]
    omega

theorem picksK_sm {v : Volume} {l : List Chunk} {a b : Int} (hl : ∀ c ∈ l, chkSm c) : ∀ c ∈ (picksK v l a b).1, chkSm c := by
  intro c hc
  unfold picksK at hc
  split at hc
  rename_i h
  obtain ⟨n, hn, rfl⟩ := List.mem_map.1 hc
  have := List.all_eq_true.1 h n hn
  unfold pickK at this ⊢
  split at this
  rename_i h1
  rw [if_pos h1]
  exact hl _ (pickL_mem this).1
  cases this
  cases hc
theorem getD_sm {l : List Chunk} (hl : ∀ c ∈ l, chkSm c) (n : Nat) : chkSm (l.getD n chkZ) := by
  rw [List.getD_eq_getElem?_getD]
  cases h : l[n]? with
  | none => exact chkSm_Z
  | some c => exact hl c (List.mem_of_getElem? h)
theorem picksK_len (v : Volume) (l : List Chunk) (a b : Int) : (picksK v l a b).1.length ≤ v.place.length := by
  unfold picksK; split <;> simp [picksR]
theorem VR.plen {k : Nat} {v : Volume} (h : VR k v) : v.place.length ≤ 512 := by
  obtain ⟨s1, s2, s3, s4, s5, s6, s7, s8, s9, s10, s11, s12⟩ := h.shape
  have : (v.place.length : Int) ≤ 512 := by
    rw [s9]
    unfold chunksN
    have := Int.ediv_le_self (a := v.blocks + v.per - 1) v.per (by omega)
    omega
  omega

theorem c_export_Full (k : Nat) (v : Volume) (l : List Chunk) (t : Int) (hv : VR k v) (hk : k ≤ 10000) (hl : ∀ c ∈ l, chkSm c) : Con Tryz.prog 13 [sC (volC v), .t (chksT l), AI .i64 t] [] (.tup [sC (strC (fullK v l t).1), AI .i64 (fullK v l t).2]) [] := by
  refine con_intro [] [] Tryz.func13 rfl Tryz.ntmps13 Tryz.results13 rfl rfl ?_
  intro E
  have hpl := hv.plen
  obtain ⟨s1, s2, s3, s4, s5, s6, s7, s8, s9, s10, s11, s12⟩ := hv.shape
  have hps := picksK_sm (v := v) (a := t) (b := t) hl
  have hpl2 := picksK_len v l t t
  have hpk := c_export_picks k v l t t hv hk hl
  unfold fullK
  generalize picksK v l t t = r at *
  obtain ⟨cs, e⟩ := r
  simp only at hps hpl2 hpk ⊢
  refine vc_rseq mixed ?_
  refine g_new (s_box 3 rfl rfl rfl rfl) rfl ?_
  refine g_new (s_alloc 6 rfl rfl) rfl ?_
  refine g_val (s_assign rfl rfl) rfl ?_
  refine g_nil ?_
  refine vc_seq ?_
  refine vc_rseq mixed ?_
  refine g_val (s_loadA rfl rfl rfl rfl rfl) rfl ?_
  refine g_val (s_move rfl rfl) rfl ?_
  refine g_val (s_move rfl rfl) rfl ?_
  refine g_val (s_call [] (c_export_may v t t) (evArgs_cons rfl (evArgs_cons rfl (evArgs_cons rfl evArgs_nil))) trivial rfl (okVL_nil _) rfl (.inl rfl) rfl) rfl ?_
  refine g_val (s_assign rfl rfl) rfl ?_
  refine g_nil ?_
  refine vc_rseq mixed ?_
  refine g_val (s_move rfl rfl) rfl ?_
  refine g_val (s_neq rfl rfl rfl) rfl ?_
  refine g_nil ?_
  refine vc_cond rfl (fun hc20 => ?_) (fun hc20 => ?_)
  replace hc20 := of_decide_eq_true hc20
  simp only [ne_eq] at hc20
  rw [if_pos hc20]
  refine vc_rseq mixed ?_
  refine g_val (s_build evArgs_nil rfl rfl rfl) rfl ?_
  refine g_val (s_move rfl rfl) rfl ?_
  refine g_sto (s_store rfl rfl rfl rfl rfl rfl) rfl ?_
  refine g_val (s_assign rfl rfl) rfl ?_
  refine g_nil ?_
  exact vc_ret (ret_le [] _ (.cons (.agg rfl rfl rfl rfl) (.cons (.tmp rfl) .nil)) trivial (by repeat (first | exact leL_nil | refine leL_cons ?_ ?_ | exact LeV.tt rfl | exact .nl (by decide) (by decide) | exact .nn | refine LeV.tupL ?_ | refine LeV.aggL ?_ | exact .eq (by first | exact trivial | (simp [AV.okV, okR, lkB]; done) | (simp [AV.okV, okR, lkB]; omega)) (by first | rfl | (simp [AV.view, viewR, lkB, AV.ren, List.take_of_length_le]; done) | (simp [AV.view, viewR, lkB, AV.ren, List.take_of_length_le]; done)))) rfl)
  replace hc20 := of_decide_eq_false hc20
  simp only [ne_eq, Decidable.not_not] at hc20
  refine vc_skip ?_
  rw [if_neg (by simpa using hc20)]
  refine vc_rseq mixed ?_
  refine g_val (s_loadA rfl rfl rfl rfl rfl) rfl ?_
  refine g_val (s_move rfl rfl) rfl ?_
  refine g_val (s_move rfl rfl) rfl ?_
  refine g_val (s_move rfl rfl) rfl ?_
  refine g_val (s_call [] (hpk) (evArgs_cons rfl (evArgs_cons rfl (evArgs_cons rfl (evArgs_cons rfl evArgs_nil)))) trivial rfl (okVL_nil _) rfl (.inl rfl) rfl) rfl ?_
  refine g_val (s_move rfl rfl) rfl ?_
  refine g_val (s_extract rfl rfl rfl) rfl ?_
  refine g_val (s_extract rfl rfl rfl) rfl ?_
  refine g_val (s_assign rfl rfl) rfl ?_
  refine g_val (s_assign rfl rfl) rfl ?_
  refine g_nil ?_
  refine vc_seq ?_
  refine vc_rseq mixed ?_
  refine g_val (s_move rfl rfl) rfl ?_
  refine g_val (s_neq rfl rfl rfl) rfl ?_
  refine g_nil ?_
  refine vc_cond rfl (fun hc32 => ?_) (fun hc32 => ?_)
  replace hc32 := of_decide_eq_true hc32
  simp only [ne_eq] at hc32
  rw [if_pos hc32]
  refine vc_rseq mixed ?_
  refine g_val (s_build evArgs_nil rfl rfl rfl) rfl ?_
  refine g_val (s_move rfl rfl) rfl ?_
  refine g_sto (s_store rfl rfl rfl rfl rfl rfl) rfl ?_
  refine g_val (s_assign rfl rfl) rfl ?_
  refine g_nil ?_
  exact vc_ret (ret_le [] _ (.cons (.agg rfl rfl rfl rfl) (.cons (.tmp rfl) .nil)) trivial (by repeat (first | exact leL_nil | refine leL_cons ?_ ?_ | exact LeV.tt rfl | exact .nl (by decide) (by decide) | exact .nn | refine LeV.tupL ?_ | refine LeV.aggL ?_ | exact .eq (by first | exact trivial | (simp [AV.okV, okR, lkB]; done) | (simp [AV.okV, okR, lkB]; omega)) (by first | rfl | (simp [AV.view, viewR, lkB, AV.ren, List.take_of_length_le]; done) | (simp [AV.view, viewR, lkB, AV.ren, List.take_of_length_le]; done)))) rfl)
  replace hc32 := of_decide_eq_false hc32
  simp only [ne_eq, Decidable.not_not] at hc32
  refine vc_skip ?_
  rw [if_neg (by simpa using hc32)]
  refine vc_rseq mixed ?_
  refine g_val (s_field rfl rfl rfl rfl) rfl ?_
  refine g_val (s_load rfl rfl rfl rfl) rfl ?_
  refine g_val (s_field rfl rfl rfl rfl) rfl ?_
  refine g_val (s_load rfl rfl rfl rfl) rfl ?_
  refine g_val (s_move rfl rfl) rfl ?_
  refine g_val (s_build (evArgs_cons rfl (evArgs_cons rfl (evArgs_cons rfl (evArgs_cons rfl evArgs_nil)))) rfl rfl rfl) rfl ?_
  refine g_new (s_alloc 11 rfl rfl) rfl ?_
  refine g_sto (s_store rfl rfl rfl rfl rfl rfl) rfl ?_
  refine g_nil ?_
  refine vc_seq ?_
  refine vc_ownnilB (q0 := 11) 4 4 2 32 rfl rfl rfl rfl ?_
  refine vc_rseq mixed ?_
  refine g_val (s_move rfl rfl) rfl ?_
  refine g_val (s_len rfl rfl) rfl ?_
  refine g_val (s_move rfl rfl) rfl ?_
  refine g_nil ?_
  refine vc_block ?_
  refine vc_up cs.length (fun i => ⟨[(2, AI .i64 t), (3, .ref 3 0), (6, .ref 6 0), (11, .ref 11 0), (41, .t (chksT cs)), (42, AI .i64 cs.length), (43, AI .i64 i)], [(3, some (.box ((volC v).map .t))), (6, some (.box ((strC strZ).map .t))), (11, some (.box [.t (i64 v.blocks), .t (i64 v.size), AI .i64 (-1), AI .i64 t, .rows 4 2 0 (fullI v t cs i).length])), (4, some (.row 2 32 ((fullI v t cs i).map itemC)))], [3, 6, 11, 4]⟩) (fun i => True) (leE_same (by repeat (first | exact letm_nil _ _ | refine letm_cons rfl ?_ ?_ | exact .same _ | exact .nl (by decide) (by decide) | exact .nn | exact .id' rfl | exact .id' (by first | (simp; done) | (simp [fullI]; done)))) (by repeat (first | exact lehp_nil _ _ | refine lehp_cons rfl ?_ ?_ | exact leB_same _ | exact leB_row (by first | rfl | (first | (simp; done) | (simp [fullI]; done))) | exact leB_obj (by first | (simp; done) | (simp [fullI]; done)) | exact leB_nest (by first | rfl | (first | (simp; done) | (simp [fullI]; done))) | refine leB_box ?_ | exact leL_nil | refine leL_cons ?_ ?_ | exact .same _ | exact .nl (by decide) (by decide) | exact .nn | exact .id' rfl | exact .id' (by first | (simp; done) | (simp [fullI]; done)))) rfl) trivial (fun i hi _ => ?_)
  refine vc_rseq mixed ?_
  refine g_val (s_lss rfl rfl rfl) rfl ?_
  refine g_nil ?_
  refine vc_seq ?_
  refine vc_cond rfl (fun hc44 => ?_) (fun hc44 => ?_)
  replace hc44 := of_decide_eq_true hc44
  obtain ⟨c, hc⟩ := get_of_lt (l := cs) (i := i) (by omega)
  have hcm := hps c (List.mem_of_getElem? hc)
  have hcc := hcm.cnt
  have hgd : cs.getD i chkZ = c := by rw [List.getD_eq_getElem?_getD, hc]; rfl
  have hfl := fullI_len (v := v) (t := t) (cs := cs) (fun n => (getD_sm hps n).cnt) i
  have hfs := fullI_snoc v t cs i
  rw [hgd] at hfs
  rw [hfs]
  generalize hF : fullI v t cs i = F at *
  refine vc_skip ?_
  refine vc_seq ?_
  refine vc_block ?_
  refine vc_rseq mixed ?_
  refine g_val (s_move rfl rfl) rfl ?_
  refine g_val (s_index rfl rfl rfl (by omega) (idx_map hc)) rfl ?_
  refine g_val (s_loadTA rfl rfl rfl) rfl ?_
  refine g_new (s_alloc 13 rfl rfl) rfl ?_
  refine g_val (s_assign rfl rfl) rfl ?_
  refine g_sto (s_store rfl rfl rfl rfl rfl rfl) rfl ?_
  refine g_nil ?_
  refine vc_rseq mixed ?_
  refine g_val (s_field rfl rfl rfl rfl) rfl ?_
  refine g_val (s_load rfl rfl rfl rfl) rfl ?_
  refine g_val (s_move rfl rfl) rfl ?_
  refine g_nil ?_
  refine vc_block ?_
  refine vc_up c.count.toNat (fun m => ⟨[(2, AI .i64 t), (3, .ref 3 0), (6, .ref 6 0), (11, .ref 11 0), (12, AI .i64 i), (13, .ref 13 0), (41, .t (chksT cs)), (42, AI .i64 cs.length), (43, AI .i64 i), (49, AI .i64 c.count), (50, AI .i64 m)], [(3, some (.box ((volC v).map .t))), (6, some (.box ((strC strZ).map .t))), (11, some (.box [.t (i64 v.blocks), .t (i64 v.size), AI .i64 (-1), AI .i64 t, .rows 4 2 0 (F.length + m)])), (4, some (.row 2 32 ((F ++ itsK v i c t m).map itemC))), (13, some (.box ((chkC c).map .t)))], [3, 6, 11, 4, 13]⟩) (fun m => True) (leE_same (by repeat (first | exact letm_nil _ _ | refine letm_cons rfl ?_ ?_ | exact .same _ | exact .nl (by decide) (by decide) | exact .nn | exact .id' rfl | exact .id' (by first | (simp; done) | (simp [itsK]; done)))) (by repeat (first | exact lehp_nil _ _ | refine lehp_cons rfl ?_ ?_ | exact leB_same _ | exact leB_row (by first | rfl | (first | (simp; done) | (simp [itsK]; done))) | exact leB_obj (by first | (simp; done) | (simp [itsK]; done)) | exact leB_nest (by first | rfl | (first | (simp; done) | (simp [itsK]; done))) | refine leB_box ?_ | exact leL_nil | refine leL_cons ?_ ?_ | exact .same _ | exact .nl (by decide) (by decide) | exact .nn | exact .id' rfl | exact .id' (by first | (simp; done) | (simp [itsK]; done)))) rfl) trivial (fun m hm _ => ?_)
  refine vc_rseq mixed ?_
  refine g_val (s_lss rfl rfl rfl) rfl ?_
  refine g_nil ?_
  refine vc_seq ?_
  refine vc_cond rfl (fun hc51 => ?_) (fun hc51 => ?_)
  replace hc51 := of_decide_eq_true hc51
  refine vc_skip ?_
  refine vc_seq ?_
  refine vc_block ?_
  refine vc_rseq mixed ?_
  refine g_val (s_move rfl rfl) rfl ?_
  refine g_val (s_assign rfl rfl) rfl ?_
  refine g_nil ?_
  refine vc_region mixed ?_
  refine d_val (s_field rfl rfl rfl rfl) rfl ?_
  refine d_val (s_load rfl rfl rfl rfl) rfl ?_
  refine d_val (s_loadA rfl rfl rfl rfl rfl) rfl ?_
  refine d_val (s_move rfl rfl) rfl ?_
  refine d_val (s_loadA rfl rfl rfl rfl rfl) rfl ?_
  refine d_val (s_move rfl rfl) rfl ?_
  refine d_val (s_move rfl rfl) rfl ?_
  refine d_val (s_call [] (c_export_item v i c m t hcm (by omega) (by omega) (by omega)) (evArgs_cons rfl (evArgs_cons rfl (evArgs_cons rfl (evArgs_cons rfl (evArgs_cons rfl evArgs_nil))))) trivial rfl (okVL_nil _) rfl (.inl rfl) rfl) rfl ?_
  refine d_fz ((s_buildSlice 61 (evArgs_cons rfl evArgs_nil) rfl rfl rfl rfl).fzE rfl) rfl ?_
  refine d_app (s_append 62 rfl rfl rfl rfl rfl (by simp [itsK_len]) rfl rfl (by (try simp only [List.length_cons, List.length_nil, List.length_map, List.length_append, itsK_len]); omega)) rfl ?_
  refine d_val (s_field rfl rfl rfl rfl) rfl ?_
  refine d_sto (s_store rfl rfl rfl rfl rfl rfl) rfl ?_
  refine d_nil rfl ?_
  refine vc_region mixed ?_
  refine g_val (s_add rfl rfl rfl (by simp only [inI, kMin, kMax]; omega)) rfl ?_
  refine g_val (s_move rfl rfl) rfl ?_
  refine g_nil ?_
  exact ⟨by omega, trivial, by
  rw [itsK_snoc]
  simp only [List.length_cons, List.length_nil]
  exact (leE_gen [] [(4, 62)] (by repeat (first | exact letm_nil _ _ | refine letm_cons rfl ?_ ?_ | exact LeV.tt rfl | exact .eq (okV_nil _) rfl | exact LeV.tt (by first | (simp; done) | (simp; omega) | (rw [List.take_of_length_le (by simp [itsK_len])]; simp [itemC])) | exact .eq (okV_nil _) (by first | (simp; done) | (simp; omega) | (rw [List.take_of_length_le (by simp [itsK_len])]; simp [itemC])))) (by repeat (first | exact lehp_nil _ _ | refine lehp_cons rfl ?_ ?_ | exact leB_row (by first | rfl | (first | (simp; done) | (simp; omega) | (rw [List.take_of_length_le (by simp [itsK_len])]; simp [itemC]))) | exact leB_obj (by first | (simp; done) | (simp; omega) | (rw [List.take_of_length_le (by simp [itsK_len])]; simp [itemC])) | exact leB_nest (by first | rfl | (first | (simp; done) | (simp; omega) | (rw [List.take_of_length_le (by simp [itsK_len])]; simp [itemC]))) | refine leB_box ?_ | exact leL_nil | refine leL_cons ?_ ?_ | exact LeV.tt rfl | exact .eq (okV_nil _) rfl | exact LeV.tt (by first | (simp; done) | (simp; omega) | (rw [List.take_of_length_le (by simp [itsK_len])]; simp [itemC])) | exact .eq (okV_nil _) (by first | (simp; done) | (simp; omega) | (rw [List.take_of_length_le (by simp [itsK_len])]; simp [itemC])))) trivial rfl)⟩
  replace hc51 := of_decide_eq_false hc51
  simp only [Int.not_lt] at hc51
  refine vc_exit ?_
  refine vc_region mixed ?_
  refine g_val (s_add rfl rfl rfl (by simp only [inI, kMin, kMax]; omega)) rfl ?_
  refine g_val (s_move rfl rfl) rfl ?_
  refine g_nil ?_
  have hmc : m = c.count.toNat := by omega
  subst hmc
  exact ⟨by omega, trivial, (leE_same (by repeat (first | exact letm_nil _ _ | refine letm_cons rfl ?_ ?_ | exact .same _ | exact .nl (by decide) (by decide) | exact .nn | exact .id' rfl | exact .id' (by simp [itsK_len]; done))) (by repeat (first | exact lehp_nil _ _ | refine lehp_cons rfl ?_ ?_ | exact leB_same _ | exact leB_row (by first | rfl | (simp [itsK_len]; done)) | exact leB_obj (by simp [itsK_len]; done) | exact leB_nest (by first | rfl | (simp [itsK_len]; done)) | refine leB_box ?_ | exact leL_nil | refine leL_cons ?_ ?_ | exact .same _ | exact .nl (by decide) (by decide) | exact .nn | exact .id' rfl | exact .id' (by simp [itsK_len]; done))) rfl)⟩
  replace hc44 := of_decide_eq_false hc44
  simp only [Int.not_lt] at hc44
  refine vc_exit ?_
  obtain rfl : i = cs.length := by omega
  refine vc_rseq mixed ?_
  refine g_val (s_loadA rfl rfl rfl rfl rfl) rfl ?_
  refine g_sto (s_store rfl rfl rfl rfl rfl rfl) rfl ?_
  refine g_val (s_assign rfl rfl) rfl ?_
  refine g_nil ?_
  exact vc_ret (ret_le [(4, _)] _ (.cons (.agg rfl rfl rfl rfl) (.cons (.tmp rfl) .nil)) ⟨rfl, trivial⟩ (by repeat (first | exact leL_nil | refine leL_cons ?_ ?_ | exact LeV.tt rfl | exact .nl (by decide) (by decide) | exact .nn | refine LeV.tupL ?_ | refine LeV.aggL ?_ | exact .eq (by first | exact trivial | (simp [AV.okV, okR, lkB]; done) | (simp [AV.okV, okR, lkB]; omega)) (by first | rfl | (simp [AV.view, viewR, lkB, AV.ren, List.take_of_length_le]; done) | (simp [AV.view, viewR, lkB, AV.ren, List.take_of_length_le]; simp [i64, itemsT, take_map_len]; done)))) rfl)

end Go.Eng
