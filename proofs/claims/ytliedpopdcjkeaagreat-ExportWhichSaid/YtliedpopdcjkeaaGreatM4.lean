/- The law mementolaw23.ExportWhich returns true for every input and leaves its arguments as they were; no condition beyond the row's own. Part 4. -/
import Derived.Test.YtliedpopdcjkeaaGreatM3
set_option linter.unusedVariables false
set_option linter.unusedSimpArgs false
set_option maxHeartbeats 4000000
namespace Go.Eng
open Go.Proofs

theorem numR_len : ∀ (b : List Int) (i : Nat) (n most : Int), (numR b i n most).2.1.length ≤ b.length
  | [], i, n, most => by simp [numR]
  | c :: r, i, n, most => by
    have := numR_len r (i + 1) (numStep n i c) most
    simp only [numR]
    (repeat' split) <;> simp <;> omega
theorem numF_len (b : List Int) (e most : Int) : (numF b e most).2.1.length ≤ b.length := by
  unfold numF
  split
  exact Nat.le_refl _
  exact numR_len ..
theorem numStep_nn (n : Int) (i : Nat) (c : Int) : 0 ≤ numStep n i c := by
  have := (wrap_ok .u64 ((BitVec.ofInt 64 n ||| BitVec.ofInt 64 (shlI .u64 (IntKind.u64.wrap (andI .u8 c 127)) (7 * i))).toNat : Int)).1
  have h2 : IntKind.u64.min = 0 := by decide
  rw [h2] at this
  exact this
theorem numR_nn : ∀ (b : List Int) (i : Nat) (n most : Int), 0 ≤ (numR b i n most).1
  | [], i, n, most => by simp [numR]
  | c :: r, i, n, most => by
    have := numR_nn r (i + 1) (numStep n i c) most
    have h2 := numStep_nn n i c
    simp only [numR]
    (repeat' split) <;> first | exact Int.le_refl _ | assumption
theorem numF_nn (b : List Int) (e most : Int) : 0 ≤ (numF b e most).1 := by
  unfold numF
  split
  exact Int.le_refl _
  exact numR_nn ..

def lumpR (b : List Int) (e most : Int) : List Int × List Int × Int :=
  if (numF b e (max most 0)).2.2 ≠ 0 then ([], (numF b e (max most 0)).2.1, (numF b e (max most 0)).2.2)
  else if ((numF b e (max most 0)).2.1.length : Int) < (numF b e (max most 0)).1 then ([], [], 21)
  else ((numF b e (max most 0)).2.1.take (numF b e (max most 0)).1.toNat, (numF b e (max most 0)).2.1.drop (numF b e (max most 0)).1.toNat, (numF b e (max most 0)).2.2)

theorem c_Reader_Lump (b : List Int) (e most : Int) (hb : b.length ≤ 1000000000) : Con Tryz.prog 107 [.ref 1000 0, AI .i64 most] [(1000, .box (rdrA b e))] (.t (bytesT (lumpR b e most).1)) [(1000, .box (rdrA (lumpR b e most).2.1 (lumpR b e most).2.2))] := by
  refine con_intro [1000] [1000] Tryz.func107 rfl Tryz.ntmps107 Tryz.results107 rfl rfl ?_
  intro E
  refine vc_int (t := 1) rfl fun hm => ?_
  simp only [inI, kMin, kMax] at hm
  have hlen := numF_len b e (max most 0)
  have hnn := numF_nn b e (max most 0)
  unfold lumpR
  generalize hr : numF b e (max most 0) = r at *
  obtain ⟨n, b1, e1⟩ := r
  simp only at hlen hnn ⊢
  have hc : Con Tryz.prog 87 [.ref 1000 0, AI .u64 (max most 0)] [(1000, .box (rdrA b e))] (AI .u64 n) [(1000, .box (rdrA b1 e1))] := by
    have := c_Reader_Num b e (max most 0) hb
    rw [hr] at this
    exact this
  refine vc_rseq mixed ?_
  refine g_val (s_assign rfl rfl) rfl ?_
  refine g_nil ?_
  refine vc_rseq mixed ?_
  refine g_val (s_move rfl rfl) rfl ?_
  refine g_val (s_move rfl rfl) rfl ?_
  refine g_val (s_max rfl rfl rfl) rfl ?_
  refine g_val (s_conv rfl rfl (by simp only [inI, kMin, kMax]; omega)) rfl ?_
  refine g_cw (s_callH [] [] hc (evArgs_cons rfl (evArgs_cons rfl evArgs_nil)) ⟨rfl, trivial⟩ rfl (okVL_nil _) rfl rfl rfl) rfl ?_
  refine g_val (s_assign rfl rfl) rfl ?_
  refine g_nil ?_
  refine vc_seq ?_
  refine vc_rseq mixed ?_
  refine g_val (s_move rfl rfl) rfl ?_
  refine g_val (s_nilCheck rfl rfl rfl) rfl ?_
  refine g_val (s_field rfl rfl rfl rfl) rfl ?_
  refine g_val (s_load rfl rfl rfl rfl) rfl ?_
  refine g_val (s_neq rfl rfl rfl) rfl ?_
  refine g_nil ?_
  refine vc_cond rfl (fun hc16 => ?_) (fun hc16 => ?_)
  replace hc16 := of_decide_eq_true hc16
  simp only [ne_eq] at hc16
  rw [if_pos hc16]
  refine vc_rseq mixed ?_
  refine g_val (s_assign rfl rfl) rfl ?_
  refine g_nil ?_
  exact vc_ret (ret_hand [] [] _ (.cons (.tmp rfl) .nil) trivial (.nl (by decide) (by decide)) (lehp_cons rfl (leB_same _) (lehp_nil _ _)) rfl)
  replace hc16 := of_decide_eq_false hc16
  simp only [ne_eq, Decidable.not_not] at hc16
  refine vc_skip ?_
  refine vc_seq ?_
  refine vc_rseq mixed ?_
  refine g_val (s_move rfl rfl) rfl ?_
  refine g_val (s_move rfl rfl) rfl ?_
  refine g_val (s_nilCheck rfl rfl rfl) rfl ?_
  refine g_val (s_field rfl rfl rfl rfl) rfl ?_
  refine g_val (s_load rfl rfl rfl rfl) rfl ?_
  refine g_val (s_len rfl rfl) rfl ?_
  refine g_val (s_conv rfl rfl (by simp only [inI, kMin, kMax, List.length_map]; omega)) rfl ?_
  refine g_val (s_gtr rfl rfl rfl) rfl ?_
  refine g_nil ?_
  refine vc_cond rfl (fun hc24 => ?_) (fun hc24 => ?_)
  replace hc24 := of_decide_eq_true hc24
  simp only [List.length_map] at hc24
  rw [if_neg (by simpa using hc16), if_pos hc24]
  refine vc_rseq mixed ?_
  refine g_val (s_move rfl rfl) rfl ?_
  refine g_cw (s_callH [] [] (c_Reader_fail b1 e1 21) (evArgs_cons rfl (evArgs_cons rfl evArgs_nil)) ⟨rfl, trivial⟩ rfl (okVL_nil _) rfl rfl rfl) rfl ?_
  refine g_nil ?_
  refine vc_rseq mixed ?_
  refine g_val (s_assign rfl rfl) rfl ?_
  refine g_nil ?_
  exact vc_ret (ret_hand [] [] _ (.cons (.tmp rfl) .nil) trivial (.nl (by decide) (by decide)) (lehp_cons rfl (leB_same _) (lehp_nil _ _)) rfl)
  replace hc24 := of_decide_eq_false hc24
  simp only [List.length_map, Int.not_lt] at hc24
  refine vc_skip ?_
  rw [if_neg (by simpa using hc16), if_neg (by omega)]
  refine vc_rseq mixed ?_
  refine g_val (s_move rfl rfl) rfl ?_
  refine g_val (s_nilCheck rfl rfl rfl) rfl ?_
  refine g_val (s_field rfl rfl rfl rfl) rfl ?_
  refine g_val (s_load rfl rfl rfl rfl) rfl ?_
  refine g_val (s_move rfl rfl) rfl ?_
  refine g_val (s_slice none (some (.u64, n)) rfl trivial rfl rfl (by simp) (by simp; omega) (by simp [optN]; omega)) rfl ?_
  refine g_val (s_assign rfl rfl) rfl ?_
  refine g_nil ?_
  refine vc_rseq mixed ?_
  refine g_val (s_move rfl rfl) rfl ?_
  refine g_val (s_move rfl rfl) rfl ?_
  refine g_val (s_nilCheck rfl rfl rfl) rfl ?_
  refine g_val (s_field rfl rfl rfl rfl) rfl ?_
  refine g_val (s_load rfl rfl rfl rfl) rfl ?_
  refine g_val (s_move rfl rfl) rfl ?_
  refine g_val (s_slice (some (.u64, n)) none rfl rfl trivial rfl (by simp; omega) (by simp) (by simp [optN]; omega)) rfl ?_
  refine g_val (s_nilCheck rfl rfl rfl) rfl ?_
  refine g_val (s_field rfl rfl rfl rfl) rfl ?_
  refine g_sto (s_store rfl rfl rfl rfl rfl rfl) rfl ?_
  refine g_nil ?_
  refine vc_rseq mixed ?_
  refine g_val (s_move rfl rfl) rfl ?_
  refine g_val (s_assign rfl rfl) rfl ?_
  refine g_nil ?_
  exact vc_ret (ret_hand [] [] _ (.cons (.tmp rfl) .nil) trivial (.eq trivial (by simp [single, optN, bytesT, AV.view, AV.ren, List.map_take])) (lehp_cons rfl (leB_box (leL_cons (LeV.tt (by simp [optN, bytesT, take_map_len, List.map_drop])) (leL_cons (LeV.tt rfl) leL_nil))) (lehp_nil _ _)) rfl)

end Go.Eng

set_option maxHeartbeats 4000000
namespace Go.Eng
open Go.Proofs

/-- So many numbers, as far as there is no error. -/
def takeG : Nat → List Int → Int → List Int × List Int × Int
  | 0, b, e => ([], b, e)
  | k + 1, b, e => if e ≠ 0 then ([], b, e) else
    let r := numF b e 8
    let s := takeG k r.2.1 r.2.2
    (r.1 :: s.1, s.2)
def takePlaceR (b : List Int) (e : Int) : List Int × List Int × Int :=
  takeG (numF b e 256).1.toNat (numF b e 256).2.1 (numF b e 256).2.2

theorem numR_most : ∀ (b : List Int) (i : Nat) (n most : Int), 0 ≤ most → (numR b i n most).1 ≤ most
  | [], i, n, most, h => by simpa [numR] using h
  | c :: r, i, n, most, h => by
    have := numR_most r (i + 1) (numStep n i c) most h
    simp only [numR]
    (repeat' split) <;> first | exact h | assumption | (simp only; omega)
theorem numF_most (b : List Int) (e most : Int) (h : 0 ≤ most) : (numF b e most).1 ≤ most := by
  unfold numF
  split
  exact h
  exact numR_most b 0 0 most h

structure TakeJ (n : Nat) (B : Nat) (res : List Int × List Int × Int) (i : Nat) (acc b : List Int) (e : Int) : Prop where
  le : i ≤ n
  len : acc.length = i
  bl : b.length ≤ B
  fst : acc ++ (takeG (n - i) b e).1 = res.1
  snd : (takeG (n - i) b e).2 = res.2

theorem TakeJ.step {n B : Nat} {res : List Int × List Int × Int} {i : Nat} {acc b : List Int} (h : TakeJ n B res i acc b 0) (hi : i < n) : TakeJ n B res (i + 1) (acc ++ [(numF b 0 8).1]) (numF b 0 8).2.1 (numF b 0 8).2.2 := by
  have h1 := h.fst
  have h2 := h.snd
  rw [show n - i = (n - (i + 1)) + 1 by omega] at h1 h2
  simp only [takeG, ne_eq, not_true_eq_false, if_false] at h1 h2
  exact ⟨hi, by simp [h.len], Nat.le_trans (numF_len b 0 8) h.bl, by simpa using h1, h2⟩
theorem TakeJ.fin {n B : Nat} {res : List Int × List Int × Int} {i : Nat} {acc b : List Int} {e : Int} (h : TakeJ n B res i acc b e) (hi : n ≤ i ∨ e ≠ 0) : res = (acc, b, e) := by
  have h1 := h.fst
  have h2 := h.snd
  have : takeG (n - i) b e = ([], b, e) := by
    rcases hi with hi | hi
    rw [show n - i = 0 by omega]; rfl
    cases hk : n - i with
    | zero => rfl
    | succ k => simp only [takeG, if_pos hi]
  rw [this] at h1 h2
  simp only [List.append_nil] at h1
  obtain ⟨r1, r2⟩ := res
  simp only at h1 h2
  rw [h1, h2]

theorem c_mementoref16_takePlace_own (b : List Int) (e : Int) (hb : b.length ≤ 1000000000) : Con Tryz.prog 88 [.ref 1000 0] [(1000, .box (rdrA b e))] (.rows 0 1 0 (takePlaceR b e).1.length) [(0, .row 1 8 ((takePlaceR b e).1.map intC)), (1000, .box (rdrA (takePlaceR b e).2.1 (takePlaceR b e).2.2))] := by
  refine con_intro [1000] [0, 1000] Tryz.func88 rfl Tryz.ntmps88 Tryz.results88 rfl rfl ?_
  intro E
  have hlen := numF_len b e 256
  have hnn := numF_nn b e 256
  have hmost := numF_most b e 256 (by omega)
  have hinit : TakeJ (numF b e 256).1.toNat b.length (takePlaceR b e) 0 [] (numF b e 256).2.1 (numF b e 256).2.2 := ⟨Nat.zero_le _, rfl, hlen, rfl, rfl⟩
  generalize hr : numF b e 256 = r at *
  obtain ⟨n, b1, e1⟩ := r
  simp only at hlen hnn hmost hinit
  have hc : Con Tryz.prog 87 [.ref 1000 0, AI .u64 256] [(1000, .box (rdrA b e))] (AI .u64 n) [(1000, .box (rdrA b1 e1))] := by
    have := c_Reader_Num b e 256 hb
    rw [hr] at this
    exact this
  generalize hres : takePlaceR b e = res at *
  refine vc_rseq mixed ?_
  refine g_val (s_assign rfl rfl) rfl ?_
  refine g_nil ?_
  refine vc_rseq mixed ?_
  refine g_val (s_assign rfl rfl) rfl ?_
  refine g_nil ?_
  refine vc_ownnil (i := 3) 3 1 8 rfl rfl rfl ?_
  refine vc_rseq mixed ?_
  refine g_val (s_move rfl rfl) rfl ?_
  refine g_cw (s_callH [] [] hc (evArgs_cons rfl (evArgs_cons rfl evArgs_nil)) ⟨rfl, trivial⟩ rfl (okVL_nil _) rfl rfl rfl) rfl ?_
  refine g_val (s_assign rfl rfl) rfl ?_
  refine g_nil ?_
  refine vc_seq ?_
  refine vc_rseq mixed ?_
  refine g_val (s_assign rfl rfl) rfl ?_
  refine g_nil ?_
  refine vc_block ?_
  refine vc_while (α := Nat × List Int × List Int × Int) (fun s => ⟨[(0, .ref 1000 0), (3, .rows 3 1 0 s.2.1.length), (4, AI .u64 n), (5, AI .u64 s.1)], [(3, some (.row 1 8 (s.2.1.map intC))), (1000, some (.box (rdrA s.2.2.1 s.2.2.2)))], [3, 1000]⟩) (fun s => TakeJ n.toNat b.length res s.1 s.2.1 s.2.2.1 s.2.2.2) (fun s => n.toNat - s.1) (0, [], b1, e1) (leE_same (by repeat (first | exact letm_nil _ _ | refine letm_cons rfl ?_ ?_ | exact .same _ | exact .nl (by decide) (by decide) | exact .nn | exact .id' rfl | exact .id' (by simp; done))) (by repeat (first | exact lehp_nil _ _ | refine lehp_cons rfl ?_ ?_ | exact leB_same _ | exact leB_row (by first | rfl | (simp; done)) | exact leB_obj (by simp; done) | exact leB_nest (by first | rfl | (simp; done)) | refine leB_box ?_ | exact leL_nil | refine leL_cons ?_ ?_ | exact .same _ | exact .nl (by decide) (by decide) | exact .nn | exact .id' rfl | exact .id' (by simp; done))) rfl) hinit (fun s hs => ?_)
  obtain ⟨i, acc, b2, e2⟩ := s
  simp only at hs
  have hs1 := hs.le
  have hs2 := hs.len
  have hs3 := hs.bl
  have hv1 := numF_nn b2 e2 8
  have hv2 := numF_most b2 e2 8 (by omega)
  refine vc_seq ?_
  refine vc_rseq mixed ?_
  refine g_val (s_move rfl rfl) rfl ?_
  refine g_val (s_move rfl rfl) rfl ?_
  refine g_val (s_lss rfl rfl rfl) rfl ?_
  refine g_val (s_move rfl rfl) rfl ?_
  refine g_probe (j := 11) rfl (fun c hg11 => ?_)
  cases c
  rw [← hg11]; replace hg11 := hg11.symm; replace hg11 := of_decide_eq_false hg11
  simp only [Int.not_lt] at hg11
  refine gn_val rfl rfl rfl rfl rfl rfl (by decide) ?_
  refine gn_val rfl rfl rfl rfl rfl rfl (by decide) ?_
  refine gn_val rfl rfl rfl rfl rfl rfl (by decide) ?_
  refine gn_val rfl rfl rfl rfl rfl rfl (by decide) ?_
  refine gn_val rfl rfl rfl rfl rfl rfl (by decide) ?_
  refine g_val (s_pickF rfl rfl rfl) rfl ?_
  refine g_nil ?_
  refine vc_cond rfl (fun h => by cases h) (fun _ => ?_)
  refine vc_exit ?_
  rw [hs.fin (by omega)]
  refine vc_rseq mixed ?_
  refine g_val (s_move rfl rfl) rfl ?_
  refine g_val (s_assign rfl rfl) rfl ?_
  refine g_nil ?_
  exact vc_ret (ret_hand [] [(0, 3)] _ (.cons (.tmp rfl) .nil) trivial (.eq (okV_nil _) rfl) (lehp_cons rfl (leB_row rfl) (lehp_cons rfl (leB_box (leL_cons (LeV.tt rfl) (leL_cons (LeV.tt rfl) leL_nil))) (lehp_nil _ _))) rfl)
  rw [← hg11]; replace hg11 := hg11.symm; replace hg11 := of_decide_eq_true hg11
  try simp only [List.length_map, ne_eq, Decidable.not_not, Int.not_lt, Int.not_le, ge_iff_le, gt_iff_lt, Bool.not_eq_true', Bool.not_eq_false', decide_eq_true_eq, decide_eq_false_iff_not] at hg11
  refine gq_val (s_move rfl rfl) rfl rfl rfl rfl ?_
  refine gq_val (s_nilCheck rfl rfl rfl) rfl rfl rfl rfl ?_
  refine gq_val (s_field rfl rfl rfl rfl) rfl rfl rfl rfl ?_
  refine gq_val (s_load rfl rfl rfl rfl) rfl rfl rfl rfl ?_
  refine gq_val (s_eql rfl rfl rfl) rfl rfl rfl rfl ?_
  refine g_val (s_pickT rfl rfl rfl) rfl ?_
  refine g_nil ?_
  refine vc_cond rfl (fun hc17 => ?_) (fun hc17 => ?_)
  replace hc17 := of_decide_eq_true hc17
  try simp only [List.length_map, ne_eq, Decidable.not_not, Int.not_lt, Int.not_le, ge_iff_le, gt_iff_lt, Bool.not_eq_true', Bool.not_eq_false', decide_eq_true_eq, decide_eq_false_iff_not] at hc17
  obtain rfl : e2 = 0 := hc17
  refine vc_skip ?_
  refine vc_seq ?_
  refine vc_block ?_
  refine vc_region mixed ?_
  refine g_val (s_move rfl rfl) rfl ?_
  refine g_val (s_move rfl rfl) rfl ?_
  refine g_cw (s_callH [] [] (c_Reader_Num b2 0 8 (by omega)) (evArgs_cons rfl (evArgs_cons rfl evArgs_nil)) ⟨rfl, trivial⟩ rfl (okVL_nil _) rfl rfl rfl) rfl ?_
  refine g_val (s_conv rfl rfl (by simp only [inI, kMin, kMax]; omega)) rfl ?_
  refine g_fz ((s_buildSlice 24 (evArgs_cons rfl evArgs_nil) rfl rfl rfl rfl).fzE rfl) rfl ?_
  refine g_app (s_append 25 rfl rfl rfl rfl rfl (by simp) rfl rfl (by (try simp only [List.length_cons, List.length_nil]); omega)) rfl ?_
  refine g_val (s_assign rfl rfl) rfl ?_
  refine g_nil ?_
  refine vc_region mixed ?_
  refine g_val (s_move rfl rfl) rfl ?_
  refine g_val (s_add rfl rfl rfl (by simp only [inI, kMin, kMax]; omega)) rfl ?_
  refine g_val (s_assign rfl rfl) rfl ?_
  refine g_nil ?_
  exact ⟨(i + 1, acc ++ [(numF b2 0 8).1], (numF b2 0 8).2.1, (numF b2 0 8).2.2), hs.step (by omega), by simp only; omega, by
  simp only [List.length_append, List.length_cons, List.length_nil]
  exact (leE_gen [] [(3, 25)] (by repeat (first | exact letm_nil _ _ | refine letm_cons rfl ?_ ?_ | exact LeV.tt rfl | exact .eq (okV_nil _) rfl | exact LeV.tt (by rw [List.take_of_length_le (by simp)]; simp [intC]) | exact .eq (okV_nil _) (by rw [List.take_of_length_le (by simp)]; simp [intC]))) (by repeat (first | exact lehp_nil _ _ | refine lehp_cons rfl ?_ ?_ | exact leB_row (by first | rfl | (rw [List.take_of_length_le (by simp)]; simp [intC])) | exact leB_obj (by rw [List.take_of_length_le (by simp)]; simp [intC]) | exact leB_nest (by first | rfl | (rw [List.take_of_length_le (by simp)]; simp [intC])) | refine leB_box ?_ | exact leL_nil | refine leL_cons ?_ ?_ | exact LeV.tt rfl | exact .eq (okV_nil _) rfl | exact LeV.tt (by rw [List.take_of_length_le (by simp)]; simp [intC]) | exact .eq (okV_nil _) (by rw [List.take_of_length_le (by simp)]; simp [intC]))) trivial rfl)⟩
  replace hc17 := of_decide_eq_false hc17
  try simp only [List.length_map, ne_eq, Decidable.not_not, Int.not_lt, Int.not_le, ge_iff_le, gt_iff_lt, Bool.not_eq_true', Bool.not_eq_false', decide_eq_true_eq, decide_eq_false_iff_not] at hc17
  refine vc_exit ?_
  rw [hs.fin (by omega)]
  refine vc_rseq mixed ?_
  refine g_val (s_move rfl rfl) rfl ?_
  refine g_val (s_assign rfl rfl) rfl ?_
  refine g_nil ?_
  exact vc_ret (ret_hand [] [(0, 3)] _ (.cons (.tmp rfl) .nil) trivial (.eq (okV_nil _) rfl) (lehp_cons rfl (leB_row rfl) (lehp_cons rfl (leB_box (leL_cons (LeV.tt rfl) (leL_cons (LeV.tt rfl) leL_nil))) (lehp_nil _ _))) rfl)

end Go.Eng

set_option maxHeartbeats 4000000
namespace Go.Eng
open Go.Proofs

theorem lumpR_len (b : List Int) (e most : Int) : (lumpR b e most).2.1.length ≤ b.length ∧ (lumpR b e most).1.length ≤ b.length := by
  have := numF_len b e (max most 0)
  unfold lumpR
  (repeat' split) <;> simp <;> omega

def takeI : Nat → List Int → Int → List Item × List Int × Int
  | 0, b, e => ([], b, e)
  | k + 1, b, e => if e ≠ 0 then ([], b, e) else
    let r := numF b e 256
    let s := lumpR r.2.1 r.2.2 32
    let u := takeI k s.2.1 s.2.2
    (⟨r.1, s.1⟩ :: u.1, u.2)
def takeItemsR (b : List Int) (e : Int) : List Item × List Int × Int :=
  takeI (numF b e 8).1.toNat (numF b e 8).2.1 (numF b e 8).2.2

structure TakeK (n : Nat) (B : Nat) (res : List Item × List Int × Int) (i : Nat) (acc : List Item) (b : List Int) (e : Int) : Prop where
  le : i ≤ n
  len : acc.length = i
  bl : b.length ≤ B
  fst : acc ++ (takeI (n - i) b e).1 = res.1
  snd : (takeI (n - i) b e).2 = res.2

theorem TakeK.step {n B : Nat} {res : List Item × List Int × Int} {i : Nat} {acc : List Item} {b : List Int} (h : TakeK n B res i acc b 0) (hi : i < n) :
    TakeK n B res (i + 1) (acc ++ [⟨(numF b 0 256).1, (lumpR (numF b 0 256).2.1 (numF b 0 256).2.2 32).1⟩]) (lumpR (numF b 0 256).2.1 (numF b 0 256).2.2 32).2.1 (lumpR (numF b 0 256).2.1 (numF b 0 256).2.2 32).2.2 := by
  have h1 := h.fst
  have h2 := h.snd
  rw [show n - i = (n - (i + 1)) + 1 by omega] at h1 h2
  simp only [takeI, ne_eq, not_true_eq_false, if_false] at h1 h2
  exact ⟨hi, by simp [h.len], Nat.le_trans (Nat.le_trans (lumpR_len _ _ _).1 (numF_len b 0 256)) h.bl, by simpa using h1, h2⟩
theorem TakeK.fin {n B : Nat} {res : List Item × List Int × Int} {i : Nat} {acc : List Item} {b : List Int} {e : Int} (h : TakeK n B res i acc b e) (hi : n ≤ i ∨ e ≠ 0) : res = (acc, b, e) := by
  have h1 := h.fst
  have h2 := h.snd
  have : takeI (n - i) b e = ([], b, e) := by
    rcases hi with hi | hi
    rw [show n - i = 0 by omega]; rfl
    cases hk : n - i with
    | zero => rfl
    | succ k => simp only [takeI, if_pos hi]
  rw [this] at h1 h2
  simp only [List.append_nil] at h1
  obtain ⟨r1, r2⟩ := res
  simp only at h1 h2
  rw [h1, h2]

theorem c_mementoref13_TakeItems_own (b : List Int) (e : Int) (hb : b.length ≤ 1000000000) : Con Tryz.prog 89 [.ref 1000 0] [(1000, .box (rdrA b e))] (.rows 0 2 0 (takeItemsR b e).1.length) [(0, .row 2 32 ((takeItemsR b e).1.map itemC)), (1000, .box (rdrA (takeItemsR b e).2.1 (takeItemsR b e).2.2))] := by
  refine con_intro [1000] [0, 1000] Tryz.func89 rfl Tryz.ntmps89 Tryz.results89 rfl rfl ?_
  intro E
  have hlen := numF_len b e 8
  have hnn := numF_nn b e 8
  have hmost := numF_most b e 8 (by omega)
  have hinit : TakeK (numF b e 8).1.toNat b.length (takeItemsR b e) 0 [] (numF b e 8).2.1 (numF b e 8).2.2 := ⟨Nat.zero_le _, rfl, hlen, rfl, rfl⟩
  generalize hr : numF b e 8 = r at *
  obtain ⟨n, b1, e1⟩ := r
  simp only at hlen hnn hmost hinit
  have hc : Con Tryz.prog 87 [.ref 1000 0, AI .u64 8] [(1000, .box (rdrA b e))] (AI .u64 n) [(1000, .box (rdrA b1 e1))] := by
    have := c_Reader_Num b e 8 hb
    rw [hr] at this
    exact this
  generalize hres : takeItemsR b e = res at *
  refine vc_rseq mixed ?_
  refine g_val (s_assign rfl rfl) rfl ?_
  refine g_nil ?_
  refine vc_rseq mixed ?_
  refine g_val (s_assign rfl rfl) rfl ?_
  refine g_nil ?_
  refine vc_ownnil (i := 3) 3 2 32 rfl rfl rfl ?_
  refine vc_rseq mixed ?_
  refine g_val (s_move rfl rfl) rfl ?_
  refine g_cw (s_callH [] [] hc (evArgs_cons rfl (evArgs_cons rfl evArgs_nil)) ⟨rfl, trivial⟩ rfl (okVL_nil _) rfl rfl rfl) rfl ?_
  refine g_val (s_assign rfl rfl) rfl ?_
  refine g_nil ?_
  refine vc_seq ?_
  refine vc_rseq mixed ?_
  refine g_val (s_assign rfl rfl) rfl ?_
  refine g_nil ?_
  refine vc_block ?_
  refine vc_while (α := Nat × List Item × List Int × Int) (fun s => ⟨[(0, .ref 1000 0), (3, .rows 3 2 0 s.2.1.length), (4, AI .u64 n), (5, AI .u64 s.1)], [(3, some (.row 2 32 (s.2.1.map itemC))), (1000, some (.box (rdrA s.2.2.1 s.2.2.2)))], [3, 1000]⟩) (fun s => TakeK n.toNat b.length res s.1 s.2.1 s.2.2.1 s.2.2.2) (fun s => n.toNat - s.1) (0, [], b1, e1) (leE_same (by repeat (first | exact letm_nil _ _ | refine letm_cons rfl ?_ ?_ | exact .same _ | exact .nl (by decide) (by decide) | exact .nn | exact .id' rfl | exact .id' (by simp; done))) (by repeat (first | exact lehp_nil _ _ | refine lehp_cons rfl ?_ ?_ | exact leB_same _ | exact leB_row (by first | rfl | (simp; done)) | exact leB_obj (by simp; done) | exact leB_nest (by first | rfl | (simp; done)) | refine leB_box ?_ | exact leL_nil | refine leL_cons ?_ ?_ | exact .same _ | exact .nl (by decide) (by decide) | exact .nn | exact .id' rfl | exact .id' (by simp; done))) rfl) hinit (fun s hs => ?_)
  obtain ⟨i, acc, b2, e2⟩ := s
  simp only at hs
  have hs1 := hs.le
  have hs2 := hs.len
  have hs3 := hs.bl
  refine vc_seq ?_
  refine vc_rseq mixed ?_
  refine g_val (s_move rfl rfl) rfl ?_
  refine g_val (s_move rfl rfl) rfl ?_
  refine g_val (s_lss rfl rfl rfl) rfl ?_
  refine g_val (s_move rfl rfl) rfl ?_
  refine g_probe (j := 12) rfl (fun c hg12 => ?_)
  cases c
  rw [← hg12]; replace hg12 := hg12.symm; replace hg12 := of_decide_eq_false hg12
  simp only [Int.not_lt] at hg12
  refine gn_val rfl rfl rfl rfl rfl rfl (by decide) ?_
  refine gn_val rfl rfl rfl rfl rfl rfl (by decide) ?_
  refine gn_val rfl rfl rfl rfl rfl rfl (by decide) ?_
  refine gn_val rfl rfl rfl rfl rfl rfl (by decide) ?_
  refine gn_val rfl rfl rfl rfl rfl rfl (by decide) ?_
  refine g_val (s_pickF rfl rfl rfl) rfl ?_
  refine g_nil ?_
  refine vc_cond rfl (fun h => by cases h) (fun _ => ?_)
  refine vc_exit ?_
  rw [hs.fin (by omega)]
  refine vc_rseq mixed ?_
  refine g_val (s_move rfl rfl) rfl ?_
  refine g_val (s_assign rfl rfl) rfl ?_
  refine g_nil ?_
  exact vc_ret (ret_hand [] [(0, 3)] _ (.cons (.tmp rfl) .nil) trivial (.eq (okV_nil _) rfl) (lehp_cons rfl (leB_row rfl) (lehp_cons rfl (leB_box (leL_cons (LeV.tt rfl) (leL_cons (LeV.tt rfl) leL_nil))) (lehp_nil _ _))) rfl)
  rw [← hg12]; replace hg12 := hg12.symm; replace hg12 := of_decide_eq_true hg12
  try simp only [List.length_map, ne_eq, Decidable.not_not, Int.not_lt, Int.not_le, ge_iff_le, gt_iff_lt, Bool.not_eq_true', Bool.not_eq_false', decide_eq_true_eq, decide_eq_false_iff_not] at hg12
  refine gq_val (s_move rfl rfl) rfl rfl rfl rfl ?_
  refine gq_val (s_nilCheck rfl rfl rfl) rfl rfl rfl rfl ?_
  refine gq_val (s_field rfl rfl rfl rfl) rfl rfl rfl rfl ?_
  refine gq_val (s_load rfl rfl rfl rfl) rfl rfl rfl rfl ?_
  refine gq_val (s_eql rfl rfl rfl) rfl rfl rfl rfl ?_
  refine g_val (s_pickT rfl rfl rfl) rfl ?_
  refine g_nil ?_
  refine vc_cond rfl (fun hc18 => ?_) (fun hc18 => ?_)
  replace hc18 := of_decide_eq_true hc18
  try simp only [List.length_map, ne_eq, Decidable.not_not, Int.not_lt, Int.not_le, ge_iff_le, gt_iff_lt, Bool.not_eq_true', Bool.not_eq_false', decide_eq_true_eq, decide_eq_false_iff_not] at hc18
  obtain rfl : e2 = 0 := hc18
  have hv1 := numF_nn b2 0 256
  have hv2 := numF_most b2 0 256 (by omega)
  have hv3 := numF_len b2 0 256
  have hv4 := lumpR_len (numF b2 0 256).2.1 (numF b2 0 256).2.2 32
  refine vc_skip ?_
  refine vc_seq ?_
  refine vc_block ?_
  refine vc_rseq mixed ?_
  refine g_val (s_move rfl rfl) rfl ?_
  refine g_cw (s_callH [] [] (c_Reader_Num b2 0 256 (by omega)) (evArgs_cons rfl (evArgs_cons rfl evArgs_nil)) ⟨rfl, trivial⟩ rfl (okVL_nil _) rfl rfl rfl) rfl ?_
  refine g_val (s_conv rfl rfl (by simp only [inI, kMin, kMax]; omega)) rfl ?_
  refine g_val (s_assign rfl rfl) rfl ?_
  refine g_nil ?_
  refine vc_region mixed ?_
  refine g_val (s_move rfl rfl) rfl ?_
  refine g_val (s_move rfl rfl) rfl ?_
  refine g_val (s_move rfl rfl) rfl ?_
  refine g_cw (s_callH [] [] (c_Reader_Lump (numF b2 0 256).2.1 (numF b2 0 256).2.2 32 (by omega)) (evArgs_cons rfl (evArgs_cons rfl evArgs_nil)) ⟨rfl, trivial⟩ rfl (okVL_nil _) rfl rfl rfl) rfl ?_
  refine g_fz ((s_appendN 28 rfl rfl rfl rfl (by simp only [List.length_map]; omega)).fzE rfl) rfl ?_
  refine g_val (s_build (evArgs_cons rfl (evArgs_cons rfl evArgs_nil)) rfl rfl rfl) rfl ?_
  refine g_fz ((s_buildSlice 30 (evArgs_cons rfl evArgs_nil) rfl rfl rfl rfl).fzE rfl) rfl ?_
  refine g_app (s_append 31 rfl rfl rfl rfl rfl (by simp) rfl rfl (by (try simp only [List.length_cons, List.length_nil]); omega)) rfl ?_
  refine g_val (s_assign rfl rfl) rfl ?_
  refine g_nil ?_
  refine vc_region mixed ?_
  refine g_val (s_move rfl rfl) rfl ?_
  refine g_val (s_add rfl rfl rfl (by simp only [inI, kMin, kMax]; omega)) rfl ?_
  refine g_val (s_assign rfl rfl) rfl ?_
  refine g_nil ?_
  exact ⟨(i + 1, acc ++ [⟨(numF b2 0 256).1, (lumpR (numF b2 0 256).2.1 (numF b2 0 256).2.2 32).1⟩], (lumpR (numF b2 0 256).2.1 (numF b2 0 256).2.2 32).2.1, (lumpR (numF b2 0 256).2.1 (numF b2 0 256).2.2 32).2.2), hs.step (by omega), by simp only; omega, by
  simp only [List.length_append, List.length_cons, List.length_nil]
  exact (leE_gen [] [(3, 31)] (by repeat (first | exact letm_nil _ _ | refine letm_cons rfl ?_ ?_ | exact LeV.tt rfl | exact .eq (okV_nil _) rfl | exact LeV.tt (by rw [List.take_of_length_le (by simp)]; simp [itemC, bytesT, i64]) | exact .eq (okV_nil _) (by rw [List.take_of_length_le (by simp)]; simp [itemC, bytesT, i64]))) (by repeat (first | exact lehp_nil _ _ | refine lehp_cons rfl ?_ ?_ | exact leB_row (by first | rfl | (rw [List.take_of_length_le (by simp)]; simp [itemC, bytesT, i64])) | exact leB_obj (by rw [List.take_of_length_le (by simp)]; simp [itemC, bytesT, i64]) | exact leB_nest (by first | rfl | (rw [List.take_of_length_le (by simp)]; simp [itemC, bytesT, i64])) | refine leB_box ?_ | exact leL_nil | refine leL_cons ?_ ?_ | exact LeV.tt rfl | exact .eq (okV_nil _) rfl | exact LeV.tt (by rw [List.take_of_length_le (by simp)]; simp [itemC, bytesT, i64]) | exact .eq (okV_nil _) (by rw [List.take_of_length_le (by simp)]; simp [itemC, bytesT, i64]))) trivial rfl)⟩
  replace hc18 := of_decide_eq_false hc18
  try simp only [List.length_map, ne_eq, Decidable.not_not, Int.not_lt, Int.not_le, ge_iff_le, gt_iff_lt, Bool.not_eq_true', Bool.not_eq_false', decide_eq_true_eq, decide_eq_false_iff_not] at hc18
  refine vc_exit ?_
  rw [hs.fin (by omega)]
  refine vc_rseq mixed ?_
  refine g_val (s_move rfl rfl) rfl ?_
  refine g_val (s_assign rfl rfl) rfl ?_
  refine g_nil ?_
  exact vc_ret (ret_hand [] [(0, 3)] _ (.cons (.tmp rfl) .nil) trivial (.eq (okV_nil _) rfl) (lehp_cons rfl (leB_row rfl) (lehp_cons rfl (leB_box (leL_cons (LeV.tt rfl) (leL_cons (LeV.tt rfl) leL_nil))) (lehp_nil _ _))) rfl)

end Go.Eng

set_option maxHeartbeats 4000000
namespace Go.Eng
open Go.Proofs

theorem c_mementoref16_PutCmd (c : VolCmd) : Con Tryz.prog 29 [sC (cmdC c)] [] (.tup [.t (bytesT (if cmdRight c then cmdB c else [])), AI .i64 (if cmdRight c then 0 else 23)]) [] := by
  by_cases h : cmdRight c
  rw [if_pos h, if_pos h]; exact c_mementoref16_PutCmd_ok c h
  rw [if_neg h, if_neg h]; exact c_mementoref16_PutCmd_err c h

def cmdZ : VolCmd := ⟨0, 0, 0, 0, 0, [], 0, 0, 0, []⟩
def big : Int := 1099511627776
def readG (b : List Int) : VolCmd × List Int × Int :=
  let r1 := numF b 0 8
  let r2 := numF r1.2.1 r1.2.2 8
  let r3 := numF r2.2.1 r2.2.2 big
  let r4 := numF r3.2.1 r3.2.2 big
  let r5 := numF r4.2.1 r4.2.2 big
  let r6 := numF r5.2.1 r5.2.2 big
  let r7 := numF r6.2.1 r6.2.2 big
  let r8 := numF r7.2.1 r7.2.2 big
  let p := takePlaceR r8.2.1 r8.2.2
  let q := takeItemsR p.2.1 p.2.2
  (⟨r1.1, r2.1, r3.1, r4.1, r5.1, p.1, r6.1, r7.1, r8.1, q.1⟩, q.2)
def readF (b : List Int) : VolCmd × Int :=
  if (readG b).2.2 ≠ 0 ∨ ¬ cmdRight (readG b).1 ∨ cmdB (readG b).1 ≠ b then (cmdZ, 20) else ((readG b).1, 0)

theorem takeG_len : ∀ (k : Nat) (b : List Int) (e : Int), (takeG k b e).2.1.length ≤ b.length
  | 0, b, e => by simp [takeG]
  | k + 1, b, e => by
    simp only [takeG]
    split
    exact Nat.le_refl _
    exact Nat.le_trans (takeG_len k _ _) (numF_len b e 8)
theorem takePlaceR_len (b : List Int) (e : Int) : (takePlaceR b e).2.1.length ≤ b.length := Nat.le_trans (takeG_len _ _ _) (numF_len b e 256)

theorem c_mementoref16_ReadCmd (b : List Int) (hb : b.length ≤ 1000000000) : Con Tryz.prog 61 [.t (bytesT b)] [] (.tup [sC (cmdC (readF b).1), AI .i64 (readF b).2]) [] := by
  refine con_intro [] [] Tryz.func61 rfl Tryz.ntmps61 Tryz.results61 rfl rfl ?_
  intro E
  refine vc_okT (i := 0) rfl fun ok0 => ?_
  have hg : ∃ g, readG b = g := ⟨_, rfl⟩
  unfold readF
  obtain ⟨g, hg⟩ := hg
  rw [hg]
  unfold readG at hg
  simp only at hg
  have hl1 := numF_len b 0 8
  have hn1 := numF_nn b 0 8
  have hm1 := numF_most b 0 8 (by first | omega | (simp only [big]; omega))
  have hc1 := c_Reader_Num b 0 8 (by omega)
  generalize numF b 0 8 = r1 at *
  obtain ⟨n1, b1, e1⟩ := r1
  try simp only [big] at hl1 hn1 hm1 hc1
  have hl2 := numF_len b1 e1 8
  have hn2 := numF_nn b1 e1 8
  have hm2 := numF_most b1 e1 8 (by first | omega | (simp only [big]; omega))
  have hc2 := c_Reader_Num b1 e1 8 (by omega)
  generalize numF b1 e1 8 = r2 at *
  obtain ⟨n2, b2, e2⟩ := r2
  try simp only [big] at hl2 hn2 hm2 hc2
  have hl3 := numF_len b2 e2 big
  have hn3 := numF_nn b2 e2 big
  have hm3 := numF_most b2 e2 big (by first | omega | (simp only [big]; omega))
  have hc3 := c_Reader_Num b2 e2 big (by omega)
  generalize numF b2 e2 big = r3 at *
  obtain ⟨n3, b3, e3⟩ := r3
  try simp only [big] at hl3 hn3 hm3 hc3
  have hl4 := numF_len b3 e3 big
  have hn4 := numF_nn b3 e3 big
  have hm4 := numF_most b3 e3 big (by first | omega | (simp only [big]; omega))
  have hc4 := c_Reader_Num b3 e3 big (by omega)
  generalize numF b3 e3 big = r4 at *
  obtain ⟨n4, b4, e4⟩ := r4
  try simp only [big] at hl4 hn4 hm4 hc4
  have hl5 := numF_len b4 e4 big
  have hn5 := numF_nn b4 e4 big
  have hm5 := numF_most b4 e4 big (by first | omega | (simp only [big]; omega))
  have hc5 := c_Reader_Num b4 e4 big (by omega)
  generalize numF b4 e4 big = r5 at *
  obtain ⟨n5, b5, e5⟩ := r5
  try simp only [big] at hl5 hn5 hm5 hc5
  have hl6 := numF_len b5 e5 big
  have hn6 := numF_nn b5 e5 big
  have hm6 := numF_most b5 e5 big (by first | omega | (simp only [big]; omega))
  have hc6 := c_Reader_Num b5 e5 big (by omega)
  generalize numF b5 e5 big = r6 at *
  obtain ⟨n6, b6, e6⟩ := r6
  try simp only [big] at hl6 hn6 hm6 hc6
  have hl7 := numF_len b6 e6 big
  have hn7 := numF_nn b6 e6 big
  have hm7 := numF_most b6 e6 big (by first | omega | (simp only [big]; omega))
  have hc7 := c_Reader_Num b6 e6 big (by omega)
  generalize numF b6 e6 big = r7 at *
  obtain ⟨n7, b7, e7⟩ := r7
  try simp only [big] at hl7 hn7 hm7 hc7
  have hl8 := numF_len b7 e7 big
  have hn8 := numF_nn b7 e7 big
  have hm8 := numF_most b7 e7 big (by first | omega | (simp only [big]; omega))
  have hc8 := c_Reader_Num b7 e7 big (by omega)
  generalize numF b7 e7 big = r8 at *
  obtain ⟨n8, b8, e8⟩ := r8
  try simp only [big] at hl8 hn8 hm8 hc8
  have hcp := c_mementoref16_takePlace_own b8 e8 (by omega)
  have hlp := takePlaceR_len b8 e8
  generalize takePlaceR b8 e8 = rp at *
  obtain ⟨p, b9, e9⟩ := rp
  have hcq := c_mementoref13_TakeItems_own b9 e9 (by simp only at hlp; omega)
  generalize takeItemsR b9 e9 = rq at *
  obtain ⟨q, b10, e10⟩ := rq
  simp only at hcp hcq hg
  refine vc_rseq mixed ?_
  refine g_new (s_alloc 2 rfl rfl) rfl ?_
  refine g_val (s_assign rfl rfl) rfl ?_
  refine g_nil ?_
  refine vc_rseq mixed ?_
  refine g_val (s_move rfl rfl) rfl ?_
  refine g_val (s_build (evArgs_cons rfl evArgs_nil) rfl rfl rfl) rfl ?_
  refine g_new (s_box 10 rfl rfl rfl rfl) rfl ?_
  refine g_val (s_assign rfl rfl) rfl ?_
  refine g_nil ?_
  refine vc_rseq mixed ?_
  refine g_new (s_alloc 5 rfl rfl) rfl ?_
  refine g_nil ?_
  refine vc_rseq mixed ?_
  refine g_val (s_move rfl rfl) rfl ?_
  refine g_cw (s_callH [] [(1000, 10)] hc1 (evArgs_cons rfl (evArgs_cons rfl evArgs_nil)) ⟨rfl, trivial⟩ rfl (okVL_nil _) rfl rfl rfl) rfl ?_
  refine g_val (s_conv rfl rfl (by simp only [inI, kMin, kMax]; omega)) rfl ?_
  refine g_val (s_field rfl rfl rfl rfl) rfl ?_
  refine g_sto (s_store rfl rfl rfl rfl rfl rfl) rfl ?_
  refine g_nil ?_
  refine vc_rseq mixed ?_
  refine g_val (s_move rfl rfl) rfl ?_
  refine g_cw (s_callH [] [(1000, 10)] hc2 (evArgs_cons rfl (evArgs_cons rfl evArgs_nil)) ⟨rfl, trivial⟩ rfl (okVL_nil _) rfl rfl rfl) rfl ?_
  refine g_val (s_conv rfl rfl (by simp only [inI, kMin, kMax]; omega)) rfl ?_
  refine g_val (s_field rfl rfl rfl rfl) rfl ?_
  refine g_sto (s_store rfl rfl rfl rfl rfl rfl) rfl ?_
  refine g_nil ?_
  refine vc_rseq mixed ?_
  refine g_val (s_move rfl rfl) rfl ?_
  refine g_cw (s_callH [] [(1000, 10)] hc3 (evArgs_cons rfl (evArgs_cons rfl evArgs_nil)) ⟨rfl, trivial⟩ rfl (okVL_nil _) rfl rfl rfl) rfl ?_
  refine g_val (s_conv rfl rfl (by simp only [inI, kMin, kMax]; omega)) rfl ?_
  refine g_val (s_field rfl rfl rfl rfl) rfl ?_
  refine g_sto (s_store rfl rfl rfl rfl rfl rfl) rfl ?_
  refine g_nil ?_
  refine vc_rseq mixed ?_
  refine g_val (s_move rfl rfl) rfl ?_
  refine g_cw (s_callH [] [(1000, 10)] hc4 (evArgs_cons rfl (evArgs_cons rfl evArgs_nil)) ⟨rfl, trivial⟩ rfl (okVL_nil _) rfl rfl rfl) rfl ?_
  refine g_val (s_conv rfl rfl (by simp only [inI, kMin, kMax]; omega)) rfl ?_
  refine g_val (s_field rfl rfl rfl rfl) rfl ?_
  refine g_sto (s_store rfl rfl rfl rfl rfl rfl) rfl ?_
  refine g_nil ?_
  refine vc_rseq mixed ?_
  refine g_val (s_move rfl rfl) rfl ?_
  refine g_cw (s_callH [] [(1000, 10)] hc5 (evArgs_cons rfl (evArgs_cons rfl evArgs_nil)) ⟨rfl, trivial⟩ rfl (okVL_nil _) rfl rfl rfl) rfl ?_
  refine g_val (s_conv rfl rfl (by simp only [inI, kMin, kMax]; omega)) rfl ?_
  refine g_val (s_field rfl rfl rfl rfl) rfl ?_
  refine g_sto (s_store rfl rfl rfl rfl rfl rfl) rfl ?_
  refine g_nil ?_
  refine vc_rseq mixed ?_
  refine g_val (s_move rfl rfl) rfl ?_
  refine g_cw (s_callH [] [(1000, 10)] hc6 (evArgs_cons rfl (evArgs_cons rfl evArgs_nil)) ⟨rfl, trivial⟩ rfl (okVL_nil _) rfl rfl rfl) rfl ?_
  refine g_val (s_conv rfl rfl (by simp only [inI, kMin, kMax]; omega)) rfl ?_
  refine g_val (s_field rfl rfl rfl rfl) rfl ?_
  refine g_sto (s_store rfl rfl rfl rfl rfl rfl) rfl ?_
  refine g_nil ?_
  refine vc_rseq mixed ?_
  refine g_val (s_move rfl rfl) rfl ?_
  refine g_cw (s_callH [] [(1000, 10)] hc7 (evArgs_cons rfl (evArgs_cons rfl evArgs_nil)) ⟨rfl, trivial⟩ rfl (okVL_nil _) rfl rfl rfl) rfl ?_
  refine g_val (s_conv rfl rfl (by simp only [inI, kMin, kMax]; omega)) rfl ?_
  refine g_val (s_field rfl rfl rfl rfl) rfl ?_
  refine g_sto (s_store rfl rfl rfl rfl rfl rfl) rfl ?_
  refine g_nil ?_
  refine vc_rseq mixed ?_
  refine g_val (s_move rfl rfl) rfl ?_
  refine g_cw (s_callH [] [(1000, 10)] hc8 (evArgs_cons rfl (evArgs_cons rfl evArgs_nil)) ⟨rfl, trivial⟩ rfl (okVL_nil _) rfl rfl rfl) rfl ?_
  refine g_val (s_conv rfl rfl (by simp only [inI, kMin, kMax]; omega)) rfl ?_
  refine g_val (s_field rfl rfl rfl rfl) rfl ?_
  refine g_sto (s_store rfl rfl rfl rfl rfl rfl) rfl ?_
  refine g_nil ?_
  refine vc_rseq mixed ?_
  refine g_val (s_move rfl rfl) rfl ?_
  refine g_nb (s_callH [] [(1000, 10), (0, 44)] hcp (evArgs_cons rfl evArgs_nil) ⟨rfl, trivial⟩ rfl (okVL_nil _) rfl rfl rfl) rfl ?_
  refine g_val (s_field rfl rfl rfl rfl) rfl ?_
  refine g_sto (s_store rfl rfl rfl rfl rfl rfl) rfl ?_
  refine g_nil ?_
  refine vc_rseq mixed ?_
  refine g_val (s_move rfl rfl) rfl ?_
  refine g_nb (s_callH [] [(1000, 10), (0, 47)] hcq (evArgs_cons rfl evArgs_nil) ⟨rfl, trivial⟩ rfl (okVL_nil _) rfl rfl rfl) rfl ?_
  refine g_val (s_field rfl rfl rfl rfl) rfl ?_
  refine g_sto (s_store rfl rfl rfl rfl rfl rfl) rfl ?_
  refine g_nil ?_
  refine vc_le ⟨[(0, .t (bytesT b)), (2, .ref 2 0), (4, .ref 10 0), (5, .ref 5 0)], [(5, some (.box ((cmdC ⟨n1, n2, n3, n4, n5, p, n6, n7, n8, q⟩).map .t))), (2, some (.box ((cmdC cmdZ).map .t))), (10, some (.box (rdrA b10 e10)))], [5, 2, 10]⟩ (leE_gen [(44, _), (47, _)] [] (by repeat (first | exact letm_nil _ _ | refine letm_cons rfl ?_ ?_ | exact LeV.tt rfl | exact .eq trivial rfl)) (by repeat (first | exact lehp_nil _ _ | refine lehp_cons rfl ?_ ?_ | refine leB_box ?_ | exact leL_nil | refine leL_cons ?_ ?_ | exact LeV.tt rfl | exact .nl (by decide) (by decide) | exact .eq (okV_nil _) rfl | exact LeV.row rfl (by simp))) ⟨rfl, rfl, trivial⟩ rfl) ?_
  refine vc_rseq mixed ?_
  refine g_val (s_loadA rfl rfl rfl rfl rfl) rfl ?_
  refine g_val (s_call [] (c_mementoref16_PutCmd ⟨n1, n2, n3, n4, n5, p, n6, n7, n8, q⟩) (evArgs_cons rfl evArgs_nil) trivial rfl (okVL_nil _) rfl (.inl rfl) rfl) rfl ?_
  refine g_val (s_move rfl rfl) rfl ?_
  refine g_val (s_extract rfl rfl rfl) rfl ?_
  refine g_val (s_extract rfl rfl rfl) rfl ?_
  refine g_val (s_assign rfl rfl) rfl ?_
  refine g_val (s_assign rfl rfl) rfl ?_
  refine g_nil ?_
  refine vc_seq ?_
  refine vc_okT (i := 6) rfl fun ok6 => ?_
  refine vc_rseq mixed ?_
  refine g_val (s_move rfl rfl) rfl ?_
  refine g_val (s_nilCheck rfl rfl rfl) rfl ?_
  refine g_val (s_field rfl rfl rfl rfl) rfl ?_
  refine g_val (s_load rfl rfl rfl rfl) rfl ?_
  refine g_val (s_neq rfl rfl rfl) rfl ?_
  refine g_val (s_move rfl rfl) rfl ?_
  refine g_probe (j := 59) rfl (fun c hg59 => ?_)
  cases c
  rw [← hg59]; replace hg59 := hg59.symm; replace hg59 := of_decide_eq_false hg59
  simp only [ne_eq, Decidable.not_not] at hg59
  refine gq_val (s_move rfl rfl) rfl rfl rfl rfl ?_
  refine gq_val (s_neq rfl rfl rfl) rfl rfl rfl rfl ?_
  refine g_val (s_pickF rfl rfl rfl) rfl ?_
  refine g_val (s_move rfl rfl) rfl ?_
  refine g_probe (j := 63) rfl (fun c hg63 => ?_)
  cases c
  rw [← hg63]; replace hg63 := hg63.symm; replace hg63 := of_decide_eq_false hg63
  simp only [ne_eq, Decidable.not_not] at hg63
  refine gq_val (s_move rfl rfl) rfl rfl rfl rfl ?_
  refine gq_val (s_str rfl rfl) rfl rfl rfl rfl ?_
  refine gq_val (s_move rfl rfl) rfl rfl rfl rfl ?_
  refine gq_val (s_str rfl rfl) rfl rfl rfl rfl ?_
  refine gq_val (s_neqS rfl rfl (by first | assumption | exact okT.bytes (by assumption)) (by first | assumption | exact okT.bytes (by assumption)) rfl) rfl rfl rfl rfl ?_
  refine g_val (s_pickF rfl rfl rfl) rfl ?_
  refine g_nil ?_
  refine vc_cond rfl (fun hc69 => ?_) (fun hc69 => ?_)
  replace hc69 := of_decide_eq_true hc69
  simp only [ne_eq] at hc69
  subst hg
  have hbad : e10 ≠ 0 ∨ ¬ cmdRight (⟨n1, n2, n3, n4, n5, p, n6, n7, n8, q⟩ : VolCmd) ∨ cmdB (⟨n1, n2, n3, n4, n5, p, n6, n7, n8, q⟩ : VolCmd) ≠ b := by
    by_cases h1 : e10 = 0
    by_cases hcr : cmdRight (⟨n1, n2, n3, n4, n5, p, n6, n7, n8, q⟩ : VolCmd)
    simp only [if_pos hcr] at *
    focus (first | (right; right; assumption) | (exfalso; simp_all; done))
    exact .inr (.inl hcr)
    exact .inl h1
  rw [if_pos hbad]
  refine vc_rseq mixed ?_
  refine g_val (s_build evArgs_nil rfl rfl rfl) rfl ?_
  refine g_sto (s_store rfl rfl rfl rfl rfl rfl) rfl ?_
  refine g_val (s_assign rfl rfl) rfl ?_
  refine g_nil ?_
  exact vc_ret (ret_le [] _ (.cons (.agg rfl rfl rfl rfl) (.cons (.tmp rfl) .nil)) trivial (by repeat (first | exact leL_nil | refine leL_cons ?_ ?_ | exact LeV.tt rfl | exact .nl (by decide) (by decide) | exact .nn | refine LeV.tupL ?_ | refine LeV.aggL ?_ | exact .eq (by first | exact trivial | (simp [AV.okV, okR, lkB]; done) | (simp [AV.okV, okR, lkB]; omega)) (by first | rfl | (simp [AV.view, viewR, lkB, AV.ren, List.take_of_length_le]; done) | (simp [AV.view, viewR, lkB, AV.ren, List.take_of_length_le]; done)))) rfl)
  replace hc69 := of_decide_eq_false hc69
  simp only [ne_eq, Decidable.not_not] at hc69
  refine vc_skip ?_
  subst hg
  have hcr : cmdRight (⟨n1, n2, n3, n4, n5, p, n6, n7, n8, q⟩ : VolCmd) := by
    by_cases hcr : cmdRight (⟨n1, n2, n3, n4, n5, p, n6, n7, n8, q⟩ : VolCmd)
    exact hcr
    exfalso; simp only [if_neg hcr] at *; simp_all
  simp only [if_pos hcr] at *
  rw [if_neg (by simp only [not_or, Decidable.not_not]; exact ⟨by assumption, hcr, by assumption⟩)]
  refine vc_rseq mixed ?_
  refine g_val (s_loadA rfl rfl rfl rfl rfl) rfl ?_
  refine g_sto (s_store rfl rfl rfl rfl rfl rfl) rfl ?_
  refine g_val (s_assign rfl rfl) rfl ?_
  refine g_nil ?_
  exact vc_ret (ret_le [] _ (.cons (.agg rfl rfl rfl rfl) (.cons (.tmp rfl) .nil)) trivial (by repeat (first | exact leL_nil | refine leL_cons ?_ ?_ | exact LeV.tt rfl | exact .nl (by decide) (by decide) | exact .nn | refine LeV.tupL ?_ | refine LeV.aggL ?_ | exact .eq (by first | exact trivial | (simp [AV.okV, okR, lkB]; done) | (simp [AV.okV, okR, lkB]; omega)) (by first | rfl | (simp [AV.view, viewR, lkB, AV.ren, List.take_of_length_le]; done) | (simp [AV.view, viewR, lkB, AV.ren, List.take_of_length_le]; done)))) rfl)
  rw [← hg63]; replace hg63 := hg63.symm; replace hg63 := of_decide_eq_true hg63
  simp only [ne_eq] at hg63
  refine gn_val rfl rfl rfl rfl rfl rfl (by decide) ?_
  refine gn_val rfl rfl rfl rfl rfl rfl (by decide) ?_
  refine gn_val rfl rfl rfl rfl rfl rfl (by decide) ?_
  refine gn_val rfl rfl rfl rfl rfl rfl (by decide) ?_
  refine gn_val rfl rfl rfl rfl rfl rfl (by decide) ?_
  refine g_val (s_pickT rfl rfl rfl) rfl ?_
  refine g_nil ?_
  refine vc_cond rfl (fun _ => ?_) (fun h => by cases h)
  subst hg
  have hbad : e10 ≠ 0 ∨ ¬ cmdRight (⟨n1, n2, n3, n4, n5, p, n6, n7, n8, q⟩ : VolCmd) ∨ cmdB (⟨n1, n2, n3, n4, n5, p, n6, n7, n8, q⟩ : VolCmd) ≠ b := by
    by_cases h1 : e10 = 0
    by_cases hcr : cmdRight (⟨n1, n2, n3, n4, n5, p, n6, n7, n8, q⟩ : VolCmd)
    simp only [if_pos hcr] at *
    focus (first | (right; right; assumption) | (exfalso; simp_all; done))
    exact .inr (.inl hcr)
    exact .inl h1
  rw [if_pos hbad]
  refine vc_rseq mixed ?_
  refine g_val (s_build evArgs_nil rfl rfl rfl) rfl ?_
  refine g_sto (s_store rfl rfl rfl rfl rfl rfl) rfl ?_
  refine g_val (s_assign rfl rfl) rfl ?_
  refine g_nil ?_
  exact vc_ret (ret_le [] _ (.cons (.agg rfl rfl rfl rfl) (.cons (.tmp rfl) .nil)) trivial (by repeat (first | exact leL_nil | refine leL_cons ?_ ?_ | exact LeV.tt rfl | exact .nl (by decide) (by decide) | exact .nn | refine LeV.tupL ?_ | refine LeV.aggL ?_ | exact .eq (by first | exact trivial | (simp [AV.okV, okR, lkB]; done) | (simp [AV.okV, okR, lkB]; omega)) (by first | rfl | (simp [AV.view, viewR, lkB, AV.ren, List.take_of_length_le]; done) | (simp [AV.view, viewR, lkB, AV.ren, List.take_of_length_le]; done)))) rfl)
  rw [← hg59]; replace hg59 := hg59.symm; replace hg59 := of_decide_eq_true hg59
  simp only [ne_eq] at hg59
  refine gn_val rfl rfl rfl rfl rfl rfl (by decide) ?_
  refine gn_val rfl rfl rfl rfl rfl rfl (by decide) ?_
  refine g_val (s_pickT rfl rfl rfl) rfl ?_
  refine g_val (s_move rfl rfl) rfl ?_
  refine gn_val rfl rfl rfl rfl rfl rfl (by decide) ?_
  refine gn_val rfl rfl rfl rfl rfl rfl (by decide) ?_
  refine gn_val rfl rfl rfl rfl rfl rfl (by decide) ?_
  refine gn_val rfl rfl rfl rfl rfl rfl (by decide) ?_
  refine gn_val rfl rfl rfl rfl rfl rfl (by decide) ?_
  refine g_val (s_pickT rfl rfl rfl) rfl ?_
  refine g_nil ?_
  refine vc_cond rfl (fun _ => ?_) (fun h => by cases h)
  subst hg
  have hbad : e10 ≠ 0 ∨ ¬ cmdRight (⟨n1, n2, n3, n4, n5, p, n6, n7, n8, q⟩ : VolCmd) ∨ cmdB (⟨n1, n2, n3, n4, n5, p, n6, n7, n8, q⟩ : VolCmd) ≠ b := by
    by_cases h1 : e10 = 0
    by_cases hcr : cmdRight (⟨n1, n2, n3, n4, n5, p, n6, n7, n8, q⟩ : VolCmd)
    simp only [if_pos hcr] at *
    focus (first | (right; right; assumption) | (exfalso; simp_all; done))
    exact .inr (.inl hcr)
    exact .inl h1
  rw [if_pos hbad]
  refine vc_rseq mixed ?_
  refine g_val (s_build evArgs_nil rfl rfl rfl) rfl ?_
  refine g_sto (s_store rfl rfl rfl rfl rfl rfl) rfl ?_
  refine g_val (s_assign rfl rfl) rfl ?_
  refine g_nil ?_
  exact vc_ret (ret_le [] _ (.cons (.agg rfl rfl rfl rfl) (.cons (.tmp rfl) .nil)) trivial (by repeat (first | exact leL_nil | refine leL_cons ?_ ?_ | exact LeV.tt rfl | exact .nl (by decide) (by decide) | exact .nn | refine LeV.tupL ?_ | refine LeV.aggL ?_ | exact .eq (by first | exact trivial | (simp [AV.okV, okR, lkB]; done) | (simp [AV.okV, okR, lkB]; omega)) (by first | rfl | (simp [AV.view, viewR, lkB, AV.ren, List.take_of_length_le]; done) | (simp [AV.view, viewR, lkB, AV.ren, List.take_of_length_le]; done)))) rfl)

end Go.Eng

set_option maxHeartbeats 4000000
namespace Go.Eng
open Go.Proofs

def volsT (l : List Volume) : T := .sl 11 136 (l.map volC)
def mA (l : List Volume) : List AV := [.t (volsT l)]

def findV (l : List Volume) (id : Int) : Int := match l.findIdx? (fun v => decide (v.id = id)) with | some i => i | none => -1
theorem findV_none {l : List Volume} {id : Int} (h : ∀ j : Nat, j < l.length → ∀ z, l[j]? = some z → z.id ≠ id) : findV l id = -1 := by
  unfold findV
  rw [List.findIdx?_eq_none_iff.2]
  intro x hx
  obtain ⟨j, hj⟩ := List.mem_iff_getElem?.1 hx
  simpa using h j (List.getElem?_eq_some_iff.1 hj).1 x hj
theorem findV_some {l : List Volume} {id : Int} {i : Nat} {x : Volume} (h : ∀ j : Nat, j < i → ∀ z, l[j]? = some z → z.id ≠ id) (hx : l[i]? = some x) (hid : x.id = id) : findV l id = i := by
  unfold findV
  obtain ⟨hlt, hxx⟩ := List.getElem?_eq_some_iff.1 hx
  have : l.findIdx? (fun v => decide (v.id = id)) = some i := by
    rw [List.findIdx?_eq_some_iff_getElem]
    refine ⟨hlt, by rw [hxx]; simpa using hid, fun j hj => ?_⟩
    have := h j hj l[j] (List.getElem?_eq_getElem (by omega))
    simpa using this
  rw [this]
theorem findV_cases (l : List Volume) (id : Int) : (findV l id = -1 ∧ ∀ x ∈ l, x.id ≠ id) ∨ ∃ (i : Nat) (x : Volume), findV l id = i ∧ l[i]? = some x ∧ x.id = id := by
  unfold findV
  cases h : l.findIdx? (fun v => decide (v.id = id)) with
  | none =>
    rw [List.findIdx?_eq_none_iff] at h
    exact .inl ⟨rfl, fun x hx => by simpa using h x hx⟩
  | some i =>
    rw [List.findIdx?_eq_some_iff_getElem] at h
    obtain ⟨h1, h2, h3⟩ := h
    exact .inr ⟨i, l[i], rfl, List.getElem?_eq_getElem h1, by simpa using h2⟩

theorem c_Machine_find (l : List Volume) (id : Int) (hl : l.length ≤ 1000000) : Con Tryz.prog 55 [.ref 1000 0, AI .i64 id] [(1000, .box (mA l))] (AI .i64 (findV l id)) [(1000, .box (mA l))] := by
  refine con_intro [1000] [1000] Tryz.func55 rfl Tryz.ntmps55 Tryz.results55 rfl rfl ?_
  intro E
  refine vc_rseq mixed ?_
  refine g_val (s_assign rfl rfl) rfl ?_
  refine g_nil ?_
  refine vc_seq ?_
  refine vc_rseq mixed ?_
  refine g_val (s_assign rfl rfl) rfl ?_
  refine g_nil ?_
  refine vc_block ?_
  refine vc_up l.length (fun i => ⟨[(0, .ref 1000 0), (1, AI .i64 id), (5, AI .i64 i)], [(1000, some (.box (mA l)))], [1000]⟩) (fun i => ∀ j : Nat, j < i → ∀ z, l[j]? = some z → z.id ≠ id) (leE_same (by repeat (first | exact letm_nil _ _ | refine letm_cons rfl ?_ ?_ | exact .same _ | exact .nl (by decide) (by decide) | exact .nn | exact .id' rfl | exact .id' (by simp; done))) (by repeat (first | exact lehp_nil _ _ | refine lehp_cons rfl ?_ ?_ | exact leB_same _ | exact leB_row (by first | rfl | (simp; done)) | exact leB_obj (by simp; done) | exact leB_nest (by first | rfl | (simp; done)) | refine leB_box ?_ | exact leL_nil | refine leL_cons ?_ ?_ | exact .same _ | exact .nl (by decide) (by decide) | exact .nn | exact .id' rfl | exact .id' (by simp; done))) rfl) (fun j h => by omega) (fun i hi hJ => ?_)
  refine vc_seq ?_
  refine vc_rseq mixed ?_
  refine g_val (s_move rfl rfl) rfl ?_
  refine g_val (s_move rfl rfl) rfl ?_
  refine g_val (s_nilCheck rfl rfl rfl) rfl ?_
  refine g_val (s_field rfl rfl rfl rfl) rfl ?_
  refine g_val (s_load rfl rfl rfl rfl) rfl ?_
  refine g_val (s_len rfl rfl) rfl ?_
  refine g_val (s_lss rfl rfl rfl) rfl ?_
  refine g_nil ?_
  refine vc_cond rfl (fun hc12 => ?_) (fun hc12 => ?_)
  replace hc12 := of_decide_eq_true hc12
  simp only [List.length_map] at hc12
  obtain ⟨x, hx⟩ := get_of_lt (l := l) (i := i) (by omega)
  refine vc_skip ?_
  refine vc_seq ?_
  refine vc_block ?_
  refine vc_rseq mixed ?_
  refine g_val (s_move rfl rfl) rfl ?_
  refine g_val (s_nilCheck rfl rfl rfl) rfl ?_
  refine g_val (s_field rfl rfl rfl rfl) rfl ?_
  refine g_val (s_load rfl rfl rfl rfl) rfl ?_
  refine g_val (s_move rfl rfl) rfl ?_
  refine g_val (s_index rfl rfl rfl (by omega) (idx_map hx)) rfl ?_
  refine g_val (s_fieldT rfl rfl rfl rfl rfl) rfl ?_
  refine g_val (s_loadT rfl rfl rfl) rfl ?_
  refine g_val (s_move rfl rfl) rfl ?_
  refine g_val (s_eql rfl rfl rfl) rfl ?_
  refine g_nil ?_
  refine vc_cond rfl (fun hc24 => ?_) (fun hc24 => ?_)
  replace hc24 := of_decide_eq_true hc24
  rw [findV_some hJ hx hc24]
  refine vc_rseq mixed ?_
  refine g_val (s_move rfl rfl) rfl ?_
  refine g_val (s_assign rfl rfl) rfl ?_
  refine g_nil ?_
  exact vc_ret (ret_hand [] [] _ (.cons (.tmp rfl) .nil) trivial (.eq (okV_nil _) rfl) (lehp_cons rfl (leB_same _) (lehp_nil _ _)) rfl)
  replace hc24 := of_decide_eq_false hc24
  refine vc_skip ?_
  refine vc_region mixed ?_
  refine g_val (s_move rfl rfl) rfl ?_
  refine g_val (s_add rfl rfl rfl (by simp only [inI, kMin, kMax]; omega)) rfl ?_
  refine g_val (s_assign rfl rfl) rfl ?_
  refine g_nil ?_
  exact ⟨by omega, fun j hj z hz => by rcases Nat.lt_succ_iff_lt_or_eq.1 hj with h | rfl; exact hJ j h z hz; rw [hx] at hz; injection hz with hz; subst hz; exact hc24, (leE_same (by repeat (first | exact letm_nil _ _ | refine letm_cons rfl ?_ ?_ | exact .same _ | exact .nl (by decide) (by decide) | exact .nn | exact .id' rfl | exact .id' (by simp; done))) (by repeat (first | exact lehp_nil _ _ | refine lehp_cons rfl ?_ ?_ | exact leB_same _ | exact leB_row (by first | rfl | (simp; done)) | exact leB_obj (by simp; done) | exact leB_nest (by first | rfl | (simp; done)) | refine leB_box ?_ | exact leL_nil | refine leL_cons ?_ ?_ | exact .same _ | exact .nl (by decide) (by decide) | exact .nn | exact .id' rfl | exact .id' (by simp; done))) rfl)⟩
  replace hc12 := of_decide_eq_false hc12
  simp only [List.length_map, Int.not_lt] at hc12
  refine vc_exit ?_
  rw [findV_none (fun j hj => hJ j (by omega))]
  refine vc_rseq mixed ?_
  refine g_val (s_assign rfl rfl) rfl ?_
  refine g_nil ?_
  exact vc_ret (ret_hand [] [] _ (.cons (.tmp rfl) .nil) trivial (.eq (okV_nil _) rfl) (lehp_cons rfl (leB_same _) (lehp_nil _ _)) rfl)

def volG (l : List Volume) (id : Int) : Volume × Bool := if findV l id < 0 then (volZ, false) else (l.getD (findV l id).toNat volZ, true)

theorem c_Machine_Volume (l : List Volume) (id : Int) (hl : l.length ≤ 1000000) : Con Tryz.prog 28 [.ref 1000 0, AI .i64 id] [(1000, .box (mA l))] (.tup [sC (volC (volG l id).1), AB (volG l id).2]) [(1000, .box (mA l))] := by
  refine con_intro [1000] [1000] Tryz.func28 rfl Tryz.ntmps28 Tryz.results28 rfl rfl ?_
  intro E
  have hg : ∃ g, findV l id = g := ⟨_, rfl⟩
  obtain ⟨g, hg⟩ := hg
  have hf := c_Machine_find l id hl
  have hcs := findV_cases l id
  unfold volG
  rw [hg] at hf hcs ⊢
  refine vc_rseq mixed ?_
  refine g_new (s_alloc 4 rfl rfl) rfl ?_
  refine g_val (s_assign rfl rfl) rfl ?_
  refine g_nil ?_
  refine vc_rseq mixed ?_
  refine g_val (s_move rfl rfl) rfl ?_
  refine g_val (s_move rfl rfl) rfl ?_
  refine g_cw (s_callH [] [] hf (evArgs_cons rfl (evArgs_cons rfl evArgs_nil)) ⟨rfl, trivial⟩ rfl (okVL_nil _) rfl rfl rfl) rfl ?_
  refine g_val (s_assign rfl rfl) rfl ?_
  refine g_nil ?_
  refine vc_seq ?_
  refine vc_rseq mixed ?_
  refine g_val (s_move rfl rfl) rfl ?_
  refine g_val (s_lss rfl rfl rfl) rfl ?_
  refine g_nil ?_
  refine vc_cond rfl (fun hc11 => ?_) (fun hc11 => ?_)
  replace hc11 := of_decide_eq_true hc11
  rw [if_pos (by omega)]
  refine vc_rseq mixed ?_
  refine g_val (s_build evArgs_nil rfl rfl rfl) rfl ?_
  refine g_sto (s_store rfl rfl rfl rfl rfl rfl) rfl ?_
  refine g_val (s_assign rfl rfl) rfl ?_
  refine g_nil ?_
  exact vc_ret (ret_hand [] [] _ (.cons (.agg rfl rfl rfl rfl) (.cons (.tmp rfl) .nil)) trivial (by repeat (first | exact leL_nil | refine leL_cons ?_ ?_ | exact LeV.tt rfl | exact .nl (by decide) (by decide) | exact .nn | refine LeV.tupL ?_ | refine LeV.aggL ?_ | exact .eq (by first | exact trivial | (simp [AV.okV, okR, lkB]; done) | (simp [AV.okV, okR, lkB]; omega)) (by first | rfl | (simp [AV.view, viewR, lkB, AV.ren, List.take_of_length_le]; done) | (simp [AV.view, viewR, lkB, AV.ren, List.take_of_length_le]; done)))) (lehp_cons rfl (leB_same _) (lehp_nil _ _)) rfl)
  replace hc11 := of_decide_eq_false hc11
  simp only [Int.not_lt] at hc11
  refine vc_skip ?_
  rw [if_neg (by omega)]
  obtain ⟨i, x, rfl, hx, hid⟩ : ∃ (i : Nat) (x : Volume), g = i ∧ l[i]? = some x ∧ x.id = id := by
    rcases hcs with ⟨h, _⟩ | h
    omega
    exact h
  have hxd : l.getD ((i : Int).toNat) volZ = x := by rw [List.getD_eq_getElem?_getD]; simp [hx]
  rw [hxd]
  refine vc_rseq mixed ?_
  refine g_val (s_move rfl rfl) rfl ?_
  refine g_val (s_nilCheck rfl rfl rfl) rfl ?_
  refine g_val (s_field rfl rfl rfl rfl) rfl ?_
  refine g_val (s_load rfl rfl rfl rfl) rfl ?_
  refine g_val (s_move rfl rfl) rfl ?_
  refine g_val (s_index rfl rfl rfl (by omega) (idx_map hx)) rfl ?_
  refine g_val (s_loadTA rfl rfl rfl) rfl ?_
  refine g_sto (s_store rfl rfl rfl rfl rfl rfl) rfl ?_
  refine g_val (s_assign rfl rfl) rfl ?_
  refine g_nil ?_
  exact vc_ret (ret_hand [] [] _ (.cons (.agg rfl rfl rfl rfl) (.cons (.tmp rfl) .nil)) trivial (by repeat (first | exact leL_nil | refine leL_cons ?_ ?_ | exact LeV.tt rfl | exact .nl (by decide) (by decide) | exact .nn | refine LeV.tupL ?_ | refine LeV.aggL ?_ | exact .eq (by first | exact trivial | (simp [AV.okV, okR, lkB]; done) | (simp [AV.okV, okR, lkB]; omega)) (by first | rfl | (simp [AV.view, viewR, lkB, AV.ren, List.take_of_length_le]; done) | (simp [AV.view, viewR, lkB, AV.ren, List.take_of_length_le]; done)))) (lehp_cons rfl (leB_same _) (lehp_nil _ _)) rfl)

end Go.Eng

set_option maxHeartbeats 4000000
namespace Go.Eng
open Go.Proofs

def newF (c : VolCmd) : Volume × Int := if cmdOK c then (volN c, 0) else (volZ, 23)
theorem c_mementoref16_New (c : VolCmd) : Con Tryz.prog 32 [sC (cmdC c)] [] (.tup [sC (volC (newF c).1), AI .i64 (newF c).2]) [] := by
  unfold newF
  by_cases h : cmdOK c
  rw [if_pos h]; exact c_mementoref16_New_ok c h
  rw [if_neg h]; exact c_mementoref16_New_err c h
def insV (l : List Volume) (v : Volume) : List Volume := l.takeWhile (fun z => decide (z.id < v.id)) ++ [v] ++ l.dropWhile (fun z => decide (z.id < v.id))
theorem insV_eq : ∀ {l : List Volume} {v : Volume} {k : Nat}, (∀ j : Nat, j < k → ∀ z, l[j]? = some z → z.id < v.id) → (∀ z, l[k]? = some z → ¬ z.id < v.id) → k ≤ l.length → insV l v = l.take k ++ [v] ++ l.drop k
  | [], x, k, h1, h2, h3 => by
    have : k = 0 := by simpa using h3
    subst this
    rfl
  | a :: l, x, 0, h1, h2, h3 => by
    have := h2 a rfl
    simp [insV, List.takeWhile_cons, List.dropWhile_cons, this]
  | a :: l, x, k + 1, h1, h2, h3 => by
    have ha := h1 0 (by omega) a rfl
    have ih := insV_eq (l := l) (v := x) (k := k) (fun j hj z hz => h1 (j + 1) (by omega) z (by simpa using hz)) (fun z hz => h2 z (by simpa using hz)) (by simpa using h3)
    simp only [insV] at ih ⊢
    simp only [List.takeWhile_cons, List.dropWhile_cons, ha, decide_true, if_true, List.take_succ_cons, List.drop_succ_cons, List.cons_append]
    rw [ih]

def applyC (l : List Volume) (c : VolCmd) : List Volume × Reply :=
  if c.kind = 1 then (if 0 ≤ findV l c.vol then (l, repE 29) else if cmdOK c then (insV l (volN c), repE 0) else (l, repE 23))
  else if findV l c.vol < 0 then (l, repE 28)
  else (l.set (findV l c.vol).toNat (doF (l.getD (findV l c.vol).toNat volZ) c).1, (doF (l.getD (findV l c.vol).toNat volZ) c).2)
def applyF (l : List Volume) (b : List Int) : List Volume × Reply := if (readF b).2 ≠ 0 then (l, repE 20) else applyC l (readF b).1

theorem c_Machine_Apply (l : List Volume) (b : List Int) (hl : l.length ≤ 1000000) (hs : ∀ v ∈ l, volSmall v) (hb : b.length ≤ 1000000000) : Con Tryz.prog 31 [.ref 1000 0, .t (bytesT b)] [(1000, .box (mA l))] (sC (repC (applyF l b).2)) [(1000, .box (mA (applyF l b).1))] := by
  refine con_intro [1000] [1000] Tryz.func31 rfl Tryz.ntmps31 Tryz.results31 rfl rfl ?_
  intro E
  have hrd := c_mementoref16_ReadCmd b hb
  unfold applyF
  generalize readF b = rc at *
  obtain ⟨c, e⟩ := rc
  simp only at hrd ⊢
  unfold applyC
  have hnw := c_mementoref16_New c
  unfold newF at hnw
  have hcs := findV_cases l c.vol
  have hf := c_Machine_find l c.vol hl
  generalize findV l c.vol = g at *
  refine vc_rseq mixed ?_
  refine g_new (s_alloc 4 rfl rfl) rfl ?_
  refine g_nil ?_
  refine vc_rseq mixed ?_
  refine g_val (s_move rfl rfl) rfl ?_
  refine g_val (s_call [] (hrd) (evArgs_cons rfl evArgs_nil) trivial rfl (okVL_nil _) rfl (.inl rfl) rfl) rfl ?_
  refine g_val (s_move rfl rfl) rfl ?_
  refine g_val (s_extract rfl rfl rfl) rfl ?_
  refine g_val (s_extract rfl rfl rfl) rfl ?_
  refine g_new (s_alloc 5 rfl rfl) rfl ?_
  refine g_sto (s_store rfl rfl rfl rfl rfl rfl) rfl ?_
  refine g_val (s_assign rfl rfl) rfl ?_
  refine g_nil ?_
  refine vc_seq ?_
  refine vc_rseq mixed ?_
  refine g_val (s_move rfl rfl) rfl ?_
  refine g_val (s_neq rfl rfl rfl) rfl ?_
  refine g_nil ?_
  refine vc_cond rfl (fun hc19 => ?_) (fun hc19 => ?_)
  replace hc19 := of_decide_eq_true hc19
  simp only [ne_eq] at hc19
  rw [if_pos hc19]
  refine vc_rseq mixed ?_
  refine g_val (s_build (evArgs_cons rfl evArgs_nil) rfl rfl rfl) rfl ?_
  refine g_sto (s_store rfl rfl rfl rfl rfl rfl) rfl ?_
  refine g_nil ?_
  exact vc_ret (ret_hand [] [] _ (.cons (.agg rfl rfl rfl rfl) .nil) trivial (by repeat (first | exact leL_nil | refine leL_cons ?_ ?_ | exact LeV.tt rfl | exact .nl (by decide) (by decide) | exact .nn | refine LeV.tupL ?_ | refine LeV.aggL ?_ | exact .eq (by first | exact trivial | (simp [AV.okV, okR, lkB]; done) | (simp [AV.okV, okR, lkB]; omega)) (by first | rfl | (simp [AV.view, viewR, lkB, AV.ren, List.take_of_length_le]; done) | (simp [AV.view, viewR, lkB, AV.ren, List.take_of_length_le]; done)))) (lehp_cons rfl (leB_same _) (lehp_nil _ _)) rfl)
  replace hc19 := of_decide_eq_false hc19
  simp only [ne_eq, Decidable.not_not] at hc19
  refine vc_skip ?_
  rw [if_neg (by simpa using hc19)]
  refine vc_rseq mixed ?_
  refine g_val (s_move rfl rfl) rfl ?_
  refine g_val (s_field rfl rfl rfl rfl) rfl ?_
  refine g_val (s_load rfl rfl rfl rfl) rfl ?_
  refine g_cw (s_callH [] [] hf (evArgs_cons rfl (evArgs_cons rfl evArgs_nil)) ⟨rfl, trivial⟩ rfl (okVL_nil _) rfl rfl rfl) rfl ?_
  refine g_val (s_assign rfl rfl) rfl ?_
  refine g_nil ?_
  refine vc_rseq mixed ?_
  refine g_val (s_move rfl rfl) rfl ?_
  refine g_val (s_nilCheck rfl rfl rfl) rfl ?_
  refine g_val (s_field rfl rfl rfl rfl) rfl ?_
  refine g_val (s_load rfl rfl rfl rfl) rfl ?_
  refine g_new (s_appendN 29 rfl rfl rfl rfl (by simp only [List.length_map]; omega)) rfl ?_
  refine g_val (s_assign rfl rfl) rfl ?_
  refine g_nil ?_
  refine vc_seq ?_
  refine vc_rseq mixed ?_
  refine g_val (s_field rfl rfl rfl rfl) rfl ?_
  refine g_val (s_load rfl rfl rfl rfl) rfl ?_
  refine g_val (s_eql rfl rfl rfl) rfl ?_
  refine g_nil ?_
  refine vc_cond rfl (fun hc32 => ?_) (fun hc32 => ?_)
  replace hc32 := of_decide_eq_true hc32
  refine vc_seq ?_
  rw [if_pos hc32]
  refine vc_rseq mixed ?_
  refine g_val (s_move rfl rfl) rfl ?_
  refine g_val (s_geq rfl rfl rfl) rfl ?_
  refine g_nil ?_
  refine vc_cond rfl (fun hc34 => ?_) (fun hc34 => ?_)
  replace hc34 := of_decide_eq_true hc34
  rw [if_pos (by omega)]
  refine vc_rseq mixed ?_
  refine g_val (s_build (evArgs_cons rfl evArgs_nil) rfl rfl rfl) rfl ?_
  refine g_sto (s_store rfl rfl rfl rfl rfl rfl) rfl ?_
  refine g_nil ?_
  exact vc_ret (ret_hand [] [] _ (.cons (.agg rfl rfl rfl rfl) .nil) trivial (by repeat (first | exact leL_nil | refine leL_cons ?_ ?_ | exact LeV.tt rfl | exact .nl (by decide) (by decide) | exact .nn | refine LeV.tupL ?_ | refine LeV.aggL ?_ | exact .eq (by first | exact trivial | (simp [AV.okV, okR, lkB]; done) | (simp [AV.okV, okR, lkB]; omega)) (by first | rfl | (simp [AV.view, viewR, lkB, AV.ren, List.take_of_length_le]; done) | (simp [AV.view, viewR, lkB, AV.ren, List.take_of_length_le]; done)))) (lehp_cons rfl (leB_same _) (lehp_nil _ _)) rfl)
  replace hc34 := of_decide_eq_false hc34
  simp only [Int.not_le] at hc34
  refine vc_skip ?_
  rw [if_neg (by omega)]
  refine vc_freezeE 8 rfl rfl (by simp) ?_
  refine vc_rseq mixed ?_
  refine g_val (s_loadA rfl rfl rfl rfl rfl) rfl ?_
  refine g_val (s_call [] (hnw) (evArgs_cons rfl evArgs_nil) trivial rfl (okVL_nil _) rfl (.inl rfl) rfl) rfl ?_
  refine g_val (s_move rfl rfl) rfl ?_
  refine g_val (s_extract rfl rfl rfl) rfl ?_
  refine g_val (s_extract rfl rfl rfl) rfl ?_
  refine g_new (s_alloc 9 rfl rfl) rfl ?_
  refine g_sto (s_store rfl rfl rfl rfl rfl rfl) rfl ?_
  refine g_val (s_assign rfl rfl) rfl ?_
  refine g_nil ?_
  refine vc_seq ?_
  refine vc_rseq mixed ?_
  refine g_val (s_move rfl rfl) rfl ?_
  refine g_val (s_neq rfl rfl rfl) rfl ?_
  refine g_nil ?_
  refine vc_cond rfl (fun hc42 => ?_) (fun hc42 => ?_)
  replace hc42 := of_decide_eq_true hc42
  simp only [ne_eq] at hc42
  have hno : ¬ cmdOK c := by intro h; simp [h] at hc42
  simp only [if_neg hno]
  refine vc_rseq mixed ?_
  refine g_val (s_move rfl rfl) rfl ?_
  refine g_val (s_build (evArgs_cons rfl evArgs_nil) rfl rfl rfl) rfl ?_
  refine g_sto (s_store rfl rfl rfl rfl rfl rfl) rfl ?_
  refine g_nil ?_
  exact vc_ret (ret_hand [] [] _ (.cons (.agg rfl rfl rfl rfl) .nil) trivial (by repeat (first | exact leL_nil | refine leL_cons ?_ ?_ | exact LeV.tt rfl | exact .nl (by decide) (by decide) | exact .nn | refine LeV.tupL ?_ | refine LeV.aggL ?_ | exact .eq (by first | exact trivial | (simp [AV.okV, okR, lkB]; done) | (simp [AV.okV, okR, lkB]; omega)) (by first | rfl | (simp [AV.view, viewR, lkB, AV.ren, List.take_of_length_le]; done) | (simp [AV.view, viewR, lkB, AV.ren, List.take_of_length_le]; simp [repC, repE, bytesT, i64])))) (lehp_cons rfl (leB_same _) (lehp_nil _ _)) rfl)
  replace hc42 := of_decide_eq_false hc42
  simp only [ne_eq, Decidable.not_not] at hc42
  refine vc_skip ?_
  have hok : cmdOK c := by
    refine Decidable.byContradiction fun h => ?_
    simp [h] at hc42
  simp only [if_pos hok]
  refine vc_rseq mixed ?_
  refine g_val (s_assign rfl rfl) rfl ?_
  refine g_nil ?_
  refine vc_seq ?_
  refine vc_block ?_
  refine vc_up l.length (fun i => ⟨[(0, .ref 1000 0), (4, .ref 4 0), (5, .ref 5 0), (7, AI .i64 i), (8, .t (volsT l)), (9, .ref 9 0)], [(4, some (.box ((repC (repE 0)).map .t))), (5, some (.box ((cmdC c).map .t))), (9, some (.box ((volC (volN c)).map .t))), (1000, some (.box (mA l)))], [4, 5, 9, 1000]⟩) (fun i => ∀ j : Nat, j < i → ∀ z, l[j]? = some z → z.id < c.vol) (leE_same (by repeat (first | exact letm_nil _ _ | refine letm_cons rfl ?_ ?_ | exact .same _ | exact .nl (by decide) (by decide) | exact .nn | exact .id' rfl | exact .id' (by simp; done))) (by repeat (first | exact lehp_nil _ _ | refine lehp_cons rfl ?_ ?_ | exact leB_same _ | exact leB_row (by first | rfl | (simp; done)) | exact leB_obj (by simp; done) | exact leB_nest (by first | rfl | (simp; done)) | refine leB_box ?_ | exact leL_nil | refine leL_cons ?_ ?_ | exact .same _ | exact .nl (by decide) (by decide) | exact .nn | exact .id' rfl | exact .id' (by simp; done))) rfl) (fun j h => by omega) (fun i hi hJ => ?_)
  refine vc_seq ?_
  refine vc_rseq mixed ?_
  refine d_val (s_move rfl rfl) rfl ?_
  refine d_val (s_move rfl rfl) rfl ?_
  refine d_val (s_len rfl rfl) rfl ?_
  refine d_val (s_lss rfl rfl rfl) rfl ?_
  refine d_val (s_move rfl rfl) rfl ?_
  refine g_probe (j := 49) rfl (fun c hg49 => ?_)
  cases c
  rw [← hg49]; replace hg49 := hg49.symm; replace hg49 := of_decide_eq_false hg49
  simp only [List.length_map, Int.not_lt] at hg49
  refine dn_val rfl rfl rfl rfl rfl rfl (by decide) ?_
  refine dn_val rfl rfl rfl rfl rfl rfl (by decide) ?_
  refine dn_val rfl rfl rfl rfl rfl rfl (by decide) ?_
  refine dn_val rfl rfl rfl rfl rfl rfl (by decide) ?_
  refine dn_val rfl rfl rfl rfl rfl rfl (by decide) ?_
  refine dn_val rfl rfl rfl rfl rfl rfl (by decide) ?_
  refine dn_val rfl rfl rfl rfl rfl rfl (by decide) ?_
  refine dn_val rfl rfl rfl rfl rfl rfl (by decide) ?_
  refine d_val (s_pickF rfl rfl rfl) rfl ?_
  refine d_nil rfl ?_
  refine vc_cond rfl (fun h => by cases h) (fun _ => ?_)
  refine vc_exit ?_
  have hins := insV_eq (l := l) (v := volN c) (k := i) hJ (fun z hz => by first | (exfalso; have := (List.getElem?_eq_some_iff.1 hz).1; simp at *; omega) | (rw [hx] at hz; injection hz with hz; subst hz; simp only [volN]; omega)) (by omega)
  refine vc_rseq mixed ?_
  refine d_val (s_move rfl rfl) rfl ?_
  refine d_val (s_move rfl rfl) rfl ?_
  refine d_val (s_move rfl rfl) rfl ?_
  refine d_val (s_slice none (some (.i64, (i : Int))) rfl trivial rfl rfl (by simp) (by simp) (by simp [optN]; omega)) rfl ?_
  refine d_new (s_appendN 65 rfl rfl rfl rfl (by simp [optN]; omega)) rfl ?_
  refine d_val (s_loadA rfl rfl rfl rfl rfl) rfl ?_
  refine d_fz ((s_buildSlice 67 (evArgs_cons rfl evArgs_nil) rfl rfl rfl rfl).fzE rfl) rfl ?_
  refine d_app (s_append 68 rfl rfl rfl rfl rfl (by simp [optN]) rfl rfl (by simp [optN]; omega)) rfl ?_
  refine d_val (s_move rfl rfl) rfl ?_
  refine d_val (s_move rfl rfl) rfl ?_
  refine d_val (s_slice (some (.i64, (i : Int))) none rfl rfl trivial rfl (by simp) (by simp) (by simp [optN]; omega)) rfl ?_
  refine d_fa ((s_append 72 rfl rfl rfl rfl rfl (by simp [optN]) rfl rfl (by simp [optN]; omega)).fzA (by simp [optN]) rfl) rfl ?_
  refine d_val (s_nilCheck rfl rfl rfl) rfl ?_
  refine d_val (s_field rfl rfl rfl rfl) rfl ?_
  refine d_sto (s_store rfl rfl rfl rfl rfl rfl) rfl ?_
  refine d_nil rfl ?_
  refine vc_rseq mixed ?_
  refine g_val (s_build evArgs_nil rfl rfl rfl) rfl ?_
  refine g_sto (s_store rfl rfl rfl rfl rfl rfl) rfl ?_
  refine g_nil ?_
  exact vc_ret (ret_hand [] [] _ (.cons (.agg rfl rfl rfl rfl) .nil) trivial (by repeat (first | exact leL_nil | refine leL_cons ?_ ?_ | exact LeV.tt rfl | exact .nl (by decide) (by decide) | exact .nn | refine LeV.tupL ?_ | refine LeV.aggL ?_ | exact .eq (by first | exact trivial | (simp [AV.okV, okR, lkB]; done) | (simp [AV.okV, okR, lkB]; omega)) (by first | rfl | (simp [AV.view, viewR, lkB, AV.ren, List.take_of_length_le]; done) | (simp [AV.view, viewR, lkB, AV.ren, List.take_of_length_le]; simp [repC, repE, bytesT, i64])))) (lehp_cons rfl (leB_box (leL_cons (LeV.tt (by rw [hins]; simp [optN, volsT, List.map_take, List.map_drop, List.take_of_length_le]; exact List.take_of_length_le (by simp; omega))) leL_nil)) (lehp_nil _ _)) rfl)
  rw [← hg49]; replace hg49 := hg49.symm; replace hg49 := of_decide_eq_true hg49
  simp only [List.length_map] at hg49
  obtain ⟨x, hx⟩ := get_of_lt (l := l) (i := i) (by omega)
  refine dq_val (s_move rfl rfl) rfl rfl rfl rfl ?_
  refine dq_val (s_move rfl rfl) rfl rfl rfl rfl ?_
  refine dq_val (s_index rfl rfl rfl (by omega) (idx_map hx)) rfl rfl rfl rfl ?_
  refine dq_val (s_fieldT rfl rfl rfl rfl rfl) rfl rfl rfl rfl ?_
  refine dq_val (s_loadT rfl rfl rfl) rfl rfl rfl rfl ?_
  refine dq_val (s_field rfl rfl rfl rfl) rfl rfl rfl rfl ?_
  refine dq_val (s_load rfl rfl rfl rfl) rfl rfl rfl rfl ?_
  refine dq_val (s_lss rfl rfl rfl) rfl rfl rfl rfl ?_
  refine d_val (s_pickT rfl rfl rfl) rfl ?_
  refine d_nil rfl ?_
  refine vc_cond rfl (fun hc58 => ?_) (fun hc58 => ?_)
  replace hc58 := of_decide_eq_true hc58
  refine vc_skip ?_
  refine vc_block ?_
  refine vc_region mixed ?_
  refine g_val (s_move rfl rfl) rfl ?_
  refine g_val (s_add rfl rfl rfl (by simp only [inI, kMin, kMax]; omega)) rfl ?_
  refine g_val (s_assign rfl rfl) rfl ?_
  refine g_nil ?_
  exact ⟨by omega, fun j hj z hz => by rcases Nat.lt_succ_iff_lt_or_eq.1 hj with h | rfl; exact hJ j h z hz; rw [hx] at hz; injection hz with hz; subst hz; exact hc58, (leE_same (by repeat (first | exact letm_nil _ _ | refine letm_cons rfl ?_ ?_ | exact .same _ | exact .nl (by decide) (by decide) | exact .nn | exact .id' rfl | exact .id' (by simp; done))) (by repeat (first | exact lehp_nil _ _ | refine lehp_cons rfl ?_ ?_ | exact leB_same _ | exact leB_row (by first | rfl | (simp; done)) | exact leB_obj (by simp; done) | exact leB_nest (by first | rfl | (simp; done)) | refine leB_box ?_ | exact leL_nil | refine leL_cons ?_ ?_ | exact .same _ | exact .nl (by decide) (by decide) | exact .nn | exact .id' rfl | exact .id' (by simp; done))) rfl)⟩
  replace hc58 := of_decide_eq_false hc58
  simp only [Int.not_lt] at hc58
  refine vc_exit ?_
  have hins := insV_eq (l := l) (v := volN c) (k := i) hJ (fun z hz => by first | (exfalso; have := (List.getElem?_eq_some_iff.1 hz).1; simp at *; omega) | (rw [hx] at hz; injection hz with hz; subst hz; simp only [volN]; omega)) (by omega)
  refine vc_rseq mixed ?_
  refine d_val (s_move rfl rfl) rfl ?_
  refine d_val (s_move rfl rfl) rfl ?_
  refine d_val (s_move rfl rfl) rfl ?_
  refine d_val (s_slice none (some (.i64, (i : Int))) rfl trivial rfl rfl (by simp) (by simp) (by simp [optN]; omega)) rfl ?_
  refine d_new (s_appendN 65 rfl rfl rfl rfl (by simp [optN]; omega)) rfl ?_
  refine d_val (s_loadA rfl rfl rfl rfl rfl) rfl ?_
  refine d_fz ((s_buildSlice 67 (evArgs_cons rfl evArgs_nil) rfl rfl rfl rfl).fzE rfl) rfl ?_
  refine d_app (s_append 68 rfl rfl rfl rfl rfl (by simp [optN]) rfl rfl (by simp [optN]; omega)) rfl ?_
  refine d_val (s_move rfl rfl) rfl ?_
  refine d_val (s_move rfl rfl) rfl ?_
  refine d_val (s_slice (some (.i64, (i : Int))) none rfl rfl trivial rfl (by simp) (by simp) (by simp [optN]; omega)) rfl ?_
  refine d_fa ((s_append 72 rfl rfl rfl rfl rfl (by simp [optN]) rfl rfl (by simp [optN]; omega)).fzA (by simp [optN]) rfl) rfl ?_
  refine d_val (s_nilCheck rfl rfl rfl) rfl ?_
  refine d_val (s_field rfl rfl rfl rfl) rfl ?_
  refine d_sto (s_store rfl rfl rfl rfl rfl rfl) rfl ?_
  refine d_nil rfl ?_
  refine vc_rseq mixed ?_
  refine g_val (s_build evArgs_nil rfl rfl rfl) rfl ?_
  refine g_sto (s_store rfl rfl rfl rfl rfl rfl) rfl ?_
  refine g_nil ?_
  exact vc_ret (ret_hand [] [] _ (.cons (.agg rfl rfl rfl rfl) .nil) trivial (by repeat (first | exact leL_nil | refine leL_cons ?_ ?_ | exact LeV.tt rfl | exact .nl (by decide) (by decide) | exact .nn | refine LeV.tupL ?_ | refine LeV.aggL ?_ | exact .eq (by first | exact trivial | (simp [AV.okV, okR, lkB]; done) | (simp [AV.okV, okR, lkB]; omega)) (by first | rfl | (simp [AV.view, viewR, lkB, AV.ren, List.take_of_length_le]; done) | (simp [AV.view, viewR, lkB, AV.ren, List.take_of_length_le]; simp [repC, repE, bytesT, i64])))) (lehp_cons rfl (leB_box (leL_cons (LeV.tt (by rw [hins]; simp [optN, volsT, List.map_take, List.map_drop, List.take_of_length_le]; exact List.take_of_length_le (by simp; omega))) leL_nil)) (lehp_nil _ _)) rfl)
  replace hc32 := of_decide_eq_false hc32
  refine vc_skip ?_
  refine vc_seq ?_
  rw [if_neg hc32]
  refine vc_rseq mixed ?_
  refine g_val (s_move rfl rfl) rfl ?_
  refine g_val (s_lss rfl rfl rfl) rfl ?_
  refine g_nil ?_
  refine vc_cond rfl (fun hc77 => ?_) (fun hc77 => ?_)
  replace hc77 := of_decide_eq_true hc77
  rw [if_pos (by omega)]
  refine vc_rseq mixed ?_
  refine g_val (s_build (evArgs_cons rfl evArgs_nil) rfl rfl rfl) rfl ?_
  refine g_sto (s_store rfl rfl rfl rfl rfl rfl) rfl ?_
  refine g_nil ?_
  exact vc_ret (ret_hand [] [] _ (.cons (.agg rfl rfl rfl rfl) .nil) trivial (by repeat (first | exact leL_nil | refine leL_cons ?_ ?_ | exact LeV.tt rfl | exact .nl (by decide) (by decide) | exact .nn | refine LeV.tupL ?_ | refine LeV.aggL ?_ | exact .eq (by first | exact trivial | (simp [AV.okV, okR, lkB]; done) | (simp [AV.okV, okR, lkB]; omega)) (by first | rfl | (simp [AV.view, viewR, lkB, AV.ren, List.take_of_length_le]; done) | (simp [AV.view, viewR, lkB, AV.ren, List.take_of_length_le]; done)))) (lehp_cons rfl (leB_same _) (lehp_nil _ _)) rfl)
  replace hc77 := of_decide_eq_false hc77
  simp only [Int.not_lt] at hc77
  refine vc_skip ?_
  rw [if_neg (by omega)]
  obtain ⟨i, x, rfl, hx, hid⟩ : ∃ (i : Nat) (x : Volume), g = i ∧ l[i]? = some x ∧ x.id = c.vol := by
    rcases hcs with ⟨h, _⟩ | h
    omega
    exact h
  have hxd : l.getD ((i : Int).toNat) volZ = x := by rw [List.getD_eq_getElem?_getD]; simp [hx]
  have hil := (List.getElem?_eq_some_iff.1 hx).1
  rw [hxd]
  refine vc_rseq mixed ?_
  refine d_val (s_move rfl rfl) rfl ?_
  refine d_val (s_move rfl rfl) rfl ?_
  refine d_val (s_indexR rfl rfl rfl (by omega) (by first | omega | (simp only [List.length_map]; omega))) rfl ?_
  refine d_val (s_loadRA rfl rfl (idx_map0 hx) rfl rfl) rfl ?_
  refine d_val (s_loadA rfl rfl rfl rfl rfl) rfl ?_
  refine d_val (s_call [] (c_mementoref16_Do x c (hs x (List.mem_of_getElem? hx))) (evArgs_cons rfl (evArgs_cons rfl evArgs_nil)) trivial rfl (okVL_nil _) rfl (.inl rfl) rfl) rfl ?_
  refine d_val (s_move rfl rfl) rfl ?_
  refine d_val (s_extract rfl rfl rfl) rfl ?_
  refine d_val (s_extract rfl rfl rfl) rfl ?_
  refine d_new (s_alloc 11 rfl rfl) rfl ?_
  refine d_new (s_alloc 12 rfl rfl) rfl ?_
  refine d_sto (s_store rfl rfl rfl rfl rfl rfl) rfl ?_
  refine d_sto (s_store rfl rfl rfl rfl rfl rfl) rfl ?_
  refine d_nil rfl ?_
  refine vc_rseq mixed ?_
  refine g_val (s_move rfl rfl) rfl ?_
  refine g_val (s_move rfl rfl) rfl ?_
  refine g_val (s_loadA rfl rfl rfl rfl rfl) rfl ?_
  refine g_val (s_indexR rfl rfl rfl (by omega) (by first | omega | (simp only [List.length_map]; omega))) rfl ?_
  refine g_sto (s_storeR rfl rfl rfl rfl rfl (idx_map0 hx) rfl) rfl ?_
  refine g_nil ?_
  refine vc_freezeE 8 rfl rfl (by simp) ?_
  refine vc_rseq mixed ?_
  refine g_val (s_move rfl rfl) rfl ?_
  refine g_val (s_move rfl rfl) rfl ?_
  refine g_val (s_nilCheck rfl rfl rfl) rfl ?_
  refine g_val (s_field rfl rfl rfl rfl) rfl ?_
  refine g_sto (s_store rfl rfl rfl rfl rfl rfl) rfl ?_
  refine g_nil ?_
  refine vc_rseq mixed ?_
  refine g_val (s_loadA rfl rfl rfl rfl rfl) rfl ?_
  refine g_sto (s_store rfl rfl rfl rfl rfl rfl) rfl ?_
  refine g_nil ?_
  exact vc_ret (ret_hand [] [] _ (.cons (.agg rfl rfl rfl rfl) .nil) trivial (by repeat (first | exact leL_nil | refine leL_cons ?_ ?_ | exact LeV.tt rfl | exact .nl (by decide) (by decide) | exact .nn | refine LeV.tupL ?_ | refine LeV.aggL ?_ | exact .eq (by first | exact trivial | (simp [AV.okV, okR, lkB]; done) | (simp [AV.okV, okR, lkB]; omega)) (by first | rfl | (simp [AV.view, viewR, lkB, AV.ren, List.take_of_length_le]; done) | (simp [AV.view, viewR, lkB, AV.ren, List.take_of_length_le]; done)))) (lehp_cons rfl (leB_box (leL_cons (LeV.tt (by simp [volsT, List.map_set]; rfl)) leL_nil)) (lehp_nil _ _)) rfl)

end Go.Eng

set_option maxHeartbeats 4000000
namespace Go.Eng
open Go.Proofs

def seatG (blocks size : Int) : List Int → List Item → List Item
  | [], acc => acc
  | k :: l, acc => if acc.length < 8 then (if acc.any (fun x => decide (x.block = k % max blocks 1)) then seatG blocks size l acc else seatG blocks size l (acc ++ [⟨k % max blocks 1, dataF size k⟩])) else acc
def seatItems (blocks size : Int) (l : List Int) : List Item := seatG blocks size l []
theorem seatG_full {blocks size : Int} {l : List Int} {acc : List Item} (h : ¬ acc.length < 8) : seatG blocks size l acc = acc := by
  cases l with
  | nil => rfl
  | cons k l => simp only [seatG, if_neg h]

theorem c_mementoseat_Items (blocks size : Int) (l : List Int) (hs : size ≤ 1000000) : Con Tryz.prog 60 [AI .i64 blocks, AI .i64 size, .t (bytesT l)] [] (.t (itemsT (seatItems blocks size l))) [] := by
  refine con_intro [] [] Tryz.func60 rfl Tryz.ntmps60 Tryz.results60 rfl rfl ?_
  intro E
  refine vc_okT (i := 2) rfl fun ok2 => ?_
  have hll := ok2.len
  rw [List.length_map] at hll
  refine vc_rseq mixed ?_
  refine g_val (s_assign rfl rfl) rfl ?_
  refine g_nil ?_
  refine vc_rseq mixed ?_
  refine g_val (s_assign rfl rfl) rfl ?_
  refine g_nil ?_
  refine vc_seq ?_
  refine vc_ownnil (i := 7) 7 2 32 rfl rfl rfl ?_
  refine vc_rseq mixed ?_
  refine g_val (s_assign rfl rfl) rfl ?_
  refine g_nil ?_
  refine vc_block ?_
  refine vc_while (α := Nat × List Item) (fun s => ⟨[(0, AI .i64 blocks), (1, AI .i64 size), (2, .t (bytesT l)), (7, .rows 7 2 0 s.2.length), (8, AI .i64 s.1)], [(7, some (.row 2 32 (s.2.map itemC)))], [7]⟩) (fun s => s.1 ≤ l.length ∧ s.2.length ≤ 8 ∧ seatG blocks size (l.drop s.1) s.2 = seatItems blocks size l) (fun s => l.length - s.1) (0, []) (leE_same (by repeat (first | exact letm_nil _ _ | refine letm_cons rfl ?_ ?_ | exact .same _ | exact .nl (by decide) (by decide) | exact .nn | exact .id' rfl | exact .id' (by simp; done))) (by repeat (first | exact lehp_nil _ _ | refine lehp_cons rfl ?_ ?_ | exact leB_same _ | exact leB_row (by first | rfl | (simp; done)) | exact leB_obj (by simp; done) | exact leB_nest (by first | rfl | (simp; done)) | refine leB_box ?_ | exact leL_nil | refine leL_cons ?_ ?_ | exact .same _ | exact .nl (by decide) (by decide) | exact .nn | exact .id' rfl | exact .id' (by simp; done))) rfl) ⟨Nat.zero_le _, Nat.zero_le _, rfl⟩ (fun s ⟨hs1, hs2, hs3⟩ => ?_)
  obtain ⟨i, acc⟩ := s
  simp only at hs1 hs2 hs3
  refine vc_seq ?_
  refine vc_rseq mixed ?_
  refine g_val (s_move rfl rfl) rfl ?_
  refine g_val (s_move rfl rfl) rfl ?_
  refine g_val (s_len rfl rfl) rfl ?_
  refine g_val (s_lss rfl rfl rfl) rfl ?_
  refine g_val (s_move rfl rfl) rfl ?_
  refine g_probe (j := 16) rfl (fun c hg16 => ?_)
  cases c
  rw [← hg16]; replace hg16 := hg16.symm; replace hg16 := of_decide_eq_false hg16
  simp only [List.length_map, Int.not_lt] at hg16
  refine gn_val rfl rfl rfl rfl rfl rfl (by decide) ?_
  refine gn_val rfl rfl rfl rfl rfl rfl (by decide) ?_
  refine gn_val rfl rfl rfl rfl rfl rfl (by decide) ?_
  refine g_val (s_pickF rfl rfl rfl) rfl ?_
  refine g_nil ?_
  refine vc_cond rfl (fun h => by cases h) (fun _ => ?_)
  refine vc_exit ?_
  have hfin : acc = seatItems blocks size l := by
    rw [← hs3]
    by_cases h8 : acc.length < 8
    rw [List.drop_of_length_le (by omega)]; rfl
    rw [seatG_full h8]
  refine vc_rseq mixed ?_
  refine g_val (s_move rfl rfl) rfl ?_
  refine g_val (s_assign rfl rfl) rfl ?_
  refine g_nil ?_
  exact vc_ret (ret_le [(7, _)] _ (.cons (.tmp rfl) .nil) ⟨rfl, trivial⟩ (.eq (by simp [single, AV.okV, okR, lkB]) (by simp [single, AV.view, viewR, lkB, AV.ren, itemsT, take_map_len, hfin])) rfl)
  rw [← hg16]; replace hg16 := hg16.symm; replace hg16 := of_decide_eq_true hg16
  simp only [List.length_map] at hg16
  refine gq_val (s_move rfl rfl) rfl rfl rfl rfl ?_
  refine gq_val (s_lenR rfl rfl (by simp) rfl) rfl rfl rfl rfl ?_
  refine gq_val (s_lss rfl rfl rfl) rfl rfl rfl rfl ?_
  refine g_val (s_pickT rfl rfl rfl) rfl ?_
  refine g_nil ?_
  refine vc_cond rfl (fun hc20 => ?_) (fun hc20 => ?_)
  replace hc20 := of_decide_eq_true hc20
  try simp only [List.length_map, ne_eq, Decidable.not_not, Int.not_lt, Int.not_le, ge_iff_le, gt_iff_lt, Bool.not_eq_true', Bool.not_eq_false', decide_eq_true_eq, decide_eq_false_iff_not] at hc20
  obtain ⟨k, hk⟩ := get_of_lt (l := l) (i := i) (by omega)
  have hkr := ok2.bytes k (List.mem_of_getElem? hk)
  have hst : seatG blocks size (l.drop i) acc = (if acc.any (fun x => decide (x.block = k % max blocks 1)) then seatG blocks size (l.drop (i + 1)) acc else seatG blocks size (l.drop (i + 1)) (acc ++ [⟨k % max blocks 1, dataF size k⟩])) := by
    obtain ⟨h1, h2⟩ := List.getElem?_eq_some_iff.1 hk
    rw [List.drop_eq_getElem_cons h1, h2]
    simp only [seatG]
    rw [if_pos (by omega)]
  refine vc_skip ?_
  refine vc_seq ?_
  refine vc_block ?_
  refine vc_rseq mixed ?_
  refine g_val (s_move rfl rfl) rfl ?_
  refine g_val (s_move rfl rfl) rfl ?_
  refine g_val (s_index rfl rfl rfl (by omega) (idx_map hk)) rfl ?_
  refine g_val (s_loadT rfl rfl rfl) rfl ?_
  refine g_val (s_conv rfl rfl (by simp only [inI, kMin, kMax]; omega)) rfl ?_
  refine g_val (s_move rfl rfl) rfl ?_
  refine g_val (s_max rfl rfl rfl) rfl ?_
  refine g_val (s_rem rfl rfl rfl (by omega) (by omega)) rfl ?_
  refine g_val (s_assign rfl rfl) rfl ?_
  refine g_nil ?_
  refine vc_rseq mixed ?_
  refine g_val (s_assign rfl rfl) rfl ?_
  refine g_nil ?_
  refine vc_seq ?_
  refine vc_rseq mixed ?_
  refine g_val (s_assign rfl rfl) rfl ?_
  refine g_nil ?_
  refine vc_block ?_
  refine vc_up acc.length (fun j => ⟨[(0, AI .i64 blocks), (1, AI .i64 size), (2, .t (bytesT l)), (7, .rows 7 2 0 acc.length), (8, AI .i64 i), (9, AI .i64 (k % max blocks 1)), (10, AB ((acc.take j).any (fun x => decide (x.block = k % max blocks 1)))), (11, AI .i64 j)], [(7, some (.row 2 32 (acc.map itemC)))], [7]⟩) (fun j => True) (leE_same (by repeat (first | exact letm_nil _ _ | refine letm_cons rfl ?_ ?_ | exact .same _ | exact .nl (by decide) (by decide) | exact .nn | exact .id' rfl | exact .id' (by simp; done))) (by repeat (first | exact lehp_nil _ _ | refine lehp_cons rfl ?_ ?_ | exact leB_same _ | exact leB_row (by first | rfl | (simp; done)) | exact leB_obj (by simp; done) | exact leB_nest (by first | rfl | (simp; done)) | refine leB_box ?_ | exact leL_nil | refine leL_cons ?_ ?_ | exact .same _ | exact .nl (by decide) (by decide) | exact .nn | exact .id' rfl | exact .id' (by simp; done))) rfl) trivial (fun j hj _ => ?_)
  refine vc_seq ?_
  refine vc_rseq mixed ?_
  refine g_val (s_move rfl rfl) rfl ?_
  refine g_val (s_move rfl rfl) rfl ?_
  refine g_val (s_lenR rfl rfl (by first | omega | (simp; done) | (simp; omega)) rfl) rfl ?_
  refine g_val (s_lss rfl rfl rfl) rfl ?_
  refine g_nil ?_
  refine vc_cond rfl (fun hc34 => ?_) (fun hc34 => ?_)
  replace hc34 := of_decide_eq_true hc34
  obtain ⟨x, hx⟩ := get_of_lt (l := acc) (i := j) (by omega)
  refine vc_skip ?_
  refine vc_seq ?_
  refine vc_block ?_
  refine vc_region mixed ?_
  refine g_val (s_move rfl rfl) rfl ?_
  refine g_val (s_move rfl rfl) rfl ?_
  refine g_probe (j := 38) rfl (fun c hg38 => ?_)
  cases c
  rw [← hg38]; replace hg38 := hg38.symm
  refine gq_val (s_move rfl rfl) rfl rfl rfl rfl ?_
  refine gq_val (s_move rfl rfl) rfl rfl rfl rfl ?_
  refine gq_val (s_indexR rfl rfl rfl (by omega) (by first | omega | (simp only [List.length_map]; omega))) rfl rfl rfl rfl ?_
  refine gq_val (s_fieldR rfl rfl rfl rfl) rfl rfl rfl rfl ?_
  refine gq_val (s_loadR rfl rfl (idx_map0 hx) rfl rfl) rfl rfl rfl rfl ?_
  refine gq_val (s_move rfl rfl) rfl rfl rfl rfl ?_
  refine gq_val (s_eql rfl rfl rfl) rfl rfl rfl rfl ?_
  refine g_val (s_pickF rfl rfl rfl) rfl ?_
  refine g_val (s_assign rfl rfl) rfl ?_
  refine g_nil ?_
  refine vc_region mixed ?_
  refine g_val (s_move rfl rfl) rfl ?_
  refine g_val (s_add rfl rfl rfl (by simp only [inI, kMin, kMax]; omega)) rfl ?_
  refine g_val (s_assign rfl rfl) rfl ?_
  refine g_nil ?_
  exact ⟨by omega, trivial, (leE_same (by repeat (first | exact letm_nil _ _ | refine letm_cons rfl ?_ ?_ | exact .same _ | exact .nl (by decide) (by decide) | exact .nn | exact .id' rfl | exact .id' (by rw [take_snoc hx]; simp_all))) (by repeat (first | exact lehp_nil _ _ | refine lehp_cons rfl ?_ ?_ | exact leB_same _ | exact leB_row (by first | rfl | (rw [take_snoc hx]; simp_all)) | exact leB_obj (by rw [take_snoc hx]; simp_all) | exact leB_nest (by first | rfl | (rw [take_snoc hx]; simp_all)) | refine leB_box ?_ | exact leL_nil | refine leL_cons ?_ ?_ | exact .same _ | exact .nl (by decide) (by decide) | exact .nn | exact .id' rfl | exact .id' (by rw [take_snoc hx]; simp_all))) rfl)⟩
  rw [← hg38]; replace hg38 := hg38.symm
  refine gn_val rfl rfl rfl rfl rfl rfl (by decide) ?_
  refine gn_val rfl rfl rfl rfl rfl rfl (by decide) ?_
  refine gn_val rfl rfl rfl rfl rfl rfl (by decide) ?_
  refine gn_val rfl rfl rfl rfl rfl rfl (by decide) ?_
  refine gn_val rfl rfl rfl rfl rfl rfl (by decide) ?_
  refine gn_val rfl rfl rfl rfl rfl rfl (by decide) ?_
  refine gn_val rfl rfl rfl rfl rfl rfl (by decide) ?_
  refine g_val (s_pickT rfl rfl rfl) rfl ?_
  refine g_val (s_assign rfl rfl) rfl ?_
  refine g_nil ?_
  refine vc_region mixed ?_
  refine g_val (s_move rfl rfl) rfl ?_
  refine g_val (s_add rfl rfl rfl (by simp only [inI, kMin, kMax]; omega)) rfl ?_
  refine g_val (s_assign rfl rfl) rfl ?_
  refine g_nil ?_
  exact ⟨by omega, trivial, (leE_same (by repeat (first | exact letm_nil _ _ | refine letm_cons rfl ?_ ?_ | exact .same _ | exact .nl (by decide) (by decide) | exact .nn | exact .id' rfl | exact .id' (by rw [take_snoc hx]; simp_all))) (by repeat (first | exact lehp_nil _ _ | refine lehp_cons rfl ?_ ?_ | exact leB_same _ | exact leB_row (by first | rfl | (rw [take_snoc hx]; simp_all)) | exact leB_obj (by rw [take_snoc hx]; simp_all) | exact leB_nest (by first | rfl | (rw [take_snoc hx]; simp_all)) | refine leB_box ?_ | exact leL_nil | refine leL_cons ?_ ?_ | exact .same _ | exact .nl (by decide) (by decide) | exact .nn | exact .id' rfl | exact .id' (by rw [take_snoc hx]; simp_all))) rfl)⟩
  replace hc34 := of_decide_eq_false hc34
  simp only [Int.not_lt] at hc34
  refine vc_exit ?_
  obtain rfl : j = acc.length := by omega
  rw [List.take_length]
  refine vc_rseq mixed ?_
  refine g_val (s_move rfl rfl) rfl ?_
  refine g_val (s_not rfl rfl) rfl ?_
  refine g_nil ?_
  refine vc_cond rfl (fun hc48 => ?_) (fun hc48 => ?_)
  simp only [Bool.not_eq_true'] at hc48
  refine vc_region mixed ?_
  refine g_val (s_move rfl rfl) rfl ?_
  refine g_val (s_move rfl rfl) rfl ?_
  refine g_val (s_move rfl rfl) rfl ?_
  refine g_val (s_move rfl rfl) rfl ?_
  refine g_val (s_move rfl rfl) rfl ?_
  refine g_val (s_index rfl rfl rfl (by omega) (idx_map hk)) rfl ?_
  refine g_val (s_loadT rfl rfl rfl) rfl ?_
  refine g_val (s_call [] (c_mementoseat_Data size k hs) (evArgs_cons rfl (evArgs_cons rfl evArgs_nil)) trivial rfl (okVL_nil _) rfl (.inl rfl) rfl) rfl ?_
  refine g_val (s_build (evArgs_cons rfl (evArgs_cons rfl evArgs_nil)) rfl rfl rfl) rfl ?_
  refine g_fz ((s_buildSlice 58 (evArgs_cons rfl evArgs_nil) rfl rfl rfl rfl).fzE rfl) rfl ?_
  refine g_app (s_append 59 rfl rfl rfl rfl rfl (by simp) rfl rfl (by (try simp only [List.length_cons, List.length_nil]); omega)) rfl ?_
  refine g_val (s_assign rfl rfl) rfl ?_
  refine g_nil ?_
  refine vc_region mixed ?_
  refine g_val (s_move rfl rfl) rfl ?_
  refine g_val (s_add rfl rfl rfl (by simp only [inI, kMin, kMax]; omega)) rfl ?_
  refine g_val (s_assign rfl rfl) rfl ?_
  refine g_nil ?_
  first
  | exact ⟨(i + 1, acc ++ [⟨k % max blocks 1, dataF size k⟩]), ⟨by simp only; omega, by simp only [List.length_append, List.length_cons, List.length_nil]; omega, by simp only; rw [← hs3, hst, if_neg (by simp only [hc48]; decide)]⟩, by simp only; omega, by
      simp only [List.length_append, List.length_cons, List.length_nil]
      exact (leE_gen [] [(7, 59)] (by repeat (first | exact letm_nil _ _ | refine letm_cons rfl ?_ ?_ | exact LeV.tt rfl | exact .eq (okV_nil _) rfl | exact LeV.tt (by rw [List.take_of_length_le (by simp)]; simp [itemC, i64, bytesT]) | exact .eq (okV_nil _) (by rw [List.take_of_length_le (by simp)]; simp [itemC, i64, bytesT]))) (by repeat (first | exact lehp_nil _ _ | refine lehp_cons rfl ?_ ?_ | exact leB_row (by first | rfl | (rw [List.take_of_length_le (by simp)]; simp [itemC, i64, bytesT])) | exact leB_obj (by rw [List.take_of_length_le (by simp)]; simp [itemC, i64, bytesT]) | exact leB_nest (by first | rfl | (rw [List.take_of_length_le (by simp)]; simp [itemC, i64, bytesT])) | refine leB_box ?_ | exact leL_nil | refine leL_cons ?_ ?_ | exact LeV.tt rfl | exact .eq (okV_nil _) rfl | exact LeV.tt (by rw [List.take_of_length_le (by simp)]; simp [itemC, i64, bytesT]) | exact .eq (okV_nil _) (by rw [List.take_of_length_le (by simp)]; simp [itemC, i64, bytesT]))) trivial rfl)⟩
  | exact ⟨(i + 1, acc), ⟨by simp only; omega, hs2, by simp only; rw [← hs3, hst, if_pos hc48]⟩, by simp only; omega, (leE_same (by repeat (first | exact letm_nil _ _ | refine letm_cons rfl ?_ ?_ | exact .same _ | exact .nl (by decide) (by decide) | exact .nn | exact .id' rfl | exact .id' (by simp; done))) (by repeat (first | exact lehp_nil _ _ | refine lehp_cons rfl ?_ ?_ | exact leB_same _ | exact leB_row (by first | rfl | (simp; done)) | exact leB_obj (by simp; done) | exact leB_nest (by first | rfl | (simp; done)) | refine leB_box ?_ | exact leL_nil | refine leL_cons ?_ ?_ | exact .same _ | exact .nl (by decide) (by decide) | exact .nn | exact .id' rfl | exact .id' (by simp; done))) rfl)⟩
  simp only [Bool.not_eq_false'] at hc48
  refine vc_skip ?_
  refine vc_region mixed ?_
  refine g_val (s_move rfl rfl) rfl ?_
  refine g_val (s_add rfl rfl rfl (by simp only [inI, kMin, kMax]; omega)) rfl ?_
  refine g_val (s_assign rfl rfl) rfl ?_
  refine g_nil ?_
  first
  | exact ⟨(i + 1, acc ++ [⟨k % max blocks 1, dataF size k⟩]), ⟨by simp only; omega, by simp only [List.length_append, List.length_cons, List.length_nil]; omega, by simp only; rw [← hs3, hst, if_neg (by simp only [hc48]; decide)]⟩, by simp only; omega, by
      simp only [List.length_append, List.length_cons, List.length_nil]
      exact (leE_gen [] [(7, 59)] (by repeat (first | exact letm_nil _ _ | refine letm_cons rfl ?_ ?_ | exact LeV.tt rfl | exact .eq (okV_nil _) rfl | exact LeV.tt (by rw [List.take_of_length_le (by simp)]; simp [itemC, i64, bytesT]) | exact .eq (okV_nil _) (by rw [List.take_of_length_le (by simp)]; simp [itemC, i64, bytesT]))) (by repeat (first | exact lehp_nil _ _ | refine lehp_cons rfl ?_ ?_ | exact leB_row (by first | rfl | (rw [List.take_of_length_le (by simp)]; simp [itemC, i64, bytesT])) | exact leB_obj (by rw [List.take_of_length_le (by simp)]; simp [itemC, i64, bytesT]) | exact leB_nest (by first | rfl | (rw [List.take_of_length_le (by simp)]; simp [itemC, i64, bytesT])) | refine leB_box ?_ | exact leL_nil | refine leL_cons ?_ ?_ | exact LeV.tt rfl | exact .eq (okV_nil _) rfl | exact LeV.tt (by rw [List.take_of_length_le (by simp)]; simp [itemC, i64, bytesT]) | exact .eq (okV_nil _) (by rw [List.take_of_length_le (by simp)]; simp [itemC, i64, bytesT]))) trivial rfl)⟩
  | exact ⟨(i + 1, acc), ⟨by simp only; omega, hs2, by simp only; rw [← hs3, hst, if_pos hc48]⟩, by simp only; omega, (leE_same (by repeat (first | exact letm_nil _ _ | refine letm_cons rfl ?_ ?_ | exact .same _ | exact .nl (by decide) (by decide) | exact .nn | exact .id' rfl | exact .id' (by simp; done))) (by repeat (first | exact lehp_nil _ _ | refine lehp_cons rfl ?_ ?_ | exact leB_same _ | exact leB_row (by first | rfl | (simp; done)) | exact leB_obj (by simp; done) | exact leB_nest (by first | rfl | (simp; done)) | refine leB_box ?_ | exact leL_nil | refine leL_cons ?_ ?_ | exact .same _ | exact .nl (by decide) (by decide) | exact .nn | exact .id' rfl | exact .id' (by simp; done))) rfl)⟩
  replace hc20 := of_decide_eq_false hc20
  simp only [Int.not_lt] at hc20
  refine vc_exit ?_
  have hfin : acc = seatItems blocks size l := by
    rw [← hs3]
    by_cases h8 : acc.length < 8
    rw [List.drop_of_length_le (by omega)]; rfl
    rw [seatG_full h8]
  refine vc_rseq mixed ?_
  refine g_val (s_move rfl rfl) rfl ?_
  refine g_val (s_assign rfl rfl) rfl ?_
  refine g_nil ?_
  exact vc_ret (ret_le [(7, _)] _ (.cons (.tmp rfl) .nil) ⟨rfl, trivial⟩ (.eq (by simp [single, AV.okV, okR, lkB]) (by simp [single, AV.view, viewR, lkB, AV.ren, itemsT, take_map_len, hfin])) rfl)

def createC (vol blocks size per total : Int) : VolCmd :=
  ⟨1, vol % 3, blocks % 9 + 1, size % 3 + 1, per % (blocks % 9 + 1) + 1, (List.range (chunksN (blocks % 9 + 1) (per % (blocks % 9 + 1) + 1)).toNat).map (fun i : Nat => 1 + ((i : Int) + per) % 2), total, 0, 0, []⟩

theorem c_mementoseat_Create (vol blocks size per total : Int) : Con Tryz.prog 33 [AI .u8 vol, AI .u8 blocks, AI .u8 size, AI .u8 per, AI .i64 total] [] (sC (cmdC (createC vol blocks size per total))) [] := by
  refine con_intro [] [] Tryz.func33 rfl Tryz.ntmps33 Tryz.results33 rfl rfl ?_
  intro E
  refine vc_int (t := 0) rfl fun h0 => ?_
  refine vc_int (t := 1) rfl fun h1 => ?_
  refine vc_int (t := 2) rfl fun h2 => ?_
  refine vc_int (t := 3) rfl fun h3 => ?_
  simp only [inI, kMin, kMax] at h0 h1 h2 h3
  unfold createC
  obtain ⟨B, hBB⟩ : ∃ B, blocks % 9 + 1 = B := ⟨_, rfl⟩
  obtain ⟨Q, hQQ⟩ : ∃ Q, per % (blocks % 9 + 1) + 1 = Q := ⟨_, rfl⟩
  rw [hQQ]
  have hB : 1 ≤ B ∧ B ≤ 9 := by omega
  have hQ0 := hQQ
  rw [hBB] at hQ0 ⊢
  have hP0 := Int.emod_nonneg per (b := B) (by omega)
  have hP1 := Int.emod_lt_of_pos per (b := B) (by omega)
  have hP : 1 ≤ Q ∧ Q ≤ 9 := by omega
  have hch : chunksN B Q ≤ 17 ∧ 0 ≤ chunksN B Q := by
    unfold chunksN
    refine ⟨?_, Int.ediv_nonneg (by omega) (by omega)⟩
    have := Int.ediv_le_self (a := B + Q - 1) Q (by omega)
    omega
  refine vc_rseq mixed ?_
  refine g_new (s_alloc 10 rfl rfl) rfl ?_
  refine g_nil ?_
  refine vc_rseq mixed ?_
  refine g_val (s_move rfl rfl) rfl ?_
  refine g_val (s_rem rfl rfl rfl (by omega) (by omega)) rfl ?_
  refine g_val (s_conv rfl rfl (by simp only [inI, kMin, kMax]; omega)) rfl ?_
  refine g_val (s_move rfl rfl) rfl ?_
  refine g_val (s_rem rfl rfl rfl (by omega) (by omega)) rfl ?_
  refine g_val (s_conv rfl rfl (by simp only [inI, kMin, kMax]; omega)) rfl ?_
  refine g_val (s_add rfl rfl rfl (by simp only [inI, kMin, kMax]; omega)) rfl ?_
  refine g_val (s_move rfl rfl) rfl ?_
  refine g_val (s_rem rfl rfl rfl (by omega) (by omega)) rfl ?_
  refine g_val (s_conv rfl rfl (by simp only [inI, kMin, kMax]; omega)) rfl ?_
  refine g_val (s_add rfl rfl rfl (by simp only [inI, kMin, kMax]; omega)) rfl ?_
  refine g_val (s_move rfl rfl) rfl ?_
  refine g_val (s_build (evArgs_cons rfl (evArgs_cons rfl (evArgs_cons rfl (evArgs_cons rfl (evArgs_cons rfl evArgs_nil))))) rfl rfl rfl) rfl ?_
  refine g_new (s_alloc 11 rfl rfl) rfl ?_
  refine g_sto (s_store rfl rfl rfl rfl rfl rfl) rfl ?_
  refine g_nil ?_
  refine vc_rseq mixed ?_
  refine g_val (s_move rfl rfl) rfl ?_
  refine g_val (s_conv rfl rfl (by simp only [inI, kMin, kMax]; omega)) rfl ?_
  refine g_val (s_field rfl rfl rfl rfl) rfl ?_
  refine g_val (s_load rfl rfl rfl rfl) rfl ?_
  refine g_val (s_rem rfl rfl rfl (by omega) (by omega)) rfl ?_
  refine g_val (s_add rfl rfl rfl (by simp only [inI, kMin, kMax]; omega)) rfl ?_
  refine g_val (s_field rfl rfl rfl rfl) rfl ?_
  refine g_sto (s_store rfl rfl rfl rfl rfl rfl) rfl ?_
  refine g_nil ?_
  refine vc_seq ?_
  refine vc_ownnilB (q0 := 11) 5 5 1 8 rfl rfl rfl rfl ?_
  refine vc_rseq mixed ?_
  refine g_val (s_assign rfl rfl) rfl ?_
  refine g_nil ?_
  refine vc_block ?_
  refine vc_up (chunksN B Q).toNat (fun i => ⟨[(3, AI .u8 per), (10, .ref 10 0), (11, .ref 11 0), (12, AI .i64 i)], [(10, some (.box ((cmdC cmdZ).map .t))), (11, some (.box [AI .i64 1, AI .i64 (vol % 3), AI .i64 B, AI .i64 (size % 3 + 1), AI .i64 Q, .rows 5 1 0 i, AI .i64 total, AI .i64 0, AI .i64 0, .t (itemsT [])])), (5, some (.row 1 8 (((List.range i).map (fun i : Nat => 1 + ((i : Int) + per) % 2)).map intC)))], [5, 10, 11]⟩) (fun i => True) (leE_same (by repeat (first | exact letm_nil _ _ | refine letm_cons rfl ?_ ?_ | exact .same _ | exact .nl (by decide) (by decide) | exact .nn | exact .id' rfl | exact .id' (by first | (simp [hBB, hQ0]; done) | (simp [hBB]; done)))) (by repeat (first | exact lehp_nil _ _ | refine lehp_cons rfl ?_ ?_ | exact leB_same _ | exact leB_row (by first | rfl | (first | (simp [hBB, hQ0]; done) | (simp [hBB]; done))) | exact leB_obj (by first | (simp [hBB, hQ0]; done) | (simp [hBB]; done)) | exact leB_nest (by first | rfl | (first | (simp [hBB, hQ0]; done) | (simp [hBB]; done))) | refine leB_box ?_ | exact leL_nil | refine leL_cons ?_ ?_ | exact .same _ | exact .nl (by decide) (by decide) | exact .nn | exact .id' rfl | exact .id' (by first | (simp [hBB, hQ0]; done) | (simp [hBB]; done)))) rfl) trivial (fun i hi _ => ?_)
  refine vc_seq ?_
  refine vc_rseq mixed ?_
  refine g_val (s_move rfl rfl) rfl ?_
  refine g_val (s_field rfl rfl rfl rfl) rfl ?_
  refine g_val (s_load rfl rfl rfl rfl) rfl ?_
  refine g_val (s_field rfl rfl rfl rfl) rfl ?_
  refine g_val (s_load rfl rfl rfl rfl) rfl ?_
  refine g_val (s_call [] (c_mementoref16_Chunks B Q (by omega) (by omega) (by omega) (by omega)) (evArgs_cons rfl (evArgs_cons rfl evArgs_nil)) trivial rfl (okVL_nil _) rfl (.inl rfl) rfl) rfl ?_
  refine g_val (s_lss rfl rfl rfl) rfl ?_
  refine g_nil ?_
  refine vc_cond rfl (fun hc39 => ?_) (fun hc39 => ?_)
  replace hc39 := of_decide_eq_true hc39
  refine vc_skip ?_
  refine vc_seq ?_
  refine vc_block ?_
  refine vc_region mixed ?_
  refine g_val (s_field rfl rfl rfl rfl) rfl ?_
  refine g_val (s_load rfl rfl rfl rfl) rfl ?_
  refine g_val (s_move rfl rfl) rfl ?_
  refine g_val (s_move rfl rfl) rfl ?_
  refine g_val (s_conv rfl rfl (by simp only [inI, kMin, kMax]; omega)) rfl ?_
  refine g_val (s_add rfl rfl rfl (by simp only [inI, kMin, kMax]; omega)) rfl ?_
  refine g_val (s_rem rfl rfl rfl (by omega) (by omega)) rfl ?_
  refine g_val (s_add rfl rfl rfl (by simp only [inI, kMin, kMax]; omega)) rfl ?_
  refine g_fz ((s_buildSlice 50 (evArgs_cons rfl evArgs_nil) rfl rfl rfl rfl).fzE rfl) rfl ?_
  refine g_app (s_append 51 rfl rfl rfl rfl rfl (by simp) rfl rfl (by (try simp only [List.length_cons, List.length_nil]); omega)) rfl ?_
  refine g_val (s_field rfl rfl rfl rfl) rfl ?_
  refine g_sto (s_store rfl rfl rfl rfl rfl rfl) rfl ?_
  refine g_nil ?_
  refine vc_region mixed ?_
  refine g_val (s_move rfl rfl) rfl ?_
  refine g_val (s_add rfl rfl rfl (by simp only [inI, kMin, kMax]; omega)) rfl ?_
  refine g_val (s_assign rfl rfl) rfl ?_
  refine g_nil ?_
  exact ⟨by omega, trivial, (leE_gen [] [(5, 51)] (by repeat (first | exact letm_nil _ _ | refine letm_cons rfl ?_ ?_ | exact LeV.tt rfl | exact .eq (okV_nil _) rfl | exact LeV.tt (by rw [List.range_succ, List.map_append, List.map_append, List.take_of_length_le (by simp)]; rfl) | exact .eq (okV_nil _) (by rw [List.range_succ, List.map_append, List.map_append, List.take_of_length_le (by simp)]; rfl))) (by repeat (first | exact lehp_nil _ _ | refine lehp_cons rfl ?_ ?_ | exact leB_row (by first | rfl | (rw [List.range_succ, List.map_append, List.map_append, List.take_of_length_le (by simp)]; rfl)) | exact leB_obj (by rw [List.range_succ, List.map_append, List.map_append, List.take_of_length_le (by simp)]; rfl) | exact leB_nest (by first | rfl | (rw [List.range_succ, List.map_append, List.map_append, List.take_of_length_le (by simp)]; rfl)) | refine leB_box ?_ | exact leL_nil | refine leL_cons ?_ ?_ | exact LeV.tt rfl | exact .eq (okV_nil _) rfl | exact LeV.tt (by rw [List.range_succ, List.map_append, List.map_append, List.take_of_length_le (by simp)]; rfl) | exact .eq (okV_nil _) (by rw [List.range_succ, List.map_append, List.map_append, List.take_of_length_le (by simp)]; rfl))) trivial rfl)⟩
  replace hc39 := of_decide_eq_false hc39
  simp only [Int.not_lt] at hc39
  refine vc_exit ?_
  obtain rfl : i = (chunksN B Q).toNat := by omega
  refine vc_rseq mixed ?_
  refine g_val (s_loadA rfl rfl rfl rfl rfl) rfl ?_
  refine g_sto (s_store rfl rfl rfl rfl rfl rfl) rfl ?_
  refine g_nil ?_
  exact vc_ret (ret_le [(5, _)] _ (.cons (.agg rfl rfl rfl rfl) .nil) ⟨rfl, trivial⟩ (by repeat (first | exact leL_nil | refine leL_cons ?_ ?_ | exact LeV.tt rfl | exact .nl (by decide) (by decide) | exact .nn | refine LeV.tupL ?_ | refine LeV.aggL ?_ | exact .eq (by first | exact trivial | (simp [AV.okV, okR, lkB]; done) | (simp [AV.okV, okR, lkB]; omega)) (by first | rfl | (simp [AV.view, viewR, lkB, AV.ren, List.take_of_length_le]; done) | (simp [AV.view, viewR, lkB, AV.ren, List.take_of_length_le]; simp [intsT]; done)))) rfl)

end Go.Eng

set_option maxHeartbeats 4000000
namespace Go.Eng
open Go.Proofs

def seatX (v : Volume) (what a b c : Int) : VolCmd :=
  if what % 10 ≤ 3 then { cmdZ with vol := v.id, kind := 2, items := seatItems v.blocks v.size [a, b, c] }
  else if what % 10 = 4 then { cmdZ with vol := v.id, kind := 3, time := a % ((v.writes.length : Int) + 2) }
  else if what % 10 = 5 then { cmdZ with vol := v.id, kind := 4, time := a % ((v.writes.length : Int) + 2) }
  else if what % 10 = 6 then { cmdZ with vol := v.id, kind := 5, time := a % ((v.writes.length : Int) + 2) }
  else if what % 10 = 7 then { cmdZ with vol := v.id, kind := 8 }
  else if what % 10 = 8 then { cmdZ with vol := v.id, kind := 6, index := max (v.next - c % 5 / 4) 0, items := seatItems v.blocks v.size [a, b] }
  else { cmdZ with vol := v.id, kind := 7 }
def seatCmd (v : Volume) (th : Bool) (what a b c : Int) : VolCmd :=
  if th = false then createC (IntKind.u8.wrap v.id) a b c (if c % 4 = 0 then c / 4 % 3 + 1 else 0)
  else if v.hidden = true ∧ what % 10 < 5 then { cmdZ with vol := v.id, kind := 6, index := v.next, items := seatItems v.blocks v.size [a, b, c] }
  else seatX v what a b c

theorem c_mementoseat_Cmd (v : Volume) (th : Bool) (what a b c : Int) (hv : volSmall v) (hsz : v.size ≤ 1000000) : Con Tryz.prog 30 [sC (volC v), AB th, AI .u8 what, AI .u8 a, AI .u8 b, AI .u8 c] [] (sC (cmdC (seatCmd v th what a b c))) [] := by
  refine con_intro [] [] Tryz.func30 rfl Tryz.ntmps30 Tryz.results30 rfl rfl ?_
  intro E
  refine vc_int (t := 2) rfl fun h2 => ?_
  refine vc_int (t := 3) rfl fun h3 => ?_
  refine vc_int (t := 4) rfl fun h4 => ?_
  refine vc_int (t := 5) rfl fun h5 => ?_
  simp only [inI, kMin, kMax] at h2 h3 h4 h5
  have hv1 := hv.writes
  have hv3 := hv.next
  refine vc_rseq mixed ?_
  refine g_new (s_box 6 rfl rfl rfl rfl) rfl ?_
  refine g_new (s_alloc 12 rfl rfl) rfl ?_
  refine g_nil ?_
  refine vc_seq ?_
  refine vc_rseq mixed ?_
  refine g_val (s_move rfl rfl) rfl ?_
  refine g_val (s_not rfl rfl) rfl ?_
  refine g_nil ?_
  refine vc_cond rfl (fun hc16 => ?_) (fun hc16 => ?_)
  simp only [Bool.not_eq_true'] at hc16
  have hth : th = false := by simpa using hc16
  refine vc_rseq mixed ?_
  refine g_val (s_assign rfl rfl) rfl ?_
  refine g_nil ?_
  refine vc_seq ?_
  refine vc_rseq mixed ?_
  refine g_val (s_move rfl rfl) rfl ?_
  refine g_val (s_rem rfl rfl rfl (by omega) (by omega)) rfl ?_
  refine g_val (s_eql rfl rfl rfl) rfl ?_
  refine g_nil ?_
  refine vc_cond rfl (fun hc19 => ?_) (fun hc19 => ?_)
  replace hc19 := of_decide_eq_true hc19
  refine vc_region mixed ?_
  refine g_val (s_move rfl rfl) rfl ?_
  refine g_val (s_quo rfl rfl rfl (by omega) (by omega)) rfl ?_
  refine g_val (s_rem rfl rfl rfl (by omega) (by omega)) rfl ?_
  refine g_val (s_conv rfl rfl (by simp only [inI, kMin, kMax]; omega)) rfl ?_
  refine g_val (s_add rfl rfl rfl (by simp only [inI, kMin, kMax]; omega)) rfl ?_
  refine g_val (s_assign rfl rfl) rfl ?_
  refine g_nil ?_
  refine vc_rseq mixed ?_
  refine g_val (s_field rfl rfl rfl rfl) rfl ?_
  refine g_val (s_load rfl rfl rfl rfl) rfl ?_
  refine g_val (s_convW rfl rfl) rfl ?_
  refine g_val (s_move rfl rfl) rfl ?_
  refine g_val (s_move rfl rfl) rfl ?_
  refine g_val (s_move rfl rfl) rfl ?_
  refine g_val (s_move rfl rfl) rfl ?_
  refine g_val (s_call [] (c_mementoseat_Create (IntKind.u8.wrap v.id) a b c _) (evArgs_cons rfl (evArgs_cons rfl (evArgs_cons rfl (evArgs_cons rfl (evArgs_cons rfl evArgs_nil))))) trivial rfl (okVL_nil _) rfl (.inl rfl) rfl) rfl ?_
  refine g_sto (s_store rfl rfl rfl rfl rfl rfl) rfl ?_
  refine g_nil ?_
  rw [show seatCmd v th what a b c = createC (IntKind.u8.wrap v.id) a b c _ from if_pos hth]
  first
    | (rw [if_pos (by omega)]; exact vc_ret (ret_le [] _ (.cons (.agg rfl rfl rfl rfl) .nil) trivial (by repeat (first | exact leL_nil | refine leL_cons ?_ ?_ | exact LeV.tt rfl | exact .nl (by decide) (by decide) | exact .nn | refine LeV.tupL ?_ | refine LeV.aggL ?_ | exact .eq (by first | exact trivial | (simp [AV.okV, okR, lkB]; done) | (simp [AV.okV, okR, lkB]; omega)) (by first | rfl | (simp [AV.view, viewR, lkB, AV.ren, List.take_of_length_le]; done) | (simp [AV.view, viewR, lkB, AV.ren, List.take_of_length_le]; done)))) rfl))
    | (rw [if_neg (by omega)]; exact vc_ret (ret_le [] _ (.cons (.agg rfl rfl rfl rfl) .nil) trivial (by repeat (first | exact leL_nil | refine leL_cons ?_ ?_ | exact LeV.tt rfl | exact .nl (by decide) (by decide) | exact .nn | refine LeV.tupL ?_ | refine LeV.aggL ?_ | exact .eq (by first | exact trivial | (simp [AV.okV, okR, lkB]; done) | (simp [AV.okV, okR, lkB]; omega)) (by first | rfl | (simp [AV.view, viewR, lkB, AV.ren, List.take_of_length_le]; done) | (simp [AV.view, viewR, lkB, AV.ren, List.take_of_length_le]; done)))) rfl))
  replace hc19 := of_decide_eq_false hc19
  refine vc_skip ?_
  refine vc_rseq mixed ?_
  refine g_val (s_field rfl rfl rfl rfl) rfl ?_
  refine g_val (s_load rfl rfl rfl rfl) rfl ?_
  refine g_val (s_convW rfl rfl) rfl ?_
  refine g_val (s_move rfl rfl) rfl ?_
  refine g_val (s_move rfl rfl) rfl ?_
  refine g_val (s_move rfl rfl) rfl ?_
  refine g_val (s_move rfl rfl) rfl ?_
  refine g_val (s_call [] (c_mementoseat_Create (IntKind.u8.wrap v.id) a b c _) (evArgs_cons rfl (evArgs_cons rfl (evArgs_cons rfl (evArgs_cons rfl (evArgs_cons rfl evArgs_nil))))) trivial rfl (okVL_nil _) rfl (.inl rfl) rfl) rfl ?_
  refine g_sto (s_store rfl rfl rfl rfl rfl rfl) rfl ?_
  refine g_nil ?_
  rw [show seatCmd v th what a b c = createC (IntKind.u8.wrap v.id) a b c _ from if_pos hth]
  first
    | (rw [if_pos (by omega)]; exact vc_ret (ret_le [] _ (.cons (.agg rfl rfl rfl rfl) .nil) trivial (by repeat (first | exact leL_nil | refine leL_cons ?_ ?_ | exact LeV.tt rfl | exact .nl (by decide) (by decide) | exact .nn | refine LeV.tupL ?_ | refine LeV.aggL ?_ | exact .eq (by first | exact trivial | (simp [AV.okV, okR, lkB]; done) | (simp [AV.okV, okR, lkB]; omega)) (by first | rfl | (simp [AV.view, viewR, lkB, AV.ren, List.take_of_length_le]; done) | (simp [AV.view, viewR, lkB, AV.ren, List.take_of_length_le]; done)))) rfl))
    | (rw [if_neg (by omega)]; exact vc_ret (ret_le [] _ (.cons (.agg rfl rfl rfl rfl) .nil) trivial (by repeat (first | exact leL_nil | refine leL_cons ?_ ?_ | exact LeV.tt rfl | exact .nl (by decide) (by decide) | exact .nn | refine LeV.tupL ?_ | refine LeV.aggL ?_ | exact .eq (by first | exact trivial | (simp [AV.okV, okR, lkB]; done) | (simp [AV.okV, okR, lkB]; omega)) (by first | rfl | (simp [AV.view, viewR, lkB, AV.ren, List.take_of_length_le]; done) | (simp [AV.view, viewR, lkB, AV.ren, List.take_of_length_le]; done)))) rfl))
  simp only [Bool.not_eq_false'] at hc16
  refine vc_skip ?_
  have hth : th = true := by simpa using hc16
  refine vc_rseq mixed ?_
  refine g_val (s_field rfl rfl rfl rfl) rfl ?_
  refine g_val (s_load rfl rfl rfl rfl) rfl ?_
  refine g_val (s_build (evArgs_cons rfl evArgs_nil) rfl rfl rfl) rfl ?_
  refine g_new (s_alloc 14 rfl rfl) rfl ?_
  refine g_sto (s_store rfl rfl rfl rfl rfl rfl) rfl ?_
  refine g_nil ?_
  refine vc_cut (⟨[(2, AI .u8 what), (3, AI .u8 a), (4, AI .u8 b), (5, AI .u8 c), (6, .ref 6 0), (12, .ref 12 0), (14, .ref 14 0)], [(6, some (.box ((volC v).map .t))), (12, some (.box ((cmdC cmdZ).map .t))), (14, some (.box ((cmdC (seatX v what a b c)).map .t)))], [6, 12, 14]⟩) ?_ ?_
  refine vc_rseq mixed ?_
  refine g_val (s_move rfl rfl) rfl ?_
  refine g_val (s_rem rfl rfl rfl (by omega) (by omega)) rfl ?_
  refine g_nil ?_
  refine vc_block ?_
  refine vc_seq ?_
  refine vc_rseq mixed ?_
  refine g_val (s_eql rfl rfl rfl) rfl ?_
  refine g_val (s_assign rfl rfl) rfl ?_
  refine g_nil ?_
  refine vc_cond rfl (fun hc39 => ?_) (fun hc39 => ?_)
  replace hc39 := of_decide_eq_true hc39
  refine vc_skip ?_
  refine vc_cond rfl (fun _ => ?_) (fun h => by have h := of_decide_eq_false h; omega)
  rw [show seatX v what a b c = { cmdZ with vol := v.id, kind := 2, items := seatItems v.blocks v.size [a, b, c] } from if_pos (by omega)]
  refine vc_region mixed ?_
  refine g_val (s_field rfl rfl rfl rfl) rfl ?_
  refine g_val (s_load rfl rfl rfl rfl) rfl ?_
  refine g_val (s_field rfl rfl rfl rfl) rfl ?_
  refine g_val (s_load rfl rfl rfl rfl) rfl ?_
  refine g_val (s_move rfl rfl) rfl ?_
  refine g_val (s_move rfl rfl) rfl ?_
  refine g_val (s_move rfl rfl) rfl ?_
  refine g_fz ((s_buildSlice 51 (evArgs_cons rfl (evArgs_cons rfl (evArgs_cons rfl evArgs_nil))) rfl rfl rfl rfl).fzE rfl) rfl ?_
  refine g_val (s_call [] (c_mementoseat_Items v.blocks v.size [a, b, c] hsz) (evArgs_cons rfl (evArgs_cons rfl (evArgs_cons rfl evArgs_nil))) trivial rfl (okVL_nil _) rfl (.inl rfl) rfl) rfl ?_
  refine g_val (s_field rfl rfl rfl rfl) rfl ?_
  refine g_sto (s_store rfl rfl rfl rfl rfl rfl) rfl ?_
  refine g_val (s_field rfl rfl rfl rfl) rfl ?_
  refine g_sto (s_store rfl rfl rfl rfl rfl rfl) rfl ?_
  refine g_nil ?_
  exact (leE_same (by repeat (first | exact letm_nil _ _ | refine letm_cons rfl ?_ ?_ | exact .same _ | exact .nl (by decide) (by decide) | exact .nn | exact .id' rfl | exact .id' (by simp; done))) (by repeat (first | exact lehp_nil _ _ | refine lehp_cons rfl ?_ ?_ | exact leB_same _ | exact leB_row (by first | rfl | (simp; done)) | exact leB_obj (by simp; done) | exact leB_nest (by first | rfl | (simp; done)) | refine leB_box ?_ | exact leL_nil | refine leL_cons ?_ ?_ | exact .same _ | exact .nl (by decide) (by decide) | exact .nn | exact .id' rfl | exact .id' (by simp; done))) rfl)
  replace hc39 := of_decide_eq_false hc39
  refine vc_rseq mixed ?_
  refine g_val (s_eql rfl rfl rfl) rfl ?_
  refine g_val (s_assign rfl rfl) rfl ?_
  refine g_nil ?_
  refine vc_cond rfl (fun hc39 => ?_) (fun hc39 => ?_)
  replace hc39 := of_decide_eq_true hc39
  refine vc_skip ?_
  refine vc_cond rfl (fun _ => ?_) (fun h => by have h := of_decide_eq_false h; omega)
  rw [show seatX v what a b c = { cmdZ with vol := v.id, kind := 2, items := seatItems v.blocks v.size [a, b, c] } from if_pos (by omega)]
  refine vc_region mixed ?_
  refine g_val (s_field rfl rfl rfl rfl) rfl ?_
  refine g_val (s_load rfl rfl rfl rfl) rfl ?_
  refine g_val (s_field rfl rfl rfl rfl) rfl ?_
  refine g_val (s_load rfl rfl rfl rfl) rfl ?_
  refine g_val (s_move rfl rfl) rfl ?_
  refine g_val (s_move rfl rfl) rfl ?_
  refine g_val (s_move rfl rfl) rfl ?_
  refine g_fz ((s_buildSlice 51 (evArgs_cons rfl (evArgs_cons rfl (evArgs_cons rfl evArgs_nil))) rfl rfl rfl rfl).fzE rfl) rfl ?_
  refine g_val (s_call [] (c_mementoseat_Items v.blocks v.size [a, b, c] hsz) (evArgs_cons rfl (evArgs_cons rfl (evArgs_cons rfl evArgs_nil))) trivial rfl (okVL_nil _) rfl (.inl rfl) rfl) rfl ?_
  refine g_val (s_field rfl rfl rfl rfl) rfl ?_
  refine g_sto (s_store rfl rfl rfl rfl rfl rfl) rfl ?_
  refine g_val (s_field rfl rfl rfl rfl) rfl ?_
  refine g_sto (s_store rfl rfl rfl rfl rfl rfl) rfl ?_
  refine g_nil ?_
  exact (leE_same (by repeat (first | exact letm_nil _ _ | refine letm_cons rfl ?_ ?_ | exact .same _ | exact .nl (by decide) (by decide) | exact .nn | exact .id' rfl | exact .id' (by simp; done))) (by repeat (first | exact lehp_nil _ _ | refine lehp_cons rfl ?_ ?_ | exact leB_same _ | exact leB_row (by first | rfl | (simp; done)) | exact leB_obj (by simp; done) | exact leB_nest (by first | rfl | (simp; done)) | refine leB_box ?_ | exact leL_nil | refine leL_cons ?_ ?_ | exact .same _ | exact .nl (by decide) (by decide) | exact .nn | exact .id' rfl | exact .id' (by simp; done))) rfl)
  replace hc39 := of_decide_eq_false hc39
  refine vc_rseq mixed ?_
  refine g_val (s_eql rfl rfl rfl) rfl ?_
  refine g_val (s_assign rfl rfl) rfl ?_
  refine g_nil ?_
  refine vc_cond rfl (fun hc39 => ?_) (fun hc39 => ?_)
  replace hc39 := of_decide_eq_true hc39
  refine vc_skip ?_
  refine vc_cond rfl (fun _ => ?_) (fun h => by have h := of_decide_eq_false h; omega)
  rw [show seatX v what a b c = { cmdZ with vol := v.id, kind := 2, items := seatItems v.blocks v.size [a, b, c] } from if_pos (by omega)]
  refine vc_region mixed ?_
  refine g_val (s_field rfl rfl rfl rfl) rfl ?_
  refine g_val (s_load rfl rfl rfl rfl) rfl ?_
  refine g_val (s_field rfl rfl rfl rfl) rfl ?_
  refine g_val (s_load rfl rfl rfl rfl) rfl ?_
  refine g_val (s_move rfl rfl) rfl ?_
  refine g_val (s_move rfl rfl) rfl ?_
  refine g_val (s_move rfl rfl) rfl ?_
  refine g_fz ((s_buildSlice 51 (evArgs_cons rfl (evArgs_cons rfl (evArgs_cons rfl evArgs_nil))) rfl rfl rfl rfl).fzE rfl) rfl ?_
  refine g_val (s_call [] (c_mementoseat_Items v.blocks v.size [a, b, c] hsz) (evArgs_cons rfl (evArgs_cons rfl (evArgs_cons rfl evArgs_nil))) trivial rfl (okVL_nil _) rfl (.inl rfl) rfl) rfl ?_
  refine g_val (s_field rfl rfl rfl rfl) rfl ?_
  refine g_sto (s_store rfl rfl rfl rfl rfl rfl) rfl ?_
  refine g_val (s_field rfl rfl rfl rfl) rfl ?_
  refine g_sto (s_store rfl rfl rfl rfl rfl rfl) rfl ?_
  refine g_nil ?_
  exact (leE_same (by repeat (first | exact letm_nil _ _ | refine letm_cons rfl ?_ ?_ | exact .same _ | exact .nl (by decide) (by decide) | exact .nn | exact .id' rfl | exact .id' (by simp; done))) (by repeat (first | exact lehp_nil _ _ | refine lehp_cons rfl ?_ ?_ | exact leB_same _ | exact leB_row (by first | rfl | (simp; done)) | exact leB_obj (by simp; done) | exact leB_nest (by first | rfl | (simp; done)) | refine leB_box ?_ | exact leL_nil | refine leL_cons ?_ ?_ | exact .same _ | exact .nl (by decide) (by decide) | exact .nn | exact .id' rfl | exact .id' (by simp; done))) rfl)
  replace hc39 := of_decide_eq_false hc39
  refine vc_region mixed ?_
  refine g_val (s_eql rfl rfl rfl) rfl ?_
  refine g_val (s_assign rfl rfl) rfl ?_
  refine g_nil ?_
  refine vc_cond rfl (fun hc39 => ?_) (fun hc39 => ?_)
  replace hc39 := of_decide_eq_true hc39
  rw [show seatX v what a b c = { cmdZ with vol := v.id, kind := 2, items := seatItems v.blocks v.size [a, b, c] } from if_pos (by omega)]
  refine vc_region mixed ?_
  refine g_val (s_field rfl rfl rfl rfl) rfl ?_
  refine g_val (s_load rfl rfl rfl rfl) rfl ?_
  refine g_val (s_field rfl rfl rfl rfl) rfl ?_
  refine g_val (s_load rfl rfl rfl rfl) rfl ?_
  refine g_val (s_move rfl rfl) rfl ?_
  refine g_val (s_move rfl rfl) rfl ?_
  refine g_val (s_move rfl rfl) rfl ?_
  refine g_fz ((s_buildSlice 51 (evArgs_cons rfl (evArgs_cons rfl (evArgs_cons rfl evArgs_nil))) rfl rfl rfl rfl).fzE rfl) rfl ?_
  refine g_val (s_call [] (c_mementoseat_Items v.blocks v.size [a, b, c] hsz) (evArgs_cons rfl (evArgs_cons rfl (evArgs_cons rfl evArgs_nil))) trivial rfl (okVL_nil _) rfl (.inl rfl) rfl) rfl ?_
  refine g_val (s_field rfl rfl rfl rfl) rfl ?_
  refine g_sto (s_store rfl rfl rfl rfl rfl rfl) rfl ?_
  refine g_val (s_field rfl rfl rfl rfl) rfl ?_
  refine g_sto (s_store rfl rfl rfl rfl rfl rfl) rfl ?_
  refine g_nil ?_
  exact (leE_same (by repeat (first | exact letm_nil _ _ | refine letm_cons rfl ?_ ?_ | exact .same _ | exact .nl (by decide) (by decide) | exact .nn | exact .id' rfl | exact .id' (by simp; done))) (by repeat (first | exact lehp_nil _ _ | refine lehp_cons rfl ?_ ?_ | exact leB_same _ | exact leB_row (by first | rfl | (simp; done)) | exact leB_obj (by simp; done) | exact leB_nest (by first | rfl | (simp; done)) | refine leB_box ?_ | exact leL_nil | refine leL_cons ?_ ?_ | exact .same _ | exact .nl (by decide) (by decide) | exact .nn | exact .id' rfl | exact .id' (by simp; done))) rfl)
  replace hc39 := of_decide_eq_false hc39
  refine vc_rseq mixed ?_
  refine g_val (s_eql rfl rfl rfl) rfl ?_
  refine g_val (s_assign rfl rfl) rfl ?_
  refine g_nil ?_
  refine vc_cond rfl (fun hc55 => ?_) (fun hc55 => ?_)
  replace hc55 := of_decide_eq_true hc55
  rw [show seatX v what a b c = { cmdZ with vol := v.id, kind := 3, time := a % ((v.writes.length : Int) + 2) } from by unfold seatX; (repeat' split) <;> first | rfl | (exfalso; omega)]
  refine vc_region mixed ?_
  refine d_val (s_move rfl rfl) rfl ?_
  refine d_val (s_conv rfl rfl (by simp only [inI, kMin, kMax]; omega)) rfl ?_
  refine d_val (s_loadA rfl rfl rfl rfl rfl) rfl ?_
  refine d_val (s_call [] (c_mementoref16_Len v) (evArgs_cons rfl evArgs_nil) trivial rfl (okVL_nil _) rfl (.inl rfl) rfl) rfl ?_
  refine d_val (s_add rfl rfl rfl (by simp only [inI, kMin, kMax]; omega)) rfl ?_
  refine d_val (s_rem rfl rfl rfl (by omega) (by omega)) rfl ?_
  refine d_val (s_field rfl rfl rfl rfl) rfl ?_
  refine d_sto (s_store rfl rfl rfl rfl rfl rfl) rfl ?_
  refine d_val (s_field rfl rfl rfl rfl) rfl ?_
  refine d_sto (s_store rfl rfl rfl rfl rfl rfl) rfl ?_
  refine d_nil rfl ?_
  exact (leE_same (by repeat (first | exact letm_nil _ _ | refine letm_cons rfl ?_ ?_ | exact .same _ | exact .nl (by decide) (by decide) | exact .nn | exact .id' rfl | exact .id' (by simp; done))) (by repeat (first | exact lehp_nil _ _ | refine lehp_cons rfl ?_ ?_ | exact leB_same _ | exact leB_row (by first | rfl | (simp; done)) | exact leB_obj (by simp; done) | exact leB_nest (by first | rfl | (simp; done)) | refine leB_box ?_ | exact leL_nil | refine leL_cons ?_ ?_ | exact .same _ | exact .nl (by decide) (by decide) | exact .nn | exact .id' rfl | exact .id' (by simp; done))) rfl)
  replace hc55 := of_decide_eq_false hc55
  refine vc_rseq mixed ?_
  refine g_val (s_eql rfl rfl rfl) rfl ?_
  refine g_val (s_assign rfl rfl) rfl ?_
  refine g_nil ?_
  refine vc_cond rfl (fun hc65 => ?_) (fun hc65 => ?_)
  replace hc65 := of_decide_eq_true hc65
  rw [show seatX v what a b c = { cmdZ with vol := v.id, kind := 4, time := a % ((v.writes.length : Int) + 2) } from by unfold seatX; (repeat' split) <;> first | rfl | (exfalso; omega)]
  refine vc_region mixed ?_
  refine d_val (s_move rfl rfl) rfl ?_
  refine d_val (s_conv rfl rfl (by simp only [inI, kMin, kMax]; omega)) rfl ?_
  refine d_val (s_loadA rfl rfl rfl rfl rfl) rfl ?_
  refine d_val (s_call [] (c_mementoref16_Len v) (evArgs_cons rfl evArgs_nil) trivial rfl (okVL_nil _) rfl (.inl rfl) rfl) rfl ?_
  refine d_val (s_add rfl rfl rfl (by simp only [inI, kMin, kMax]; omega)) rfl ?_
  refine d_val (s_rem rfl rfl rfl (by omega) (by omega)) rfl ?_
  refine d_val (s_field rfl rfl rfl rfl) rfl ?_
  refine d_sto (s_store rfl rfl rfl rfl rfl rfl) rfl ?_
  refine d_val (s_field rfl rfl rfl rfl) rfl ?_
  refine d_sto (s_store rfl rfl rfl rfl rfl rfl) rfl ?_
  refine d_nil rfl ?_
  exact (leE_same (by repeat (first | exact letm_nil _ _ | refine letm_cons rfl ?_ ?_ | exact .same _ | exact .nl (by decide) (by decide) | exact .nn | exact .id' rfl | exact .id' (by simp; done))) (by repeat (first | exact lehp_nil _ _ | refine lehp_cons rfl ?_ ?_ | exact leB_same _ | exact leB_row (by first | rfl | (simp; done)) | exact leB_obj (by simp; done) | exact leB_nest (by first | rfl | (simp; done)) | refine leB_box ?_ | exact leL_nil | refine leL_cons ?_ ?_ | exact .same _ | exact .nl (by decide) (by decide) | exact .nn | exact .id' rfl | exact .id' (by simp; done))) rfl)
  replace hc65 := of_decide_eq_false hc65
  refine vc_rseq mixed ?_
  refine g_val (s_eql rfl rfl rfl) rfl ?_
  refine g_val (s_assign rfl rfl) rfl ?_
  refine g_nil ?_
  refine vc_cond rfl (fun hc75 => ?_) (fun hc75 => ?_)
  replace hc75 := of_decide_eq_true hc75
  rw [show seatX v what a b c = { cmdZ with vol := v.id, kind := 5, time := a % ((v.writes.length : Int) + 2) } from by unfold seatX; (repeat' split) <;> first | rfl | (exfalso; omega)]
  refine vc_region mixed ?_
  refine d_val (s_move rfl rfl) rfl ?_
  refine d_val (s_conv rfl rfl (by simp only [inI, kMin, kMax]; omega)) rfl ?_
  refine d_val (s_loadA rfl rfl rfl rfl rfl) rfl ?_
  refine d_val (s_call [] (c_mementoref16_Len v) (evArgs_cons rfl evArgs_nil) trivial rfl (okVL_nil _) rfl (.inl rfl) rfl) rfl ?_
  refine d_val (s_add rfl rfl rfl (by simp only [inI, kMin, kMax]; omega)) rfl ?_
  refine d_val (s_rem rfl rfl rfl (by omega) (by omega)) rfl ?_
  refine d_val (s_field rfl rfl rfl rfl) rfl ?_
  refine d_sto (s_store rfl rfl rfl rfl rfl rfl) rfl ?_
  refine d_val (s_field rfl rfl rfl rfl) rfl ?_
  refine d_sto (s_store rfl rfl rfl rfl rfl rfl) rfl ?_
  refine d_nil rfl ?_
  exact (leE_same (by repeat (first | exact letm_nil _ _ | refine letm_cons rfl ?_ ?_ | exact .same _ | exact .nl (by decide) (by decide) | exact .nn | exact .id' rfl | exact .id' (by simp; done))) (by repeat (first | exact lehp_nil _ _ | refine lehp_cons rfl ?_ ?_ | exact leB_same _ | exact leB_row (by first | rfl | (simp; done)) | exact leB_obj (by simp; done) | exact leB_nest (by first | rfl | (simp; done)) | refine leB_box ?_ | exact leL_nil | refine leL_cons ?_ ?_ | exact .same _ | exact .nl (by decide) (by decide) | exact .nn | exact .id' rfl | exact .id' (by simp; done))) rfl)
  replace hc75 := of_decide_eq_false hc75
  refine vc_rseq mixed ?_
  refine g_val (s_eql rfl rfl rfl) rfl ?_
  refine g_val (s_assign rfl rfl) rfl ?_
  refine g_nil ?_
  refine vc_cond rfl (fun hc85 => ?_) (fun hc85 => ?_)
  replace hc85 := of_decide_eq_true hc85
  rw [show seatX v what a b c = { cmdZ with vol := v.id, kind := 8 } from by unfold seatX; (repeat' split) <;> first | rfl | (exfalso; omega)]
  refine vc_region mixed ?_
  refine g_val (s_field rfl rfl rfl rfl) rfl ?_
  refine g_sto (s_store rfl rfl rfl rfl rfl rfl) rfl ?_
  refine g_nil ?_
  exact (leE_same (by repeat (first | exact letm_nil _ _ | refine letm_cons rfl ?_ ?_ | exact .same _ | exact .nl (by decide) (by decide) | exact .nn | exact .id' rfl | exact .id' (by simp; done))) (by repeat (first | exact lehp_nil _ _ | refine lehp_cons rfl ?_ ?_ | exact leB_same _ | exact leB_row (by first | rfl | (simp; done)) | exact leB_obj (by simp; done) | exact leB_nest (by first | rfl | (simp; done)) | refine leB_box ?_ | exact leL_nil | refine leL_cons ?_ ?_ | exact .same _ | exact .nl (by decide) (by decide) | exact .nn | exact .id' rfl | exact .id' (by simp; done))) rfl)
  replace hc85 := of_decide_eq_false hc85
  refine vc_rseq mixed ?_
  refine g_val (s_eql rfl rfl rfl) rfl ?_
  refine g_val (s_assign rfl rfl) rfl ?_
  refine g_nil ?_
  refine vc_cond rfl (fun hc88 => ?_) (fun hc88 => ?_)
  replace hc88 := of_decide_eq_true hc88
  rw [show seatX v what a b c = { cmdZ with vol := v.id, kind := 6, index := max (v.next - c % 5 / 4) 0, items := seatItems v.blocks v.size [a, b] } from by unfold seatX; (repeat' split) <;> first | rfl | (exfalso; omega)]
  refine vc_region mixed ?_
  refine d_val (s_field rfl rfl rfl rfl) rfl ?_
  refine d_val (s_load rfl rfl rfl rfl) rfl ?_
  refine d_val (s_move rfl rfl) rfl ?_
  refine d_val (s_rem rfl rfl rfl (by omega) (by omega)) rfl ?_
  refine d_val (s_conv rfl rfl (by simp only [inI, kMin, kMax]; omega)) rfl ?_
  refine d_val (s_quo rfl rfl rfl (by omega) (by omega)) rfl ?_
  refine d_val (s_sub rfl rfl rfl (by simp only [inI, kMin, kMax]; omega)) rfl ?_
  refine d_val (s_max rfl rfl rfl) rfl ?_
  refine d_val (s_field rfl rfl rfl rfl) rfl ?_
  refine d_val (s_load rfl rfl rfl rfl) rfl ?_
  refine d_val (s_field rfl rfl rfl rfl) rfl ?_
  refine d_val (s_load rfl rfl rfl rfl) rfl ?_
  refine d_val (s_move rfl rfl) rfl ?_
  refine d_val (s_move rfl rfl) rfl ?_
  refine d_fz ((s_buildSlice 104 (evArgs_cons rfl (evArgs_cons rfl evArgs_nil)) rfl rfl rfl rfl).fzE rfl) rfl ?_
  refine d_val (s_call [] (c_mementoseat_Items v.blocks v.size [a, b] hsz) (evArgs_cons rfl (evArgs_cons rfl (evArgs_cons rfl evArgs_nil))) trivial rfl (okVL_nil _) rfl (.inl rfl) rfl) rfl ?_
  refine d_val (s_field rfl rfl rfl rfl) rfl ?_
  refine d_sto (s_store rfl rfl rfl rfl rfl rfl) rfl ?_
  refine d_val (s_field rfl rfl rfl rfl) rfl ?_
  refine d_sto (s_store rfl rfl rfl rfl rfl rfl) rfl ?_
  refine d_val (s_field rfl rfl rfl rfl) rfl ?_
  refine d_sto (s_store rfl rfl rfl rfl rfl rfl) rfl ?_
  refine d_nil rfl ?_
  exact (leE_same (by repeat (first | exact letm_nil _ _ | refine letm_cons rfl ?_ ?_ | exact .same _ | exact .nl (by decide) (by decide) | exact .nn | exact .id' rfl | exact .id' (by simp; done))) (by repeat (first | exact lehp_nil _ _ | refine lehp_cons rfl ?_ ?_ | exact leB_same _ | exact leB_row (by first | rfl | (simp; done)) | exact leB_obj (by simp; done) | exact leB_nest (by first | rfl | (simp; done)) | refine leB_box ?_ | exact leL_nil | refine leL_cons ?_ ?_ | exact .same _ | exact .nl (by decide) (by decide) | exact .nn | exact .id' rfl | exact .id' (by simp; done))) rfl)
  replace hc88 := of_decide_eq_false hc88
  rw [show seatX v what a b c = { cmdZ with vol := v.id, kind := 7 } from by unfold seatX; (repeat' split) <;> first | rfl | (exfalso; omega)]
  refine vc_region mixed ?_
  refine g_val (s_field rfl rfl rfl rfl) rfl ?_
  refine g_sto (s_store rfl rfl rfl rfl rfl rfl) rfl ?_
  refine g_nil ?_
  exact (leE_same (by repeat (first | exact letm_nil _ _ | refine letm_cons rfl ?_ ?_ | exact .same _ | exact .nl (by decide) (by decide) | exact .nn | exact .id' rfl | exact .id' (by simp; done))) (by repeat (first | exact lehp_nil _ _ | refine lehp_cons rfl ?_ ?_ | exact leB_same _ | exact leB_row (by first | rfl | (simp; done)) | exact leB_obj (by simp; done) | exact leB_nest (by first | rfl | (simp; done)) | refine leB_box ?_ | exact leL_nil | refine leL_cons ?_ ?_ | exact .same _ | exact .nl (by decide) (by decide) | exact .nn | exact .id' rfl | exact .id' (by simp; done))) rfl)
  refine vc_seq ?_
  refine vc_rseq mixed ?_
  refine g_val (s_field rfl rfl rfl rfl) rfl ?_
  refine g_val (s_load rfl rfl rfl rfl) rfl ?_
  refine g_val (s_move rfl rfl) rfl ?_
  refine g_probe (j := 111) rfl (fun c hg111 => ?_)
  cases c
  rw [← hg111]; replace hg111 := hg111.symm
  refine gn_val rfl rfl rfl rfl rfl rfl (by decide) ?_
  refine gn_val rfl rfl rfl rfl rfl rfl (by decide) ?_
  refine gn_val rfl rfl rfl rfl rfl rfl (by decide) ?_
  refine g_val (s_pickF rfl rfl rfl) rfl ?_
  refine g_nil ?_
  refine vc_cond rfl (fun h => by cases h) (fun _ => ?_)
  refine vc_skip ?_
  refine vc_rseq mixed ?_
  refine g_val (s_loadA rfl rfl rfl rfl rfl) rfl ?_
  refine g_sto (s_store rfl rfl rfl rfl rfl rfl) rfl ?_
  refine g_nil ?_
  first
  | (rw [show seatCmd v th what a b c = { cmdZ with vol := v.id, kind := 6, index := v.next, items := seatItems v.blocks v.size [a, b, c] } from by unfold seatCmd; rw [if_neg (by simp [hth]), if_pos ⟨by first | assumption | simp_all, by omega⟩]]; exact vc_ret (ret_le [] _ (.cons (.agg rfl rfl rfl rfl) .nil) trivial (by repeat (first | exact leL_nil | refine leL_cons ?_ ?_ | exact LeV.tt rfl | exact .nl (by decide) (by decide) | exact .nn | refine LeV.tupL ?_ | refine LeV.aggL ?_ | exact .eq (by first | exact trivial | (simp [AV.okV, okR, lkB]; done) | (simp [AV.okV, okR, lkB]; omega)) (by first | rfl | (simp [AV.view, viewR, lkB, AV.ren, List.take_of_length_le]; done) | (simp [AV.view, viewR, lkB, AV.ren, List.take_of_length_le]; done)))) rfl))
  | (rw [show seatCmd v th what a b c = seatX v what a b c from by unfold seatCmd; rw [if_neg (by simp [hth]), if_neg (by first | (intro h; have := h.2; omega) | simp_all)]]; exact vc_ret (ret_le [] _ (.cons (.agg rfl rfl rfl rfl) .nil) trivial (by repeat (first | exact leL_nil | refine leL_cons ?_ ?_ | exact LeV.tt rfl | exact .nl (by decide) (by decide) | exact .nn | refine LeV.tupL ?_ | refine LeV.aggL ?_ | exact .eq (by first | exact trivial | (simp [AV.okV, okR, lkB]; done) | (simp [AV.okV, okR, lkB]; omega)) (by first | rfl | (simp [AV.view, viewR, lkB, AV.ren, List.take_of_length_le]; done) | (simp [AV.view, viewR, lkB, AV.ren, List.take_of_length_le]; done)))) rfl))
  rw [← hg111]; replace hg111 := hg111.symm
  refine gq_val (s_move rfl rfl) rfl rfl rfl rfl ?_
  refine gq_val (s_rem rfl rfl rfl (by omega) (by omega)) rfl rfl rfl rfl ?_
  refine gq_val (s_lss rfl rfl rfl) rfl rfl rfl rfl ?_
  refine g_val (s_pickT rfl rfl rfl) rfl ?_
  refine g_nil ?_
  refine vc_cond rfl (fun hc115 => ?_) (fun hc115 => ?_)
  replace hc115 := of_decide_eq_true hc115
  refine vc_region mixed ?_
  refine d_val (s_field rfl rfl rfl rfl) rfl ?_
  refine d_val (s_load rfl rfl rfl rfl) rfl ?_
  refine d_val (s_field rfl rfl rfl rfl) rfl ?_
  refine d_val (s_load rfl rfl rfl rfl) rfl ?_
  refine d_val (s_field rfl rfl rfl rfl) rfl ?_
  refine d_val (s_load rfl rfl rfl rfl) rfl ?_
  refine d_val (s_field rfl rfl rfl rfl) rfl ?_
  refine d_val (s_load rfl rfl rfl rfl) rfl ?_
  refine d_val (s_move rfl rfl) rfl ?_
  refine d_val (s_move rfl rfl) rfl ?_
  refine d_val (s_move rfl rfl) rfl ?_
  refine d_fz ((s_buildSlice 127 (evArgs_cons rfl (evArgs_cons rfl (evArgs_cons rfl evArgs_nil))) rfl rfl rfl rfl).fzE rfl) rfl ?_
  refine d_val (s_call [] (c_mementoseat_Items v.blocks v.size [a, b, c] hsz) (evArgs_cons rfl (evArgs_cons rfl (evArgs_cons rfl evArgs_nil))) trivial rfl (okVL_nil _) rfl (.inl rfl) rfl) rfl ?_
  refine d_val (s_build (evArgs_cons rfl (evArgs_cons rfl (evArgs_cons rfl (evArgs_cons rfl evArgs_nil)))) rfl rfl rfl) rfl ?_
  refine d_sto (s_store rfl rfl rfl rfl rfl rfl) rfl ?_
  refine d_nil rfl ?_
  refine vc_rseq mixed ?_
  refine g_val (s_loadA rfl rfl rfl rfl rfl) rfl ?_
  refine g_sto (s_store rfl rfl rfl rfl rfl rfl) rfl ?_
  refine g_nil ?_
  first
  | (rw [show seatCmd v th what a b c = { cmdZ with vol := v.id, kind := 6, index := v.next, items := seatItems v.blocks v.size [a, b, c] } from by unfold seatCmd; rw [if_neg (by simp [hth]), if_pos ⟨by first | assumption | simp_all, by omega⟩]]; exact vc_ret (ret_le [] _ (.cons (.agg rfl rfl rfl rfl) .nil) trivial (by repeat (first | exact leL_nil | refine leL_cons ?_ ?_ | exact LeV.tt rfl | exact .nl (by decide) (by decide) | exact .nn | refine LeV.tupL ?_ | refine LeV.aggL ?_ | exact .eq (by first | exact trivial | (simp [AV.okV, okR, lkB]; done) | (simp [AV.okV, okR, lkB]; omega)) (by first | rfl | (simp [AV.view, viewR, lkB, AV.ren, List.take_of_length_le]; done) | (simp [AV.view, viewR, lkB, AV.ren, List.take_of_length_le]; done)))) rfl))
  | (rw [show seatCmd v th what a b c = seatX v what a b c from by unfold seatCmd; rw [if_neg (by simp [hth]), if_neg (by first | (intro h; have := h.2; omega) | simp_all)]]; exact vc_ret (ret_le [] _ (.cons (.agg rfl rfl rfl rfl) .nil) trivial (by repeat (first | exact leL_nil | refine leL_cons ?_ ?_ | exact LeV.tt rfl | exact .nl (by decide) (by decide) | exact .nn | refine LeV.tupL ?_ | refine LeV.aggL ?_ | exact .eq (by first | exact trivial | (simp [AV.okV, okR, lkB]; done) | (simp [AV.okV, okR, lkB]; omega)) (by first | rfl | (simp [AV.view, viewR, lkB, AV.ren, List.take_of_length_le]; done) | (simp [AV.view, viewR, lkB, AV.ren, List.take_of_length_le]; done)))) rfl))
  replace hc115 := of_decide_eq_false hc115
  simp only [Int.not_lt] at hc115
  refine vc_skip ?_
  refine vc_rseq mixed ?_
  refine g_val (s_loadA rfl rfl rfl rfl rfl) rfl ?_
  refine g_sto (s_store rfl rfl rfl rfl rfl rfl) rfl ?_
  refine g_nil ?_
  first
  | (rw [show seatCmd v th what a b c = { cmdZ with vol := v.id, kind := 6, index := v.next, items := seatItems v.blocks v.size [a, b, c] } from by unfold seatCmd; rw [if_neg (by simp [hth]), if_pos ⟨by first | assumption | simp_all, by omega⟩]]; exact vc_ret (ret_le [] _ (.cons (.agg rfl rfl rfl rfl) .nil) trivial (by repeat (first | exact leL_nil | refine leL_cons ?_ ?_ | exact LeV.tt rfl | exact .nl (by decide) (by decide) | exact .nn | refine LeV.tupL ?_ | refine LeV.aggL ?_ | exact .eq (by first | exact trivial | (simp [AV.okV, okR, lkB]; done) | (simp [AV.okV, okR, lkB]; omega)) (by first | rfl | (simp [AV.view, viewR, lkB, AV.ren, List.take_of_length_le]; done) | (simp [AV.view, viewR, lkB, AV.ren, List.take_of_length_le]; done)))) rfl))
  | (rw [show seatCmd v th what a b c = seatX v what a b c from by unfold seatCmd; rw [if_neg (by simp [hth]), if_neg (by first | (intro h; have := h.2; omega) | simp_all)]]; exact vc_ret (ret_le [] _ (.cons (.agg rfl rfl rfl rfl) .nil) trivial (by repeat (first | exact leL_nil | refine leL_cons ?_ ?_ | exact LeV.tt rfl | exact .nl (by decide) (by decide) | exact .nn | refine LeV.tupL ?_ | refine LeV.aggL ?_ | exact .eq (by first | exact trivial | (simp [AV.okV, okR, lkB]; done) | (simp [AV.okV, okR, lkB]; omega)) (by first | rfl | (simp [AV.view, viewR, lkB, AV.ren, List.take_of_length_le]; done) | (simp [AV.view, viewR, lkB, AV.ren, List.take_of_length_le]; done)))) rfl))

end Go.Eng

set_option maxHeartbeats 4000000
namespace Go.Eng

/-- What holds of each volume that calls make. -/
structure VR (k : Nat) (v : Volume) : Prop where
  shape : shapeOK v.id v.blocks v.size v.per v.place v.total
  next : 0 ≤ v.next ∧ v.next ≤ v.total
  hid : v.hidden = false → v.next = v.total
  hpin : v.hidden = true → v.pins = [] ∧ v.floor = 0 ∧ 0 < v.total
  floor : 0 ≤ v.floor ∧ v.floor ≤ v.writes.length
  pins : ∀ p ∈ v.pins, v.floor ≤ p ∧ p ≤ v.writes.length
  sorted : v.pins.Pairwise (· ≤ ·)
  wr : ∀ (i : Nat) (w : Write), v.writes[i]? = some w → w.seq = i + 1 ∧ itemsOK v.blocks v.size w.items
  nw : v.writes.length ≤ k
  np : v.pins.length ≤ k

theorem VR.small {k : Nat} {v : Volume} (h : VR k v) (hk : k ≤ 1000000) : volSmall v := by
  have h1 := h.nw; have h2 := h.np; have h3 := h.next
  obtain ⟨s1, s2, s3, s4, s5, s6, s7, s8, s9, s10, s11, s12⟩ := h.shape
  exact ⟨by omega, by omega, by omega⟩

theorem VR.mono {k k' : Nat} {v : Volume} (h : VR k v) (hk : k ≤ k') : VR k' v := { h with nw := by have := h.nw; omega, np := by have := h.np; omega }

theorem foldl_min_le (l : List Int) : ∀ (a : Int), l.foldl min a ≤ a ∧ ∀ x ∈ l, l.foldl min a ≤ x := by
  induction l with
  | nil => intro a; simp
  | cons y l ih =>
    intro a
    obtain ⟨h1, h2⟩ := ih (min a y)
    refine ⟨by simp only [List.foldl_cons]; omega, fun x hx => ?_⟩
    rcases List.mem_cons.1 hx with rfl | hx
    · simp only [List.foldl_cons]; omega
    · exact h2 x hx

theorem lowV_le (v : Volume) : lowV v ≤ v.writes.length ∧ ∀ p ∈ v.pins, lowV v ≤ p := foldl_min_le v.pins v.writes.length

theorem insPin_mem {l : List Int} {x z : Int} (h : z ∈ insPin l x) : z = x ∨ z ∈ l := by
  simp only [insPin, List.append_assoc, List.mem_append, List.mem_singleton] at h
  rcases h with h | h | h
  · exact .inr ((List.takeWhile_prefix _).subset h)
  · exact .inl h
  · exact .inr ((List.dropWhile_suffix _).subset h)

theorem insPin_len (l : List Int) (x : Int) : (insPin l x).length = l.length + 1 := by
  have := congrArg List.length (List.takeWhile_append_dropWhile (p := fun z => decide (z ≤ x)) (l := l))
  simp only [List.length_append] at this
  simp only [insPin, List.length_append, List.length_cons, List.length_nil]
  omega

theorem insPin_sorted : ∀ {l : List Int} {x : Int}, l.Pairwise (· ≤ ·) → (insPin l x).Pairwise (· ≤ ·)
  | [], x, _ => by simp [insPin]
  | a :: l, x, h => by
    obtain ⟨h1, h2⟩ := List.pairwise_cons.1 h
    by_cases ha : a ≤ x
    · have ih := insPin_sorted (x := x) h2
      have e : insPin (a :: l) x = a :: insPin l x := by simp [insPin, List.takeWhile_cons, List.dropWhile_cons, ha]
      rw [e, List.pairwise_cons]
      refine ⟨fun z hz => ?_, ih⟩
      rcases insPin_mem hz with rfl | hz
      · exact ha
      · exact h1 z hz
    · have e : insPin (a :: l) x = x :: a :: l := by simp [insPin, List.takeWhile_cons, List.dropWhile_cons, ha]
      rw [e, List.pairwise_cons]
      refine ⟨fun z hz => ?_, h⟩
      rcases List.mem_cons.1 hz with rfl | hz
      · omega
      · have := h1 z hz; omega

theorem VR.writeV {k : Nat} {v : Volume} (h : VR k v) {l : List Item} (hl : itemsOK v.blocks v.size l) : VR (k + 1) (writeV v l) := by
  have hlen : (Eng.writeV v l).writes.length = v.writes.length + 1 := by simp [Eng.writeV]
  refine { shape := h.shape, next := h.next, hid := h.hid, hpin := h.hpin, floor := ?_, pins := fun p hp => ?_, sorted := h.sorted, wr := fun i w hw => ?_, nw := ?_, np := ?_ }
  · have := h.floor; rw [hlen]; exact ⟨this.1, by simp only [Eng.writeV]; omega⟩
  · have := h.pins p hp; rw [hlen]; exact ⟨this.1, by omega⟩
  · simp only [Eng.writeV] at hw
    rw [List.getElem?_append] at hw
    split at hw
    · exact h.wr i w hw
    · rename_i hge
      have : i = v.writes.length := by
        have := (List.getElem?_eq_some_iff.1 hw).1
        simp at this; omega
      subst this
      simp at hw
      subst hw
      exact ⟨rfl, hl⟩
  · rw [hlen]; have := h.nw; omega
  · have := h.np; simp only [Eng.writeV]; omega

theorem VR.doneF {k : Nat} {v : Volume} (h : VR k v) (c : VolCmd) (he : (doneF v c).2 = 0) : VR (k + 1) (doneF v c).1 := by
  have hf := h.floor
  have hn := h.nw
  have hp := h.np
  have hlow := lowV_le v
  unfold Eng.doneF at he ⊢
  split at he
  · cases he
  rename_i hh
  rw [if_neg hh]
  split at he
  · rename_i hk
    rw [if_pos hk]
    split at he
    · rename_i hi; rw [if_pos hi]; exact h.writeV hi
    · cases he
  rename_i hk2
  rw [if_neg hk2]
  split at he
  · rename_i hk
    rw [if_pos hk]
    split at he
    · cases he
    rename_i h1
    rw [if_neg h1]
    split at he
    · cases he
    rename_i h2
    rw [if_neg h2]
    exact { h with hpin := fun hh' => absurd ⟨.inr (.inl hk), hh'⟩ hh, floor := ⟨by simp only; omega, by simp only; omega⟩, pins := fun p hp' => ⟨by have := hlow.2 p hp'; simp only; omega, (h.pins p hp').2⟩, nw := by simp only; omega, np := by simp only; omega }
  rename_i hk3
  rw [if_neg hk3]
  split at he
  · rename_i hk
    rw [if_pos hk]
    split at he
    · cases he
    rename_i h1
    rw [if_neg h1]
    split at he
    · cases he
    rename_i h2
    rw [if_neg h2]
    exact { h with hpin := fun hh' => absurd ⟨.inr (.inr (.inl hk)), hh'⟩ hh, pins := fun p hp' => (by rcases insPin_mem hp' with rfl | hp'; exact ⟨by simp only; omega, by simp only; omega⟩; exact h.pins p hp'), sorted := insPin_sorted h.sorted, nw := by simp only; omega, np := by simp only [insPin_len]; omega }
  rename_i hk4
  rw [if_neg hk4]
  split at he
  · rename_i hk
    rw [if_pos hk]
    split at he
    · rename_i hm
      rw [if_pos hm]
      have hl := List.length_erase_of_mem hm
      exact { h with hpin := fun hh' => absurd ⟨.inr (.inr (.inr hk)), hh'⟩ hh, pins := fun p hp' => h.pins p (List.erase_subset hp'), sorted := h.sorted.sublist (List.erase_sublist), nw := by simp only; omega, np := by simp only [hl]; omega }
    · cases he
  rename_i hk5
  rw [if_neg hk5]
  split at he
  · rename_i hk
    rw [if_pos hk]
    split at he
    · cases he
    rename_i h1
    rw [if_neg h1]
    split at he
    · rename_i h2; rw [if_pos h2]; exact h.mono (by omega)
    rename_i h2
    rw [if_neg h2]
    split at he
    · cases he
    rename_i h3
    rw [if_neg h3]
    split at he
    · rename_i hi
      rw [if_pos hi]
      have hw := h.writeV hi
      have hnx := h.next
      refine { hw with next := ⟨by simp only; omega, ?_⟩, hid := fun hh' => absurd hh' h1 }
      simp only [not_or, Decidable.not_not] at h3
      show v.next + 1 ≤ v.total
      omega
    · cases he
  rename_i hk6
  rw [if_neg hk6]
  split at he
  · rename_i hk
    rw [if_pos hk]
    split at he
    · cases he
    rename_i h1
    rw [if_neg h1]
    simp only [not_or, Decidable.not_not, Bool.not_eq_false] at h1
    obtain ⟨g1, g2, g3⟩ := h.hpin h1.1
    exact { h with hid := fun _ => h1.2, hpin := fun hh' => (by cases hh'), floor := ⟨by simp only; omega, by simp only; omega⟩, pins := fun p hp' => (by simp only [g1] at hp'; cases hp'), nw := by simp only; omega, np := by simp only; omega }
  rename_i hk7
  rw [if_neg hk7]
  split at he
  · rename_i hk; rw [if_pos hk]; exact h.mono (by omega)
  · cases he

theorem VR.doF {k : Nat} {v : Volume} (h : VR k v) (c : VolCmd) : VR (k + 1) (doF v c).1 := by
  unfold Eng.doF
  split
  · exact h.mono (by omega)
  · rename_i h0
    exact h.doneF c (by simpa using h0)

theorem VR.new {k : Nat} (c : VolCmd) (h : cmdOK c) : VR k (volN c) := by
  have hs := h
  obtain ⟨s1, s2, s3, s4, s5, s6, s7, s8, s9, s10, s11, s12⟩ := hs
  refine { shape := h, next := ⟨by simp [volN], by simpa [volN] using s10⟩, hid := fun hh => ?_, hpin := fun hh => ⟨rfl, rfl, by simpa [volN] using hh⟩, floor := ⟨by simp [volN], by simp [volN]⟩, pins := fun p hp => (by cases hp), sorted := List.Pairwise.nil, wr := fun i w hw => (by simp [volN] at hw), nw := by simp [volN], np := by simp [volN] }
  simp [volN] at hh ⊢
  omega

/-- The machine. -/
structure MR (k : Nat) (m : List Volume) : Prop where
  len : m.length ≤ k
  vr : ∀ v ∈ m, VR k v

theorem insV_mem {l : List Volume} {x z : Volume} (h : z ∈ insV l x) : z = x ∨ z ∈ l := by
  simp only [insV, List.append_assoc, List.mem_append, List.mem_singleton] at h
  rcases h with h | h | h
  · exact .inr ((List.takeWhile_prefix _).subset h)
  · exact .inl h
  · exact .inr ((List.dropWhile_suffix _).subset h)
theorem insV_len (l : List Volume) (x : Volume) : (insV l x).length = l.length + 1 := by
  have := congrArg List.length (List.takeWhile_append_dropWhile (p := fun z : Volume => decide (z.id < x.id)) (l := l))
  simp only [List.length_append] at this
  simp only [insV, List.length_append, List.length_cons, List.length_nil]
  omega

theorem MR.apply {k : Nat} {m : List Volume} (h : MR k m) (b : List Int) : MR (k + 1) (applyF m b).1 := by
  have h0 : MR (k + 1) m := ⟨by have := h.len; omega, fun v hv => (h.vr v hv).mono (by omega)⟩
  unfold applyF
  split
  · exact h0
  unfold applyC
  split
  · split
    · exact h0
    · split
      · rename_i hc
        refine ⟨by simp only [insV_len]; have := h.len; omega, fun v hv => ?_⟩
        rcases insV_mem hv with rfl | hv
        · exact VR.new _ hc
        · exact h0.vr v hv
      · exact h0
  · split
    · exact h0
    · rename_i hge
      rcases findV_cases m (readF b).1.vol with ⟨h1, _⟩ | ⟨i, x, h1, h2, _⟩
      · omega
      · refine ⟨by simp only [List.length_set]; have := h.len; omega, fun v hv => ?_⟩
        rcases List.mem_or_eq_of_mem_set hv with hv | rfl
        · exact h0.vr v hv
        · have hx : m.getD (findV m (readF b).1.vol).toNat volZ = x := by rw [h1, List.getD_eq_getElem?_getD]; simp [h2]
          rw [hx]
          exact (h.vr x (List.mem_of_getElem? h2)).doF _

theorem volG_cases (m : List Volume) (id : Int) : ((volG m id).1 = volZ ∧ (volG m id).2 = false) ∨ ((volG m id).1 ∈ m ∧ (volG m id).2 = true ∧ (volG m id).1.id = id) := by
  unfold volG
  rcases findV_cases m id with ⟨h1, _⟩ | ⟨i, x, h1, h2, h3⟩
  · rw [if_pos (by omega)]; exact .inl (by simp)
  · rw [if_neg (by omega)]
    have hx : m.getD (findV m id).toNat volZ = x := by rw [h1, List.getD_eq_getElem?_getD]; simp [h2]
    simp only [hx]
    exact .inr ⟨List.mem_of_getElem? h2, by simp, h3⟩

theorem volZ_small : volSmall volZ := ⟨by simp [volZ], by simp [volZ], by simp [volZ]⟩

def putC (c : VolCmd) : List Int := if cmdRight c then cmdB c else []
theorem putC_len (c : VolCmd) : (putC c).length ≤ 10000000 := by
  unfold putC
  split
  · rename_i h
    have h1 := numsF_len [c.kind, c.vol, c.blocks, c.size, c.per, c.total, c.time, c.index]
    have h2 := placeB_len h.small.1
    have h3 := itemsB_len h.small.2
    simp only [cmdB, headB, List.length_append, List.length_cons, List.length_nil] at *
    omega
  · simp

def seatStep (m : List Volume) (w a b c : Int) : List Volume := (applyF m (putC (seatCmd (volG m 0).1 (volG m 0).2 w a b c))).1
def seatL : List Int → List Volume → List Volume
  | w :: a :: b :: c :: l, m => seatL l (seatStep m w a b c)
  | _, m => m
def seatVol (l : List Int) : Volume := match seatL l [] with | [] => (newF (createC 0 3 1 1 0)).1 | v :: _ => v

theorem seatL_short {l : List Int} (h : l.length < 4) (m : List Volume) : seatL l m = m := by
  match l, h with
  | [], _ => rfl
  | [_], _ => rfl
  | [_, _], _ => rfl
  | [_, _, _], _ => rfl
  | _ :: _ :: _ :: _ :: _, h => exfalso; simp at h; omega

theorem MR.seatL : ∀ (n : Nat) (l : List Int) (k : Nat) (m : List Volume), l.length ≤ n → MR k m → MR (k + l.length) (seatL l m)
  | 0, l, k, m, hl, h => by
    have : l = [] := List.eq_nil_of_length_eq_zero (by omega)
    subst this
    exact h
  | n + 1, l, k, m, hl, h => by
    match l with
    | [] => exact h
    | [_] => exact ⟨by have := h.len; simp [Eng.seatL]; omega, fun v hv => (h.vr v hv).mono (by omega)⟩
    | [_, _] => exact ⟨by have := h.len; simp [Eng.seatL]; omega, fun v hv => (h.vr v hv).mono (by omega)⟩
    | [_, _, _] => exact ⟨by have := h.len; simp [Eng.seatL]; omega, fun v hv => (h.vr v hv).mono (by omega)⟩
    | w :: a :: b :: c :: l =>
      have := MR.seatL n l (k + 1) (seatStep m w a b c) (by simp at hl; omega) (h.apply _)
      simp only [Eng.seatL]
      exact ⟨by have := this.len; simp; omega, fun v hv => (this.vr v hv).mono (by simp; omega)⟩

theorem seatVol_VR (l : List Int) : VR (l.length) (seatVol l) := by
  have h := MR.seatL l.length l 0 [] (Nat.le_refl _) ⟨Nat.le_refl _, fun v hv => (by cases hv)⟩
  unfold seatVol
  cases hm : seatL l [] with
  | nil =>
    simp only
    have hc : cmdOK (createC 0 3 1 1 0) := by decide
    unfold newF
    rw [if_pos hc]
    exact VR.new _ hc
  | cons v m =>
    simp only
    have := h.vr v (by rw [hm]; exact List.mem_cons_self ..)
    exact this.mono (by omega)

end Go.Eng

set_option maxHeartbeats 4000000
namespace Go.Eng
open Go.Proofs

theorem c_mementoseat_Volume (l : List Int) (hl : l.length ≤ 1000) : Con Tryz.prog 9 [.t (bytesT l)] [] (sC (volC (seatVol l))) [] := by
  refine con_intro [] [] Tryz.func9 rfl Tryz.ntmps9 Tryz.results9 rfl rfl ?_
  intro E
  refine vc_okT (i := 0) rfl fun ok0 => ?_
  refine vc_rseq mixed ?_
  refine g_new (s_alloc 2 rfl rfl) rfl ?_
  refine g_nil ?_
  refine vc_rseq mixed ?_
  refine g_val (s_build evArgs_nil rfl rfl rfl) rfl ?_
  refine g_new (s_box 12 rfl rfl rfl rfl) rfl ?_
  refine g_val (s_assign rfl rfl) rfl ?_
  refine g_nil ?_
  refine vc_seq ?_
  refine vc_rseq mixed ?_
  refine g_val (s_assign rfl rfl) rfl ?_
  refine g_nil ?_
  refine vc_block ?_
  refine vc_while (α := Nat × List Volume) (fun s => ⟨[(0, .t (bytesT l)), (2, .ref 2 0), (3, .ref 12 0), (4, AI .i64 s.1)], [(2, some (.box ((volC volZ).map .t))), (12, some (.box (mA s.2)))], [2, 12]⟩) (fun s => s.1 ≤ 1004 ∧ MR s.1 s.2 ∧ seatL (l.drop s.1) s.2 = seatL l []) (fun s => 1008 - s.1) (0, []) (leE_same (by repeat (first | exact letm_nil _ _ | refine letm_cons rfl ?_ ?_ | exact .same _ | exact .nl (by decide) (by decide) | exact .nn | exact .id' rfl | exact .id' (by simp; done))) (by repeat (first | exact lehp_nil _ _ | refine lehp_cons rfl ?_ ?_ | exact leB_same _ | exact leB_row (by first | rfl | (simp; done)) | exact leB_obj (by simp; done) | exact leB_nest (by first | rfl | (simp; done)) | refine leB_box ?_ | exact leL_nil | refine leL_cons ?_ ?_ | exact .same _ | exact .nl (by decide) (by decide) | exact .nn | exact .id' rfl | exact .id' (by simp; done))) rfl) ⟨Nat.zero_le _, ⟨Nat.le_refl _, fun v hv => by cases hv⟩, rfl⟩ (fun s ⟨hs1, hs2, hs3⟩ => ?_)
  obtain ⟨i, m⟩ := s
  simp only at hs1 hs2 hs3
  refine vc_seq ?_
  refine vc_rseq mixed ?_
  refine g_val (s_move rfl rfl) rfl ?_
  refine g_val (s_add rfl rfl rfl (by simp only [inI, kMin, kMax]; omega)) rfl ?_
  refine g_val (s_move rfl rfl) rfl ?_
  refine g_val (s_len rfl rfl) rfl ?_
  refine g_val (s_lss rfl rfl rfl) rfl ?_
  refine g_nil ?_
  refine vc_cond rfl (fun hc17 => ?_) (fun hc17 => ?_)
  replace hc17 := of_decide_eq_true hc17
  simp only [List.length_map] at hc17
  obtain ⟨xw, hxw⟩ := get_of_lt (l := l) (i := i) (by omega)
  obtain ⟨xa, hxa⟩ := get_of_lt (l := l) (i := i + 1) (by omega)
  obtain ⟨xb, hxb⟩ := get_of_lt (l := l) (i := i + 2) (by omega)
  obtain ⟨xc, hxc⟩ := get_of_lt (l := l) (i := i + 3) (by omega)
  have hdrop : l.drop i = xw :: xa :: xb :: xc :: l.drop (i + 4) := by
    obtain ⟨h1, e1⟩ := List.getElem?_eq_some_iff.1 hxw
    obtain ⟨h2, e2⟩ := List.getElem?_eq_some_iff.1 hxa
    obtain ⟨h3, e3⟩ := List.getElem?_eq_some_iff.1 hxb
    obtain ⟨h4, e4⟩ := List.getElem?_eq_some_iff.1 hxc
    rw [List.drop_eq_getElem_cons h1, List.drop_eq_getElem_cons h2, List.drop_eq_getElem_cons h3, List.drop_eq_getElem_cons h4, e1, e2, e3, e4]
  have hml := hs2.len
  have hg : volSmall (volG m 0).1 ∧ (volG m 0).1.size ≤ 1000000 := by
    rcases volG_cases m 0 with ⟨h1, _⟩ | ⟨h1, _, _⟩
    rw [h1]; exact ⟨volZ_small, by decide⟩
    have hv := hs2.vr _ h1
    obtain ⟨s1, s2, s3, s4, s5, s6, s7⟩ := hv.shape
    exact ⟨hv.small (by omega), by omega⟩
  refine vc_skip ?_
  refine vc_seq ?_
  refine vc_block ?_
  refine vc_rseq mixed ?_
  refine g_val (s_move rfl rfl) rfl ?_
  refine g_cw (s_callH [] [(1000, 12)] (c_Machine_Volume m 0 (by omega)) (evArgs_cons rfl (evArgs_cons rfl evArgs_nil)) ⟨rfl, trivial⟩ rfl (okVL_nil _) rfl rfl rfl) rfl ?_
  refine g_val (s_move rfl rfl) rfl ?_
  refine g_val (s_extract rfl rfl rfl) rfl ?_
  refine g_val (s_extract rfl rfl rfl) rfl ?_
  refine g_new (s_alloc 5 rfl rfl) rfl ?_
  refine g_sto (s_store rfl rfl rfl rfl rfl rfl) rfl ?_
  refine g_val (s_assign rfl rfl) rfl ?_
  refine g_nil ?_
  refine vc_rseq mixed ?_
  refine d_val (s_loadA rfl rfl rfl rfl rfl) rfl ?_
  refine d_val (s_move rfl rfl) rfl ?_
  refine d_val (s_move rfl rfl) rfl ?_
  refine d_val (s_move rfl rfl) rfl ?_
  refine d_val (s_index rfl rfl rfl (by omega) (idx_map hxw)) rfl ?_
  refine d_val (s_loadT rfl rfl rfl) rfl ?_
  refine d_val (s_move rfl rfl) rfl ?_
  refine d_val (s_move rfl rfl) rfl ?_
  refine d_val (s_add rfl rfl rfl (by simp only [inI, kMin, kMax]; omega)) rfl ?_
  refine d_val (s_index rfl rfl rfl (by omega) (idx_map (by rw [show ((i : Int) + 1).toNat = i + 1 by omega]; exact hxa))) rfl ?_
  refine d_val (s_loadT rfl rfl rfl) rfl ?_
  refine d_val (s_move rfl rfl) rfl ?_
  refine d_val (s_move rfl rfl) rfl ?_
  refine d_val (s_add rfl rfl rfl (by simp only [inI, kMin, kMax]; omega)) rfl ?_
  refine d_val (s_index rfl rfl rfl (by omega) (idx_map (by rw [show ((i : Int) + 2).toNat = i + 2 by omega]; exact hxb))) rfl ?_
  refine d_val (s_loadT rfl rfl rfl) rfl ?_
  refine d_val (s_move rfl rfl) rfl ?_
  refine d_val (s_move rfl rfl) rfl ?_
  refine d_val (s_add rfl rfl rfl (by simp only [inI, kMin, kMax]; omega)) rfl ?_
  refine d_val (s_index rfl rfl rfl (by omega) (idx_map (by rw [show ((i : Int) + 3).toNat = i + 3 by omega]; exact hxc))) rfl ?_
  refine d_val (s_loadT rfl rfl rfl) rfl ?_
  refine d_val (s_call [] (c_mementoseat_Cmd (volG m 0).1 (volG m 0).2 xw xa xb xc hg.1 hg.2) (evArgs_cons rfl (evArgs_cons rfl (evArgs_cons rfl (evArgs_cons rfl (evArgs_cons rfl (evArgs_cons rfl evArgs_nil)))))) trivial rfl (okVL_nil _) rfl (.inl rfl) rfl) rfl ?_
  refine d_val (s_call [] (c_mementoref16_PutCmd (seatCmd (volG m 0).1 (volG m 0).2 xw xa xb xc)) (evArgs_cons rfl evArgs_nil) trivial rfl (okVL_nil _) rfl (.inl rfl) rfl) rfl ?_
  refine d_val (s_move rfl rfl) rfl ?_
  refine d_val (s_extract rfl rfl rfl) rfl ?_
  refine d_val (s_extract rfl rfl rfl) rfl ?_
  refine d_val (s_assign rfl rfl) rfl ?_
  refine d_val (s_assign rfl rfl) rfl ?_
  refine d_nil rfl ?_
  refine vc_region mixed ?_
  refine g_val (s_move rfl rfl) rfl ?_
  refine g_val (s_move rfl rfl) rfl ?_
  refine g_cw (s_callH [] [(1000, 12)] (c_Machine_Apply m (putC (seatCmd (volG m 0).1 (volG m 0).2 xw xa xb xc)) (by omega) (fun v hv => (hs2.vr v hv).small (by omega)) (by have := putC_len (seatCmd (volG m 0).1 (volG m 0).2 xw xa xb xc); omega)) (evArgs_cons rfl (evArgs_cons rfl evArgs_nil)) ⟨rfl, trivial⟩ rfl (okVL_nil _) rfl rfl rfl) rfl ?_
  refine g_nil ?_
  refine vc_region mixed ?_
  refine g_val (s_move rfl rfl) rfl ?_
  refine g_val (s_add rfl rfl rfl (by simp only [inI, kMin, kMax]; omega)) rfl ?_
  refine g_val (s_assign rfl rfl) rfl ?_
  refine g_nil ?_
  exact ⟨(i + 4, seatStep m xw xa xb xc), ⟨by simp only; omega, ⟨by have := (hs2.apply (putC (seatCmd (volG m 0).1 (volG m 0).2 xw xa xb xc))).len; simp only [seatStep]; omega, fun v hv => ((hs2.apply (putC (seatCmd (volG m 0).1 (volG m 0).2 xw xa xb xc))).vr v hv).mono (by omega)⟩, by simp only; rw [← hs3, hdrop]; rfl⟩, by simp only; omega, (leE_same (by repeat (first | exact letm_nil _ _ | refine letm_cons rfl ?_ ?_ | exact .same _ | exact .nl (by decide) (by decide) | exact .nn | exact .id' rfl | exact .id' (by simp; done))) (by repeat (first | exact lehp_nil _ _ | refine lehp_cons rfl ?_ ?_ | exact leB_same _ | exact leB_row (by first | rfl | (simp; done)) | exact leB_obj (by simp; done) | exact leB_nest (by first | rfl | (simp; done)) | refine leB_box ?_ | exact leL_nil | refine leL_cons ?_ ?_ | exact .same _ | exact .nl (by decide) (by decide) | exact .nn | exact .id' rfl | exact .id' (by simp; done))) rfl)⟩
  replace hc17 := of_decide_eq_false hc17
  simp only [List.length_map, Int.not_lt] at hc17
  refine vc_exit ?_
  refine vc_seq ?_
  rw [seatL_short (by simp; omega)] at hs3
  refine vc_rseq mixed ?_
  refine g_val (s_move rfl rfl) rfl ?_
  refine g_val (s_nilCheck rfl rfl rfl) rfl ?_
  refine g_val (s_field rfl rfl rfl rfl) rfl ?_
  refine g_val (s_load rfl rfl rfl rfl) rfl ?_
  refine g_val (s_len rfl rfl) rfl ?_
  refine g_val (s_eql rfl rfl rfl) rfl ?_
  refine g_nil ?_
  refine vc_cond rfl (fun hc59 => ?_) (fun hc59 => ?_)
  replace hc59 := of_decide_eq_true hc59
  simp only [List.length_map] at hc59
  have hnil : m = [] := by
    cases m with
    | nil => rfl
    | cons => simp at hc59; omega
  have hsv : seatVol l = (newF (createC 0 3 1 1 0)).1 := by unfold seatVol; rw [← hs3, hnil]
  rw [hsv]
  refine vc_rseq mixed ?_
  refine g_val (s_call [] (c_mementoseat_Create 0 3 1 1 0) (evArgs_cons rfl (evArgs_cons rfl (evArgs_cons rfl (evArgs_cons rfl (evArgs_cons rfl evArgs_nil))))) trivial rfl (okVL_nil _) rfl (.inl rfl) rfl) rfl ?_
  refine g_val (s_call [] (c_mementoref16_New (createC 0 3 1 1 0)) (evArgs_cons rfl evArgs_nil) trivial rfl (okVL_nil _) rfl (.inl rfl) rfl) rfl ?_
  refine g_val (s_move rfl rfl) rfl ?_
  refine g_val (s_extract rfl rfl rfl) rfl ?_
  refine g_val (s_extract rfl rfl rfl) rfl ?_
  refine g_new (s_alloc 9 rfl rfl) rfl ?_
  refine g_sto (s_store rfl rfl rfl rfl rfl rfl) rfl ?_
  refine g_val (s_assign rfl rfl) rfl ?_
  refine g_nil ?_
  refine vc_rseq mixed ?_
  refine g_val (s_loadA rfl rfl rfl rfl rfl) rfl ?_
  refine g_sto (s_store rfl rfl rfl rfl rfl rfl) rfl ?_
  refine g_nil ?_
  exact vc_ret (ret_le [] _ (.cons (.agg rfl rfl rfl rfl) .nil) trivial (by repeat (first | exact leL_nil | refine leL_cons ?_ ?_ | exact LeV.tt rfl | exact .nl (by decide) (by decide) | exact .nn | refine LeV.tupL ?_ | refine LeV.aggL ?_ | exact .eq (by first | exact trivial | (simp [AV.okV, okR, lkB]; done) | (simp [AV.okV, okR, lkB]; omega)) (by first | rfl | (simp [AV.view, viewR, lkB, AV.ren, List.take_of_length_le]; done) | (simp [AV.view, viewR, lkB, AV.ren, List.take_of_length_le]; done)))) rfl)
  replace hc59 := of_decide_eq_false hc59
  simp only [List.length_map] at hc59
  refine vc_skip ?_
  obtain ⟨v, m', rfl⟩ : ∃ v m', m = v :: m' := by
    cases m with
    | nil => simp at hc59
    | cons v m' => exact ⟨v, m', rfl⟩
  have hsv : seatVol l = v := by unfold seatVol; rw [← hs3]
  rw [hsv]
  refine vc_rseq mixed ?_
  refine g_val (s_move rfl rfl) rfl ?_
  refine g_val (s_nilCheck rfl rfl rfl) rfl ?_
  refine g_val (s_field rfl rfl rfl rfl) rfl ?_
  refine g_val (s_load rfl rfl rfl rfl) rfl ?_
  refine g_val (s_index rfl rfl rfl (by omega) (rfl)) rfl ?_
  refine g_val (s_loadTA rfl rfl rfl) rfl ?_
  refine g_sto (s_store rfl rfl rfl rfl rfl rfl) rfl ?_
  refine g_nil ?_
  exact vc_ret (ret_le [] _ (.cons (.agg rfl rfl rfl rfl) .nil) trivial (by repeat (first | exact leL_nil | refine leL_cons ?_ ?_ | exact LeV.tt rfl | exact .nl (by decide) (by decide) | exact .nn | refine LeV.tupL ?_ | refine LeV.aggL ?_ | exact .eq (by first | exact trivial | (simp [AV.okV, okR, lkB]; done) | (simp [AV.okV, okR, lkB]; omega)) (by first | rfl | (simp [AV.view, viewR, lkB, AV.ren, List.take_of_length_le]; done) | (simp [AV.view, viewR, lkB, AV.ren, List.take_of_length_le]; done)))) rfl)

end Go.Eng

set_option maxHeartbeats 4000000
namespace Go.Eng
open Go.Proofs

/-- A volume whose pins and writes are rows of one's own. -/
def volOA (v : Volume) (kp kw : Nat) : List AV := [.t (i64 v.id), .t (i64 v.blocks), .t (i64 v.size), .t (i64 v.per), .t (intsT v.place), .t (i64 v.total), .t (i64 v.next), .t (bT v.hidden), .t (i64 v.floor), .rows kp 1 0 v.pins.length, .rows kw 2 0 v.writes.length]

end Go.Eng

set_option maxHeartbeats 4000000
namespace Go.Eng
open Go.Proofs

/-- A volume whose writes are a row of one's own. -/
def volWA (v : Volume) (kw : Nat) : List AV := [.t (i64 v.id), .t (i64 v.blocks), .t (i64 v.size), .t (i64 v.per), .t (intsT v.place), .t (i64 v.total), .t (i64 v.next), .t (bT v.hidden), .t (i64 v.floor), .t (intsT v.pins), .rows kw 2 0 v.writes.length]
/-- A volume whose pins are a row of one's own. -/
def volPA (v : Volume) (kp : Nat) : List AV := [.t (i64 v.id), .t (i64 v.blocks), .t (i64 v.size), .t (i64 v.per), .t (intsT v.place), .t (i64 v.total), .t (i64 v.next), .t (bT v.hidden), .t (i64 v.floor), .rows kp 1 0 v.pins.length, .t (writesT v.writes)]

def writeF (v : Volume) (l : List Item) : Volume × Int := if itemsOK v.blocks v.size l then (writeV v l, 0) else (v, 23)

end Go.Eng

set_option maxHeartbeats 4000000
namespace Go.Eng
open Go.Proofs

structure Ver where
  seq : Int
  data : List Int
deriving DecidableEq
def verC (v : Ver) : List T := [i64 v.seq, bytesT v.data]
def versT (l : List Ver) : T := .sl 2 32 (l.map verC)

theorem c_hist_behind_1 (l : List Ver) (t : Int) (i : Nat) (x : Ver) (hx : l[i]? = some x) : Con Tryz.prog 111 [AI .i64 i, .ref 1000 0, .ref 1001 0] [(1000, .box [.t (versT l)]), (1001, .box [AI .i64 t])] (AB (decide (t < x.seq))) [(1000, .box [.t (versT l)]), (1001, .box [AI .i64 t])] := by
  refine con_intro [1000, 1001] [1000, 1001] Tryz.func111 rfl Tryz.ntmps111 Tryz.results111 rfl rfl ?_
  intro E
  refine vc_rseq mixed ?_
  refine g_val (s_assign rfl rfl) rfl ?_
  refine g_nil ?_
  refine vc_rseq mixed ?_
  refine d_val (s_load rfl rfl rfl rfl) rfl ?_
  refine d_val (s_move rfl rfl) rfl ?_
  refine d_val (s_index rfl rfl rfl (by omega) (idx_map hx)) rfl ?_
  refine d_val (s_fieldT rfl rfl rfl rfl rfl) rfl ?_
  refine d_val (s_loadT rfl rfl rfl) rfl ?_
  refine d_val (s_load rfl rfl rfl rfl) rfl ?_
  refine d_val (s_gtr rfl rfl rfl) rfl ?_
  refine d_val (s_assign rfl rfl) rfl ?_
  refine d_nil rfl ?_
  exact vc_ret (ret_hand [] [] _ (.cons (.tmp rfl) .nil) trivial (.eq (okV_nil _) rfl) (lehp_cons rfl (leB_same _) (lehp_cons rfl (leB_same _) (lehp_nil _ _))) rfl)

theorem c_sort_Search (n r g : Nat) [FnC Tryz.prog g] (x y : T) (hr : r ≤ n) (hn : n ≤ 1000000000) (hg : ∀ i : Nat, i < n → Con Tryz.prog g [AI .i64 i, .ref 1000 0, .ref 1001 0] [(1000, .box [.t x]), (1001, .box [.t y])] (AB (decide (r ≤ i))) [(1000, .box [.t x]), (1001, .box [.t y])]) :
    Con Tryz.prog 110 [AI .i64 n, .fn g [.ref 1000 0, .ref 1001 0]] [(1000, .box [.t x]), (1001, .box [.t y])] (AI .i64 r) [(1000, .box [.t x]), (1001, .box [.t y])] := by
  refine con_intro [1000, 1001] [1000, 1001] Tryz.func110 rfl Tryz.ntmps110 Tryz.results110 rfl rfl ?_
  intro E
  refine vc_rseq mixed ?_
  refine g_val (s_assign rfl rfl) rfl ?_
  refine g_nil ?_
  refine vc_rseq mixed ?_
  refine g_val (s_move rfl rfl) rfl ?_
  refine g_val (s_assign rfl rfl) rfl ?_
  refine g_val (s_assign rfl rfl) rfl ?_
  refine g_nil ?_
  refine vc_seq ?_
  refine vc_block ?_
  refine vc_while (α := Nat × Nat) (fun s => ⟨[(1, .fn g [.ref 1000 0, .ref 1001 0]), (5, AI .i64 s.1), (6, AI .i64 s.2)], [(1000, some (.box [.t x])), (1001, some (.box [.t y]))], [1000, 1001]⟩) (fun s => s.1 ≤ r ∧ r ≤ s.2 ∧ s.2 ≤ n) (fun s => s.2 - s.1) (0, n) (leE_same (by repeat (first | exact letm_nil _ _ | refine letm_cons rfl ?_ ?_ | exact .same _ | exact .nl (by decide) (by decide) | exact .nn | exact .id' rfl | exact .id' (by simp; done))) (by repeat (first | exact lehp_nil _ _ | refine lehp_cons rfl ?_ ?_ | exact leB_same _ | exact leB_row (by first | rfl | (simp; done)) | exact leB_obj (by simp; done) | exact leB_nest (by first | rfl | (simp; done)) | refine leB_box ?_ | exact leL_nil | refine leL_cons ?_ ?_ | exact .same _ | exact .nl (by decide) (by decide) | exact .nn | exact .id' rfl | exact .id' (by simp; done))) rfl) ⟨Nat.zero_le _, hr, Nat.le_refl _⟩ (fun s ⟨hs1, hs2, hs3⟩ => ?_)
  obtain ⟨i, j⟩ := s
  simp only at hs1 hs2 hs3
  refine vc_seq ?_
  refine vc_rseq mixed ?_
  refine g_val (s_move rfl rfl) rfl ?_
  refine g_val (s_move rfl rfl) rfl ?_
  refine g_val (s_lss rfl rfl rfl) rfl ?_
  refine g_nil ?_
  refine vc_cond rfl (fun hc11 => ?_) (fun hc11 => ?_)
  replace hc11 := of_decide_eq_true hc11
  try simp only [List.length_map, ne_eq, Decidable.not_not, Int.not_lt, Int.not_le, ge_iff_le, gt_iff_lt, Bool.not_eq_true', Bool.not_eq_false', decide_eq_true_eq, decide_eq_false_iff_not] at hc11
  refine vc_skip ?_
  refine vc_block ?_
  have hsh : shrI .u64 ((i : Int) + (j : Int)) 1 = (((i + j) / 2 : Nat) : Int) := by simp [shrI, IntKind.bits]
  refine vc_rseq mixed ?_
  refine g_val (s_move rfl rfl) rfl ?_
  refine g_val (s_move rfl rfl) rfl ?_
  refine g_val (s_add rfl rfl rfl (by simp only [inI, kMin, kMax]; omega)) rfl ?_
  refine g_val (s_conv rfl rfl (by simp only [inI, kMin, kMax]; omega)) rfl ?_
  refine g_val (s_shrB rfl rfl rfl (by omega) (by omega)) rfl ?_
  refine g_val (s_conv rfl rfl (by rw [hsh]; simp only [inI, kMin, kMax]; omega)) rfl ?_
  refine g_val (s_assign rfl rfl) rfl ?_
  refine g_nil ?_
  rw [hsh]
  refine vc_rseq mixed ?_
  refine g_val (s_move rfl rfl) rfl ?_
  refine g_val (s_move rfl rfl) rfl ?_
  refine g_c2 (s_callV [] [] (hg ((i + j) / 2) (by omega)) rfl (evArgs_cons rfl evArgs_nil) ⟨rfl, rfl, trivial⟩ rfl (okVL_nil _) rfl rfl rfl) rfl ?_
  refine g_val (s_not rfl rfl) rfl ?_
  refine g_nil ?_
  refine vc_cond rfl (fun hc21 => ?_) (fun hc21 => ?_)
  simp only [Bool.not_eq_true', decide_eq_false_iff_not] at hc21
  refine vc_region mixed ?_
  refine g_val (s_move rfl rfl) rfl ?_
  refine g_val (s_add rfl rfl rfl (by simp only [inI, kMin, kMax]; omega)) rfl ?_
  refine g_val (s_assign rfl rfl) rfl ?_
  refine g_nil ?_
  first
  | exact ⟨((i + j) / 2 + 1, j), ⟨by simp only; omega, hs2, hs3⟩, by simp only; omega, (leE_same (by repeat (first | exact letm_nil _ _ | refine letm_cons rfl ?_ ?_ | exact .same _ | exact .nl (by decide) (by decide) | exact .nn | exact .id' rfl | exact .id' (by simp; done))) (by repeat (first | exact lehp_nil _ _ | refine lehp_cons rfl ?_ ?_ | exact leB_same _ | exact leB_row (by first | rfl | (simp; done)) | exact leB_obj (by simp; done) | exact leB_nest (by first | rfl | (simp; done)) | refine leB_box ?_ | exact leL_nil | refine leL_cons ?_ ?_ | exact .same _ | exact .nl (by decide) (by decide) | exact .nn | exact .id' rfl | exact .id' (by simp; done))) rfl)⟩
  | exact ⟨(i, (i + j) / 2), ⟨hs1, by simp only; omega, by simp only; omega⟩, by simp only; omega, (leE_same (by repeat (first | exact letm_nil _ _ | refine letm_cons rfl ?_ ?_ | exact .same _ | exact .nl (by decide) (by decide) | exact .nn | exact .id' rfl | exact .id' (by simp; done))) (by repeat (first | exact lehp_nil _ _ | refine lehp_cons rfl ?_ ?_ | exact leB_same _ | exact leB_row (by first | rfl | (simp; done)) | exact leB_obj (by simp; done) | exact leB_nest (by first | rfl | (simp; done)) | refine leB_box ?_ | exact leL_nil | refine leL_cons ?_ ?_ | exact .same _ | exact .nl (by decide) (by decide) | exact .nn | exact .id' rfl | exact .id' (by simp; done))) rfl)⟩
  simp only [Bool.not_eq_false', decide_eq_true_eq] at hc21
  refine vc_region mixed ?_
  refine g_val (s_move rfl rfl) rfl ?_
  refine g_val (s_assign rfl rfl) rfl ?_
  refine g_nil ?_
  first
  | exact ⟨((i + j) / 2 + 1, j), ⟨by simp only; omega, hs2, hs3⟩, by simp only; omega, (leE_same (by repeat (first | exact letm_nil _ _ | refine letm_cons rfl ?_ ?_ | exact .same _ | exact .nl (by decide) (by decide) | exact .nn | exact .id' rfl | exact .id' (by simp; done))) (by repeat (first | exact lehp_nil _ _ | refine lehp_cons rfl ?_ ?_ | exact leB_same _ | exact leB_row (by first | rfl | (simp; done)) | exact leB_obj (by simp; done) | exact leB_nest (by first | rfl | (simp; done)) | refine leB_box ?_ | exact leL_nil | refine leL_cons ?_ ?_ | exact .same _ | exact .nl (by decide) (by decide) | exact .nn | exact .id' rfl | exact .id' (by simp; done))) rfl)⟩
  | exact ⟨(i, (i + j) / 2), ⟨hs1, by simp only; omega, by simp only; omega⟩, by simp only; omega, (leE_same (by repeat (first | exact letm_nil _ _ | refine letm_cons rfl ?_ ?_ | exact .same _ | exact .nl (by decide) (by decide) | exact .nn | exact .id' rfl | exact .id' (by simp; done))) (by repeat (first | exact lehp_nil _ _ | refine lehp_cons rfl ?_ ?_ | exact leB_same _ | exact leB_row (by first | rfl | (simp; done)) | exact leB_obj (by simp; done) | exact leB_nest (by first | rfl | (simp; done)) | refine leB_box ?_ | exact leL_nil | refine leL_cons ?_ ?_ | exact .same _ | exact .nl (by decide) (by decide) | exact .nn | exact .id' rfl | exact .id' (by simp; done))) rfl)⟩
  replace hc11 := of_decide_eq_false hc11
  simp only [Int.not_lt] at hc11
  refine vc_exit ?_
  obtain rfl : i = r := by omega
  refine vc_rseq mixed ?_
  refine g_val (s_move rfl rfl) rfl ?_
  refine g_val (s_assign rfl rfl) rfl ?_
  refine g_nil ?_
  exact vc_ret (ret_hand [] [] _ (.cons (.tmp rfl) .nil) trivial (.eq (okV_nil _) rfl) (lehp_cons rfl (leB_same _) (lehp_cons rfl (leB_same _) (lehp_nil _ _))) rfl)

def behN (l : List Ver) (t : Int) : Nat := (l.takeWhile (fun v => decide (v.seq ≤ t))).length
theorem beh_iff : ∀ {l : List Ver} {t : Int} {i : Nat} {x : Ver}, l.Pairwise (fun a b => a.seq ≤ b.seq) → l[i]? = some x → (x.seq ≤ t ↔ i < behN l t)
  | [], t, i, x, _, hx => by simp at hx
  | a :: l, t, i, x, hs, hx => by
    obtain ⟨h1, h2⟩ := List.pairwise_cons.1 hs
    by_cases ha : a.seq ≤ t
    have e : behN (a :: l) t = behN l t + 1 := by simp [behN, List.takeWhile_cons, ha]
    rw [e]
    cases i with
    | zero => simp at hx; subst hx; simp [ha]
    | succ i =>
      rw [beh_iff h2 (by simpa using hx)]
      omega
    have e : behN (a :: l) t = 0 := by simp [behN, List.takeWhile_cons, ha]
    rw [e]
    cases i with
    | zero => simp at hx; subst hx; simp [ha]
    | succ i =>
      have := h1 x (List.mem_of_getElem? (by simpa using hx))
      omega
theorem behN_le (l : List Ver) (t : Int) : behN l t ≤ l.length := (List.takeWhile_prefix _).length_le

theorem c_hist_behind (l : List Ver) (t : Int) (hs : l.Pairwise (fun a b => a.seq ≤ b.seq)) (hl : l.length ≤ 1000000000) : Con Tryz.prog 95 [.t (versT l), AI .i64 t] [] (AI .i64 (behN l t)) [] := by
  refine con_intro [] [] Tryz.func95 rfl Tryz.ntmps95 Tryz.results95 rfl rfl ?_
  intro E
  refine vc_rseq mixed ?_
  refine g_new (s_box 2 rfl rfl rfl rfl) rfl ?_
  refine g_new (s_box 3 rfl rfl rfl rfl) rfl ?_
  refine g_val (s_assign rfl rfl) rfl ?_
  refine g_nil ?_
  refine vc_rseq mixed ?_
  refine g_val (s_load rfl rfl rfl rfl) rfl ?_
  refine g_val (s_len rfl rfl) rfl ?_
  refine g_val (s_makeFunc (evArgs_cons rfl (evArgs_cons rfl evArgs_nil)) rfl) rfl ?_
  refine g_c2 (s_callH [] [(1000, 2), (1001, 3)] (c_sort_Search (l.map verC).length (behN l t) 111 (versT l) (.k (.int .i64 t)) (by rw [List.length_map]; exact behN_le l t) (by rw [List.length_map]; exact hl) (fun i hi => by
  rw [List.length_map] at hi
  obtain ⟨x, hx⟩ := get_of_lt hi
  have := c_hist_behind_1 l t i x hx
  rw [show decide (behN l t ≤ i) = decide (t < x.seq) from by have := beh_iff (t := t) hs hx; rw [decide_eq_decide]; omega]
  exact this)) (evArgs_cons rfl (evArgs_cons rfl evArgs_nil)) ⟨rfl, rfl, trivial⟩ rfl (okVL_nil _) rfl rfl rfl) rfl ?_
  refine g_val (s_assign rfl rfl) rfl ?_
  refine g_nil ?_
  exact vc_ret (ret_of _ (.cons (.tmp rfl) .nil) rfl rfl)

def atF (l : List Ver) (t : Int) : List Int × Bool := if behN l t = 0 then ([], false) else (((l[behN l t - 1]?).map (·.data)).getD [], true)

theorem c_hist_At (l : List Ver) (t : Int) (hs : l.Pairwise (fun a b => a.seq ≤ b.seq)) (hl : l.length ≤ 1000000000) : Con Tryz.prog 93 [.t (versT l), AI .i64 t] [] (.tup [.t (bytesT (atF l t).1), AB (atF l t).2]) [] := by
  refine con_intro [] [] Tryz.func93 rfl Tryz.ntmps93 Tryz.results93 rfl rfl ?_
  intro E
  have hle := behN_le l t
  refine vc_rseq mixed ?_
  refine g_val (s_assign rfl rfl) rfl ?_
  refine g_val (s_assign rfl rfl) rfl ?_
  refine g_nil ?_
  refine vc_rseq mixed ?_
  refine g_val (s_move rfl rfl) rfl ?_
  refine g_val (s_move rfl rfl) rfl ?_
  refine g_val (s_call [] (c_hist_behind l t hs hl) (evArgs_cons rfl (evArgs_cons rfl evArgs_nil)) trivial rfl (okVL_nil _) rfl (.inl rfl) rfl) rfl ?_
  refine g_val (s_assign rfl rfl) rfl ?_
  refine g_nil ?_
  refine vc_seq ?_
  refine vc_rseq mixed ?_
  refine g_val (s_move rfl rfl) rfl ?_
  refine g_val (s_eql rfl rfl rfl) rfl ?_
  refine g_nil ?_
  refine vc_cond rfl (fun hc11 => ?_) (fun hc11 => ?_)
  replace hc11 := of_decide_eq_true hc11
  have e : atF l t = ([], false) := if_pos (by omega)
  rw [e]
  refine vc_rseq mixed ?_
  refine g_val (s_assign rfl rfl) rfl ?_
  refine g_val (s_assign rfl rfl) rfl ?_
  refine g_nil ?_
  exact vc_ret (ret_le [] _ (.cons (.tmp rfl) (.cons (.tmp rfl) .nil)) trivial (LeV.tupL (leL_cons (.nl (by decide) (by decide)) (leL_cons (LeV.tt rfl) leL_nil))) rfl)
  replace hc11 := of_decide_eq_false hc11
  refine vc_skip ?_
  obtain ⟨x, hx⟩ := get_of_lt (l := l) (i := behN l t - 1) (by omega)
  have e : atF l t = (x.data, true) := by unfold atF; rw [if_neg (by omega), hx]; rfl
  rw [e]
  refine vc_rseq mixed ?_
  refine g_val (s_move rfl rfl) rfl ?_
  refine g_val (s_move rfl rfl) rfl ?_
  refine g_val (s_sub rfl rfl rfl (by simp only [inI, kMin, kMax]; omega)) rfl ?_
  refine g_val (s_index rfl rfl rfl (by omega) (idx_map (by rw [show ((behN l t : Int) - 1).toNat = behN l t - 1 by omega]; exact hx))) rfl ?_
  refine g_val (s_fieldT rfl rfl rfl rfl rfl) rfl ?_
  refine g_val (s_loadT rfl rfl rfl) rfl ?_
  refine g_val (s_call [] (c_Clone_byte x.data) (evArgs_cons rfl evArgs_nil) trivial rfl (okVL_nil _) rfl (.inl rfl) rfl) rfl ?_
  refine g_val (s_assign rfl rfl) rfl ?_
  refine g_val (s_assign rfl rfl) rfl ?_
  refine g_nil ?_
  exact vc_ret (ret_le [] _ (.cons (.tmp rfl) (.cons (.tmp rfl) .nil)) trivial (LeV.tupL (leL_cons (LeV.tt rfl) (leL_cons (LeV.tt rfl) leL_nil))) rfl)

end Go.Eng

set_option maxHeartbeats 4000000
namespace Go.Eng
open Go.Proofs

theorem insPin_perm (l : List Int) (x : Int) : (insPin l x).Perm (l ++ [x]) := by
  have h := List.takeWhile_append_dropWhile (p := fun z => decide (z ≤ x)) (l := l)
  unfold insPin
  conv => rhs; rw [← h]
  rw [List.append_assoc, List.append_assoc]
  exact (List.perm_append_comm (l₁ := [x])).append_left _

theorem sortI_ins {l : List Int} (h : l.Pairwise (· ≤ ·)) (x : Int) : sortI (l ++ [x]) = insPin l x := by
  have h1 : (sortI (l ++ [x])).Pairwise (· ≤ ·) := by
    have := List.pairwise_mergeSort (le := fun x y : Int => decide (x ≤ y)) (by intro a b c h1 h2; simp at *; omega) (by intro a b; simp; omega) (l ++ [x])
    exact this.imp (by simp)
  exact (((List.mergeSort_perm _ _).trans (insPin_perm l x).symm).eq_of_pairwise (le := (· ≤ ·)) (fun a b _ _ h1 h2 => Int.le_antisymm h1 h2) h1 (insPin_sorted h))

end Go.Eng

set_option maxHeartbeats 4000000
namespace Go.Eng
open Go.Proofs

end Go.Eng

set_option maxHeartbeats 4000000
namespace Go.Eng
open Go.Proofs

/-- A block's versions in a write's items. -/
def verI (s : Int) (l : List Item) (b : Nat) : List Ver := (l.filter fun x => decide (x.block = (b : Int))).map fun x => ⟨s, x.data⟩
def histF (ws : List Write) (b : Nat) : List Ver := (ws.map fun w => verI w.seq w.items b).flatten
def zerB (n : Nat) : List Int := List.replicate n 0
def stB (v : Volume) (t : Int) (j : Nat) : List Int := if (atF (histF v.writes j) t).2 = true then (atF (histF v.writes j) t).1 else zerB v.size.toNat
def stateF (v : Volume) (t : Int) : List (List Int) × Int := if t < v.floor then ([], 30) else if (v.writes.length : Int) < t then ([], 31) else ((List.range v.blocks.toNat).map (stB v t), 0)

structure volSt (v : Volume) : Prop where
  blocks : 1 ≤ v.blocks ∧ v.blocks ≤ 256
  size : v.size ≤ 1000
  writes : v.writes.length ≤ 1000000
  items : ∀ w ∈ v.writes, w.items.length ≤ 100
  seqs : v.writes.Pairwise (fun a b => a.seq ≤ b.seq)

theorem verI_len (s : Int) (l : List Item) (b : Nat) : (verI s l b).length ≤ l.length := by simp only [verI, List.length_map]; exact List.length_filter_le ..
theorem verI_mem {s : Int} {l : List Item} {b : Nat} {v : Ver} (h : v ∈ verI s l b) : v.seq = s := by
  simp only [verI, List.mem_map] at h
  obtain ⟨x, _, rfl⟩ := h
  rfl
theorem histF_len : ∀ {ws : List Write} (b : Nat), (∀ w ∈ ws, w.items.length ≤ 100) → (histF ws b).length ≤ 100 * ws.length
  | [], b, _ => by simp [histF]
  | w :: ws, b, h => by
    have h1 := histF_len (ws := ws) b fun w hw => h w (List.mem_cons_of_mem _ hw)
    have h2 := h w (List.mem_cons_self ..)
    have h3 := verI_len w.seq w.items b
    simp only [histF, List.map_cons, List.flatten_cons, List.length_append, List.length_cons] at h1 ⊢
    omega
theorem histF_sorted : ∀ {ws : List Write} (b : Nat), ws.Pairwise (fun a b => a.seq ≤ b.seq) → (histF ws b).Pairwise (fun a b => a.seq ≤ b.seq)
  | [], b, _ => by simp [histF]
  | w :: ws, b, h => by
    obtain ⟨h1, h2⟩ := List.pairwise_cons.1 h
    have e : histF (w :: ws) b = verI w.seq w.items b ++ histF ws b := by simp [histF]
    rw [e, List.pairwise_append]
    refine ⟨?_, histF_sorted b h2, fun x hx y hy => ?_⟩
    rw [List.pairwise_iff_forall_sublist]
    intro x y hs
    have hx := verI_mem (hs.subset (List.mem_cons_self ..))
    have hy := verI_mem (hs.subset (List.mem_cons_of_mem _ (List.mem_cons_self ..)))
    omega
    have hx := verI_mem hx
    simp only [histF, List.mem_flatten, List.mem_map] at hy
    obtain ⟨l, ⟨w', hw', rfl⟩, hy⟩ := hy
    have hy := verI_mem hy
    have := h1 w' hw'
    omega
theorem histF_snoc (ws : List Write) (w : Write) (b : Nat) : histF (ws ++ [w]) b = histF ws b ++ verI w.seq w.items b := by simp [histF]
theorem verI_snoc (s : Int) (l : List Item) (x : Item) (b : Nat) : verI s (l ++ [x]) b = verI s l b ++ (if x.block = (b : Int) then [⟨s, x.data⟩] else []) := by
  simp only [verI, List.filter_append, List.map_append, List.filter_cons, List.filter_nil, decide_eq_true_eq]
  split <;> simp

/-- The rows of rows while the writes are gone through. -/
def nestE (n : Nat) (f : Nat → List Ver) : List (Option (List (List T))) := (List.range n).map fun b => some ((f b).map verC)
theorem nestE_get {n : Nat} {f : Nat → List Ver} {b : Nat} (h : b < n) : (nestE n f)[b]? = some (some ((f b).map verC)) := by
  simp [nestE, h]
theorem nestE_set {n : Nat} {f g : Nat → List Ver} {b : Nat} {es : List (List T)} (hb : es = (g b).map verC) (hg : ∀ k, k ≠ b → g k = f k) : ((nestE n f).set b none).set b (some es) = nestE n g := by
  apply List.ext_getElem?
  intro k
  subst hb
  rw [List.set_set, List.getElem?_set]
  simp only [nestE, List.length_map, List.length_range, List.getElem?_map]
  by_cases e : b = k
  subst e
  by_cases hb : b < n
  simp [hb]
  simp [hb]
  rw [if_neg e]
  by_cases hk : k < n
  simp [hk, hg k (fun e' => e e'.symm)]
  simp [hk]

theorem set_rep {α : Type} {n i : Nat} {f : Nat → α} {z y : α} (hi : i < n) (hy : y = f i) : ((List.range i).map f ++ List.replicate (n - i) z).set i y = (List.range (i + 1)).map f ++ List.replicate (n - (i + 1)) z := by
  subst hy
  rw [List.set_append, if_neg (by simp)]
  simp only [List.length_map, List.length_range, Nat.sub_self]
  rw [show n - i = (n - (i + 1)) + 1 by omega, List.replicate_succ, List.set_cons_zero, List.range_succ, List.map_append]
  simp

theorem nestE_congr {n : Nat} {f g : Nat → List Ver} (h : ∀ b, b < n → f b = g b) : nestE n f = nestE n g :=
  List.map_congr_left fun b hb => by rw [h b (by simpa using hb)]

end Go.Eng

set_option maxHeartbeats 8000000
namespace Go.Eng
open Go.Proofs

def pinsB (n : Int) : Int → List Int → Bool
  | _, [] => true
  | last, p :: l => decide (last ≤ p ∧ p ≤ n) && pinsB n p l
def wrB (blocks size : Int) : Nat → List Write → Bool
  | _, [] => true
  | i, w :: l => decide (w.seq = i + 1 ∧ itemsOK blocks size w.items) && wrB blocks size (i + 1) l
def rightB (v : Volume) : Bool :=
  decide (shapeOK v.id v.blocks v.size v.per v.place v.total) && (decide (0 ≤ v.next ∧ v.next ≤ v.total) && (decide (v.hidden = false → v.next = v.total) && (decide (v.hidden = true → v.total ≠ 0) && (decide (0 ≤ v.floor ∧ v.floor ≤ v.writes.length) && (pinsB v.writes.length v.floor v.pins && wrB v.blocks v.size 0 v.writes)))))
theorem rightB_iff (v : Volume) : rightB v = true ↔ shapeOK v.id v.blocks v.size v.per v.place v.total ∧ (0 ≤ v.next ∧ v.next ≤ v.total) ∧ (v.hidden = false → v.next = v.total) ∧ (v.hidden = true → v.total ≠ 0) ∧ (0 ≤ v.floor ∧ v.floor ≤ v.writes.length) ∧ pinsB v.writes.length v.floor v.pins = true ∧ wrB v.blocks v.size 0 v.writes = true := by
  simp only [rightB, Bool.and_eq_true, decide_eq_true_eq]

def headB' (v : Volume) : Bool := decide (shapeOK v.id v.blocks v.size v.per v.place v.total ∧ (0 ≤ v.next ∧ v.next ≤ v.total) ∧ (v.hidden = false → v.next = v.total) ∧ (v.hidden = true → v.total ≠ 0) ∧ (0 ≤ v.floor ∧ v.floor ≤ v.writes.length))
theorem headB'_iff (v : Volume) : headB' v = true ↔ (shapeOK v.id v.blocks v.size v.per v.place v.total ∧ (0 ≤ v.next ∧ v.next ≤ v.total) ∧ (v.hidden = false → v.next = v.total) ∧ (v.hidden = true → v.total ≠ 0) ∧ (0 ≤ v.floor ∧ v.floor ≤ v.writes.length)) := by simp only [headB', decide_eq_true_eq]
theorem AB_true {b : Bool} (h : b = true → False) : AB true = AB (!b) := by cases b with | true => exact absurd rfl h | false => rfl
theorem AB_dec {p : Prop} [Decidable p] {b : Bool} (h : b = true ↔ ¬ p) : AB (decide p) = AB (!b) := by
  refine congrArg (fun b => AV.t (T.k (Value.bool b))) ?_
  cases b with
  | true => exact decide_eq_false (h.1 rfl)
  | false => exact decide_eq_true (Decidable.byContradiction fun hn => by have := h.2 hn; cases this)

theorem pinsB_drop {n last : Int} {l : List Int} {i : Nat} {x : Int} (h : l[i]? = some x) : pinsB n last (l.drop i) = (decide (last ≤ x ∧ x ≤ n) && pinsB n x (l.drop (i + 1))) := by
  obtain ⟨h1, h2⟩ := List.getElem?_eq_some_iff.1 h
  rw [List.drop_eq_getElem_cons h1, h2]
  rfl
theorem wrB_drop {b s : Int} {l : List Write} {i : Nat} {x : Write} (h : l[i]? = some x) : wrB b s i (l.drop i) = (decide (x.seq = i + 1 ∧ itemsOK b s x.items) && wrB b s (i + 1) (l.drop (i + 1))) := by
  obtain ⟨h1, h2⟩ := List.getElem?_eq_some_iff.1 h
  rw [List.drop_eq_getElem_cons h1, h2]
  rfl

end Go.Eng

set_option maxHeartbeats 8000000
namespace Go.Eng
open Go.Proofs

structure PushCmd where
  vol : Int
  chunk : Int
  count : Int
  size : Int
  frm : Int
  to : Int
  floor : Int
  writes : List Write
deriving DecidableEq
def pshC (p : PushCmd) : List T := [i64 p.vol, i64 p.chunk, i64 p.count, i64 p.size, i64 p.frm, i64 p.to, i64 p.floor, writesT p.writes]
def pshZ : PushCmd := ⟨0, 0, 0, 0, 0, 0, 0, []⟩
def pushI (first count : Int) (l : List Item) : List Item := l.filterMap fun x => if 0 ≤ x.block - first ∧ x.block - first < count then some ⟨x.block - first, x.data⟩ else none
def pushW (first count : Int) (ws : List Write) : List Write := ws.filterMap fun w => if pushI first count w.items = [] then none else some ⟨w.seq, pushI first count w.items⟩
def pushOK (v : Volume) (chunk mark : Int) : Bool := decide (0 ≤ chunk ∧ chunk < v.place.length ∧ 0 ≤ mark ∧ mark ≤ v.writes.length)
def pushP (v : Volume) (chunk mark : Int) : PushCmd :=
  let count := min v.per (v.blocks - chunk * v.per)
  let to := min (mark + 4) v.writes.length
  ⟨v.id, chunk, count, v.size, mark, to, min v.floor to, pushW (chunk * v.per) count ((v.writes.take to.toNat).drop mark.toNat)⟩
def pushF (v : Volume) (chunk mark : Int) : PushCmd × Bool := if pushOK v chunk mark then (pushP v chunk mark, true) else (pshZ, false)

theorem pushI_snoc (f c : Int) (l : List Item) (x : Item) : pushI f c (l ++ [x]) = pushI f c l ++ (if 0 ≤ x.block - f ∧ x.block - f < c then [⟨x.block - f, x.data⟩] else []) := by
  simp only [pushI, List.filterMap_append, List.filterMap_cons, List.filterMap_nil]
  split <;> simp_all
theorem pushW_snoc (f c : Int) (l : List Write) (w : Write) : pushW f c (l ++ [w]) = pushW f c l ++ (if pushI f c w.items = [] then [] else [⟨w.seq, pushI f c w.items⟩]) := by
  simp only [pushW, List.filterMap_append, List.filterMap_cons, List.filterMap_nil]
  split <;> simp_all
theorem pushI_len (f c : Int) (l : List Item) : (pushI f c l).length ≤ l.length := List.length_filterMap_le ..
theorem pushW_len (f c : Int) (l : List Write) : (pushW f c l).length ≤ l.length := List.length_filterMap_le ..

theorem c_volume_Push (v : Volume) (chunk mark : Int) (hs : shapeOK v.id v.blocks v.size v.per v.place v.total) (hi0 : ∀ w ∈ v.writes, w.items.length ≤ 100 ∧ ∀ x ∈ w.items, 0 ≤ x.block ∧ x.block ≤ 1000) (hw : v.writes.length ≤ 1000000) :
    Con Tryz.prog 43 [sC (volC v), AI .i64 chunk, AI .i64 mark] [] (.tup [sC (pshC (pushF v chunk mark).1), AB (pushF v chunk mark).2]) [] := by
  refine con_intro [] [] Tryz.func43 rfl Tryz.ntmps43 Tryz.results43 rfl rfl ?_
  intro E
  have hpk : pushOK v chunk mark = true ↔ _ := decide_eq_true_iff (p := 0 ≤ chunk ∧ chunk < v.place.length ∧ 0 ≤ mark ∧ mark ≤ v.writes.length)
  unfold pushF
  obtain ⟨s1, s2, s3, s4, s5, s6, s7, s8, s9, s10, s11, s12⟩ := hs
  have hpl : (v.place.length : Int) ≤ 512 := by
    rw [s9]
    unfold chunksN
    have := Int.ediv_le_self (a := v.blocks + v.per - 1) v.per (by omega)
    omega
  refine vc_rseq mixed ?_
  refine g_new (s_box 3 rfl rfl rfl rfl) rfl ?_
  refine g_new (s_alloc 6 rfl rfl) rfl ?_
  refine g_val (s_assign rfl rfl) rfl ?_
  refine g_nil ?_
  refine vc_seq ?_
  refine vc_cut (⟨[(1, AI .i64 chunk), (2, AI .i64 mark), (3, .ref 3 0), (6, .ref 6 0), (7, AB false), (33, AB (!pushOK v chunk mark))], [(3, some (.box ((volC v).map .t))), (6, some (.box ((pshC pshZ).map .t)))], [3, 6]⟩) ?_ ?_
  refine vc_region mixed ?_
  refine g_val (s_move rfl rfl) rfl ?_
  refine g_val (s_lss rfl rfl rfl) rfl ?_
  refine g_val (s_move rfl rfl) rfl ?_
  refine g_probe (j := 17) rfl (fun c hg17 => ?_)
  cases c
  rw [← hg17]; replace hg17 := hg17.symm; replace hg17 := of_decide_eq_false hg17
  simp only [Int.not_lt] at hg17
  refine gq_val (s_move rfl rfl) rfl rfl rfl rfl ?_
  refine gq_val (s_field rfl rfl rfl rfl) rfl rfl rfl rfl ?_
  refine gq_val (s_load rfl rfl rfl rfl) rfl rfl rfl rfl ?_
  refine gq_val (s_len rfl rfl) rfl rfl rfl rfl ?_
  refine gq_val (s_geq rfl rfl rfl) rfl rfl rfl rfl ?_
  refine g_val (s_pickF rfl rfl rfl) rfl ?_
  refine g_val (s_move rfl rfl) rfl ?_
  refine g_probe (j := 24) rfl (fun c hg24 => ?_)
  cases c
  rw [← hg24]; replace hg24 := hg24.symm; replace hg24 := of_decide_eq_false hg24
  simp only [List.length_map, Int.not_le] at hg24
  refine gq_val (s_move rfl rfl) rfl rfl rfl rfl ?_
  refine gq_val (s_lss rfl rfl rfl) rfl rfl rfl rfl ?_
  refine g_val (s_pickF rfl rfl rfl) rfl ?_
  refine g_val (s_move rfl rfl) rfl ?_
  refine g_probe (j := 28) rfl (fun c hg28 => ?_)
  cases c
  rw [← hg28]; replace hg28 := hg28.symm; replace hg28 := of_decide_eq_false hg28
  simp only [Int.not_lt] at hg28
  refine gq_val (s_move rfl rfl) rfl rfl rfl rfl ?_
  refine gq_val (s_loadA rfl rfl rfl rfl rfl) rfl rfl rfl rfl ?_
  refine gq_val (s_call [] (c_volume_Len v) (evArgs_cons rfl evArgs_nil) trivial rfl (okVL_nil _) rfl (.inl rfl) rfl) rfl rfl rfl rfl ?_
  refine gq_val (s_gtr rfl rfl rfl) rfl rfl rfl rfl ?_
  refine g_val (s_pickF rfl rfl rfl) rfl ?_
  refine g_nil ?_
  exact (leE_same (by repeat (first | exact letm_nil _ _ | refine letm_cons rfl ?_ ?_ | exact .same _ | exact .nl (by decide) (by decide) | exact .nn | exact .id' rfl | exact .id' (by first | (exact AB_true fun hh => by have := hpk.1 hh; first | omega | (simp only [List.length_map] at *; omega)) | exact AB_dec ⟨fun hh => by have := hpk.1 hh; omega, fun hn => hpk.2 (by omega)⟩))) (by repeat (first | exact lehp_nil _ _ | refine lehp_cons rfl ?_ ?_ | exact leB_same _ | exact leB_row (by first | rfl | (first | (exact AB_true fun hh => by have := hpk.1 hh; first | omega | (simp only [List.length_map] at *; omega)) | exact AB_dec ⟨fun hh => by have := hpk.1 hh; omega, fun hn => hpk.2 (by omega)⟩)) | exact leB_obj (by first | (exact AB_true fun hh => by have := hpk.1 hh; first | omega | (simp only [List.length_map] at *; omega)) | exact AB_dec ⟨fun hh => by have := hpk.1 hh; omega, fun hn => hpk.2 (by omega)⟩) | exact leB_nest (by first | rfl | (first | (exact AB_true fun hh => by have := hpk.1 hh; first | omega | (simp only [List.length_map] at *; omega)) | exact AB_dec ⟨fun hh => by have := hpk.1 hh; omega, fun hn => hpk.2 (by omega)⟩)) | refine leB_box ?_ | exact leL_nil | refine leL_cons ?_ ?_ | exact .same _ | exact .nl (by decide) (by decide) | exact .nn | exact .id' rfl | exact .id' (by first | (exact AB_true fun hh => by have := hpk.1 hh; first | omega | (simp only [List.length_map] at *; omega)) | exact AB_dec ⟨fun hh => by have := hpk.1 hh; omega, fun hn => hpk.2 (by omega)⟩))) rfl)
  rw [← hg28]; replace hg28 := hg28.symm; replace hg28 := of_decide_eq_true hg28
  refine gn_val rfl rfl rfl rfl rfl rfl (by decide) ?_
  refine gn_val rfl rfl rfl rfl rfl rfl (by decide) ?_
  refine gn_val rfl rfl rfl rfl rfl rfl (by decide) ?_
  refine gn_val rfl rfl rfl rfl rfl rfl (by decide) ?_
  refine g_val (s_pickT rfl rfl rfl) rfl ?_
  refine g_nil ?_
  exact (leE_same (by repeat (first | exact letm_nil _ _ | refine letm_cons rfl ?_ ?_ | exact .same _ | exact .nl (by decide) (by decide) | exact .nn | exact .id' rfl | exact .id' (by first | (exact AB_true fun hh => by have := hpk.1 hh; first | omega | (simp only [List.length_map] at *; omega)) | exact AB_dec ⟨fun hh => by have := hpk.1 hh; omega, fun hn => hpk.2 (by omega)⟩))) (by repeat (first | exact lehp_nil _ _ | refine lehp_cons rfl ?_ ?_ | exact leB_same _ | exact leB_row (by first | rfl | (first | (exact AB_true fun hh => by have := hpk.1 hh; first | omega | (simp only [List.length_map] at *; omega)) | exact AB_dec ⟨fun hh => by have := hpk.1 hh; omega, fun hn => hpk.2 (by omega)⟩)) | exact leB_obj (by first | (exact AB_true fun hh => by have := hpk.1 hh; first | omega | (simp only [List.length_map] at *; omega)) | exact AB_dec ⟨fun hh => by have := hpk.1 hh; omega, fun hn => hpk.2 (by omega)⟩) | exact leB_nest (by first | rfl | (first | (exact AB_true fun hh => by have := hpk.1 hh; first | omega | (simp only [List.length_map] at *; omega)) | exact AB_dec ⟨fun hh => by have := hpk.1 hh; omega, fun hn => hpk.2 (by omega)⟩)) | refine leB_box ?_ | exact leL_nil | refine leL_cons ?_ ?_ | exact .same _ | exact .nl (by decide) (by decide) | exact .nn | exact .id' rfl | exact .id' (by first | (exact AB_true fun hh => by have := hpk.1 hh; first | omega | (simp only [List.length_map] at *; omega)) | exact AB_dec ⟨fun hh => by have := hpk.1 hh; omega, fun hn => hpk.2 (by omega)⟩))) rfl)
  rw [← hg24]; replace hg24 := hg24.symm; replace hg24 := of_decide_eq_true hg24
  simp only [List.length_map] at hg24
  refine gn_val rfl rfl rfl rfl rfl rfl (by decide) ?_
  refine gn_val rfl rfl rfl rfl rfl rfl (by decide) ?_
  refine g_val (s_pickT rfl rfl rfl) rfl ?_
  refine g_val (s_move rfl rfl) rfl ?_
  refine gn_val rfl rfl rfl rfl rfl rfl (by decide) ?_
  refine gn_val rfl rfl rfl rfl rfl rfl (by decide) ?_
  refine gn_val rfl rfl rfl rfl rfl rfl (by decide) ?_
  refine gn_val rfl rfl rfl rfl rfl rfl (by decide) ?_
  refine g_val (s_pickT rfl rfl rfl) rfl ?_
  refine g_nil ?_
  exact (leE_same (by repeat (first | exact letm_nil _ _ | refine letm_cons rfl ?_ ?_ | exact .same _ | exact .nl (by decide) (by decide) | exact .nn | exact .id' rfl | exact .id' (by first | (exact AB_true fun hh => by have := hpk.1 hh; first | omega | (simp only [List.length_map] at *; omega)) | exact AB_dec ⟨fun hh => by have := hpk.1 hh; omega, fun hn => hpk.2 (by omega)⟩))) (by repeat (first | exact lehp_nil _ _ | refine lehp_cons rfl ?_ ?_ | exact leB_same _ | exact leB_row (by first | rfl | (first | (exact AB_true fun hh => by have := hpk.1 hh; first | omega | (simp only [List.length_map] at *; omega)) | exact AB_dec ⟨fun hh => by have := hpk.1 hh; omega, fun hn => hpk.2 (by omega)⟩)) | exact leB_obj (by first | (exact AB_true fun hh => by have := hpk.1 hh; first | omega | (simp only [List.length_map] at *; omega)) | exact AB_dec ⟨fun hh => by have := hpk.1 hh; omega, fun hn => hpk.2 (by omega)⟩) | exact leB_nest (by first | rfl | (first | (exact AB_true fun hh => by have := hpk.1 hh; first | omega | (simp only [List.length_map] at *; omega)) | exact AB_dec ⟨fun hh => by have := hpk.1 hh; omega, fun hn => hpk.2 (by omega)⟩)) | refine leB_box ?_ | exact leL_nil | refine leL_cons ?_ ?_ | exact .same _ | exact .nl (by decide) (by decide) | exact .nn | exact .id' rfl | exact .id' (by first | (exact AB_true fun hh => by have := hpk.1 hh; first | omega | (simp only [List.length_map] at *; omega)) | exact AB_dec ⟨fun hh => by have := hpk.1 hh; omega, fun hn => hpk.2 (by omega)⟩))) rfl)
  rw [← hg17]; replace hg17 := hg17.symm; replace hg17 := of_decide_eq_true hg17
  refine gn_val rfl rfl rfl rfl rfl rfl (by decide) ?_
  refine gn_val rfl rfl rfl rfl rfl rfl (by decide) ?_
  refine gn_val rfl rfl rfl rfl rfl rfl (by decide) ?_
  refine gn_val rfl rfl rfl rfl rfl rfl (by decide) ?_
  refine gn_val rfl rfl rfl rfl rfl rfl (by decide) ?_
  refine g_val (s_pickT rfl rfl rfl) rfl ?_
  refine g_val (s_move rfl rfl) rfl ?_
  refine gn_val rfl rfl rfl rfl rfl rfl (by decide) ?_
  refine gn_val rfl rfl rfl rfl rfl rfl (by decide) ?_
  refine g_val (s_pickT rfl rfl rfl) rfl ?_
  refine g_val (s_move rfl rfl) rfl ?_
  refine gn_val rfl rfl rfl rfl rfl rfl (by decide) ?_
  refine gn_val rfl rfl rfl rfl rfl rfl (by decide) ?_
  refine gn_val rfl rfl rfl rfl rfl rfl (by decide) ?_
  refine gn_val rfl rfl rfl rfl rfl rfl (by decide) ?_
  refine g_val (s_pickT rfl rfl rfl) rfl ?_
  refine g_nil ?_
  exact (leE_same (by repeat (first | exact letm_nil _ _ | refine letm_cons rfl ?_ ?_ | exact .same _ | exact .nl (by decide) (by decide) | exact .nn | exact .id' rfl | exact .id' (by first | (exact AB_true fun hh => by have := hpk.1 hh; first | omega | (simp only [List.length_map] at *; omega)) | exact AB_dec ⟨fun hh => by have := hpk.1 hh; omega, fun hn => hpk.2 (by omega)⟩))) (by repeat (first | exact lehp_nil _ _ | refine lehp_cons rfl ?_ ?_ | exact leB_same _ | exact leB_row (by first | rfl | (first | (exact AB_true fun hh => by have := hpk.1 hh; first | omega | (simp only [List.length_map] at *; omega)) | exact AB_dec ⟨fun hh => by have := hpk.1 hh; omega, fun hn => hpk.2 (by omega)⟩)) | exact leB_obj (by first | (exact AB_true fun hh => by have := hpk.1 hh; first | omega | (simp only [List.length_map] at *; omega)) | exact AB_dec ⟨fun hh => by have := hpk.1 hh; omega, fun hn => hpk.2 (by omega)⟩) | exact leB_nest (by first | rfl | (first | (exact AB_true fun hh => by have := hpk.1 hh; first | omega | (simp only [List.length_map] at *; omega)) | exact AB_dec ⟨fun hh => by have := hpk.1 hh; omega, fun hn => hpk.2 (by omega)⟩)) | refine leB_box ?_ | exact leL_nil | refine leL_cons ?_ ?_ | exact .same _ | exact .nl (by decide) (by decide) | exact .nn | exact .id' rfl | exact .id' (by first | (exact AB_true fun hh => by have := hpk.1 hh; first | omega | (simp only [List.length_map] at *; omega)) | exact AB_dec ⟨fun hh => by have := hpk.1 hh; omega, fun hn => hpk.2 (by omega)⟩))) rfl)
  refine vc_cond rfl (fun hc33 => ?_) (fun hc33 => ?_)
  simp only [Bool.not_eq_true'] at hc33
  rw [show pushOK v chunk mark = false by simpa using hc33, if_neg (by decide)]
  refine vc_rseq mixed ?_
  refine g_val (s_build evArgs_nil rfl rfl rfl) rfl ?_
  refine g_sto (s_store rfl rfl rfl rfl rfl rfl) rfl ?_
  refine g_val (s_assign rfl rfl) rfl ?_
  refine g_nil ?_
  exact vc_ret (ret_le [] _ (.cons (.agg rfl rfl rfl rfl) (.cons (.tmp rfl) .nil)) trivial (by repeat (first | exact leL_nil | refine leL_cons ?_ ?_ | exact LeV.tt rfl | exact .nl (by decide) (by decide) | exact .nn | refine LeV.tupL ?_ | refine LeV.aggL ?_ | exact .eq (by first | exact trivial | (simp [AV.okV, okR, lkB]; done) | (simp [AV.okV, okR, lkB]; omega)) (by first | rfl | (simp [AV.view, viewR, lkB, AV.ren, List.take_of_length_le]; done) | (simp [AV.view, viewR, lkB, AV.ren, List.take_of_length_le]; done)))) rfl)
  simp only [Bool.not_eq_false'] at hc33
  refine vc_skip ?_
  have hpt : pushOK v chunk mark = true := by simpa using hc33
  obtain ⟨p1, p2, p3, p4⟩ := hpk.1 hpt
  rw [if_pos hpt]
  have hf0 : 0 ≤ chunk * v.per := Int.mul_nonneg p1 (by omega)
  have hf1 : chunk * v.per ≤ 512 * 256 := Int.mul_le_mul (by omega) (by omega) (by omega) (by omega)
  unfold pushP
  generalize hcnt : min v.per (v.blocks - chunk * v.per) = count
  generalize hto : min (mark + 4) (v.writes.length : Int) = to
  generalize hfl : min v.floor to = fl
  generalize hfi : chunk * v.per = first at *
  refine vc_rseq mixed ?_
  refine g_val (s_move rfl rfl) rfl ?_
  refine g_val (s_field rfl rfl rfl rfl) rfl ?_
  refine g_val (s_load rfl rfl rfl rfl) rfl ?_
  refine g_val (s_mul rfl rfl rfl (by simp only [inI, kMin, kMax]; omega)) rfl ?_
  refine g_val (s_assign rfl rfl) rfl ?_
  refine g_nil ?_
  refine vc_rseq mixed ?_
  refine d_val (s_field rfl rfl rfl rfl) rfl ?_
  refine d_val (s_load rfl rfl rfl rfl) rfl ?_
  refine d_val (s_move rfl rfl) rfl ?_
  refine d_val (s_field rfl rfl rfl rfl) rfl ?_
  refine d_val (s_load rfl rfl rfl rfl) rfl ?_
  refine d_val (s_field rfl rfl rfl rfl) rfl ?_
  refine d_val (s_load rfl rfl rfl rfl) rfl ?_
  refine d_val (s_move rfl rfl) rfl ?_
  refine d_val (s_sub rfl rfl rfl (by simp only [inI, kMin, kMax]; omega)) rfl ?_
  refine d_val (s_min rfl rfl rfl) rfl ?_
  refine d_val (s_field rfl rfl rfl rfl) rfl ?_
  refine d_val (s_load rfl rfl rfl rfl) rfl ?_
  refine d_val (s_move rfl rfl) rfl ?_
  refine d_val (s_move rfl rfl) rfl ?_
  refine d_val (s_add rfl rfl rfl (by simp only [inI, kMin, kMax]; omega)) rfl ?_
  refine d_val (s_loadA rfl rfl rfl rfl rfl) rfl ?_
  refine d_val (s_call [] (c_volume_Len v) (evArgs_cons rfl evArgs_nil) trivial rfl (okVL_nil _) rfl (.inl rfl) rfl) rfl ?_
  refine d_val (s_min rfl rfl rfl) rfl ?_
  refine d_val (s_build (evArgs_cons rfl (evArgs_cons rfl (evArgs_cons rfl (evArgs_cons rfl (evArgs_cons rfl (evArgs_cons rfl evArgs_nil)))))) rfl rfl rfl) rfl ?_
  refine d_new (s_alloc 9 rfl rfl) rfl ?_
  refine d_sto (s_store rfl rfl rfl rfl rfl rfl) rfl ?_
  refine d_nil rfl ?_
  refine vc_rseq mixed ?_
  refine g_val (s_field rfl rfl rfl rfl) rfl ?_
  refine g_val (s_load rfl rfl rfl rfl) rfl ?_
  refine g_val (s_field rfl rfl rfl rfl) rfl ?_
  refine g_val (s_load rfl rfl rfl rfl) rfl ?_
  refine g_val (s_min rfl rfl rfl) rfl ?_
  refine g_val (s_field rfl rfl rfl rfl) rfl ?_
  refine g_sto (s_store rfl rfl rfl rfl rfl rfl) rfl ?_
  refine g_nil ?_
  refine vc_seq ?_
  refine vc_ownnilB (q0 := 9) 7 7 2 32 rfl rfl rfl rfl ?_
  generalize hsub : (v.writes.take to.toNat).drop mark.toNat = sub
  have hsl : sub.length ≤ v.writes.length := by rw [← hsub]; simp; omega
  refine vc_rseq mixed ?_
  refine g_val (s_field rfl rfl rfl rfl) rfl ?_
  refine g_val (s_load rfl rfl rfl rfl) rfl ?_
  refine g_val (s_field rfl rfl rfl rfl) rfl ?_
  refine g_val (s_load rfl rfl rfl rfl) rfl ?_
  refine g_val (s_field rfl rfl rfl rfl) rfl ?_
  refine g_val (s_load rfl rfl rfl rfl) rfl ?_
  refine g_val (s_slice (some (.i64, mark)) (some (.i64, min (mark + 4) (v.writes.length : Int))) rfl rfl rfl rfl (by simp; omega) (by simp; omega) (by simp [optN]; omega)) rfl ?_
  refine g_val (s_len rfl rfl) rfl ?_
  refine g_val (s_move rfl rfl) rfl ?_
  refine g_nil ?_
  refine vc_block ?_
  refine vc_up sub.length (fun i => ⟨[(6, .ref 6 0), (8, AI .i64 first), (9, .ref 9 0), (70, .t (writesT sub)), (71, AI .i64 sub.length), (72, AI .i64 i)], [(6, some (.box ((pshC pshZ).map .t))), (9, some (.box [.t (i64 v.id), AI .i64 chunk, AI .i64 count, .t (i64 v.size), AI .i64 mark, AI .i64 to, AI .i64 fl, .rows 7 2 0 (pushW first count (sub.take i)).length])), (7, some (.row 2 32 ((pushW first count (sub.take i)).map writeC)))], [6, 9, 7]⟩) (fun i => True) (leE_same (by repeat (first | exact letm_nil _ _ | refine letm_cons rfl ?_ ?_ | exact .same _ | exact .nl (by decide) (by decide) | exact .nn | exact .id' rfl | exact .id' (by first | (simp; done) | (simp [hfi, hcnt, hto, hfl]; done) | (simp [pushW]; done) | (simp [writesT, optN, ← hsub, hto, List.map_take, List.map_drop]; done) | (simp [optN, ← hsub, hto]; done)))) (by repeat (first | exact lehp_nil _ _ | refine lehp_cons rfl ?_ ?_ | exact leB_same _ | exact leB_row (by first | rfl | (first | (simp; done) | (simp [hfi, hcnt, hto, hfl]; done) | (simp [pushW]; done) | (simp [writesT, optN, ← hsub, hto, List.map_take, List.map_drop]; done) | (simp [optN, ← hsub, hto]; done))) | exact leB_obj (by first | (simp; done) | (simp [hfi, hcnt, hto, hfl]; done) | (simp [pushW]; done) | (simp [writesT, optN, ← hsub, hto, List.map_take, List.map_drop]; done) | (simp [optN, ← hsub, hto]; done)) | exact leB_nest (by first | rfl | (first | (simp; done) | (simp [hfi, hcnt, hto, hfl]; done) | (simp [pushW]; done) | (simp [writesT, optN, ← hsub, hto, List.map_take, List.map_drop]; done) | (simp [optN, ← hsub, hto]; done))) | refine leB_box ?_ | exact leL_nil | refine leL_cons ?_ ?_ | exact .same _ | exact .nl (by decide) (by decide) | exact .nn | exact .id' rfl | exact .id' (by first | (simp; done) | (simp [hfi, hcnt, hto, hfl]; done) | (simp [pushW]; done) | (simp [writesT, optN, ← hsub, hto, List.map_take, List.map_drop]; done) | (simp [optN, ← hsub, hto]; done)))) rfl) trivial (fun i hi _ => ?_)
  refine vc_rseq mixed ?_
  refine g_val (s_lss rfl rfl rfl) rfl ?_
  refine g_nil ?_
  refine vc_seq ?_
  refine vc_cond rfl (fun hc73 => ?_) (fun hc73 => ?_)
  replace hc73 := of_decide_eq_true hc73
  obtain ⟨w, hw⟩ := get_of_lt (l := sub) (i := i) (by omega)
  have hwm : w ∈ v.writes := by have := List.mem_of_getElem? hw; rw [← hsub] at this; exact List.mem_of_mem_take (List.mem_of_mem_drop this)
  obtain ⟨hwi, hwb⟩ := hi0 w hwm
  have hpw := pushW_len first count (sub.take i)
  simp only [List.length_take] at hpw
  refine vc_skip ?_
  refine vc_seq ?_
  refine vc_block ?_
  refine vc_rseq mixed ?_
  refine g_val (s_index rfl rfl rfl (by omega) (idx_map hw)) rfl ?_
  refine g_val (s_loadTA rfl rfl rfl) rfl ?_
  refine g_new (s_alloc 11 rfl rfl) rfl ?_
  refine g_sto (s_store rfl rfl rfl rfl rfl rfl) rfl ?_
  refine g_nil ?_
  refine vc_rseq mixed ?_
  refine g_val (s_assign rfl rfl) rfl ?_
  refine g_nil ?_
  refine vc_seq ?_
  refine vc_ownnil (i := 12) 12 2 32 rfl rfl rfl ?_
  refine vc_rseq mixed ?_
  refine g_val (s_field rfl rfl rfl rfl) rfl ?_
  refine g_val (s_load rfl rfl rfl rfl) rfl ?_
  refine g_val (s_call [] (c_volume_items w.items) (evArgs_cons rfl evArgs_nil) trivial rfl (okVL_nil _) rfl (.inl rfl) rfl) rfl ?_
  refine g_val (s_len rfl rfl) rfl ?_
  refine g_val (s_move rfl rfl) rfl ?_
  refine g_nil ?_
  refine vc_block ?_
  refine vc_up w.items.length (fun k => ⟨[(6, .ref 6 0), (8, AI .i64 first), (9, .ref 9 0), (11, .ref 11 0), (12, .rows 12 2 0 (pushI first count (w.items.take k)).length), (70, .t (writesT sub)), (71, AI .i64 sub.length), (72, AI .i64 i), (78, .t (itemsT w.items)), (79, AI .i64 w.items.length), (80, AI .i64 k)], [(6, some (.box ((pshC pshZ).map .t))), (9, some (.box [.t (i64 v.id), AI .i64 chunk, AI .i64 count, .t (i64 v.size), AI .i64 mark, AI .i64 to, AI .i64 fl, .rows 7 2 0 (pushW first count (sub.take i)).length])), (7, some (.row 2 32 ((pushW first count (sub.take i)).map writeC))), (11, some (.box ((writeC w).map .t))), (12, some (.row 2 32 ((pushI first count (w.items.take k)).map itemC)))], [6, 9, 7, 11, 12]⟩) (fun k => True) (leE_same (by repeat (first | exact letm_nil _ _ | refine letm_cons rfl ?_ ?_ | exact .same _ | exact .nl (by decide) (by decide) | exact .nn | exact .id' rfl | exact .id' (by first | (simp; done) | (simp [pushI]; done)))) (by repeat (first | exact lehp_nil _ _ | refine lehp_cons rfl ?_ ?_ | exact leB_same _ | exact leB_row (by first | rfl | (first | (simp; done) | (simp [pushI]; done))) | exact leB_obj (by first | (simp; done) | (simp [pushI]; done)) | exact leB_nest (by first | rfl | (first | (simp; done) | (simp [pushI]; done))) | refine leB_box ?_ | exact leL_nil | refine leL_cons ?_ ?_ | exact .same _ | exact .nl (by decide) (by decide) | exact .nn | exact .id' rfl | exact .id' (by first | (simp; done) | (simp [pushI]; done)))) rfl) trivial (fun k hk _ => ?_)
  refine vc_rseq mixed ?_
  refine g_val (s_lss rfl rfl rfl) rfl ?_
  refine g_nil ?_
  refine vc_seq ?_
  refine vc_cond rfl (fun hc81 => ?_) (fun hc81 => ?_)
  replace hc81 := of_decide_eq_true hc81
  obtain ⟨x, hx⟩ := get_of_lt (l := w.items) (i := k) (by omega)
  have hxb := hwb x (List.mem_of_getElem? hx)
  have hpi := pushI_len first count (w.items.take k)
  simp only [List.length_take] at hpi
  refine vc_skip ?_
  refine vc_seq ?_
  refine vc_block ?_
  refine vc_rseq mixed ?_
  refine g_val (s_index rfl rfl rfl (by omega) (idx_map hx)) rfl ?_
  refine g_val (s_loadTA rfl rfl rfl) rfl ?_
  refine g_new (s_alloc 14 rfl rfl) rfl ?_
  refine g_sto (s_store rfl rfl rfl rfl rfl rfl) rfl ?_
  refine g_nil ?_
  refine vc_rseq mixed ?_
  refine g_val (s_field rfl rfl rfl rfl) rfl ?_
  refine g_val (s_load rfl rfl rfl rfl) rfl ?_
  refine g_val (s_move rfl rfl) rfl ?_
  refine g_val (s_sub rfl rfl rfl (by simp only [inI, kMin, kMax]; omega)) rfl ?_
  refine g_val (s_field rfl rfl rfl rfl) rfl ?_
  refine g_sto (s_store rfl rfl rfl rfl rfl rfl) rfl ?_
  refine g_nil ?_
  refine vc_rseq mixed ?_
  refine g_val (s_field rfl rfl rfl rfl) rfl ?_
  refine g_val (s_load rfl rfl rfl rfl) rfl ?_
  refine g_val (s_geq rfl rfl rfl) rfl ?_
  refine g_val (s_move rfl rfl) rfl ?_
  refine g_probe (j := 92) rfl (fun c hg92 => ?_)
  cases c
  rw [← hg92]; replace hg92 := hg92.symm; replace hg92 := of_decide_eq_false hg92
  simp only [Int.not_le] at hg92
  refine gn_val rfl rfl rfl rfl rfl rfl (by decide) ?_
  refine gn_val rfl rfl rfl rfl rfl rfl (by decide) ?_
  refine gn_val rfl rfl rfl rfl rfl rfl (by decide) ?_
  refine gn_val rfl rfl rfl rfl rfl rfl (by decide) ?_
  refine gn_val rfl rfl rfl rfl rfl rfl (by decide) ?_
  refine g_val (s_pickF rfl rfl rfl) rfl ?_
  refine g_nil ?_
  refine vc_cond rfl (fun h => by cases h) (fun _ => ?_)
  refine vc_skip ?_
  refine vc_region mixed ?_
  refine g_val (s_add rfl rfl rfl (by simp only [inI, kMin, kMax]; omega)) rfl ?_
  refine g_val (s_move rfl rfl) rfl ?_
  refine g_nil ?_
  first
  | exact ⟨by omega, trivial, by
      rw [show pushI first count (w.items.take (k + 1)) = pushI first count (w.items.take k) ++ [⟨x.block - first, x.data⟩] by rw [take_snoc hx, pushI_snoc, if_pos (by omega)]]
      simp only [List.length_append, List.length_cons, List.length_nil]
      exact (leE_gen [] [(12, 102)] (by repeat (first | exact letm_nil _ _ | refine letm_cons rfl ?_ ?_ | exact LeV.tt rfl | exact .eq (okV_nil _) rfl | exact LeV.tt (by rw [List.take_of_length_le (by simp)]; simp [itemC, i64, bytesT]) | exact .eq (okV_nil _) (by rw [List.take_of_length_le (by simp)]; simp [itemC, i64, bytesT]))) (by repeat (first | exact lehp_nil _ _ | refine lehp_cons rfl ?_ ?_ | exact leB_row (by first | rfl | (rw [List.take_of_length_le (by simp)]; simp [itemC, i64, bytesT])) | exact leB_obj (by rw [List.take_of_length_le (by simp)]; simp [itemC, i64, bytesT]) | exact leB_nest (by first | rfl | (rw [List.take_of_length_le (by simp)]; simp [itemC, i64, bytesT])) | refine leB_box ?_ | exact leL_nil | refine leL_cons ?_ ?_ | exact LeV.tt rfl | exact .eq (okV_nil _) rfl | exact LeV.tt (by rw [List.take_of_length_le (by simp)]; simp [itemC, i64, bytesT]) | exact .eq (okV_nil _) (by rw [List.take_of_length_le (by simp)]; simp [itemC, i64, bytesT]))) trivial rfl)⟩
  | exact ⟨by omega, trivial, by
      rw [show pushI first count (w.items.take (k + 1)) = pushI first count (w.items.take k) by rw [take_snoc hx, pushI_snoc, if_neg (by omega), List.append_nil]]
      exact (leE_same (by repeat (first | exact letm_nil _ _ | refine letm_cons rfl ?_ ?_ | exact .same _ | exact .nl (by decide) (by decide) | exact .nn | exact .id' rfl | exact .id' (by simp; done))) (by repeat (first | exact lehp_nil _ _ | refine lehp_cons rfl ?_ ?_ | exact leB_same _ | exact leB_row (by first | rfl | (simp; done)) | exact leB_obj (by simp; done) | exact leB_nest (by first | rfl | (simp; done)) | refine leB_box ?_ | exact leL_nil | refine leL_cons ?_ ?_ | exact .same _ | exact .nl (by decide) (by decide) | exact .nn | exact .id' rfl | exact .id' (by simp; done))) rfl)⟩
  rw [← hg92]; replace hg92 := hg92.symm; replace hg92 := of_decide_eq_true hg92
  refine gq_val (s_field rfl rfl rfl rfl) rfl rfl rfl rfl ?_
  refine gq_val (s_load rfl rfl rfl rfl) rfl rfl rfl rfl ?_
  refine gq_val (s_field rfl rfl rfl rfl) rfl rfl rfl rfl ?_
  refine gq_val (s_load rfl rfl rfl rfl) rfl rfl rfl rfl ?_
  refine gq_val (s_lss rfl rfl rfl) rfl rfl rfl rfl ?_
  refine g_val (s_pickT rfl rfl rfl) rfl ?_
  refine g_nil ?_
  refine vc_cond rfl (fun hc98 => ?_) (fun hc98 => ?_)
  replace hc98 := of_decide_eq_true hc98
  refine vc_region mixed ?_
  refine g_val (s_move rfl rfl) rfl ?_
  refine g_val (s_loadA rfl rfl rfl rfl rfl) rfl ?_
  refine g_fz ((s_buildSlice 101 (evArgs_cons rfl evArgs_nil) rfl rfl rfl rfl).fzE rfl) rfl ?_
  refine g_app (s_append 102 rfl rfl rfl rfl rfl (by simp) rfl rfl (by (try simp only [List.length_cons, List.length_nil]); omega)) rfl ?_
  refine g_val (s_assign rfl rfl) rfl ?_
  refine g_nil ?_
  refine vc_region mixed ?_
  refine g_val (s_add rfl rfl rfl (by simp only [inI, kMin, kMax]; omega)) rfl ?_
  refine g_val (s_move rfl rfl) rfl ?_
  refine g_nil ?_
  first
  | exact ⟨by omega, trivial, by
      rw [show pushI first count (w.items.take (k + 1)) = pushI first count (w.items.take k) ++ [⟨x.block - first, x.data⟩] by rw [take_snoc hx, pushI_snoc, if_pos (by omega)]]
      simp only [List.length_append, List.length_cons, List.length_nil]
      exact (leE_gen [] [(12, 102)] (by repeat (first | exact letm_nil _ _ | refine letm_cons rfl ?_ ?_ | exact LeV.tt rfl | exact .eq (okV_nil _) rfl | exact LeV.tt (by rw [List.take_of_length_le (by simp)]; simp [itemC, i64, bytesT]) | exact .eq (okV_nil _) (by rw [List.take_of_length_le (by simp)]; simp [itemC, i64, bytesT]))) (by repeat (first | exact lehp_nil _ _ | refine lehp_cons rfl ?_ ?_ | exact leB_row (by first | rfl | (rw [List.take_of_length_le (by simp)]; simp [itemC, i64, bytesT])) | exact leB_obj (by rw [List.take_of_length_le (by simp)]; simp [itemC, i64, bytesT]) | exact leB_nest (by first | rfl | (rw [List.take_of_length_le (by simp)]; simp [itemC, i64, bytesT])) | refine leB_box ?_ | exact leL_nil | refine leL_cons ?_ ?_ | exact LeV.tt rfl | exact .eq (okV_nil _) rfl | exact LeV.tt (by rw [List.take_of_length_le (by simp)]; simp [itemC, i64, bytesT]) | exact .eq (okV_nil _) (by rw [List.take_of_length_le (by simp)]; simp [itemC, i64, bytesT]))) trivial rfl)⟩
  | exact ⟨by omega, trivial, by
      rw [show pushI first count (w.items.take (k + 1)) = pushI first count (w.items.take k) by rw [take_snoc hx, pushI_snoc, if_neg (by omega), List.append_nil]]
      exact (leE_same (by repeat (first | exact letm_nil _ _ | refine letm_cons rfl ?_ ?_ | exact .same _ | exact .nl (by decide) (by decide) | exact .nn | exact .id' rfl | exact .id' (by simp; done))) (by repeat (first | exact lehp_nil _ _ | refine lehp_cons rfl ?_ ?_ | exact leB_same _ | exact leB_row (by first | rfl | (simp; done)) | exact leB_obj (by simp; done) | exact leB_nest (by first | rfl | (simp; done)) | refine leB_box ?_ | exact leL_nil | refine leL_cons ?_ ?_ | exact .same _ | exact .nl (by decide) (by decide) | exact .nn | exact .id' rfl | exact .id' (by simp; done))) rfl)⟩
  replace hc98 := of_decide_eq_false hc98
  simp only [Int.not_lt] at hc98
  refine vc_skip ?_
  refine vc_region mixed ?_
  refine g_val (s_add rfl rfl rfl (by simp only [inI, kMin, kMax]; omega)) rfl ?_
  refine g_val (s_move rfl rfl) rfl ?_
  refine g_nil ?_
  first
  | exact ⟨by omega, trivial, by
      rw [show pushI first count (w.items.take (k + 1)) = pushI first count (w.items.take k) ++ [⟨x.block - first, x.data⟩] by rw [take_snoc hx, pushI_snoc, if_pos (by omega)]]
      simp only [List.length_append, List.length_cons, List.length_nil]
      exact (leE_gen [] [(12, 102)] (by repeat (first | exact letm_nil _ _ | refine letm_cons rfl ?_ ?_ | exact LeV.tt rfl | exact .eq (okV_nil _) rfl | exact LeV.tt (by rw [List.take_of_length_le (by simp)]; simp [itemC, i64, bytesT]) | exact .eq (okV_nil _) (by rw [List.take_of_length_le (by simp)]; simp [itemC, i64, bytesT]))) (by repeat (first | exact lehp_nil _ _ | refine lehp_cons rfl ?_ ?_ | exact leB_row (by first | rfl | (rw [List.take_of_length_le (by simp)]; simp [itemC, i64, bytesT])) | exact leB_obj (by rw [List.take_of_length_le (by simp)]; simp [itemC, i64, bytesT]) | exact leB_nest (by first | rfl | (rw [List.take_of_length_le (by simp)]; simp [itemC, i64, bytesT])) | refine leB_box ?_ | exact leL_nil | refine leL_cons ?_ ?_ | exact LeV.tt rfl | exact .eq (okV_nil _) rfl | exact LeV.tt (by rw [List.take_of_length_le (by simp)]; simp [itemC, i64, bytesT]) | exact .eq (okV_nil _) (by rw [List.take_of_length_le (by simp)]; simp [itemC, i64, bytesT]))) trivial rfl)⟩
  | exact ⟨by omega, trivial, by
      rw [show pushI first count (w.items.take (k + 1)) = pushI first count (w.items.take k) by rw [take_snoc hx, pushI_snoc, if_neg (by omega), List.append_nil]]
      exact (leE_same (by repeat (first | exact letm_nil _ _ | refine letm_cons rfl ?_ ?_ | exact .same _ | exact .nl (by decide) (by decide) | exact .nn | exact .id' rfl | exact .id' (by simp; done))) (by repeat (first | exact lehp_nil _ _ | refine lehp_cons rfl ?_ ?_ | exact leB_same _ | exact leB_row (by first | rfl | (simp; done)) | exact leB_obj (by simp; done) | exact leB_nest (by first | rfl | (simp; done)) | refine leB_box ?_ | exact leL_nil | refine leL_cons ?_ ?_ | exact .same _ | exact .nl (by decide) (by decide) | exact .nn | exact .id' rfl | exact .id' (by simp; done))) rfl)⟩
  replace hc81 := of_decide_eq_false hc81
  simp only [Int.not_lt] at hc81
  refine vc_exit ?_
  obtain rfl : k = w.items.length := by omega
  rw [List.take_length]
  refine vc_rseq mixed ?_
  refine g_val (s_move rfl rfl) rfl ?_
  refine g_val (s_lenR rfl rfl (by first | omega | (simp; done) | (simp; omega)) rfl) rfl ?_
  refine g_val (s_gtr rfl rfl rfl) rfl ?_
  refine g_nil ?_
  refine vc_cond rfl (fun hc106 => ?_) (fun hc106 => ?_)
  replace hc106 := of_decide_eq_true hc106
  refine vc_freezeE 12 rfl rfl (by simp) ?_
  refine vc_region mixed ?_
  refine g_val (s_field rfl rfl rfl rfl) rfl ?_
  refine g_val (s_load rfl rfl rfl rfl) rfl ?_
  refine g_val (s_field rfl rfl rfl rfl) rfl ?_
  refine g_val (s_load rfl rfl rfl rfl) rfl ?_
  refine g_val (s_move rfl rfl) rfl ?_
  refine g_val (s_build (evArgs_cons rfl (evArgs_cons rfl evArgs_nil)) rfl rfl rfl) rfl ?_
  refine g_fz ((s_buildSlice 113 (evArgs_cons rfl evArgs_nil) rfl rfl rfl rfl).fzE rfl) rfl ?_
  refine g_app (s_append 114 rfl rfl rfl rfl rfl (by simp) rfl rfl (by (try simp only [List.length_cons, List.length_nil]); omega)) rfl ?_
  refine g_val (s_field rfl rfl rfl rfl) rfl ?_
  refine g_sto (s_store rfl rfl rfl rfl rfl rfl) rfl ?_
  refine g_nil ?_
  refine vc_region mixed ?_
  refine g_val (s_add rfl rfl rfl (by simp only [inI, kMin, kMax]; omega)) rfl ?_
  refine g_val (s_move rfl rfl) rfl ?_
  refine g_nil ?_
  refine ⟨by omega, trivial, ?_⟩
  rcases Nat.eq_zero_or_pos (pushI first count w.items).length with hpe | hpe
  rw [show pushW first count (sub.take (i + 1)) = pushW first count (sub.take i) by rw [take_snoc hw, pushW_snoc, if_pos (List.eq_nil_of_length_eq_zero hpe), List.append_nil]]
  focus (first | (exfalso; omega) | exact (leE_same (by repeat (first | exact letm_nil _ _ | refine letm_cons rfl ?_ ?_ | exact .same _ | exact .nl (by decide) (by decide) | exact .nn | exact .id' rfl | exact .id' (by simp; done))) (by repeat (first | exact lehp_nil _ _ | refine lehp_cons rfl ?_ ?_ | exact leB_same _ | exact leB_row (by first | rfl | (simp; done)) | exact leB_obj (by simp; done) | exact leB_nest (by first | rfl | (simp; done)) | refine leB_box ?_ | exact leL_nil | refine leL_cons ?_ ?_ | exact .same _ | exact .nl (by decide) (by decide) | exact .nn | exact .id' rfl | exact .id' (by simp; done))) rfl))
  rw [show pushW first count (sub.take (i + 1)) = pushW first count (sub.take i) ++ [⟨w.seq, pushI first count w.items⟩] by rw [take_snoc hw, pushW_snoc, if_neg (by intro h; rw [h] at hpe; simp at hpe)]]
  simp only [List.length_append, List.length_cons, List.length_nil]
  first | (exfalso; omega) | exact (leE_gen [] [(7, 114)] (by repeat (first | exact letm_nil _ _ | refine letm_cons rfl ?_ ?_ | exact LeV.tt rfl | exact .eq (okV_nil _) rfl | exact LeV.tt (by rw [List.take_of_length_le (by simp)]; simp [writeC, i64, itemsT]) | exact .eq (okV_nil _) (by rw [List.take_of_length_le (by simp)]; simp [writeC, i64, itemsT]))) (by repeat (first | exact lehp_nil _ _ | refine lehp_cons rfl ?_ ?_ | exact leB_row (by first | rfl | (rw [List.take_of_length_le (by simp)]; simp [writeC, i64, itemsT])) | exact leB_obj (by rw [List.take_of_length_le (by simp)]; simp [writeC, i64, itemsT]) | exact leB_nest (by first | rfl | (rw [List.take_of_length_le (by simp)]; simp [writeC, i64, itemsT])) | refine leB_box ?_ | exact leL_nil | refine leL_cons ?_ ?_ | exact LeV.tt rfl | exact .eq (okV_nil _) rfl | exact LeV.tt (by rw [List.take_of_length_le (by simp)]; simp [writeC, i64, itemsT]) | exact .eq (okV_nil _) (by rw [List.take_of_length_le (by simp)]; simp [writeC, i64, itemsT]))) trivial rfl)
  replace hc106 := of_decide_eq_false hc106
  simp only [Int.not_lt] at hc106
  refine vc_skip ?_
  refine vc_region mixed ?_
  refine g_val (s_add rfl rfl rfl (by simp only [inI, kMin, kMax]; omega)) rfl ?_
  refine g_val (s_move rfl rfl) rfl ?_
  refine g_nil ?_
  refine ⟨by omega, trivial, ?_⟩
  rcases Nat.eq_zero_or_pos (pushI first count w.items).length with hpe | hpe
  rw [show pushW first count (sub.take (i + 1)) = pushW first count (sub.take i) by rw [take_snoc hw, pushW_snoc, if_pos (List.eq_nil_of_length_eq_zero hpe), List.append_nil]]
  focus (first | (exfalso; omega) | exact (leE_same (by repeat (first | exact letm_nil _ _ | refine letm_cons rfl ?_ ?_ | exact .same _ | exact .nl (by decide) (by decide) | exact .nn | exact .id' rfl | exact .id' (by simp; done))) (by repeat (first | exact lehp_nil _ _ | refine lehp_cons rfl ?_ ?_ | exact leB_same _ | exact leB_row (by first | rfl | (simp; done)) | exact leB_obj (by simp; done) | exact leB_nest (by first | rfl | (simp; done)) | refine leB_box ?_ | exact leL_nil | refine leL_cons ?_ ?_ | exact .same _ | exact .nl (by decide) (by decide) | exact .nn | exact .id' rfl | exact .id' (by simp; done))) rfl))
  rw [show pushW first count (sub.take (i + 1)) = pushW first count (sub.take i) ++ [⟨w.seq, pushI first count w.items⟩] by rw [take_snoc hw, pushW_snoc, if_neg (by intro h; rw [h] at hpe; simp at hpe)]]
  simp only [List.length_append, List.length_cons, List.length_nil]
  first | (exfalso; omega) | exact (leE_gen [] [(7, 114)] (by repeat (first | exact letm_nil _ _ | refine letm_cons rfl ?_ ?_ | exact LeV.tt rfl | exact .eq (okV_nil _) rfl | exact LeV.tt (by rw [List.take_of_length_le (by simp)]; simp [writeC, i64, itemsT]) | exact .eq (okV_nil _) (by rw [List.take_of_length_le (by simp)]; simp [writeC, i64, itemsT]))) (by repeat (first | exact lehp_nil _ _ | refine lehp_cons rfl ?_ ?_ | exact leB_row (by first | rfl | (rw [List.take_of_length_le (by simp)]; simp [writeC, i64, itemsT])) | exact leB_obj (by rw [List.take_of_length_le (by simp)]; simp [writeC, i64, itemsT]) | exact leB_nest (by first | rfl | (rw [List.take_of_length_le (by simp)]; simp [writeC, i64, itemsT])) | refine leB_box ?_ | exact leL_nil | refine leL_cons ?_ ?_ | exact LeV.tt rfl | exact .eq (okV_nil _) rfl | exact LeV.tt (by rw [List.take_of_length_le (by simp)]; simp [writeC, i64, itemsT]) | exact .eq (okV_nil _) (by rw [List.take_of_length_le (by simp)]; simp [writeC, i64, itemsT]))) trivial rfl)
  replace hc73 := of_decide_eq_false hc73
  simp only [Int.not_lt] at hc73
  refine vc_exit ?_
  obtain rfl : i = sub.length := by omega
  rw [List.take_length]
  refine vc_rseq mixed ?_
  refine g_val (s_loadA rfl rfl rfl rfl rfl) rfl ?_
  refine g_sto (s_store rfl rfl rfl rfl rfl rfl) rfl ?_
  refine g_val (s_assign rfl rfl) rfl ?_
  refine g_nil ?_
  exact vc_ret (ret_le [(7, _)] _ (.cons (.agg rfl rfl rfl rfl) (.cons (.tmp rfl) .nil)) ⟨rfl, trivial⟩ (by repeat (first | exact leL_nil | refine leL_cons ?_ ?_ | exact LeV.tt rfl | exact .nl (by decide) (by decide) | exact .nn | refine LeV.tupL ?_ | refine LeV.aggL ?_ | exact .eq (by first | exact trivial | (simp [AV.okV, okR, lkB]; done) | (simp [AV.okV, okR, lkB]; omega)) (by first | rfl | (simp [AV.view, viewR, lkB, AV.ren, List.take_of_length_le]; done) | (simp [AV.view, viewR, lkB, AV.ren, List.take_of_length_le]; simp [writesT, i64, take_map_len, hfi, hcnt, hto, hfl, hsub]; done)))) rfl)

end Go.Eng

set_option maxHeartbeats 8000000
namespace Go.Eng
open Go.Proofs

/-- A call whose lists may be nil. -/
def cmdNA (c : VolCmd) (p i : AV) : AV := .agg [.t (i64 c.kind), .t (i64 c.vol), .t (i64 c.blocks), .t (i64 c.size), .t (i64 c.per), p, .t (i64 c.total), .t (i64 c.time), .t (i64 c.index), i]
abbrev nilA : AV := .t (.k (.slice none 0 0))
theorem cmdNA_nil (c : VolCmd) (hp : c.place = []) (hi : c.items = []) : LeV [] (rnG []) (cmdNA c nilA nilA) (sC (cmdC c)) := by
  refine .aggL (leL_cons (.same _) (leL_cons (.same _) (leL_cons (.same _) (leL_cons (.same _) (leL_cons (.same _) (leL_cons ?_ (leL_cons (.same _) (leL_cons (.same _) (leL_cons (.same _) (leL_cons ?_ leL_nil))))))))))
  rw [hp]; exact .nl (by decide) (by decide)
  rw [hi]; exact .nl (by decide) (by decide)
theorem cmdNA_p (c : VolCmd) (hp : c.place = []) : LeV [] (rnG []) (cmdNA c nilA (.t (itemsT c.items))) (sC (cmdC c)) := by
  refine .aggL (leL_cons (.same _) (leL_cons (.same _) (leL_cons (.same _) (leL_cons (.same _) (leL_cons (.same _) (leL_cons ?_ (leL_cons (.same _) (leL_cons (.same _) (leL_cons (.same _) (leL_cons (.same _) leL_nil))))))))))
  rw [hp]; exact .nl (by decide) (by decide)
theorem cmdNA_i (c : VolCmd) (hi : c.items = []) : LeV [] (rnG []) (cmdNA c (.t (intsT c.place)) nilA) (sC (cmdC c)) := by
  refine .aggL (leL_cons (.same _) (leL_cons (.same _) (leL_cons (.same _) (leL_cons (.same _) (leL_cons (.same _) (leL_cons (.same _) (leL_cons (.same _) (leL_cons (.same _) (leL_cons (.same _) (leL_cons ?_ leL_nil))))))))))
  rw [hi]; exact .nl (by decide) (by decide)

def kc0 : VolCmd := ⟨0, 0, 3, 1, 2, [1, 2], 0, 0, 0, []⟩
def kc1 : VolCmd := ⟨2, 0, 0, 0, 0, [], 0, 0, 0, [⟨2, [120]⟩]⟩
def kv0 : Volume := ⟨0, 3, 1, 2, [1, 2], 0, 0, false, 0, [], []⟩
def kw0 : Volume := ⟨0, 3, 1, 2, [1, 2], 0, 0, false, 0, [], [⟨1, [⟨2, [120]⟩]⟩]⟩
theorem k1 : newF kc0 = (kv0, 0) := by decide
theorem k2 : doF kv0 kc1 = (kw0, ⟨0, 1, 0, 0, []⟩) := by decide
theorem k3 : stateF kw0 1 = ([[0], [0], [120]], 0) := by decide
theorem k4 : stateF kw0 2 = ([], 31) := by decide
theorem k5 : pushF kw0 1 0 = (⟨0, 1, 1, 1, 0, 1, 0, [⟨1, [⟨0, [120]⟩]⟩]⟩, true) := by decide
theorem k6 : newF cmdZ = (volZ, 23) := by decide
theorem k7 : rightB kw0 = true := by decide
theorem k8 : lowV kw0 = 1 := by decide
theorem kst : volSt kw0 := ⟨by decide, by decide, by decide, by decide, by decide⟩

end Go.Eng

set_option maxHeartbeats 8000000
namespace Go.Eng
open Go.Proofs

instance : BoolC Tryz.prog 4 := ⟨by kernel_rfl⟩

theorem VR.st {k : Nat} {v : Volume} (h : VR k v) (hk : k ≤ 1000000) : volSt v := by
  obtain ⟨s1, s2, s3, s4, s5, s6, s7, s8, s9, s10, s11, s12⟩ := h.shape
  refine ⟨⟨s3, s4⟩, by omega, by have := h.nw; omega, fun w hw => ?_, ?_⟩
  obtain ⟨i, hi⟩ := List.mem_iff_getElem?.1 hw
  have := (h.wr i w hi).2.2.1
  omega
  rw [List.pairwise_iff_getElem]
  intro i j hi hj hij
  have h1 := (h.wr i _ (List.getElem?_eq_getElem hi)).1
  have h2 := (h.wr j _ (List.getElem?_eq_getElem hj)).1
  omega

end Go.Eng

set_option maxHeartbeats 8000000
namespace Go.Eng
open Go.Proofs

theorem stateF_ok {v : Volume} {t : Int} (h1 : v.floor ≤ t) (h2 : t ≤ v.writes.length) : stateF v t = ((List.range v.blocks.toNat).map (stB v t), 0) := by
  unfold stateF; rw [if_neg (by omega), if_neg (by omega)]

def pinC (p : Int) : VolCmd := { cmdZ with kind := 4, time := p }
def prnC (p : Int) : VolCmd := { cmdZ with kind := 3, time := p }
theorem doF_pin {v : Volume} {p : Int} (hh : v.hidden = false) (h1 : v.floor ≤ p) (h2 : p ≤ v.writes.length) : doF v (pinC p) = ({ v with pins := insPin v.pins p }, repOf { v with pins := insPin v.pins p }) := by
  have e : doneF v (pinC p) = ({ v with pins := insPin v.pins p }, 0) := by
    unfold doneF
    rw [if_neg (by simp [hh]), if_neg (by simp [pinC]), if_neg (by simp [pinC]), if_pos (show (pinC p).kind = 4 from rfl), if_neg (by simp [pinC]; omega), if_neg (by simp [pinC]; omega)]
    rfl
  unfold doF
  rw [e, if_neg (by simp)]
theorem doF_prn {v : Volume} {p : Int} (hh : v.hidden = false) : (v.floor ≤ p ∧ p ≤ lowV v ∧ doF v (prnC p) = ({ v with floor := p }, repOf { v with floor := p })) ∨ (¬ (v.floor ≤ p ∧ p ≤ lowV v) ∧ ∃ e, e ≠ 0 ∧ doF v (prnC p) = (v, repE e)) := by
  have e : doneF v (prnC p) = if p < v.floor then (v, 30) else if lowV v < p then (v, 31) else ({ v with floor := p }, 0) := by
    unfold doneF
    rw [if_neg (by simp [hh]), if_neg (by simp [prnC]), if_pos (show (prnC p).kind = 3 from rfl)]
    rfl
  unfold doF
  rw [e]
  by_cases h1 : p < v.floor
  rw [if_pos h1]
  exact .inr ⟨by omega, 30, by decide, by rw [if_pos (by simp)]⟩
  rw [if_neg h1]
  by_cases h2 : lowV v < p
  rw [if_pos h2]
  exact .inr ⟨by omega, 31, by decide, by rw [if_pos (by simp)]⟩
  rw [if_neg h2]
  exact .inl ⟨by omega, by omega, by rw [if_neg (by simp)]⟩

theorem insPin_self (l : List Int) (x : Int) : x ∈ insPin l x := by simp [insPin]

theorem stB_congr {v y : Volume} (h1 : y.writes = v.writes) (h2 : y.size = v.size) (t : Int) : stB y t = stB v t := by
  funext j; unfold stB; rw [h1, h2]

end Go.Eng

set_option maxHeartbeats 8000000
namespace Go.Eng
open Go.Proofs

/-! ### The items are right -/
structure SeatOK (blocks size : Int) (acc : List Item) : Prop where
  len : acc.length ≤ 8
  all : ∀ x ∈ acc, 0 ≤ x.block ∧ x.block < blocks ∧ (x.data.length : Int) = size
  nd : (acc.map (·.block)).Nodup
theorem dataF_len (size k : Int) (hs : 0 ≤ size) : ((dataF size k).length : Int) = size := by simp [dataF]; omega
theorem seatG_ok {blocks size : Int} (hb : 1 ≤ blocks) (hs : 0 ≤ size) : ∀ (l : List Int) (acc : List Item), SeatOK blocks size acc → SeatOK blocks size (seatG blocks size l acc) ∧ acc.length ≤ (seatG blocks size l acc).length
  | [], acc, h => ⟨h, Nat.le_refl _⟩
  | k :: l, acc, h => by
    simp only [seatG]
    split
    rename_i h8
    split
    exact seatG_ok hb hs l acc h
    rename_i hany
    have hmax : max blocks 1 = blocks := by omega
    have h0 := Int.emod_nonneg k (b := blocks) (by omega)
    have h1 := Int.emod_lt_of_pos k (b := blocks) (by omega)
    rw [hmax] at hany ⊢
    have hacc : SeatOK blocks size (acc ++ [⟨k % blocks, dataF size k⟩]) := by
      refine ⟨by simp; omega, fun x hx => ?_, ?_⟩
      rcases List.mem_append.1 hx with hx | hx
      exact h.all x hx
      simp at hx; subst hx; exact ⟨h0, h1, dataF_len size k hs⟩
      rw [List.map_append, List.nodup_append]
      refine ⟨h.nd, by simp, fun a ha b hb' => ?_⟩
      simp at hb'
      subst hb'
      obtain ⟨x, hx, rfl⟩ := List.mem_map.1 ha
      intro e
      apply hany
      rw [List.any_eq_true]
      exact ⟨x, hx, by simpa using e⟩
    obtain ⟨g1, g2⟩ := seatG_ok hb hs l _ hacc
    exact ⟨g1, by simp at g2; omega⟩
    exact ⟨h, Nat.le_refl _⟩
theorem seatItems_ok {blocks size : Int} (hb : 1 ≤ blocks) (hs : 0 ≤ size) {l : List Int} (hl : l ≠ []) : itemsOK blocks size (seatItems blocks size l) := by
  cases l with
  | nil => exact absurd rfl hl
  | cons k l =>
    have h0 : SeatOK blocks size [] := ⟨by simp, by simp, by simp⟩
    have e : seatItems blocks size (k :: l) = seatG blocks size l [⟨k % max blocks 1, dataF size k⟩] := by simp [seatItems, seatG]
    obtain ⟨g1, _⟩ := seatG_ok hb hs (k :: l) [] h0
    have hmax : max blocks 1 = blocks := by omega
    have h1 : SeatOK blocks size [⟨k % max blocks 1, dataF size k⟩] := by
      rw [hmax]
      exact ⟨by simp, fun x hx => by simp at hx; subst hx; exact ⟨Int.emod_nonneg k (by omega), Int.emod_lt_of_pos k (by omega), dataF_len size k hs⟩, by simp⟩
    obtain ⟨_, g2⟩ := seatG_ok hb hs l _ h1
    rw [← e] at g2
    exact ⟨by simpa using g2, g1.len, g1.all, g1.nd⟩

/-! ### What a block is at a time -/
def finV (l : List Ver) (z : List Int) : List Int := l.foldl (fun _ v => v.data) z
theorem finV_app (a b : List Ver) (z : List Int) : finV (a ++ b) z = finV b (finV a z) := by simp [finV]
theorem finV_last : ∀ (l : List Ver) (z : List Int), finV l z = ((l.getLast?).map (·.data)).getD z
  | [], z => rfl
  | [v], z => rfl
  | v :: u :: l, z => by
    have := finV_last (u :: l) v.data
    simp only [finV, List.foldl_cons] at this ⊢
    rw [this, List.getLast?_cons_cons]
    cases h : (u :: l).getLast? with
    | none => simp at h
    | some x => rfl
theorem atF_fin (l : List Ver) (t : Int) (z : List Int) : (if (atF l t).2 = true then (atF l t).1 else z) = finV (l.takeWhile fun v => decide (v.seq ≤ t)) z := by
  rw [finV_last]
  cases h : l.takeWhile (fun v => decide (v.seq ≤ t)) with
  | nil =>
    have e : atF l t = ([], false) := by unfold atF behN; rw [h]; rfl
    rw [e]; rfl
  | cons a r =>
    have e : atF l t = (((l[(a :: r).length - 1]?).map (·.data)).getD [], true) := by unfold atF behN; rw [h, if_neg (by simp)]
    rw [e, if_pos rfl]
    have hp : (a :: r) <+: l := h ▸ List.takeWhile_prefix _
    obtain ⟨s, rfl⟩ := hp
    rw [List.getElem?_append_left (by simp), List.getLast?_eq_getElem?]
    rw [List.getElem?_eq_getElem (by simp)]
    rfl
theorem stB_fin (v : Volume) (t : Int) (j : Nat) : stB v t j = finV ((histF v.writes j).takeWhile fun x => decide (x.seq ≤ t)) (zerB v.size.toNat) := atF_fin _ _ _

def wantF (it : List Item) (j : Nat) (d : List Int) : List Int := it.foldl (fun d x => if x.block = (j : Int) then x.data else d) d
theorem finV_verI (s : Int) : ∀ (it : List Item) (j : Nat) (d : List Int), finV (verI s it j) d = wantF it j d
  | [], j, d => rfl
  | x :: it, j, d => by
    have h := finV_verI s it j
    simp only [verI, wantF, List.foldl_cons, List.filter_cons] at h ⊢
    by_cases e : x.block = (j : Int)
    rw [if_pos (by simpa using e), if_pos e, List.map_cons]
    exact h x.data
    rw [if_neg (by simpa using e), if_neg e]
    exact h d

theorem histF_seq {k : Nat} {v : Volume} (h : VR k v) (j : Nat) : ∀ x ∈ histF v.writes j, x.seq ≤ v.writes.length := by
  intro x hx
  simp only [histF, List.mem_flatten, List.mem_map] at hx
  obtain ⟨l, ⟨w, hw, rfl⟩, hx⟩ := hx
  rw [verI_mem hx]
  obtain ⟨i, hi⟩ := List.mem_iff_getElem?.1 hw
  have := (h.wr i w hi).1
  have := (List.getElem?_eq_some_iff.1 hi).1
  omega
theorem takeWhile_all {α : Type} {p : α → Bool} {l : List α} (h : ∀ x ∈ l, p x = true) : l.takeWhile p = l := by
  induction l with
  | nil => rfl
  | cons a l ih => rw [List.takeWhile_cons, h a (List.mem_cons_self ..), if_pos rfl, ih fun x hx => h x (List.mem_cons_of_mem _ hx)]
theorem takeWhile_none {α : Type} {p : α → Bool} {l : List α} (h : ∀ x ∈ l, p x = false) : l.takeWhile p = [] := by
  cases l with
  | nil => rfl
  | cons a l => rw [List.takeWhile_cons, h a (List.mem_cons_self ..)]; rfl

theorem st_old {k : Nat} {v : Volume} (h : VR k v) (it : List Item) (j : Nat) : stB (writeV v it) v.writes.length j = stB v v.writes.length j := by
  rw [stB_fin, stB_fin]
  have e : histF (writeV v it).writes j = histF v.writes j ++ verI (v.writes.length + 1) it j := histF_snoc _ _ _
  have hH := histF_seq h j
  rw [e, List.takeWhile_append_of_pos (fun x hx => by simpa using hH x hx), takeWhile_none (fun x hx => by rw [verI_mem hx]; simp; omega), List.append_nil, takeWhile_all (fun x hx => by simpa using hH x hx)]
  rfl
theorem st_new {k : Nat} {v : Volume} (h : VR k v) (it : List Item) (j : Nat) : stB (writeV v it) (v.writes.length + 1) j = wantF it j (stB v v.writes.length j) := by
  rw [stB_fin, stB_fin]
  have e : histF (writeV v it).writes j = histF v.writes j ++ verI (v.writes.length + 1) it j := histF_snoc _ _ _
  have hH := histF_seq h j
  rw [e, takeWhile_all (fun x hx => by
    rcases List.mem_append.1 hx with hx | hx
    have := hH x hx; simp; omega
    rw [verI_mem hx]; simp), takeWhile_all (fun x hx => by simpa using hH x hx), finV_app, finV_verI]
  rfl

def putKC (it : List Item) : VolCmd := { cmdZ with kind := 2, items := it }
theorem doF_put {v : Volume} {it : List Item} (hh : v.hidden = false) (hi : itemsOK v.blocks v.size it) : doF v (putKC it) = (writeV v it, repOf (writeV v it)) := by
  have e : doneF v (putKC it) = (writeV v it, 0) := by
    unfold doneF
    rw [if_neg (by simp [hh]), if_pos (show (putKC it).kind = 2 from rfl), if_pos (show itemsOK v.blocks v.size (putKC it).items from hi)]
    rfl
  unfold doF
  rw [e, if_neg (by simp)]

end Go.Eng

set_option maxHeartbeats 1000000
namespace Go.Eng

structure Chunk where
  vol : Int
  chunk : Int
  count : Int
  size : Int
  mark : Int
  floor : Int
  hist : List (List Ver)
deriving DecidableEq
def chkZ : Chunk := ⟨0, 0, 0, 0, 0, 0, []⟩

/-! ### Pushes -/
def lastB (l : List Ver) (seq : Int) : Bool := match l.getLast? with | none => false | some v => decide (seq ≤ v.seq)
def addV (l : List Ver) (seq : Int) (data : List Int) : List Ver := if seq < 1 ∨ 1099511627776 < seq ∨ lastB l seq = true then l else l ++ [⟨seq, data⟩]
def keepB (l : List Ver) (floor : Int) (j : Nat) : Bool := match l[j + 1]? with | none => true | some v => decide (floor < v.seq)
def pruI (l : List Ver) (floor : Int) (i : Nat) : List Ver := (List.range i).filterMap fun j => if keepB l floor j = true then l[j]? else none
def pruV (l : List Ver) (floor : Int) : List Ver := pruI l floor l.length
def applyI (seq : Int) (h : List (List Ver)) (l : List Item) : List (List Ver) := l.foldl (fun h x => h.modify x.block.toNat fun e => addV e seq x.data) h
def applyW (mark : Int) (h : List (List Ver)) (ws : List Write) : List (List Ver) := ws.foldl (fun h w => if mark < w.seq then applyI w.seq h w.items else h) h
def shapeK (vol chunk count size : Int) : Prop := 0 ≤ vol ∧ vol < 8 ∧ 0 ≤ chunk ∧ chunk < 256 ∧ 1 ≤ count ∧ count ≤ 256 ∧ 1 ≤ size ∧ size ≤ 32
instance (a b c d : Int) : Decidable (shapeK a b c d) := by unfold shapeK; infer_instance
def wrsOK (count size to : Int) : Int → List Write → Bool
  | _, [] => true
  | last, w :: ws => decide (last < w.seq ∧ w.seq ≤ to ∧ itemsOK count size w.items) && wrsOK count size to w.seq ws
def pushB (p : PushCmd) : Bool := decide (shapeK p.vol p.chunk p.count p.size ∧ 0 ≤ p.frm ∧ p.frm ≤ p.to ∧ p.to ≤ 1099511627776 ∧ 0 ≤ p.floor ∧ p.floor ≤ p.to ∧ p.writes.length ≤ 4) && wrsOK p.count p.size p.to p.frm p.writes
def fitB (c : Chunk) (p : PushCmd) : Bool := decide (c.vol = p.vol ∧ c.chunk = p.chunk ∧ c.count = p.count ∧ c.size = p.size ∧ p.frm ≤ c.mark)
def newChk (p : PushCmd) : Chunk := ⟨p.vol, p.chunk, p.count, p.size, 0, 0, List.replicate (min (max p.count 0) 256).toNat []⟩
def applyK (c : Chunk) (p : PushCmd) : Chunk :=
  if pushB p = true ∧ fitB c p = true then ⟨c.vol, c.chunk, c.count, c.size, max c.mark p.to, max c.floor p.floor, (applyW c.mark c.hist p.writes).map fun l => pruV l (max c.floor p.floor)⟩ else c

theorem fm_congr {α β : Type} {f g : α → Option β} : ∀ (l : List α), (∀ x ∈ l, f x = g x) → l.filterMap f = l.filterMap g
  | [], _ => rfl
  | x :: l, h => by rw [List.filterMap_cons, List.filterMap_cons, h x (List.mem_cons_self ..), fm_congr l fun y hy => h y (List.mem_cons_of_mem _ hy)]

theorem filter_drop {α : Type} : ∀ (l : List α) (k : Nat), (List.range l.length).filterMap (fun j => if k ≤ j then l[j]? else none) = l.drop k
  | [], k => by simp
  | x :: l, 0 => by
    have := filter_drop l 0
    simp only [List.length_cons, List.range_succ_eq_map, List.filterMap_cons, List.filterMap_map, Nat.zero_le, if_true, List.getElem?_cons_zero, List.drop_zero] at this ⊢
    congr 1
  | x :: l, k + 1 => by
    have := filter_drop l k
    simp only [List.length_cons, List.range_succ_eq_map, List.filterMap_cons, List.filterMap_map, List.drop_succ_cons]
    rw [if_neg (by omega)]
    simp only
    rw [← this]
    congr 1
    funext j
    simp only [Function.comp, Nat.succ_eq_add_one, Nat.add_le_add_iff_right, List.getElem?_cons_succ]

theorem pruV_sorted {l : List Ver} {floor : Int} (h : l.Pairwise fun a b => a.seq ≤ b.seq) : pruV l floor = l.drop (behN l floor - 1) := by
  rw [← filter_drop]
  unfold pruV pruI
  refine fm_congr _ fun j hj => ?_
  have hj := List.mem_range.1 hj
  have e : (keepB l floor j = true) ↔ behN l floor - 1 ≤ j := by
    unfold keepB
    cases hx : l[j + 1]? with
    | none =>
      have := behN_le l floor
      have := List.getElem?_eq_none_iff.1 hx
      simp; omega
    | some v =>
      have := beh_iff (t := floor) h hx
      simp only [decide_eq_true_eq]
      omega
  by_cases hk : behN l floor - 1 ≤ j
  · rw [if_pos hk, if_pos (e.2 hk)]
  · rw [if_neg hk, if_neg fun h => hk (e.1 h)]

theorem behN_cons (a : Ver) (l : List Ver) (t : Int) : behN (a :: l) t = if a.seq ≤ t then behN l t + 1 else 0 := by
  unfold behN
  rw [List.takeWhile_cons]
  by_cases h : a.seq ≤ t <;> simp [h]
theorem behN_drop : ∀ (l : List Ver) (t : Int) (k : Nat), k ≤ behN l t → behN (l.drop k) t = behN l t - k
  | l, t, 0, _ => by simp
  | [], t, k + 1, h => by simp [behN] at h
  | a :: l, t, k + 1, h => by
    rw [behN_cons] at h ⊢
    split at h
    · rename_i ha
      rw [if_pos ha, List.drop_succ_cons, behN_drop l t k (by omega)]
      omega
    · omega
theorem behN_app : ∀ (a b : List Ver) (t : Int), (∀ x ∈ b, t < x.seq) → behN (a ++ b) t = behN a t
  | [], b, t, h => by
    cases b with
    | nil => rfl
    | cons x b => rw [List.nil_append, behN_cons, if_neg (by have := h x (List.mem_cons_self ..); omega)]; rfl
  | x :: a, b, t, h => by rw [List.cons_append, behN_cons, behN_cons, behN_app a b t h]

theorem atF_app {a b : List Ver} {t : Int} (h : ∀ x ∈ b, t < x.seq) : atF (a ++ b) t = atF a t := by
  unfold atF
  rw [behN_app a b t h]
  have := behN_le a t
  split
  · rfl
  · rw [List.getElem?_append_left (by omega)]
theorem atF_drop {l : List Ver} {t : Int} {k : Nat} (hs : l.Pairwise fun a b => a.seq ≤ b.seq) (h : k = 0 ∨ ∃ x, l[k]? = some x ∧ x.seq ≤ t) : atF (l.drop k) t = atF l t := by
  rcases h with rfl | ⟨x, hx, hxt⟩
  · rfl
  · have hk := (beh_iff (t := t) hs hx).1 hxt
    unfold atF
    rw [behN_drop l t k (by omega), if_neg (by omega), if_neg (by omega), List.getElem?_drop]
    rw [show k + (behN l t - k - 1) = behN l t - 1 by omega]

/-! ### What a push does to a block -/
theorem addV_ok {l : List Ver} {seq : Int} {d : List Int} (h1 : 1 ≤ seq) (h2 : seq ≤ 1099511627776) (h3 : ∀ x ∈ l, x.seq < seq) : addV l seq d = l ++ [⟨seq, d⟩] := by
  unfold addV
  rw [if_neg]
  rintro (h | h | h)
  · omega
  · omega
  · unfold lastB at h
    cases hl : l.getLast? with
    | none => rw [hl] at h; cases h
    | some v =>
      rw [hl] at h
      have := h3 v (List.mem_of_getLast? hl)
      simp at h; omega

theorem mod_eq {α : Type} {l : List α} {i j : Nat} {f : α → α} (h : i = j) : (l.modify i f)[j]? = l[j]?.map f := by
  subst h; rw [List.getElem?_modify]; simp
theorem mod_ne {α : Type} {l : List α} {i j : Nat} {f : α → α} (h : i ≠ j) : (l.modify i f)[j]? = l[j]? := by
  rw [List.getElem?_modify]; cases l[j]? <;> simp [h]

theorem applyI_other (seq : Int) (b : Nat) : ∀ (l : List Item) (h : List (List Ver)), (∀ x ∈ l, x.block.toNat ≠ b) → (applyI seq h l)[b]? = h[b]?
  | [], h, _ => rfl
  | x :: l, h, hx => by
    have ih := applyI_other seq b l (h.modify x.block.toNat fun e => addV e seq x.data) fun y hy => hx y (List.mem_cons_of_mem _ hy)
    simp only [applyI, List.foldl_cons] at ih ⊢
    rw [ih, mod_ne (hx x (List.mem_cons_self ..))]
theorem applyI_len (seq : Int) : ∀ (l : List Item) (h : List (List Ver)), (applyI seq h l).length = h.length
  | [], h => rfl
  | x :: l, h => by
    have ih := applyI_len seq l (h.modify x.block.toNat fun e => addV e seq x.data)
    simp only [applyI, List.foldl_cons] at ih ⊢
    rw [ih, List.length_modify]
theorem verI_nil {s : Int} {l : List Item} {b : Nat} (h : ∀ x ∈ l, x.block ≠ (b : Int)) : verI s l b = [] := by
  simp only [verI, List.map_eq_nil_iff, List.filter_eq_nil_iff]
  intro x hx
  simpa using h x hx
theorem verI_cons (s : Int) (x : Item) (l : List Item) (b : Nat) : verI s (x :: l) b = (if x.block = (b : Int) then [⟨s, x.data⟩] else []) ++ verI s l b := by
  simp only [verI, List.filter_cons]
  by_cases e : x.block = (b : Int) <;> simp [e]
theorem pushI_cons (f c : Int) (x : Item) (l : List Item) : pushI f c (x :: l) = (if 0 ≤ x.block - f ∧ x.block - f < c then [⟨x.block - f, x.data⟩] else []) ++ pushI f c l := by
  simp only [pushI, List.filterMap_cons]
  by_cases e : 0 ≤ x.block - f ∧ x.block - f < c
  · rw [if_pos e, if_pos e]; rfl
  · rw [if_neg e, if_neg e]; rfl
theorem pushI_mem {f c : Int} {l : List Item} {y : Item} (h : y ∈ pushI f c l) : ∃ x ∈ l, 0 ≤ x.block - f ∧ x.block - f < c ∧ y = ⟨x.block - f, x.data⟩ := by
  simp only [pushI, List.mem_filterMap] at h
  obtain ⟨x, hx, h⟩ := h
  split at h
  · rename_i e
    injection h with h
    exact ⟨x, hx, e.1, e.2, h.symm⟩
  · cases h

theorem applyI_push (seq : Int) (f b : Nat) (count : Int) (hb : (b : Int) < count) (h1 : 1 ≤ seq) (h2 : seq ≤ 1099511627776) : ∀ (l : List Item) (h : List (List Ver)), (l.map (·.block)).Nodup → (∀ e, h[b]? = some e → ∀ x ∈ e, x.seq < seq) →
    (applyI seq h (pushI f count l))[b]? = h[b]?.map fun e => e ++ verI seq l (f + b)
  | [], h, _, _ => by simp [pushI, applyI, verI]
  | x :: l, h, hn, hh => by
    simp only [List.map_cons, List.nodup_cons] at hn
    rw [pushI_cons, verI_cons]
    by_cases e : 0 ≤ x.block - (f : Int) ∧ x.block - (f : Int) < count
    · rw [if_pos e]
      simp only [List.singleton_append]
      have hstep : applyI seq h ((⟨x.block - f, x.data⟩ : Item) :: pushI f count l) = applyI seq (h.modify (x.block - (f : Int)).toNat fun e => addV e seq x.data) (pushI f count l) := rfl
      rw [hstep]
      by_cases e2 : x.block = ((f + b : Nat) : Int)
      · rw [if_pos e2, applyI_other]
        · rw [mod_eq (by omega), verI_nil (l := l)]
          · cases hb' : h[b]? with
            | none => rfl
            | some l0 =>
              simp only [Option.map_some]
              rw [addV_ok h1 h2 (hh l0 hb')]
              simp
          · intro y hy ey
            exact hn.1 (List.mem_map.2 ⟨y, hy, by rw [ey, e2]⟩)
        · intro y hy ey
          obtain ⟨z, hz, g1, g2, rfl⟩ := pushI_mem hy
          simp only at ey
          exact hn.1 (List.mem_map.2 ⟨z, hz, by omega⟩)
      · rw [if_neg e2, applyI_push seq f b count hb h1 h2 l _ hn.2]
        · rw [mod_ne (by omega)]; rfl
        · intro l0 hl0
          rw [mod_ne (by omega)] at hl0
          exact hh l0 hl0
    · rw [if_neg e, if_neg (by omega), List.nil_append]
      exact applyI_push seq f b count hb h1 h2 l h hn.2 hh

theorem pushW_cons (f c : Int) (w : Write) (l : List Write) : pushW f c (w :: l) = (if pushI f c w.items = [] then [] else [⟨w.seq, pushI f c w.items⟩]) ++ pushW f c l := by
  simp only [pushW, List.filterMap_cons]
  by_cases e : pushI f c w.items = []
  · rw [if_pos e, if_pos e]; rfl
  · rw [if_neg e, if_neg e]; rfl
theorem histF_cons (w : Write) (ws : List Write) (b : Nat) : histF (w :: ws) b = verI w.seq w.items b ++ histF ws b := by simp [histF]
theorem histF_app (a c : List Write) (b : Nat) : histF (a ++ c) b = histF a b ++ histF c b := by simp [histF]
theorem histF_mem {ws : List Write} {b : Nat} {x : Ver} (h : x ∈ histF ws b) : ∃ w ∈ ws, x.seq = w.seq := by
  simp only [histF, List.mem_flatten, List.mem_map] at h
  obtain ⟨l, ⟨w, hw, rfl⟩, hx⟩ := h
  exact ⟨w, hw, verI_mem hx⟩

theorem applyW_push (mark : Int) (f b : Nat) (count : Int) (hb : (b : Int) < count) : ∀ (ws : List Write) (h : List (List Ver)), (∀ w ∈ ws, mark < w.seq ∧ 1 ≤ w.seq ∧ w.seq ≤ 1099511627776 ∧ (w.items.map (·.block)).Nodup) → ws.Pairwise (fun a b => a.seq < b.seq) →
    (∀ e, h[b]? = some e → ∀ x ∈ e, ∀ w ∈ ws, x.seq < w.seq) → (applyW mark h (pushW f count ws))[b]? = h[b]?.map fun e => e ++ histF ws (f + b)
  | [], h, _, _, _ => by simp [pushW, applyW, histF]
  | w :: ws, h, hw, hp, hh => by
    obtain ⟨g1, g2, g3, g4⟩ := hw w (List.mem_cons_self ..)
    obtain ⟨p1, p2⟩ := List.pairwise_cons.1 hp
    rw [pushW_cons, histF_cons]
    by_cases e : pushI f count w.items = []
    · rw [if_pos e, List.nil_append, verI_nil, List.nil_append]
      · exact applyW_push mark f b count hb ws h (fun w' hw' => hw w' (List.mem_cons_of_mem _ hw')) p2 fun l0 hl0 x hx w' hw' => hh l0 hl0 x hx w' (List.mem_cons_of_mem _ hw')
      · intro x hx ex
        have : (⟨x.block - f, x.data⟩ : Item) ∈ pushI f count w.items := by
          simp only [pushI, List.mem_filterMap]
          exact ⟨x, hx, by rw [if_pos ⟨by omega, by omega⟩]⟩
        rw [e] at this
        cases this
    · rw [if_neg e, List.singleton_append]
      have hstep : applyW mark h ((⟨w.seq, pushI f count w.items⟩ : Write) :: pushW f count ws) = applyW mark (applyI w.seq h (pushI f count w.items)) (pushW f count ws) := by
        simp only [applyW, List.foldl_cons]
        rw [if_pos g1]
      have hI := applyI_push w.seq f b count hb g2 g3 w.items h g4 fun l0 hl0 x hx => hh l0 hl0 x hx w (List.mem_cons_self ..)
      rw [hstep, applyW_push mark f b count hb ws _ (fun w' hw' => hw w' (List.mem_cons_of_mem _ hw')) p2, hI]
      · cases h[b]? with
        | none => rfl
        | some l0 => simp
      · intro l0 hl0 x hx w' hw'
        rw [hI] at hl0
        cases hb' : h[b]? with
        | none => rw [hb'] at hl0; cases hl0
        | some l1 =>
          rw [hb'] at hl0
          simp only [Option.map_some, Option.some.injEq] at hl0
          subst hl0
          rcases List.mem_append.1 hx with hx | hx
          · exact hh l1 hb' x hx w' (List.mem_cons_of_mem _ hw')
          · rw [verI_mem hx]; exact p1 w' hw'
theorem applyW_len (mark : Int) : ∀ (ws : List Write) (h : List (List Ver)), (applyW mark h ws).length = h.length
  | [], h => rfl
  | w :: ws, h => by
    simp only [applyW, List.foldl_cons]
    have ih := applyW_len mark ws
    simp only [applyW] at ih
    split
    · rw [ih, applyI_len]
    · rw [ih]

end Go.Eng

set_option maxHeartbeats 1000000
namespace Go.Eng

/-- What holds of each chunk that a volume's pushes make. -/
structure KR (v : Volume) (n : Nat) (c : Chunk) : Prop where
  vol : c.vol = v.id
  chunk : c.chunk = n
  count : c.count = min v.per (v.blocks - n * v.per)
  size : c.size = v.size
  mark : 0 ≤ c.mark ∧ c.mark ≤ v.writes.length
  floor : c.floor = min v.floor c.mark
  len : (c.hist.length : Int) = c.count
  his : ∀ (b : Nat) (l : List Ver), c.hist[b]? = some l → ∃ k, l = (histF (v.writes.take c.mark.toNat) (n * v.per.toNat + b)).drop k ∧ (k = 0 ∨ ∃ x, (histF (v.writes.take c.mark.toNat) (n * v.per.toNat + b))[k]? = some x ∧ x.seq ≤ c.floor)

theorem VR.seqs {k : Nat} {v : Volume} (h : VR k v) : v.writes.Pairwise fun a b => a.seq < b.seq := by
  rw [List.pairwise_iff_getElem]
  intro i j hi hj hij
  have h1 := (h.wr i _ (List.getElem?_eq_getElem hi)).1
  have h2 := (h.wr j _ (List.getElem?_eq_getElem hj)).1
  omega
theorem VR.seqs' {k : Nat} {v : Volume} (h : VR k v) : v.writes.Pairwise fun a b => a.seq ≤ b.seq := h.seqs.imp fun h => Int.le_of_lt h

/-- A chunk's place in its volume. -/
theorem place_count {blocks per : Int} {m n : Nat} (hp : 1 ≤ per) (hm : (m : Int) = chunksN blocks per) (hn : n < m) : 1 ≤ min per (blocks - n * per) := by
  have h1 : (n : Int) + 1 ≤ (blocks + per - 1) / per := by unfold chunksN at hm; omega
  have h2 := (Int.le_ediv_iff_mul_le (show (0 : Int) < per by omega)).1 h1
  rw [Int.add_mul] at h2
  omega

theorem VR.cnt {k : Nat} {v : Volume} (h : VR k v) {n : Nat} (hn : n < v.place.length) : 1 ≤ min v.per (v.blocks - n * v.per) := by
  obtain ⟨s1, s2, s3, s4, s5, s6, s7, s8, s9, s10, s11, s12⟩ := h.shape
  exact place_count s7 s9 hn

theorem pushI_ok {f count blocks size : Int} {l : List Item} (h : itemsOK blocks size l) (hne : pushI f count l ≠ []) : itemsOK count size (pushI f count l) := by
  obtain ⟨h1, h2, h3, h4⟩ := h
  refine ⟨?_, ?_, fun y hy => ?_, ?_⟩
  · cases hp : pushI f count l with
    | nil => exact absurd hp hne
    | cons a r => simp
  · have := pushI_len f count l; omega
  · obtain ⟨x, hx, g1, g2, rfl⟩ := pushI_mem hy
    exact ⟨g1, g2, (h3 x hx).2.2⟩
  · clear hne h1 h2 h3
    induction l with
    | nil => simp [pushI]
    | cons x l ih =>
      rw [List.map_cons, List.nodup_cons] at h4
      rw [pushI_cons]
      split
      · rename_i e
        rw [List.singleton_append, List.map_cons, List.nodup_cons]
        refine ⟨fun hm => ?_, ih h4.2⟩
        obtain ⟨y, hy, ey⟩ := List.mem_map.1 hm
        obtain ⟨z, hz, g1, g2, rfl⟩ := pushI_mem hy
        simp only at ey
        exact h4.1 (List.mem_map.2 ⟨z, hz, by omega⟩)
      · simpa using ih h4.2

theorem wrsOK_push {f count size blocks to : Int} : ∀ {ws : List Write} {last : Int}, (∀ w ∈ ws, last < w.seq ∧ w.seq ≤ to ∧ itemsOK blocks size w.items) → ws.Pairwise (fun a b => a.seq < b.seq) → wrsOK count size to last (pushW f count ws) = true
  | [], last, _, _ => rfl
  | w :: ws, last, h, hp => by
    obtain ⟨p1, p2⟩ := List.pairwise_cons.1 hp
    obtain ⟨g1, g2, g3⟩ := h w (List.mem_cons_self ..)
    rw [pushW_cons]
    by_cases e : pushI f count w.items = []
    · rw [if_pos e, List.nil_append]
      exact wrsOK_push (fun w' hw' => h w' (List.mem_cons_of_mem _ hw')) p2
    · rw [if_neg e, List.singleton_append]
      simp only [wrsOK, Bool.and_eq_true, decide_eq_true_eq]
      exact ⟨⟨g1, g2, pushI_ok g3 e⟩, wrsOK_push (fun w' hw' => ⟨p1 w' hw', (h w' (List.mem_cons_of_mem _ hw')).2⟩) p2⟩

theorem VR.slice {k : Nat} {v : Volume} (h : VR k v) {a b : Nat} : ∀ w ∈ (v.writes.take b).drop a, (a : Int) < w.seq ∧ w.seq ≤ b ∧ w.seq ≤ v.writes.length ∧ itemsOK v.blocks v.size w.items := by
  intro w hw
  obtain ⟨i, hi⟩ := List.mem_iff_getElem?.1 hw
  rw [List.getElem?_drop, List.getElem?_take] at hi
  split at hi
  · rename_i hlt
    obtain ⟨h1, h2⟩ := h.wr _ w hi
    have := (List.getElem?_eq_some_iff.1 hi).1
    exact ⟨by omega, by omega, by omega, h2⟩
  · cases hi

theorem pushB_ok {k : Nat} {v : Volume} (h : VR k v) (hk : k ≤ 1000000) {n : Nat} (hn : n < v.place.length) {mark : Int} (hm : 0 ≤ mark ∧ mark ≤ v.writes.length) : pushB (pushP v n mark) = true := by
  have hc := h.cnt hn
  obtain ⟨s1, s2, s3, s4, s5, s6, s7, s8, s9, s10, s11, s12⟩ := h.shape
  have hnw := h.nw
  have hfl := h.floor
  have hpl : (v.place.length : Int) ≤ 256 := by
    rw [s9]
    unfold chunksN
    have h0 : v.blocks + v.per - 1 ≤ v.blocks * v.per := by
      have := Int.mul_nonneg (show 0 ≤ v.blocks - 1 by omega) (show 0 ≤ v.per - 1 by omega)
      have e : (v.blocks - 1) * (v.per - 1) = v.blocks * v.per - v.blocks - v.per + 1 := by
        rw [Int.sub_mul, Int.mul_sub]; omega
      omega
    have := Int.ediv_le_of_le_mul (c := v.per) (by omega) h0
    omega
  unfold pushB pushP
  simp only [Bool.and_eq_true, decide_eq_true_eq]
  refine ⟨⟨⟨s1, s2, by omega, by omega, hc, by omega, s5, s6⟩, hm.1, by omega, by omega, by omega, by omega, ?_⟩, ?_⟩
  · have := pushW_len (n * v.per) (min v.per (v.blocks - n * v.per)) ((v.writes.take (min (mark + 4) (v.writes.length : Int)).toNat).drop mark.toNat)
    simp only [List.length_drop, List.length_take] at this
    omega
  · refine wrsOK_push (blocks := v.blocks) (fun w hw => ?_) ?_
    · have := h.slice w hw
      exact ⟨by omega, by omega, this.2.2.2⟩
    · exact (h.seqs.sublist (List.take_sublist ..)).sublist (List.drop_sublist ..)

theorem take_split (l : List Write) {a b : Nat} (h : a ≤ b) : l.take b = l.take a ++ (l.take b).drop a := by
  conv => lhs; rw [← List.take_append_drop a (l.take b)]
  rw [List.take_take, Nat.min_eq_left h]

theorem drop_app_le {α : Type} {a b : List α} {k : Nat} (h : k ≤ a.length) : (a ++ b).drop k = a.drop k ++ b := by
  rw [List.drop_append]
  rw [show k - a.length = 0 by omega]; rfl

theorem KR.apply {k : Nat} {v : Volume} (h : VR k v) (hk : k ≤ 1000000) {n : Nat} (hn : n < v.place.length) {c : Chunk} (hc : KR v n c) : KR v n (applyK c (pushP v n c.mark)) ∧ (applyK c (pushP v n c.mark)).mark = min (c.mark + 4) v.writes.length := by
  have hb := pushB_ok h hk hn hc.mark
  have hcnt := h.cnt hn
  have hnw := h.nw
  obtain ⟨s1, s2, s3, s4, s5, s6, s7, s8, s9, s10, s11, s12⟩ := h.shape
  have hfit : fitB c (pushP v n c.mark) = true := by
    unfold fitB pushP
    simp only [decide_eq_true_eq]
    exact ⟨hc.vol, hc.chunk, hc.count, hc.size, Int.le_refl _⟩
  have hm := hc.mark
  have e0 : applyK c (pushP v n c.mark) = ⟨c.vol, c.chunk, c.count, c.size, max c.mark (min (c.mark + 4) v.writes.length), max c.floor (min v.floor (min (c.mark + 4) v.writes.length)),
      (applyW c.mark c.hist (pushW (n * v.per) (min v.per (v.blocks - n * v.per)) ((v.writes.take (min (c.mark + 4) (v.writes.length : Int)).toNat).drop c.mark.toNat))).map fun l => pruV l (max c.floor (min v.floor (min (c.mark + 4) v.writes.length)))⟩ := by
    unfold applyK
    rw [if_pos ⟨hb, hfit⟩]
    rfl
  rw [e0]
  have hmax : max c.mark (min (c.mark + 4) (v.writes.length : Int)) = min (c.mark + 4) v.writes.length := by omega
  have hfl : max c.floor (min v.floor (min (c.mark + 4) (v.writes.length : Int))) = min v.floor (min (c.mark + 4) v.writes.length) := by rw [hc.floor]; omega
  rw [hmax, hfl]
  refine ⟨?_, rfl⟩
  generalize hto : min (c.mark + 4) (v.writes.length : Int) = to at *
  have hsl := fun w hw => h.slice (a := c.mark.toNat) (b := to.toNat) w hw
  generalize hws : (v.writes.take to.toNat).drop c.mark.toNat = ws at *
  have hwp : ws.Pairwise fun a b => a.seq < b.seq := by rw [← hws]; exact (h.seqs.sublist (List.take_sublist ..)).sublist (List.drop_sublist ..)
  have hF : ((n * v.per.toNat : Nat) : Int) = n * v.per := by push_cast; rw [Int.toNat_of_nonneg (by omega)]
  have htk : v.writes.take to.toNat = v.writes.take c.mark.toNat ++ ws := by rw [← hws]; exact take_split _ (by omega)
  refine { vol := hc.vol, chunk := hc.chunk, count := hc.count, size := hc.size, mark := ⟨by simp only; omega, by simp only; omega⟩, floor := rfl, len := ?_, his := fun b l hl => ?_ }
  · simp only [List.length_map, applyW_len]; exact hc.len
  · simp only [List.getElem?_map] at hl
    rw [← hF] at hl
    have hbl : b < c.hist.length := by
      cases hh : (applyW c.mark c.hist (pushW ((n * v.per.toNat : Nat) : Int) (min v.per (v.blocks - ((n * v.per.toNat : Nat) : Int))) ws))[b]? with
      | none => rw [hh] at hl; cases hl
      | some x => have := (List.getElem?_eq_some_iff.1 hh).1; rwa [applyW_len] at this
    have hbc : (b : Int) < min v.per (v.blocks - ((n * v.per.toNat : Nat) : Int)) := by rw [hF, ← hc.count, ← hc.len]; omega
    obtain ⟨l0, hl0⟩ := get_of_lt hbl
    obtain ⟨k0, hk1, hk2⟩ := hc.his b l0 hl0
    have hseq : ∀ x ∈ histF (v.writes.take c.mark.toNat) (n * v.per.toNat + b), x.seq ≤ c.mark := by
      intro x hx
      obtain ⟨w, hw, e⟩ := histF_mem hx
      have := h.slice (a := 0) (b := c.mark.toNat) w (by simpa using hw)
      omega
    have hW := applyW_push c.mark (n * v.per.toNat) b _ hbc ws c.hist (fun w hw => by
      have := hsl w hw
      exact ⟨by omega, by omega, by omega, this.2.2.2.2.2.2⟩) hwp (fun e he x hx w hw => by
      rw [hl0] at he
      injection he with he
      subst he
      rw [hk1] at hx
      have h1 := hseq x (List.mem_of_mem_drop hx)
      have h2 := hsl w hw
      omega)
    rw [hW, hl0] at hl
    simp only [Option.map_some, Option.some.injEq] at hl
    simp only [htk, histF_app]
    generalize hF1 : histF (v.writes.take c.mark.toNat) (n * v.per.toNat + b) = F1 at *
    generalize hF2 : histF ws (n * v.per.toNat + b) = F2 at *
    have hk3 : k0 ≤ F1.length := by
      rcases hk2 with rfl | ⟨x, hx, _⟩
      · omega
      · have := (List.getElem?_eq_some_iff.1 hx).1; omega
    have hsorted : (F1 ++ F2).Pairwise fun a b => a.seq ≤ b.seq := by
      rw [← hF1, ← hF2, ← histF_app, ← htk]
      exact histF_sorted _ (h.seqs'.sublist (List.take_sublist ..))
    have hl' : l = pruV ((F1 ++ F2).drop k0) (min v.floor to) := by rw [drop_app_le hk3, ← hk1, ← hl]
    have hsd := hsorted.sublist (List.drop_sublist k0 _)
    rw [pruV_sorted hsd, List.drop_drop] at hl'
    generalize hj : behN ((F1 ++ F2).drop k0) (min v.floor to) = j at *
    refine ⟨k0 + (j - 1), hl', ?_⟩
    rcases Nat.eq_zero_or_pos j with h0 | h0
    · rw [h0]
      rcases hk2 with rfl | ⟨x, hx, hxs⟩
      · exact .inl rfl
      · refine .inr ⟨x, ?_, ?_⟩
        · have := (List.getElem?_eq_some_iff.1 hx).1
          rw [show k0 + (0 - 1) = k0 by omega, List.getElem?_append_left this, hx]
        · rw [hc.floor] at hxs; show x.seq ≤ min v.floor to; omega
    · have hjl := behN_le ((F1 ++ F2).drop k0) (min v.floor to)
      rw [hj] at hjl
      obtain ⟨x, hx⟩ := get_of_lt (l := (F1 ++ F2).drop k0) (i := j - 1) (by omega)
      have hxs := (beh_iff (t := min v.floor to) hsd hx).2 (by omega)
      rw [List.getElem?_drop] at hx
      exact .inr ⟨x, hx, hxs⟩

/-- What a chunk tells of a block at a time. -/
theorem KR.at {k : Nat} {v : Volume} (h : VR k v) {n : Nat} {c : Chunk} (hc : KR v n c) {b : Nat} {l : List Ver} (hl : c.hist[b]? = some l) {t : Int} (h1 : c.floor ≤ t) (h2 : t ≤ c.mark) : atF l t = atF (histF v.writes (n * v.per.toNat + b)) t := by
  obtain ⟨k0, rfl, hk⟩ := hc.his b l hl
  have hs := histF_sorted (n * v.per.toNat + b) (h.seqs'.sublist (List.take_sublist c.mark.toNat v.writes))
  rw [atF_drop hs (by rcases hk with h | ⟨x, hx, hxs⟩; exact .inl h; exact .inr ⟨x, hx, by omega⟩)]
  have e : v.writes = v.writes.take c.mark.toNat ++ v.writes.drop c.mark.toNat := (List.take_append_drop ..).symm
  conv => rhs; rw [e, histF_app]
  refine (atF_app fun x hx => ?_).symm
  obtain ⟨w, hw, ew⟩ := histF_mem hx
  obtain ⟨i, hi⟩ := List.mem_iff_getElem?.1 hw
  rw [List.getElem?_drop] at hi
  have := (h.wr _ w hi).1
  have := hc.mark
  omega

theorem KR.sorted {k : Nat} {v : Volume} (h : VR k v) {n : Nat} {c : Chunk} (hc : KR v n c) {b : Nat} {l : List Ver} (hl : c.hist[b]? = some l) : l.Pairwise (fun a b => a.seq ≤ b.seq) ∧ l.length ≤ 8 * v.writes.length := by
  obtain ⟨k0, rfl, hk⟩ := hc.his b l hl
  refine ⟨(histF_sorted _ (h.seqs'.sublist (List.take_sublist ..))).sublist (List.drop_sublist ..), ?_⟩
  rw [List.length_drop]
  have : ∀ (ws : List Write) (j : Nat), (∀ w ∈ ws, w.items.length ≤ 8) → (histF ws j).length ≤ 8 * ws.length := by
    intro ws j hw
    induction ws with
    | nil => simp [histF]
    | cons w ws ih =>
      have h1 := ih fun w' hw' => hw w' (List.mem_cons_of_mem _ hw')
      have h2 := hw w (List.mem_cons_self ..)
      have h3 := verI_len w.seq w.items j
      rw [histF_cons, List.length_append, List.length_cons]
      omega
  have h3 := this (v.writes.take c.mark.toNat) (n * v.per.toNat + b) fun w hw => by
    have := (h.slice (a := 0) (b := c.mark.toNat) w (by simpa using hw)).2.2.2.2.1
    omega
  have h4 := List.length_take_le c.mark.toNat v.writes
  simp only [List.length_take] at h3
  omega

theorem KR.new {k : Nat} {v : Volume} (h : VR k v) {n : Nat} (hn : n < v.place.length) : KR v n (newChk (pushP v n 0)) := by
  have hc := h.cnt hn
  have hf := h.floor
  obtain ⟨s1, s2, s3, s4, s5, s6, s7, s8, s9, s10, s11, s12⟩ := h.shape
  refine { vol := rfl, chunk := rfl, count := rfl, size := rfl, mark := ⟨Int.le_refl _, by simp only [newChk]; omega⟩, floor := by simp only [newChk]; omega, len := by simp only [newChk, pushP, List.length_replicate]; omega, his := fun b l hl => ⟨0, ?_, .inl rfl⟩ }
  simp only [newChk, List.getElem?_replicate] at hl
  split at hl
  · injection hl with hl; rw [← hl]; rfl
  · cases hl

/-! ### The chunk of the seat -/
def goK (v : Volume) (n mark : Int) : Nat → Chunk → Chunk
  | 0, c => c
  | f + 1, c => if c.mark < mark ∧ c.mark < v.writes.length then goK v n mark f (applyK c (pushP v n c.mark)) else c
def seatK (v : Volume) (n mark : Int) : Chunk := goK v n mark (v.writes.length + 1) (newChk (pushP v n 0))
theorem goK_more {k : Nat} {v : Volume} (h : VR k v) (hk : k ≤ 1000000) {n : Nat} (hn : n < v.place.length) (mark : Int) : ∀ (f g : Nat) (c : Chunk), KR v n c → (v.writes.length : Int) - c.mark < f → (v.writes.length : Int) - c.mark < g → goK v n mark f c = goK v n mark g c
  | 0, g, c, hc, h1, _ => by have := hc.mark; omega
  | f + 1, 0, c, hc, _, h2 => by have := hc.mark; omega
  | f + 1, g + 1, c, hc, h1, h2 => by
    simp only [goK]
    split
    · obtain ⟨a1, a2⟩ := hc.apply h hk hn
      exact goK_more h hk hn mark f g _ a1 (by rw [a2]; omega) (by rw [a2]; omega)
    · rfl
theorem goK_KR {k : Nat} {v : Volume} (h : VR k v) (hk : k ≤ 1000000) {n : Nat} (hn : n < v.place.length) (mark : Int) : ∀ (f : Nat) (c : Chunk), KR v n c → (v.writes.length : Int) - c.mark < f → KR v n (goK v n mark f c) ∧ (mark ≤ (goK v n mark f c).mark ∨ (goK v n mark f c).mark = v.writes.length)
  | 0, c, hc, h1 => by have := hc.mark; omega
  | f + 1, c, hc, h1 => by
    simp only [goK]
    split
    · obtain ⟨a1, a2⟩ := hc.apply h hk hn
      exact goK_KR h hk hn mark f _ a1 (by rw [a2]; omega)
    · have := hc.mark
      exact ⟨hc, by omega⟩
theorem seatK_KR {k : Nat} {v : Volume} (h : VR k v) (hk : k ≤ 1000000) {n : Nat} (hn : n < v.place.length) (mark : Int) : KR v n (seatK v n mark) ∧ (mark ≤ (seatK v n mark).mark ∨ (seatK v n mark).mark = v.writes.length) :=
  goK_KR h hk hn mark _ _ (KR.new h hn) (by simp only [newChk]; omega)

end Go.Eng
