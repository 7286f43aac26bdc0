/- The law mementolaw23.ExportWhich returns true for every input and leaves its arguments as they were; no condition beyond the row's own. Part 6. -/
import Derived.Laws.Pointers
import Derived.Test.YtliedpopdcjkeaaGreatM5
set_option linter.unusedVariables false
set_option linter.unusedSimpArgs false
set_option maxHeartbeats 8000000
namespace Go.Eng
open Go.Proofs

class PtrC (P : Program) (t : TypeId) : Prop where eq : P.underlying t = some (.pointer (P.pointee t))
section
variable {P : Program} {E : Env} {N : Nat} {tm : List (Nat × AV)} {hp : List (Nat × Option Blk)} {us : List Nat} {d : Nat} {x y : Operand} {t ty : TypeId} {pos : String} {af : Array Edge} {g : Option (Nat × Bool)}
theorem s_eqlP {t' : TypeId} [hl : PtrC P t] (hx : evO tm x = some (.t (.k (.pointer none)))) (hy : evO tm y = some (.t (.k (.pointer none)))) (hN : Nat.blt d N = true) :
    Step P E N ⟨some d, .binOp .eql t x y t', ty, pos, af, g⟩ tm hp us ⟨needL [(x, .t (.k (.pointer none))), (y, .t (.k (.pointer none)))], [], [], some (d, AB true), []⟩ :=
  step_val [(x, .t (.k (.pointer none))), (y, .t (.k (.pointer none)))] [] rfl hN ⟨hx, hy, trivial⟩ trivial fun σ τ h us c w hv => by
    have h1 := (hv.ar (x, .t (.k (.pointer none))) (by simp)).kv
    have h2 := (hv.ar (y, .t (.k (.pointer none))) (by simp)).kv
    dsimp only at h1 h2
    refine ⟨.bool true, ?_, .t (.k _ trivial), fun _ _ => rfl⟩
    have := run_eql_pointer_nil w t none hl.eq
    simp [execOp, h1, h2, eqGuard, this]
end
instance : PtrC Tryz.prog 111 := ⟨by kernel_rfl⟩

theorem c_export_Gather_nil (n : Int) : Con Tryz.prog 27 [.t (.k (.pointer none)), AI .i64 n] [] (.tup [sC (volC volZ), .t (chksT []), AI .i64 28]) [] := by
  refine con_intro [] [] Tryz.func27 rfl Tryz.ntmps27 Tryz.results27 rfl rfl ?_
  intro E
  refine vc_rseq mixed ?_
  refine g_new (s_alloc 4 rfl rfl) rfl ?_
  refine g_val (s_assign rfl rfl) rfl ?_
  refine g_val (s_assign rfl rfl) rfl ?_
  refine g_nil ?_
  refine vc_seq ?_
  refine vc_rseq mixed ?_
  refine g_val (s_move rfl rfl) rfl ?_
  refine g_val (s_eqlP rfl rfl rfl) rfl ?_
  refine g_nil ?_
  refine vc_cond rfl (fun _ => ?_) (fun h => by cases h)
  refine vc_rseq mixed ?_
  refine g_val (s_build evArgs_nil rfl rfl rfl) rfl ?_
  refine g_sto (s_store rfl rfl rfl rfl rfl rfl) rfl ?_
  refine g_val (s_assign rfl rfl) rfl ?_
  refine g_val (s_assign rfl rfl) rfl ?_
  refine g_nil ?_
  exact vc_ret (ret_le [] _ (.cons (.agg rfl rfl rfl rfl) (.cons (.tmp rfl) (.cons (.tmp rfl) .nil))) trivial (LeV.tupL (leL_cons (by repeat (first | exact leL_nil | refine leL_cons ?_ ?_ | exact LeV.tt rfl | exact .nl (by decide) (by decide) | exact .nn | refine LeV.tupL ?_ | refine LeV.aggL ?_ | exact .eq (by first | exact trivial | (simp [AV.okV, okR, lkB]; done) | (simp [AV.okV, okR, lkB]; omega)) (by first | rfl | (simp [AV.view, viewR, lkB, AV.ren, List.take_of_length_le]; done) | (simp [AV.view, viewR, lkB, AV.ren, List.take_of_length_le]; done)))) (leL_cons (.nl (by decide) (by decide)) (leL_cons (.same _) leL_nil)))) rfl)

/-! ### The reference's state -/
def refB (v : Volume) (ws : List Write) (j : Nat) : List Int := finV (histF ws j) (zerB v.size.toNat)
theorem refB_st {k : Nat} {v : Volume} (h : VR k v) {t : Int} (h1 : 0 ≤ t) (h2 : t ≤ v.writes.length) (j : Nat) : refB v (v.writes.take t.toNat) j = stB v t j := by
  rw [stB_fin, refB]
  have e : v.writes = v.writes.take t.toNat ++ v.writes.drop t.toNat := (List.take_append_drop ..).symm
  conv => rhs; rw [e, histF_app]
  congr 1
  rw [List.takeWhile_append_of_pos, takeWhile_none, List.append_nil]
  intro x hx
  obtain ⟨w, hw, ew⟩ := histF_mem hx
  obtain ⟨i, hi⟩ := List.mem_iff_getElem?.1 hw
  rw [List.getElem?_drop] at hi
  have := (h.wr _ w hi).1
  simp; omega
  intro x hx
  obtain ⟨w, hw, ew⟩ := histF_mem hx
  have := h.slice (a := 0) (b := t.toNat) w (by simpa using hw)
  simp; omega
theorem range_set {α : Type} {n i : Nat} {f g : Nat → α} {a : α} (hi : a = g i) (hg : ∀ j, j ≠ i → g j = f j) : ((List.range n).map f).set i a = (List.range n).map g := by
  apply List.ext_getElem?
  intro k
  rw [List.getElem?_set, List.getElem?_map, List.getElem?_map]
  by_cases e : i = k
  subst e
  by_cases hk : i < n
  simp [hk, hi]
  simp [hk]
  rw [if_neg e]
  by_cases hk : k < n
  simp [hk, hg k (fun h => e h.symm)]
  simp [hk]
def rowB (n : Nat) (f : Nat → List Int) : List (List T) := (List.range n).map fun j => [bytesT (f j)]

theorem rowB_item {n k : Nat} {R : Nat → List Int} {w : Write} {x : Item} (hx : w.items[k]? = some x) (h0 : 0 ≤ x.block) : (rowB n fun j => finV (verI w.seq (w.items.take k) j) (R j)).set x.block.toNat [bytesT x.data] = rowB n fun j => finV (verI w.seq (w.items.take (k + 1)) j) (R j) := by
  refine range_set ?_ fun j hj => ?_
  show [bytesT x.data] = [bytesT (finV (verI w.seq (w.items.take (k + 1)) x.block.toNat) (R x.block.toNat))]
  rw [take_snoc hx, verI_snoc, finV_app, if_pos (by omega)]; rfl
  show [bytesT (finV (verI w.seq (w.items.take (k + 1)) j) (R j))] = [bytesT (finV (verI w.seq (w.items.take k) j) (R j))]
  rw [take_snoc hx, verI_snoc, finV_app, if_neg (by omega)]; rfl
theorem rowB_write {n s : Nat} {v : Volume} {w : Write} (hw : v.writes[s]? = some w) : (rowB n fun j => finV (verI w.seq w.items j) (refB v (v.writes.take s) j)) = rowB n fun j => refB v (v.writes.take (s + 1)) j :=
  List.map_congr_left fun j _ => by
    show [bytesT (finV (verI w.seq w.items j) (refB v (v.writes.take s) j))] = [bytesT (refB v (v.writes.take (s + 1)) j)]
    rw [take_snoc hw]
    simp only [refB, histF_snoc, finV_app]

theorem c_mementoref16_State (k : Nat) (v : Volume) (t : Int) (hv : VR k v) (hk : k ≤ 10000) : Con Tryz.prog 14 [sC (volC v), AI .i64 t] [] (.tup [.t (bodiesT (stateF v t).1), AI .i64 (stateF v t).2]) [] := by
  refine con_intro [] [] Tryz.func14 rfl Tryz.ntmps14 Tryz.results14 rfl rfl ?_
  intro E
  obtain ⟨s1, s2, s3, s4, s5, s6, s7, s8, s9, s10, s11, s12⟩ := hv.shape
  have hfl := hv.floor
  have hnw := hv.nw
  obtain ⟨n, hn⟩ : ∃ n : Nat, v.blocks = n := ⟨v.blocks.toNat, by omega⟩
  obtain ⟨z, hz⟩ : ∃ z : Nat, v.size = z := ⟨v.size.toNat, by omega⟩
  have hzz : v.size.toNat = z := by omega
  have hvb : i64 v.blocks = i64 (n : Int) := by rw [hn]
  refine vc_rseq mixed ?_
  refine g_new (s_box 2 rfl rfl rfl rfl) rfl ?_
  refine g_val (s_assign rfl rfl) rfl ?_
  refine g_val (s_assign rfl rfl) rfl ?_
  refine g_nil ?_
  refine vc_seq ?_
  refine vc_rseq mixed ?_
  refine g_val (s_move rfl rfl) rfl ?_
  refine g_val (s_field rfl rfl rfl rfl) rfl ?_
  refine g_val (s_load rfl rfl rfl rfl) rfl ?_
  refine g_val (s_lss rfl rfl rfl) rfl ?_
  refine g_nil ?_
  refine vc_cond rfl (fun hc14 => ?_) (fun hc14 => ?_)
  replace hc14 := of_decide_eq_true hc14
  rw [show stateF v t = ([], 30) from if_pos (by omega)]
  refine vc_rseq mixed ?_
  refine g_val (s_assign rfl rfl) rfl ?_
  refine g_val (s_assign rfl rfl) rfl ?_
  refine g_nil ?_
  exact vc_ret (ret_le [] _ (.cons (.tmp rfl) (.cons (.tmp rfl) .nil)) trivial (LeV.tupL (leL_cons (.nl (by decide) (by decide)) (leL_cons (LeV.tt rfl) leL_nil))) rfl)
  replace hc14 := of_decide_eq_false hc14
  simp only [Int.not_lt] at hc14
  refine vc_skip ?_
  refine vc_seq ?_
  refine vc_rseq mixed ?_
  refine g_val (s_move rfl rfl) rfl ?_
  refine g_val (s_loadA rfl rfl rfl rfl rfl) rfl ?_
  refine g_val (s_call [] (c_mementoref16_Len v) (evArgs_cons rfl evArgs_nil) trivial rfl (okVL_nil _) rfl (.inl rfl) rfl) rfl ?_
  refine g_val (s_gtr rfl rfl rfl) rfl ?_
  refine g_nil ?_
  refine vc_cond rfl (fun hc18 => ?_) (fun hc18 => ?_)
  replace hc18 := of_decide_eq_true hc18
  rw [show stateF v t = ([], 31) by unfold stateF; rw [if_neg (by omega), if_pos (by omega)]]
  refine vc_rseq mixed ?_
  refine g_val (s_assign rfl rfl) rfl ?_
  refine g_val (s_assign rfl rfl) rfl ?_
  refine g_nil ?_
  exact vc_ret (ret_le [] _ (.cons (.tmp rfl) (.cons (.tmp rfl) .nil)) trivial (LeV.tupL (leL_cons (.nl (by decide) (by decide)) (leL_cons (LeV.tt rfl) leL_nil))) rfl)
  replace hc18 := of_decide_eq_false hc18
  simp only [Int.not_lt] at hc18
  refine vc_skip ?_
  have he : stateF v t = (((List.range n).map fun j => refB v (v.writes.take t.toNat) j), 0) := by
    unfold stateF
    rw [if_neg (by omega), if_neg (by omega), show v.blocks.toNat = n by omega]
    congr 1
    exact List.map_congr_left fun j _ => (refB_st hv (by omega) (by omega) j).symm
  rw [he]
  refine vc_rseq mixed ?_
  refine g_val (s_assign rfl rfl) rfl ?_
  refine g_nil ?_
  refine vc_seq ?_
  refine vc_ownnil (i := 6) 6 1 24 rfl rfl rfl ?_
  refine vc_rseq mixed ?_
  refine g_val (s_assign rfl rfl) rfl ?_
  refine g_nil ?_
  refine vc_block ?_
  refine vc_up n (fun i => ⟨[(1, AI .i64 t), (2, .ref 2 0), (6, .rows 6 1 0 i), (7, AI .i64 i)], [(2, some (.box ((volC v).map .t))), (6, some (.row 1 24 (rowB i fun _ => zerB z)))], [2, 6]⟩) (fun i => True) (leE_same (by repeat (first | exact letm_nil _ _ | refine letm_cons rfl ?_ ?_ | exact .same _ | exact .nl (by decide) (by decide) | exact .nn | exact .id' rfl | exact .id' (by first | (simp; done) | (simp [rowB]; done)))) (by repeat (first | exact lehp_nil _ _ | refine lehp_cons rfl ?_ ?_ | exact leB_same _ | exact leB_row (by first | rfl | (first | (simp; done) | (simp [rowB]; done))) | exact leB_obj (by first | (simp; done) | (simp [rowB]; done)) | exact leB_nest (by first | rfl | (first | (simp; done) | (simp [rowB]; done))) | refine leB_box ?_ | exact leL_nil | refine leL_cons ?_ ?_ | exact .same _ | exact .nl (by decide) (by decide) | exact .nn | exact .id' rfl | exact .id' (by first | (simp; done) | (simp [rowB]; done)))) rfl) trivial (fun i hi _ => ?_)
  refine vc_seq ?_
  refine vc_rseq mixed ?_
  refine g_val (s_move rfl rfl) rfl ?_
  refine g_val (s_field rfl rfl rfl rfl) rfl ?_
  refine g_val (s_load rfl rfl rfl rfl) rfl ?_
  refine g_val (s_lss rfl rfl rfl) rfl ?_
  refine g_nil ?_
  refine vc_cond rfl (fun hc22 => ?_) (fun hc22 => ?_)
  replace hc22 := of_decide_eq_true hc22
  refine vc_skip ?_
  refine vc_seq ?_
  refine vc_block ?_
  refine vc_region mixed ?_
  refine g_val (s_move rfl rfl) rfl ?_
  refine g_val (s_field rfl rfl rfl rfl) rfl ?_
  refine g_val (s_load rfl rfl rfl rfl) rfl ?_
  refine g_fz (Step.fzE (s_make 28 z (congrArg (fun z => some (AI .i64 z)) hz) (congrArg (fun z => some (AI .i64 z)) hz) rfl rfl (by omega)) (by simp)) rfl ?_
  refine g_fz ((s_buildSlice 29 (evArgs_cons rfl evArgs_nil) rfl rfl rfl rfl).fzE rfl) rfl ?_
  refine g_app (s_append 30 rfl rfl rfl rfl rfl (by simp [rowB]) rfl rfl (by (try simp only [List.length_cons, List.length_nil, List.length_map, rowB, List.length_range]); omega)) rfl ?_
  refine g_val (s_assign rfl rfl) rfl ?_
  refine g_nil ?_
  refine vc_region mixed ?_
  refine g_val (s_move rfl rfl) rfl ?_
  refine g_val (s_add rfl rfl rfl (by simp only [inI, kMin, kMax]; omega)) rfl ?_
  refine g_val (s_assign rfl rfl) rfl ?_
  refine g_nil ?_
  exact ⟨by omega, trivial, by
  simp only [List.length_cons, List.length_nil]
  exact (leE_gen [] [(6, 30)] (by repeat (first | exact letm_nil _ _ | refine letm_cons rfl ?_ ?_ | exact LeV.tt rfl | exact .eq (okV_nil _) rfl | exact LeV.tt (by first | (simp; done) | (rw [List.take_of_length_le (by simp [rowB])]; simp [rowB, List.range_succ, bytesT, zerB, byteC])) | exact .eq (okV_nil _) (by first | (simp; done) | (rw [List.take_of_length_le (by simp [rowB])]; simp [rowB, List.range_succ, bytesT, zerB, byteC])))) (by repeat (first | exact lehp_nil _ _ | refine lehp_cons rfl ?_ ?_ | exact leB_row (by first | rfl | (first | (simp; done) | (rw [List.take_of_length_le (by simp [rowB])]; simp [rowB, List.range_succ, bytesT, zerB, byteC]))) | exact leB_obj (by first | (simp; done) | (rw [List.take_of_length_le (by simp [rowB])]; simp [rowB, List.range_succ, bytesT, zerB, byteC])) | exact leB_nest (by first | rfl | (first | (simp; done) | (rw [List.take_of_length_le (by simp [rowB])]; simp [rowB, List.range_succ, bytesT, zerB, byteC]))) | refine leB_box ?_ | exact leL_nil | refine leL_cons ?_ ?_ | exact LeV.tt rfl | exact .eq (okV_nil _) rfl | exact LeV.tt (by first | (simp; done) | (rw [List.take_of_length_le (by simp [rowB])]; simp [rowB, List.range_succ, bytesT, zerB, byteC])) | exact .eq (okV_nil _) (by first | (simp; done) | (rw [List.take_of_length_le (by simp [rowB])]; simp [rowB, List.range_succ, bytesT, zerB, byteC])))) trivial rfl)⟩
  replace hc22 := of_decide_eq_false hc22
  simp only [Int.not_lt] at hc22
  refine vc_exit ?_
  refine vc_seq ?_
  obtain rfl : i = n := by omega
  refine vc_rseq mixed ?_
  refine g_val (s_assign rfl rfl) rfl ?_
  refine g_nil ?_
  refine vc_block ?_
  refine vc_up t.toNat (fun s => ⟨[(1, AI .i64 t), (2, .ref 2 0), (6, .rows 6 1 0 i), (8, AI .i64 s)], [(2, some (.box ((volC v).map .t))), (6, some (.row 1 24 (rowB i fun j => refB v (v.writes.take s) j)))], [2, 6]⟩) (fun s => True) (leE_same (by repeat (first | exact letm_nil _ _ | refine letm_cons rfl ?_ ?_ | exact .same _ | exact .nl (by decide) (by decide) | exact .nn | exact .id' rfl | exact .id' (by first | (simp; done) | (simp [refB, histF, finV, hzz]; done)))) (by repeat (first | exact lehp_nil _ _ | refine lehp_cons rfl ?_ ?_ | exact leB_same _ | exact leB_row (by first | rfl | (first | (simp; done) | (simp [refB, histF, finV, hzz]; done))) | exact leB_obj (by first | (simp; done) | (simp [refB, histF, finV, hzz]; done)) | exact leB_nest (by first | rfl | (first | (simp; done) | (simp [refB, histF, finV, hzz]; done))) | refine leB_box ?_ | exact leL_nil | refine leL_cons ?_ ?_ | exact .same _ | exact .nl (by decide) (by decide) | exact .nn | exact .id' rfl | exact .id' (by first | (simp; done) | (simp [refB, histF, finV, hzz]; done)))) rfl) trivial (fun s hs _ => ?_)
  refine vc_seq ?_
  refine vc_rseq mixed ?_
  refine g_val (s_move rfl rfl) rfl ?_
  refine g_val (s_move rfl rfl) rfl ?_
  refine g_val (s_lss rfl rfl rfl) rfl ?_
  refine g_nil ?_
  refine vc_cond rfl (fun hc33 => ?_) (fun hc33 => ?_)
  replace hc33 := of_decide_eq_true hc33
  obtain ⟨w, hw⟩ := get_of_lt (l := v.writes) (i := s) (by omega)
  obtain ⟨hwq, hwi, hwl, hwb, hwn⟩ := hv.wr _ w hw
  refine vc_skip ?_
  refine vc_seq ?_
  refine vc_block ?_
  refine vc_rseq mixed ?_
  refine g_val (s_field rfl rfl rfl rfl) rfl ?_
  refine g_val (s_load rfl rfl rfl rfl) rfl ?_
  refine g_val (s_move rfl rfl) rfl ?_
  refine g_val (s_index rfl rfl rfl (by omega) (idx_map hw)) rfl ?_
  refine g_val (s_loadTA rfl rfl rfl) rfl ?_
  refine g_new (s_alloc 9 rfl rfl) rfl ?_
  refine g_sto (s_store rfl rfl rfl rfl rfl rfl) rfl ?_
  refine g_nil ?_
  refine vc_rseq mixed ?_
  refine g_val (s_assign rfl rfl) rfl ?_
  refine g_nil ?_
  refine vc_block ?_
  refine vc_up w.items.length (fun k => ⟨[(1, AI .i64 t), (2, .ref 2 0), (6, .rows 6 1 0 i), (8, AI .i64 s), (9, .ref 9 0), (10, AI .i64 k)], [(2, some (.box ((volC v).map .t))), (6, some (.row 1 24 (rowB i fun j => finV (verI w.seq (w.items.take k) j) (refB v (v.writes.take s) j)))), (9, some (.box ((writeC w).map .t)))], [2, 6, 9]⟩) (fun k => True) (leE_same (by repeat (first | exact letm_nil _ _ | refine letm_cons rfl ?_ ?_ | exact .same _ | exact .nl (by decide) (by decide) | exact .nn | exact .id' rfl | exact .id' (by first | (simp; done) | (simp [verI, finV]; done)))) (by repeat (first | exact lehp_nil _ _ | refine lehp_cons rfl ?_ ?_ | exact leB_same _ | exact leB_row (by first | rfl | (first | (simp; done) | (simp [verI, finV]; done))) | exact leB_obj (by first | (simp; done) | (simp [verI, finV]; done)) | exact leB_nest (by first | rfl | (first | (simp; done) | (simp [verI, finV]; done))) | refine leB_box ?_ | exact leL_nil | refine leL_cons ?_ ?_ | exact .same _ | exact .nl (by decide) (by decide) | exact .nn | exact .id' rfl | exact .id' (by first | (simp; done) | (simp [verI, finV]; done)))) rfl) trivial (fun k hk _ => ?_)
  refine vc_seq ?_
  refine vc_rseq mixed ?_
  refine g_val (s_move rfl rfl) rfl ?_
  refine g_val (s_field rfl rfl rfl rfl) rfl ?_
  refine g_val (s_load rfl rfl rfl rfl) rfl ?_
  refine g_val (s_len rfl rfl) rfl ?_
  refine g_val (s_lss rfl rfl rfl) rfl ?_
  refine g_nil ?_
  refine vc_cond rfl (fun hc45 => ?_) (fun hc45 => ?_)
  replace hc45 := of_decide_eq_true hc45
  simp only [List.length_map] at hc45
  obtain ⟨x, hx⟩ := get_of_lt (l := w.items) (i := k) (by omega)
  obtain ⟨x1, x2, x3⟩ := hwb x (List.mem_of_getElem? hx)
  have hrow : (rowB i fun j => finV (verI w.seq (w.items.take k) j) (refB v (v.writes.take s) j))[0 + x.block.toNat]? = some [bytesT (finV (verI w.seq (w.items.take k) x.block.toNat) (refB v (v.writes.take s) x.block.toNat))] := by
    rw [Nat.zero_add, rowB, List.getElem?_map, List.getElem?_range (by omega)]; rfl
  refine vc_skip ?_
  refine vc_seq ?_
  refine vc_block ?_
  refine vc_region mixed ?_
  refine d_val (s_move rfl rfl) rfl ?_
  refine d_val (s_field rfl rfl rfl rfl) rfl ?_
  refine d_val (s_load rfl rfl rfl rfl) rfl ?_
  refine d_val (s_move rfl rfl) rfl ?_
  refine d_val (s_index rfl rfl rfl (by omega) (idx_map hx)) rfl ?_
  refine d_val (s_fieldT rfl rfl rfl rfl rfl) rfl ?_
  refine d_val (s_loadT rfl rfl rfl) rfl ?_
  refine d_val (s_field rfl rfl rfl rfl) rfl ?_
  refine d_val (s_load rfl rfl rfl rfl) rfl ?_
  refine d_val (s_move rfl rfl) rfl ?_
  refine d_val (s_index rfl rfl rfl (by omega) (idx_map hx)) rfl ?_
  refine d_val (s_fieldT rfl rfl rfl rfl rfl) rfl ?_
  refine d_val (s_loadT rfl rfl rfl) rfl ?_
  refine d_val (s_indexR rfl rfl rfl (by omega) (by omega)) rfl ?_
  refine d_sto (s_storeR rfl rfl rfl rfl rfl (hrow) rfl) rfl ?_
  refine d_nil rfl ?_
  refine vc_region mixed ?_
  refine g_val (s_move rfl rfl) rfl ?_
  refine g_val (s_add rfl rfl rfl (by simp only [inI, kMin, kMax]; omega)) rfl ?_
  refine g_val (s_assign rfl rfl) rfl ?_
  refine g_nil ?_
  exact ⟨by omega, trivial, (leE_same (by repeat (first | exact letm_nil _ _ | refine letm_cons rfl ?_ ?_ | exact .same _ | exact .nl (by decide) (by decide) | exact .nn | exact .id' rfl | exact .id' (by first | (simp; done) | (rw [Nat.zero_add]; exact rowB_item hx x1)))) (by repeat (first | exact lehp_nil _ _ | refine lehp_cons rfl ?_ ?_ | exact leB_same _ | exact leB_row (by first | rfl | (first | (simp; done) | (rw [Nat.zero_add]; exact rowB_item hx x1))) | exact leB_obj (by first | (simp; done) | (rw [Nat.zero_add]; exact rowB_item hx x1)) | exact leB_nest (by first | rfl | (first | (simp; done) | (rw [Nat.zero_add]; exact rowB_item hx x1))) | refine leB_box ?_ | exact leL_nil | refine leL_cons ?_ ?_ | exact .same _ | exact .nl (by decide) (by decide) | exact .nn | exact .id' rfl | exact .id' (by first | (simp; done) | (rw [Nat.zero_add]; exact rowB_item hx x1)))) rfl)⟩
  replace hc45 := of_decide_eq_false hc45
  simp only [List.length_map, Int.not_lt] at hc45
  refine vc_exit ?_
  refine vc_region mixed ?_
  refine g_val (s_move rfl rfl) rfl ?_
  refine g_val (s_add rfl rfl rfl (by simp only [inI, kMin, kMax]; omega)) rfl ?_
  refine g_val (s_assign rfl rfl) rfl ?_
  refine g_nil ?_
  exact ⟨by omega, trivial, (leE_same (by repeat (first | exact letm_nil _ _ | refine letm_cons rfl ?_ ?_ | exact .same _ | exact .nl (by decide) (by decide) | exact .nn | exact .id' rfl | exact .id' (by first | (simp; done) | (rw [show k = w.items.length by omega, List.take_length]; exact rowB_write hw)))) (by repeat (first | exact lehp_nil _ _ | refine lehp_cons rfl ?_ ?_ | exact leB_same _ | exact leB_row (by first | rfl | (first | (simp; done) | (rw [show k = w.items.length by omega, List.take_length]; exact rowB_write hw))) | exact leB_obj (by first | (simp; done) | (rw [show k = w.items.length by omega, List.take_length]; exact rowB_write hw)) | exact leB_nest (by first | rfl | (first | (simp; done) | (rw [show k = w.items.length by omega, List.take_length]; exact rowB_write hw))) | refine leB_box ?_ | exact leL_nil | refine leL_cons ?_ ?_ | exact .same _ | exact .nl (by decide) (by decide) | exact .nn | exact .id' rfl | exact .id' (by first | (simp; done) | (rw [show k = w.items.length by omega, List.take_length]; exact rowB_write hw)))) rfl)⟩
  replace hc33 := of_decide_eq_false hc33
  simp only [Int.not_lt] at hc33
  refine vc_exit ?_
  obtain rfl : s = t.toNat := by omega
  refine vc_rseq mixed ?_
  refine g_val (s_move rfl rfl) rfl ?_
  refine g_val (s_assign rfl rfl) rfl ?_
  refine g_val (s_assign rfl rfl) rfl ?_
  refine g_nil ?_
  exact vc_ret (ret_le [(6, _)] _ (.cons (.tmp rfl) (.cons (.tmp rfl) .nil)) ⟨rfl, trivial⟩ (LeV.tupL (leL_cons (.eq (by simp [AV.okV, okR, lkB, rowB]) (by simp [AV.view, viewR, lkB, AV.ren, bodiesT, bodyC, rowB, List.take_of_length_le]; try rfl)) (leL_cons (LeV.tt rfl) leL_nil))) rfl)

def chunksL (v : Volume) (l : List Int) : List Chunk := l.map fun x => seatK v (x % v.place.length) (x / 8 % (v.writes.length + 4))

theorem c_law23_chunks (k : Nat) (v : Volume) (l : List Int) (hv : VR k v) (hk : k ≤ 10000) (hl : l.length ≤ 1000) : Con Tryz.prog 11 [sC (volC v), .t (bytesT l)] [] (.rows 0 7 0 l.length) [(0, .row 7 72 ((chunksL v l).map chkC))] := by
  refine con_intro [] [0] Tryz.func11 rfl Tryz.ntmps11 Tryz.results11 rfl rfl ?_
  intro E
  refine vc_okT (i := 1) rfl fun ok1 => ?_
  have hpl := hv.plen
  have hnw := hv.nw
  obtain ⟨s1, s2, s3, s4, s5, s6, s7, s8, s9, s10, s11, s12⟩ := hv.shape
  have hp0 : 0 < v.place.length := by
    have h0 := (Int.le_ediv_iff_mul_le (a := 1) (b := v.blocks + v.per - 1) (c := v.per) (by omega)).2 (by omega)
    unfold chunksN at s9
    omega
  refine vc_rseq mixed ?_
  refine g_new (s_box 2 rfl rfl rfl rfl) rfl ?_
  refine g_val (s_assign rfl rfl) rfl ?_
  refine g_nil ?_
  refine vc_rseq mixed ?_
  refine g_val (s_assign rfl rfl) rfl ?_
  refine g_nil ?_
  refine vc_seq ?_
  refine vc_ownnil (i := 5) 5 7 72 rfl rfl rfl ?_
  refine vc_rseq mixed ?_
  refine g_val (s_assign rfl rfl) rfl ?_
  refine g_nil ?_
  refine vc_block ?_
  refine vc_up l.length (fun i => ⟨[(1, .t (bytesT l)), (2, .ref 2 0), (5, .rows 5 7 0 i), (6, AI .i64 i)], [(2, some (.box ((volC v).map .t))), (5, some (.row 7 72 ((chunksL v (l.take i)).map chkC)))], [2, 5]⟩) (fun i => True) (leE_same (by repeat (first | exact letm_nil _ _ | refine letm_cons rfl ?_ ?_ | exact .same _ | exact .nl (by decide) (by decide) | exact .nn | exact .id' rfl | exact .id' (by first | (simp; done) | (simp [chunksL]; done)))) (by repeat (first | exact lehp_nil _ _ | refine lehp_cons rfl ?_ ?_ | exact leB_same _ | exact leB_row (by first | rfl | (first | (simp; done) | (simp [chunksL]; done))) | exact leB_obj (by first | (simp; done) | (simp [chunksL]; done)) | exact leB_nest (by first | rfl | (first | (simp; done) | (simp [chunksL]; done))) | refine leB_box ?_ | exact leL_nil | refine leL_cons ?_ ?_ | exact .same _ | exact .nl (by decide) (by decide) | exact .nn | exact .id' rfl | exact .id' (by first | (simp; done) | (simp [chunksL]; done)))) rfl) trivial (fun i hi _ => ?_)
  refine vc_seq ?_
  refine vc_rseq mixed ?_
  refine g_val (s_move rfl rfl) rfl ?_
  refine g_val (s_move rfl rfl) rfl ?_
  refine g_val (s_len rfl rfl) rfl ?_
  refine g_val (s_lss rfl rfl rfl) rfl ?_
  refine g_nil ?_
  refine vc_cond rfl (fun hc10 => ?_) (fun hc10 => ?_)
  replace hc10 := of_decide_eq_true hc10
  simp only [List.length_map] at hc10
  obtain ⟨x, hx⟩ := get_of_lt (l := l) (i := i) (by omega)
  have hxr := ok1.bytes x (List.mem_of_getElem? hx)
  have hm1 := Int.emod_nonneg x (b := (v.place.length : Int)) (by omega)
  have hm2 := Int.emod_lt_of_pos x (b := (v.place.length : Int)) (by omega)
  have hd1 := Int.emod_nonneg (x / 8) (b := (v.writes.length : Int) + 4) (by omega)
  have hd2 := Int.emod_lt_of_pos (x / 8) (b := (v.writes.length : Int) + 4) (by omega)
  have hsk := c_mementoseat_Chunk k v (x % v.place.length).toNat (x / 8 % (v.writes.length + 4)) hv hk (by omega)
  rw [Int.toNat_of_nonneg hm1] at hsk
  have hsk2 : Con Tryz.prog 12 [sC (volC v), AI .i64 (x % ((v.place.map intC).length : Int)), AI .i64 (x / 8 % (v.writes.length + 4))] [] (sC (chkC (seatK v (x % v.place.length) (x / 8 % (v.writes.length + 4))))) [] := by
    rw [show ((v.place.map intC).length : Int) = v.place.length by simp]; exact hsk
  refine vc_skip ?_
  refine vc_seq ?_
  refine vc_block ?_
  refine vc_region mixed ?_
  refine d_val (s_move rfl rfl) rfl ?_
  refine d_val (s_loadA rfl rfl rfl rfl rfl) rfl ?_
  refine d_val (s_move rfl rfl) rfl ?_
  refine d_val (s_move rfl rfl) rfl ?_
  refine d_val (s_index rfl rfl rfl (by omega) (idx_map hx)) rfl ?_
  refine d_val (s_loadT rfl rfl rfl) rfl ?_
  refine d_val (s_conv rfl rfl (by simp only [inI, kMin, kMax]; omega)) rfl ?_
  refine d_val (s_field rfl rfl rfl rfl) rfl ?_
  refine d_val (s_load rfl rfl rfl rfl) rfl ?_
  refine d_val (s_len rfl rfl) rfl ?_
  refine d_val (s_rem rfl rfl rfl (by first | omega | (simp only [List.length_map]; omega)) (by first | omega | (simp only [List.length_map]; omega))) rfl ?_
  refine d_val (s_move rfl rfl) rfl ?_
  refine d_val (s_move rfl rfl) rfl ?_
  refine d_val (s_index rfl rfl rfl (by omega) (idx_map hx)) rfl ?_
  refine d_val (s_loadT rfl rfl rfl) rfl ?_
  refine d_val (s_quo rfl rfl rfl (by omega) (by omega)) rfl ?_
  refine d_val (s_conv rfl rfl (by simp only [inI, kMin, kMax]; omega)) rfl ?_
  refine d_val (s_loadA rfl rfl rfl rfl rfl) rfl ?_
  refine d_val (s_call [] (c_mementoref16_Len v) (evArgs_cons rfl evArgs_nil) trivial rfl (okVL_nil _) rfl (.inl rfl) rfl) rfl ?_
  refine d_val (s_add rfl rfl rfl (by simp only [inI, kMin, kMax]; omega)) rfl ?_
  refine d_val (s_rem rfl rfl rfl (by omega) (by omega)) rfl ?_
  refine d_val (s_call [] (hsk2) (evArgs_cons rfl (evArgs_cons rfl (evArgs_cons rfl evArgs_nil))) trivial rfl (okVL_nil _) rfl (.inl rfl) rfl) rfl ?_
  refine d_fz ((s_buildSlice 35 (evArgs_cons rfl evArgs_nil) rfl rfl rfl rfl).fzE rfl) rfl ?_
  refine d_app (s_append 36 rfl rfl rfl rfl rfl (by first | (simp [chunksL]; done) | (simp [chunksL]; omega)) rfl rfl (by (try simp only [List.length_cons, List.length_nil, List.length_map, chunksL]); omega)) rfl ?_
  refine d_val (s_assign rfl rfl) rfl ?_
  refine d_nil rfl ?_
  refine vc_region mixed ?_
  refine g_val (s_move rfl rfl) rfl ?_
  refine g_val (s_add rfl rfl rfl (by simp only [inI, kMin, kMax]; omega)) rfl ?_
  refine g_val (s_assign rfl rfl) rfl ?_
  refine g_nil ?_
  exact ⟨by omega, trivial, by
  simp only [List.length_cons, List.length_nil]
  exact (leE_gen [] [(5, 36)] (by repeat (first | exact letm_nil _ _ | refine letm_cons rfl ?_ ?_ | exact LeV.tt rfl | exact .eq (okV_nil _) rfl | exact LeV.tt (by first | (simp; done) | (rw [List.take_of_length_le (by first | (simp [chunksL]; done) | (simp [chunksL]; omega))]; rw [take_snoc hx]; simp [chunksL, chkC])) | exact .eq (okV_nil _) (by first | (simp; done) | (rw [List.take_of_length_le (by first | (simp [chunksL]; done) | (simp [chunksL]; omega))]; rw [take_snoc hx]; simp [chunksL, chkC])))) (by repeat (first | exact lehp_nil _ _ | refine lehp_cons rfl ?_ ?_ | exact leB_row (by first | rfl | (first | (simp; done) | (rw [List.take_of_length_le (by first | (simp [chunksL]; done) | (simp [chunksL]; omega))]; rw [take_snoc hx]; simp [chunksL, chkC]))) | exact leB_obj (by first | (simp; done) | (rw [List.take_of_length_le (by first | (simp [chunksL]; done) | (simp [chunksL]; omega))]; rw [take_snoc hx]; simp [chunksL, chkC])) | exact leB_nest (by first | rfl | (first | (simp; done) | (rw [List.take_of_length_le (by first | (simp [chunksL]; done) | (simp [chunksL]; omega))]; rw [take_snoc hx]; simp [chunksL, chkC]))) | refine leB_box ?_ | exact leL_nil | refine leL_cons ?_ ?_ | exact LeV.tt rfl | exact .eq (okV_nil _) rfl | exact LeV.tt (by first | (simp; done) | (rw [List.take_of_length_le (by first | (simp [chunksL]; done) | (simp [chunksL]; omega))]; rw [take_snoc hx]; simp [chunksL, chkC])) | exact .eq (okV_nil _) (by first | (simp; done) | (rw [List.take_of_length_le (by first | (simp [chunksL]; done) | (simp [chunksL]; omega))]; rw [take_snoc hx]; simp [chunksL, chkC])))) trivial rfl)⟩
  replace hc10 := of_decide_eq_false hc10
  simp only [List.length_map, Int.not_lt] at hc10
  refine vc_exit ?_
  obtain rfl : i = l.length := by omega
  rw [List.take_length]
  refine vc_rseq mixed ?_
  refine g_val (s_move rfl rfl) rfl ?_
  refine g_val (s_assign rfl rfl) rfl ?_
  refine g_nil ?_
  exact vc_ret (ret_hand [] [(0, 5)] _ (.cons (.tmp rfl) .nil) trivial (.eq (okV_nil _) rfl) (lehp_cons rfl (leB_row rfl) (lehp_nil _ _)) rfl)

end Go.Eng

set_option maxHeartbeats 8000000
namespace Go.Eng
open Go.Proofs

def ascB (blocks size : Int) : Int → List Item → Bool
  | _, [] => true
  | last, x :: l => decide (last < x.block ∧ x.block < blocks ∧ (x.data.length : Int) = size) && ascB blocks size x.block l
def strHd (s : Strm) : Prop := 1 ≤ s.blocks ∧ s.blocks ≤ 256 ∧ 1 ≤ s.size ∧ s.size ≤ 32 ∧ -1 ≤ s.frm ∧ 0 ≤ s.to ∧ s.to ≤ 1099511627776 ∧ s.frm ≤ s.to ∧ (s.frm < 0 → (s.items.length : Int) = s.blocks)
instance (s : Strm) : Decidable (strHd s) := by unfold strHd; infer_instance
def strB (s : Strm) : Bool := decide (strHd s) && ascB s.blocks s.size (-1) s.items
theorem strB_iff (s : Strm) : strB s = true ↔ strHd s ∧ ascB s.blocks s.size (-1) s.items = true := by unfold strB; rw [Bool.and_eq_true, decide_eq_true_eq]
theorem ascB_drop {b s last : Int} {l : List Item} {i : Nat} {x : Item} (hx : l[i]? = some x) : ascB b s last (l.drop i) = (decide (last < x.block ∧ x.block < b ∧ (x.data.length : Int) = s) && ascB b s x.block (l.drop (i + 1))) := by
  obtain ⟨h1, h2⟩ := List.getElem?_eq_some_iff.1 hx
  rw [List.drop_eq_getElem_cons h1, h2]; rfl

theorem c_mementoref21_Right (s : Strm) : Con Tryz.prog 26 [sC (strC s)] [] (AB (strB s)) [] := by
  refine con_intro [] [] Tryz.func26 rfl Tryz.ntmps26 Tryz.results26 rfl rfl ?_
  intro E
  refine vc_okA (i := 0) (j := 4) rfl rfl fun ok4 => ?_
  have hll := ok4.len
  rw [List.length_map] at hll
  have hsb := strB_iff s
  refine vc_rseq mixed ?_
  refine g_new (s_box 1 rfl rfl rfl rfl) rfl ?_
  refine g_val (s_assign rfl rfl) rfl ?_
  refine g_nil ?_
  refine vc_seq ?_
  refine vc_cut (⟨[(1, .ref 1 0), (2, AB false), (57, AB (decide (¬ strHd s)))], [(1, some (.box ((strC s).map .t)))], [1]⟩) ?_ ?_
  refine vc_region mixed ?_
  refine g_val (s_field rfl rfl rfl rfl) rfl ?_
  refine g_val (s_load rfl rfl rfl rfl) rfl ?_
  refine g_val (s_lss rfl rfl rfl) rfl ?_
  refine g_val (s_move rfl rfl) rfl ?_
  refine g_probe (j := 8) rfl (fun c hg8 => ?_)
  cases c
  rw [← hg8]; replace hg8 := hg8.symm; replace hg8 := of_decide_eq_false hg8
  simp only [Int.not_lt] at hg8
  refine gq_val (s_field rfl rfl rfl rfl) rfl rfl rfl rfl ?_
  refine gq_val (s_load rfl rfl rfl rfl) rfl rfl rfl rfl ?_
  refine gq_val (s_gtr rfl rfl rfl) rfl rfl rfl rfl ?_
  refine g_val (s_pickF rfl rfl rfl) rfl ?_
  refine g_val (s_move rfl rfl) rfl ?_
  refine g_probe (j := 13) rfl (fun c hg13 => ?_)
  cases c
  rw [← hg13]; replace hg13 := hg13.symm; replace hg13 := of_decide_eq_false hg13
  simp only [Int.not_lt] at hg13
  refine gq_val (s_field rfl rfl rfl rfl) rfl rfl rfl rfl ?_
  refine gq_val (s_load rfl rfl rfl rfl) rfl rfl rfl rfl ?_
  refine gq_val (s_lss rfl rfl rfl) rfl rfl rfl rfl ?_
  refine g_val (s_pickF rfl rfl rfl) rfl ?_
  refine g_val (s_move rfl rfl) rfl ?_
  refine g_probe (j := 18) rfl (fun c hg18 => ?_)
  cases c
  rw [← hg18]; replace hg18 := hg18.symm; replace hg18 := of_decide_eq_false hg18
  simp only [Int.not_lt] at hg18
  refine gq_val (s_field rfl rfl rfl rfl) rfl rfl rfl rfl ?_
  refine gq_val (s_load rfl rfl rfl rfl) rfl rfl rfl rfl ?_
  refine gq_val (s_gtr rfl rfl rfl) rfl rfl rfl rfl ?_
  refine g_val (s_pickF rfl rfl rfl) rfl ?_
  refine g_val (s_move rfl rfl) rfl ?_
  refine g_probe (j := 23) rfl (fun c hg23 => ?_)
  cases c
  rw [← hg23]; replace hg23 := hg23.symm; replace hg23 := of_decide_eq_false hg23
  simp only [Int.not_lt] at hg23
  refine gq_val (s_field rfl rfl rfl rfl) rfl rfl rfl rfl ?_
  refine gq_val (s_load rfl rfl rfl rfl) rfl rfl rfl rfl ?_
  refine gq_val (s_lss rfl rfl rfl) rfl rfl rfl rfl ?_
  refine g_val (s_pickF rfl rfl rfl) rfl ?_
  refine g_val (s_move rfl rfl) rfl ?_
  refine g_probe (j := 28) rfl (fun c hg28 => ?_)
  cases c
  rw [← hg28]; replace hg28 := hg28.symm; replace hg28 := of_decide_eq_false hg28
  simp only [Int.not_lt] at hg28
  refine gq_val (s_field rfl rfl rfl rfl) rfl rfl rfl rfl ?_
  refine gq_val (s_load rfl rfl rfl rfl) rfl rfl rfl rfl ?_
  refine gq_val (s_lss rfl rfl rfl) rfl rfl rfl rfl ?_
  refine g_val (s_pickF rfl rfl rfl) rfl ?_
  refine g_val (s_move rfl rfl) rfl ?_
  refine g_probe (j := 33) rfl (fun c hg33 => ?_)
  cases c
  rw [← hg33]; replace hg33 := hg33.symm; replace hg33 := of_decide_eq_false hg33
  simp only [Int.not_lt] at hg33
  refine gq_val (s_field rfl rfl rfl rfl) rfl rfl rfl rfl ?_
  refine gq_val (s_load rfl rfl rfl rfl) rfl rfl rfl rfl ?_
  refine gq_val (s_gtr rfl rfl rfl) rfl rfl rfl rfl ?_
  refine g_val (s_pickF rfl rfl rfl) rfl ?_
  refine g_val (s_move rfl rfl) rfl ?_
  refine g_probe (j := 38) rfl (fun c hg38 => ?_)
  cases c
  rw [← hg38]; replace hg38 := hg38.symm; replace hg38 := of_decide_eq_false hg38
  simp only [Int.not_lt] at hg38
  refine gq_val (s_field rfl rfl rfl rfl) rfl rfl rfl rfl ?_
  refine gq_val (s_load rfl rfl rfl rfl) rfl rfl rfl rfl ?_
  refine gq_val (s_field rfl rfl rfl rfl) rfl rfl rfl rfl ?_
  refine gq_val (s_load rfl rfl rfl rfl) rfl rfl rfl rfl ?_
  refine gq_val (s_lss rfl rfl rfl) rfl rfl rfl rfl ?_
  refine g_val (s_pickF rfl rfl rfl) rfl ?_
  refine g_val (s_move rfl rfl) rfl ?_
  refine g_probe (j := 45) rfl (fun c hg45 => ?_)
  cases c
  rw [← hg45]; replace hg45 := hg45.symm; replace hg45 := of_decide_eq_false hg45
  simp only [Int.not_lt] at hg45
  refine gq_val (s_field rfl rfl rfl rfl) rfl rfl rfl rfl ?_
  refine gq_val (s_load rfl rfl rfl rfl) rfl rfl rfl rfl ?_
  refine gq_val (s_lss rfl rfl rfl) rfl rfl rfl rfl ?_
  refine gq_val (s_move rfl rfl) rfl rfl rfl rfl ?_
  refine g_probe (j := 49) rfl (fun c hg49 => ?_)
  cases c
  rw [← hg49]; replace hg49 := hg49.symm; replace hg49 := of_decide_eq_false hg49
  simp only [Int.not_lt] at hg49
  refine gn_val rfl rfl rfl rfl rfl rfl (by decide) ?_
  refine gn_val rfl rfl rfl rfl rfl rfl (by decide) ?_
  refine gn_val rfl rfl rfl rfl rfl rfl (by decide) ?_
  refine gn_val rfl rfl rfl rfl rfl rfl (by decide) ?_
  refine gn_val rfl rfl rfl rfl rfl rfl (by decide) ?_
  refine gn_val rfl rfl rfl rfl rfl rfl (by decide) ?_
  refine gq_val (s_pickF rfl rfl rfl) rfl rfl rfl rfl ?_
  refine g_val (s_pickF rfl rfl rfl) rfl ?_
  refine g_nil ?_
  exact (leE_same (by repeat (first | exact letm_nil _ _ | refine letm_cons rfl ?_ ?_ | exact .same _ | exact .nl (by decide) (by decide) | exact .nn | exact .id' rfl | exact .id' (by first | (exact AB_td (by simp only [strHd, List.length_map] at *; omega)) | (exact AB_dd (by simp only [strHd, List.length_map] at *; omega)) | (exact AB_fd (by simp only [strHd, List.length_map] at *; omega))))) (by repeat (first | exact lehp_nil _ _ | refine lehp_cons rfl ?_ ?_ | exact leB_same _ | exact leB_row (by first | rfl | (first | (exact AB_td (by simp only [strHd, List.length_map] at *; omega)) | (exact AB_dd (by simp only [strHd, List.length_map] at *; omega)) | (exact AB_fd (by simp only [strHd, List.length_map] at *; omega)))) | exact leB_obj (by first | (exact AB_td (by simp only [strHd, List.length_map] at *; omega)) | (exact AB_dd (by simp only [strHd, List.length_map] at *; omega)) | (exact AB_fd (by simp only [strHd, List.length_map] at *; omega))) | exact leB_nest (by first | rfl | (first | (exact AB_td (by simp only [strHd, List.length_map] at *; omega)) | (exact AB_dd (by simp only [strHd, List.length_map] at *; omega)) | (exact AB_fd (by simp only [strHd, List.length_map] at *; omega)))) | refine leB_box ?_ | exact leL_nil | refine leL_cons ?_ ?_ | exact .same _ | exact .nl (by decide) (by decide) | exact .nn | exact .id' rfl | exact .id' (by first | (exact AB_td (by simp only [strHd, List.length_map] at *; omega)) | (exact AB_dd (by simp only [strHd, List.length_map] at *; omega)) | (exact AB_fd (by simp only [strHd, List.length_map] at *; omega))))) rfl)
  rw [← hg49]; replace hg49 := hg49.symm; replace hg49 := of_decide_eq_true hg49
  refine gq_val (s_field rfl rfl rfl rfl) rfl rfl rfl rfl ?_
  refine gq_val (s_load rfl rfl rfl rfl) rfl rfl rfl rfl ?_
  refine gq_val (s_len rfl rfl) rfl rfl rfl rfl ?_
  refine gq_val (s_field rfl rfl rfl rfl) rfl rfl rfl rfl ?_
  refine gq_val (s_load rfl rfl rfl rfl) rfl rfl rfl rfl ?_
  refine gq_val (s_neq rfl rfl rfl) rfl rfl rfl rfl ?_
  refine gq_val (s_pickT rfl rfl rfl) rfl rfl rfl rfl ?_
  refine g_val (s_pickF rfl rfl rfl) rfl ?_
  refine g_nil ?_
  exact (leE_same (by repeat (first | exact letm_nil _ _ | refine letm_cons rfl ?_ ?_ | exact .same _ | exact .nl (by decide) (by decide) | exact .nn | exact .id' rfl | exact .id' (by first | (exact AB_td (by simp only [strHd, List.length_map] at *; omega)) | (exact AB_dd (by simp only [strHd, List.length_map] at *; omega)) | (exact AB_fd (by simp only [strHd, List.length_map] at *; omega))))) (by repeat (first | exact lehp_nil _ _ | refine lehp_cons rfl ?_ ?_ | exact leB_same _ | exact leB_row (by first | rfl | (first | (exact AB_td (by simp only [strHd, List.length_map] at *; omega)) | (exact AB_dd (by simp only [strHd, List.length_map] at *; omega)) | (exact AB_fd (by simp only [strHd, List.length_map] at *; omega)))) | exact leB_obj (by first | (exact AB_td (by simp only [strHd, List.length_map] at *; omega)) | (exact AB_dd (by simp only [strHd, List.length_map] at *; omega)) | (exact AB_fd (by simp only [strHd, List.length_map] at *; omega))) | exact leB_nest (by first | rfl | (first | (exact AB_td (by simp only [strHd, List.length_map] at *; omega)) | (exact AB_dd (by simp only [strHd, List.length_map] at *; omega)) | (exact AB_fd (by simp only [strHd, List.length_map] at *; omega)))) | refine leB_box ?_ | exact leL_nil | refine leL_cons ?_ ?_ | exact .same _ | exact .nl (by decide) (by decide) | exact .nn | exact .id' rfl | exact .id' (by first | (exact AB_td (by simp only [strHd, List.length_map] at *; omega)) | (exact AB_dd (by simp only [strHd, List.length_map] at *; omega)) | (exact AB_fd (by simp only [strHd, List.length_map] at *; omega))))) rfl)
  rw [← hg45]; replace hg45 := hg45.symm; replace hg45 := of_decide_eq_true hg45
  refine gn_val rfl rfl rfl rfl rfl rfl (by decide) ?_
  refine gn_val rfl rfl rfl rfl rfl rfl (by decide) ?_
  refine gn_val rfl rfl rfl rfl rfl rfl (by decide) ?_
  refine gn_val rfl rfl rfl rfl rfl rfl (by decide) ?_
  refine gz_val rfl rfl rfl rfl rfl rfl ?_
  refine gz_val rfl rfl rfl rfl rfl rfl ?_
  refine gz_val rfl rfl rfl rfl rfl rfl ?_
  refine gz_val rfl rfl rfl rfl rfl rfl ?_
  refine gz_val rfl rfl rfl rfl rfl rfl ?_
  refine gz_val rfl rfl rfl rfl rfl rfl ?_
  refine gn_val rfl rfl rfl rfl rfl rfl (by decide) ?_
  refine g_val (s_pickT rfl rfl rfl) rfl ?_
  refine g_nil ?_
  exact (leE_same (by repeat (first | exact letm_nil _ _ | refine letm_cons rfl ?_ ?_ | exact .same _ | exact .nl (by decide) (by decide) | exact .nn | exact .id' rfl | exact .id' (by first | (exact AB_td (by simp only [strHd, List.length_map] at *; omega)) | (exact AB_dd (by simp only [strHd, List.length_map] at *; omega)) | (exact AB_fd (by simp only [strHd, List.length_map] at *; omega))))) (by repeat (first | exact lehp_nil _ _ | refine lehp_cons rfl ?_ ?_ | exact leB_same _ | exact leB_row (by first | rfl | (first | (exact AB_td (by simp only [strHd, List.length_map] at *; omega)) | (exact AB_dd (by simp only [strHd, List.length_map] at *; omega)) | (exact AB_fd (by simp only [strHd, List.length_map] at *; omega)))) | exact leB_obj (by first | (exact AB_td (by simp only [strHd, List.length_map] at *; omega)) | (exact AB_dd (by simp only [strHd, List.length_map] at *; omega)) | (exact AB_fd (by simp only [strHd, List.length_map] at *; omega))) | exact leB_nest (by first | rfl | (first | (exact AB_td (by simp only [strHd, List.length_map] at *; omega)) | (exact AB_dd (by simp only [strHd, List.length_map] at *; omega)) | (exact AB_fd (by simp only [strHd, List.length_map] at *; omega)))) | refine leB_box ?_ | exact leL_nil | refine leL_cons ?_ ?_ | exact .same _ | exact .nl (by decide) (by decide) | exact .nn | exact .id' rfl | exact .id' (by first | (exact AB_td (by simp only [strHd, List.length_map] at *; omega)) | (exact AB_dd (by simp only [strHd, List.length_map] at *; omega)) | (exact AB_fd (by simp only [strHd, List.length_map] at *; omega))))) rfl)
  rw [← hg38]; replace hg38 := hg38.symm; replace hg38 := of_decide_eq_true hg38
  refine gn_val rfl rfl rfl rfl rfl rfl (by decide) ?_
  refine gn_val rfl rfl rfl rfl rfl rfl (by decide) ?_
  refine gn_val rfl rfl rfl rfl rfl rfl (by decide) ?_
  refine gn_val rfl rfl rfl rfl rfl rfl (by decide) ?_
  refine gn_val rfl rfl rfl rfl rfl rfl (by decide) ?_
  refine g_val (s_pickT rfl rfl rfl) rfl ?_
  refine g_val (s_move rfl rfl) rfl ?_
  refine gn_val rfl rfl rfl rfl rfl rfl (by decide) ?_
  refine gn_val rfl rfl rfl rfl rfl rfl (by decide) ?_
  refine gn_val rfl rfl rfl rfl rfl rfl (by decide) ?_
  refine gn_val rfl rfl rfl rfl rfl rfl (by decide) ?_
  refine gz_val rfl rfl rfl rfl rfl rfl ?_
  refine gz_val rfl rfl rfl rfl rfl rfl ?_
  refine gz_val rfl rfl rfl rfl rfl rfl ?_
  refine gz_val rfl rfl rfl rfl rfl rfl ?_
  refine gz_val rfl rfl rfl rfl rfl rfl ?_
  refine gz_val rfl rfl rfl rfl rfl rfl ?_
  refine gn_val rfl rfl rfl rfl rfl rfl (by decide) ?_
  refine g_val (s_pickT rfl rfl rfl) rfl ?_
  refine g_nil ?_
  exact (leE_same (by repeat (first | exact letm_nil _ _ | refine letm_cons rfl ?_ ?_ | exact .same _ | exact .nl (by decide) (by decide) | exact .nn | exact .id' rfl | exact .id' (by first | (exact AB_td (by simp only [strHd, List.length_map] at *; omega)) | (exact AB_dd (by simp only [strHd, List.length_map] at *; omega)) | (exact AB_fd (by simp only [strHd, List.length_map] at *; omega))))) (by repeat (first | exact lehp_nil _ _ | refine lehp_cons rfl ?_ ?_ | exact leB_same _ | exact leB_row (by first | rfl | (first | (exact AB_td (by simp only [strHd, List.length_map] at *; omega)) | (exact AB_dd (by simp only [strHd, List.length_map] at *; omega)) | (exact AB_fd (by simp only [strHd, List.length_map] at *; omega)))) | exact leB_obj (by first | (exact AB_td (by simp only [strHd, List.length_map] at *; omega)) | (exact AB_dd (by simp only [strHd, List.length_map] at *; omega)) | (exact AB_fd (by simp only [strHd, List.length_map] at *; omega))) | exact leB_nest (by first | rfl | (first | (exact AB_td (by simp only [strHd, List.length_map] at *; omega)) | (exact AB_dd (by simp only [strHd, List.length_map] at *; omega)) | (exact AB_fd (by simp only [strHd, List.length_map] at *; omega)))) | refine leB_box ?_ | exact leL_nil | refine leL_cons ?_ ?_ | exact .same _ | exact .nl (by decide) (by decide) | exact .nn | exact .id' rfl | exact .id' (by first | (exact AB_td (by simp only [strHd, List.length_map] at *; omega)) | (exact AB_dd (by simp only [strHd, List.length_map] at *; omega)) | (exact AB_fd (by simp only [strHd, List.length_map] at *; omega))))) rfl)
  rw [← hg33]; replace hg33 := hg33.symm; replace hg33 := of_decide_eq_true hg33
  refine gn_val rfl rfl rfl rfl rfl rfl (by decide) ?_
  refine gn_val rfl rfl rfl rfl rfl rfl (by decide) ?_
  refine gn_val rfl rfl rfl rfl rfl rfl (by decide) ?_
  refine g_val (s_pickT rfl rfl rfl) rfl ?_
  refine g_val (s_move rfl rfl) rfl ?_
  refine gn_val rfl rfl rfl rfl rfl rfl (by decide) ?_
  refine gn_val rfl rfl rfl rfl rfl rfl (by decide) ?_
  refine gn_val rfl rfl rfl rfl rfl rfl (by decide) ?_
  refine gn_val rfl rfl rfl rfl rfl rfl (by decide) ?_
  refine gn_val rfl rfl rfl rfl rfl rfl (by decide) ?_
  refine g_val (s_pickT rfl rfl rfl) rfl ?_
  refine g_val (s_move rfl rfl) rfl ?_
  refine gn_val rfl rfl rfl rfl rfl rfl (by decide) ?_
  refine gn_val rfl rfl rfl rfl rfl rfl (by decide) ?_
  refine gn_val rfl rfl rfl rfl rfl rfl (by decide) ?_
  refine gn_val rfl rfl rfl rfl rfl rfl (by decide) ?_
  refine gz_val rfl rfl rfl rfl rfl rfl ?_
  refine gz_val rfl rfl rfl rfl rfl rfl ?_
  refine gz_val rfl rfl rfl rfl rfl rfl ?_
  refine gz_val rfl rfl rfl rfl rfl rfl ?_
  refine gz_val rfl rfl rfl rfl rfl rfl ?_
  refine gz_val rfl rfl rfl rfl rfl rfl ?_
  refine gn_val rfl rfl rfl rfl rfl rfl (by decide) ?_
  refine g_val (s_pickT rfl rfl rfl) rfl ?_
  refine g_nil ?_
  exact (leE_same (by repeat (first | exact letm_nil _ _ | refine letm_cons rfl ?_ ?_ | exact .same _ | exact .nl (by decide) (by decide) | exact .nn | exact .id' rfl | exact .id' (by first | (exact AB_td (by simp only [strHd, List.length_map] at *; omega)) | (exact AB_dd (by simp only [strHd, List.length_map] at *; omega)) | (exact AB_fd (by simp only [strHd, List.length_map] at *; omega))))) (by repeat (first | exact lehp_nil _ _ | refine lehp_cons rfl ?_ ?_ | exact leB_same _ | exact leB_row (by first | rfl | (first | (exact AB_td (by simp only [strHd, List.length_map] at *; omega)) | (exact AB_dd (by simp only [strHd, List.length_map] at *; omega)) | (exact AB_fd (by simp only [strHd, List.length_map] at *; omega)))) | exact leB_obj (by first | (exact AB_td (by simp only [strHd, List.length_map] at *; omega)) | (exact AB_dd (by simp only [strHd, List.length_map] at *; omega)) | (exact AB_fd (by simp only [strHd, List.length_map] at *; omega))) | exact leB_nest (by first | rfl | (first | (exact AB_td (by simp only [strHd, List.length_map] at *; omega)) | (exact AB_dd (by simp only [strHd, List.length_map] at *; omega)) | (exact AB_fd (by simp only [strHd, List.length_map] at *; omega)))) | refine leB_box ?_ | exact leL_nil | refine leL_cons ?_ ?_ | exact .same _ | exact .nl (by decide) (by decide) | exact .nn | exact .id' rfl | exact .id' (by first | (exact AB_td (by simp only [strHd, List.length_map] at *; omega)) | (exact AB_dd (by simp only [strHd, List.length_map] at *; omega)) | (exact AB_fd (by simp only [strHd, List.length_map] at *; omega))))) rfl)
  rw [← hg28]; replace hg28 := hg28.symm; replace hg28 := of_decide_eq_true hg28
  refine gn_val rfl rfl rfl rfl rfl rfl (by decide) ?_
  refine gn_val rfl rfl rfl rfl rfl rfl (by decide) ?_
  refine gn_val rfl rfl rfl rfl rfl rfl (by decide) ?_
  refine g_val (s_pickT rfl rfl rfl) rfl ?_
  refine g_val (s_move rfl rfl) rfl ?_
  refine gn_val rfl rfl rfl rfl rfl rfl (by decide) ?_
  refine gn_val rfl rfl rfl rfl rfl rfl (by decide) ?_
  refine gn_val rfl rfl rfl rfl rfl rfl (by decide) ?_
  refine g_val (s_pickT rfl rfl rfl) rfl ?_
  refine g_val (s_move rfl rfl) rfl ?_
  refine gn_val rfl rfl rfl rfl rfl rfl (by decide) ?_
  refine gn_val rfl rfl rfl rfl rfl rfl (by decide) ?_
  refine gn_val rfl rfl rfl rfl rfl rfl (by decide) ?_
  refine gn_val rfl rfl rfl rfl rfl rfl (by decide) ?_
  refine gn_val rfl rfl rfl rfl rfl rfl (by decide) ?_
  refine g_val (s_pickT rfl rfl rfl) rfl ?_
  refine g_val (s_move rfl rfl) rfl ?_
  refine gn_val rfl rfl rfl rfl rfl rfl (by decide) ?_
  refine gn_val rfl rfl rfl rfl rfl rfl (by decide) ?_
  refine gn_val rfl rfl rfl rfl rfl rfl (by decide) ?_
  refine gn_val rfl rfl rfl rfl rfl rfl (by decide) ?_
  refine gz_val rfl rfl rfl rfl rfl rfl ?_
  refine gz_val rfl rfl rfl rfl rfl rfl ?_
  refine gz_val rfl rfl rfl rfl rfl rfl ?_
  refine gz_val rfl rfl rfl rfl rfl rfl ?_
  refine gz_val rfl rfl rfl rfl rfl rfl ?_
  refine gz_val rfl rfl rfl rfl rfl rfl ?_
  refine gn_val rfl rfl rfl rfl rfl rfl (by decide) ?_
  refine g_val (s_pickT rfl rfl rfl) rfl ?_
  refine g_nil ?_
  exact (leE_same (by repeat (first | exact letm_nil _ _ | refine letm_cons rfl ?_ ?_ | exact .same _ | exact .nl (by decide) (by decide) | exact .nn | exact .id' rfl | exact .id' (by first | (exact AB_td (by simp only [strHd, List.length_map] at *; omega)) | (exact AB_dd (by simp only [strHd, List.length_map] at *; omega)) | (exact AB_fd (by simp only [strHd, List.length_map] at *; omega))))) (by repeat (first | exact lehp_nil _ _ | refine lehp_cons rfl ?_ ?_ | exact leB_same _ | exact leB_row (by first | rfl | (first | (exact AB_td (by simp only [strHd, List.length_map] at *; omega)) | (exact AB_dd (by simp only [strHd, List.length_map] at *; omega)) | (exact AB_fd (by simp only [strHd, List.length_map] at *; omega)))) | exact leB_obj (by first | (exact AB_td (by simp only [strHd, List.length_map] at *; omega)) | (exact AB_dd (by simp only [strHd, List.length_map] at *; omega)) | (exact AB_fd (by simp only [strHd, List.length_map] at *; omega))) | exact leB_nest (by first | rfl | (first | (exact AB_td (by simp only [strHd, List.length_map] at *; omega)) | (exact AB_dd (by simp only [strHd, List.length_map] at *; omega)) | (exact AB_fd (by simp only [strHd, List.length_map] at *; omega)))) | refine leB_box ?_ | exact leL_nil | refine leL_cons ?_ ?_ | exact .same _ | exact .nl (by decide) (by decide) | exact .nn | exact .id' rfl | exact .id' (by first | (exact AB_td (by simp only [strHd, List.length_map] at *; omega)) | (exact AB_dd (by simp only [strHd, List.length_map] at *; omega)) | (exact AB_fd (by simp only [strHd, List.length_map] at *; omega))))) rfl)
  rw [← hg23]; replace hg23 := hg23.symm; replace hg23 := of_decide_eq_true hg23
  refine gn_val rfl rfl rfl rfl rfl rfl (by decide) ?_
  refine gn_val rfl rfl rfl rfl rfl rfl (by decide) ?_
  refine gn_val rfl rfl rfl rfl rfl rfl (by decide) ?_
  refine g_val (s_pickT rfl rfl rfl) rfl ?_
  refine g_val (s_move rfl rfl) rfl ?_
  refine gn_val rfl rfl rfl rfl rfl rfl (by decide) ?_
  refine gn_val rfl rfl rfl rfl rfl rfl (by decide) ?_
  refine gn_val rfl rfl rfl rfl rfl rfl (by decide) ?_
  refine g_val (s_pickT rfl rfl rfl) rfl ?_
  refine g_val (s_move rfl rfl) rfl ?_
  refine gn_val rfl rfl rfl rfl rfl rfl (by decide) ?_
  refine gn_val rfl rfl rfl rfl rfl rfl (by decide) ?_
  refine gn_val rfl rfl rfl rfl rfl rfl (by decide) ?_
  refine g_val (s_pickT rfl rfl rfl) rfl ?_
  refine g_val (s_move rfl rfl) rfl ?_
  refine gn_val rfl rfl rfl rfl rfl rfl (by decide) ?_
  refine gn_val rfl rfl rfl rfl rfl rfl (by decide) ?_
  refine gn_val rfl rfl rfl rfl rfl rfl (by decide) ?_
  refine gn_val rfl rfl rfl rfl rfl rfl (by decide) ?_
  refine gn_val rfl rfl rfl rfl rfl rfl (by decide) ?_
  refine g_val (s_pickT rfl rfl rfl) rfl ?_
  refine g_val (s_move rfl rfl) rfl ?_
  refine gn_val rfl rfl rfl rfl rfl rfl (by decide) ?_
  refine gn_val rfl rfl rfl rfl rfl rfl (by decide) ?_
  refine gn_val rfl rfl rfl rfl rfl rfl (by decide) ?_
  refine gn_val rfl rfl rfl rfl rfl rfl (by decide) ?_
  refine gz_val rfl rfl rfl rfl rfl rfl ?_
  refine gz_val rfl rfl rfl rfl rfl rfl ?_
  refine gz_val rfl rfl rfl rfl rfl rfl ?_
  refine gz_val rfl rfl rfl rfl rfl rfl ?_
  refine gz_val rfl rfl rfl rfl rfl rfl ?_
  refine gz_val rfl rfl rfl rfl rfl rfl ?_
  refine gn_val rfl rfl rfl rfl rfl rfl (by decide) ?_
  refine g_val (s_pickT rfl rfl rfl) rfl ?_
  refine g_nil ?_
  exact (leE_same (by repeat (first | exact letm_nil _ _ | refine letm_cons rfl ?_ ?_ | exact .same _ | exact .nl (by decide) (by decide) | exact .nn | exact .id' rfl | exact .id' (by first | (exact AB_td (by simp only [strHd, List.length_map] at *; omega)) | (exact AB_dd (by simp only [strHd, List.length_map] at *; omega)) | (exact AB_fd (by simp only [strHd, List.length_map] at *; omega))))) (by repeat (first | exact lehp_nil _ _ | refine lehp_cons rfl ?_ ?_ | exact leB_same _ | exact leB_row (by first | rfl | (first | (exact AB_td (by simp only [strHd, List.length_map] at *; omega)) | (exact AB_dd (by simp only [strHd, List.length_map] at *; omega)) | (exact AB_fd (by simp only [strHd, List.length_map] at *; omega)))) | exact leB_obj (by first | (exact AB_td (by simp only [strHd, List.length_map] at *; omega)) | (exact AB_dd (by simp only [strHd, List.length_map] at *; omega)) | (exact AB_fd (by simp only [strHd, List.length_map] at *; omega))) | exact leB_nest (by first | rfl | (first | (exact AB_td (by simp only [strHd, List.length_map] at *; omega)) | (exact AB_dd (by simp only [strHd, List.length_map] at *; omega)) | (exact AB_fd (by simp only [strHd, List.length_map] at *; omega)))) | refine leB_box ?_ | exact leL_nil | refine leL_cons ?_ ?_ | exact .same _ | exact .nl (by decide) (by decide) | exact .nn | exact .id' rfl | exact .id' (by first | (exact AB_td (by simp only [strHd, List.length_map] at *; omega)) | (exact AB_dd (by simp only [strHd, List.length_map] at *; omega)) | (exact AB_fd (by simp only [strHd, List.length_map] at *; omega))))) rfl)
  rw [← hg18]; replace hg18 := hg18.symm; replace hg18 := of_decide_eq_true hg18
  refine gn_val rfl rfl rfl rfl rfl rfl (by decide) ?_
  refine gn_val rfl rfl rfl rfl rfl rfl (by decide) ?_
  refine gn_val rfl rfl rfl rfl rfl rfl (by decide) ?_
  refine g_val (s_pickT rfl rfl rfl) rfl ?_
  refine g_val (s_move rfl rfl) rfl ?_
  refine gn_val rfl rfl rfl rfl rfl rfl (by decide) ?_
  refine gn_val rfl rfl rfl rfl rfl rfl (by decide) ?_
  refine gn_val rfl rfl rfl rfl rfl rfl (by decide) ?_
  refine g_val (s_pickT rfl rfl rfl) rfl ?_
  refine g_val (s_move rfl rfl) rfl ?_
  refine gn_val rfl rfl rfl rfl rfl rfl (by decide) ?_
  refine gn_val rfl rfl rfl rfl rfl rfl (by decide) ?_
  refine gn_val rfl rfl rfl rfl rfl rfl (by decide) ?_
  refine g_val (s_pickT rfl rfl rfl) rfl ?_
  refine g_val (s_move rfl rfl) rfl ?_
  refine gn_val rfl rfl rfl rfl rfl rfl (by decide) ?_
  refine gn_val rfl rfl rfl rfl rfl rfl (by decide) ?_
  refine gn_val rfl rfl rfl rfl rfl rfl (by decide) ?_
  refine g_val (s_pickT rfl rfl rfl) rfl ?_
  refine g_val (s_move rfl rfl) rfl ?_
  refine gn_val rfl rfl rfl rfl rfl rfl (by decide) ?_
  refine gn_val rfl rfl rfl rfl rfl rfl (by decide) ?_
  refine gn_val rfl rfl rfl rfl rfl rfl (by decide) ?_
  refine gn_val rfl rfl rfl rfl rfl rfl (by decide) ?_
  refine gn_val rfl rfl rfl rfl rfl rfl (by decide) ?_
  refine g_val (s_pickT rfl rfl rfl) rfl ?_
  refine g_val (s_move rfl rfl) rfl ?_
  refine gn_val rfl rfl rfl rfl rfl rfl (by decide) ?_
  refine gn_val rfl rfl rfl rfl rfl rfl (by decide) ?_
  refine gn_val rfl rfl rfl rfl rfl rfl (by decide) ?_
  refine gn_val rfl rfl rfl rfl rfl rfl (by decide) ?_
  refine gz_val rfl rfl rfl rfl rfl rfl ?_
  refine gz_val rfl rfl rfl rfl rfl rfl ?_
  refine gz_val rfl rfl rfl rfl rfl rfl ?_
  refine gz_val rfl rfl rfl rfl rfl rfl ?_
  refine gz_val rfl rfl rfl rfl rfl rfl ?_
  refine gz_val rfl rfl rfl rfl rfl rfl ?_
  refine gn_val rfl rfl rfl rfl rfl rfl (by decide) ?_
  refine g_val (s_pickT rfl rfl rfl) rfl ?_
  refine g_nil ?_
  exact (leE_same (by repeat (first | exact letm_nil _ _ | refine letm_cons rfl ?_ ?_ | exact .same _ | exact .nl (by decide) (by decide) | exact .nn | exact .id' rfl | exact .id' (by first | (exact AB_td (by simp only [strHd, List.length_map] at *; omega)) | (exact AB_dd (by simp only [strHd, List.length_map] at *; omega)) | (exact AB_fd (by simp only [strHd, List.length_map] at *; omega))))) (by repeat (first | exact lehp_nil _ _ | refine lehp_cons rfl ?_ ?_ | exact leB_same _ | exact leB_row (by first | rfl | (first | (exact AB_td (by simp only [strHd, List.length_map] at *; omega)) | (exact AB_dd (by simp only [strHd, List.length_map] at *; omega)) | (exact AB_fd (by simp only [strHd, List.length_map] at *; omega)))) | exact leB_obj (by first | (exact AB_td (by simp only [strHd, List.length_map] at *; omega)) | (exact AB_dd (by simp only [strHd, List.length_map] at *; omega)) | (exact AB_fd (by simp only [strHd, List.length_map] at *; omega))) | exact leB_nest (by first | rfl | (first | (exact AB_td (by simp only [strHd, List.length_map] at *; omega)) | (exact AB_dd (by simp only [strHd, List.length_map] at *; omega)) | (exact AB_fd (by simp only [strHd, List.length_map] at *; omega)))) | refine leB_box ?_ | exact leL_nil | refine leL_cons ?_ ?_ | exact .same _ | exact .nl (by decide) (by decide) | exact .nn | exact .id' rfl | exact .id' (by first | (exact AB_td (by simp only [strHd, List.length_map] at *; omega)) | (exact AB_dd (by simp only [strHd, List.length_map] at *; omega)) | (exact AB_fd (by simp only [strHd, List.length_map] at *; omega))))) rfl)
  rw [← hg13]; replace hg13 := hg13.symm; replace hg13 := of_decide_eq_true hg13
  refine gn_val rfl rfl rfl rfl rfl rfl (by decide) ?_
  refine gn_val rfl rfl rfl rfl rfl rfl (by decide) ?_
  refine gn_val rfl rfl rfl rfl rfl rfl (by decide) ?_
  refine g_val (s_pickT rfl rfl rfl) rfl ?_
  refine g_val (s_move rfl rfl) rfl ?_
  refine gn_val rfl rfl rfl rfl rfl rfl (by decide) ?_
  refine gn_val rfl rfl rfl rfl rfl rfl (by decide) ?_
  refine gn_val rfl rfl rfl rfl rfl rfl (by decide) ?_
  refine g_val (s_pickT rfl rfl rfl) rfl ?_
  refine g_val (s_move rfl rfl) rfl ?_
  refine gn_val rfl rfl rfl rfl rfl rfl (by decide) ?_
  refine gn_val rfl rfl rfl rfl rfl rfl (by decide) ?_
  refine gn_val rfl rfl rfl rfl rfl rfl (by decide) ?_
  refine g_val (s_pickT rfl rfl rfl) rfl ?_
  refine g_val (s_move rfl rfl) rfl ?_
  refine gn_val rfl rfl rfl rfl rfl rfl (by decide) ?_
  refine gn_val rfl rfl rfl rfl rfl rfl (by decide) ?_
  refine gn_val rfl rfl rfl rfl rfl rfl (by decide) ?_
  refine g_val (s_pickT rfl rfl rfl) rfl ?_
  refine g_val (s_move rfl rfl) rfl ?_
  refine gn_val rfl rfl rfl rfl rfl rfl (by decide) ?_
  refine gn_val rfl rfl rfl rfl rfl rfl (by decide) ?_
  refine gn_val rfl rfl rfl rfl rfl rfl (by decide) ?_
  refine g_val (s_pickT rfl rfl rfl) rfl ?_
  refine g_val (s_move rfl rfl) rfl ?_
  refine gn_val rfl rfl rfl rfl rfl rfl (by decide) ?_
  refine gn_val rfl rfl rfl rfl rfl rfl (by decide) ?_
  refine gn_val rfl rfl rfl rfl rfl rfl (by decide) ?_
  refine gn_val rfl rfl rfl rfl rfl rfl (by decide) ?_
  refine gn_val rfl rfl rfl rfl rfl rfl (by decide) ?_
  refine g_val (s_pickT rfl rfl rfl) rfl ?_
  refine g_val (s_move rfl rfl) rfl ?_
  refine gn_val rfl rfl rfl rfl rfl rfl (by decide) ?_
  refine gn_val rfl rfl rfl rfl rfl rfl (by decide) ?_
  refine gn_val rfl rfl rfl rfl rfl rfl (by decide) ?_
  refine gn_val rfl rfl rfl rfl rfl rfl (by decide) ?_
  refine gz_val rfl rfl rfl rfl rfl rfl ?_
  refine gz_val rfl rfl rfl rfl rfl rfl ?_
  refine gz_val rfl rfl rfl rfl rfl rfl ?_
  refine gz_val rfl rfl rfl rfl rfl rfl ?_
  refine gz_val rfl rfl rfl rfl rfl rfl ?_
  refine gz_val rfl rfl rfl rfl rfl rfl ?_
  refine gn_val rfl rfl rfl rfl rfl rfl (by decide) ?_
  refine g_val (s_pickT rfl rfl rfl) rfl ?_
  refine g_nil ?_
  exact (leE_same (by repeat (first | exact letm_nil _ _ | refine letm_cons rfl ?_ ?_ | exact .same _ | exact .nl (by decide) (by decide) | exact .nn | exact .id' rfl | exact .id' (by first | (exact AB_td (by simp only [strHd, List.length_map] at *; omega)) | (exact AB_dd (by simp only [strHd, List.length_map] at *; omega)) | (exact AB_fd (by simp only [strHd, List.length_map] at *; omega))))) (by repeat (first | exact lehp_nil _ _ | refine lehp_cons rfl ?_ ?_ | exact leB_same _ | exact leB_row (by first | rfl | (first | (exact AB_td (by simp only [strHd, List.length_map] at *; omega)) | (exact AB_dd (by simp only [strHd, List.length_map] at *; omega)) | (exact AB_fd (by simp only [strHd, List.length_map] at *; omega)))) | exact leB_obj (by first | (exact AB_td (by simp only [strHd, List.length_map] at *; omega)) | (exact AB_dd (by simp only [strHd, List.length_map] at *; omega)) | (exact AB_fd (by simp only [strHd, List.length_map] at *; omega))) | exact leB_nest (by first | rfl | (first | (exact AB_td (by simp only [strHd, List.length_map] at *; omega)) | (exact AB_dd (by simp only [strHd, List.length_map] at *; omega)) | (exact AB_fd (by simp only [strHd, List.length_map] at *; omega)))) | refine leB_box ?_ | exact leL_nil | refine leL_cons ?_ ?_ | exact .same _ | exact .nl (by decide) (by decide) | exact .nn | exact .id' rfl | exact .id' (by first | (exact AB_td (by simp only [strHd, List.length_map] at *; omega)) | (exact AB_dd (by simp only [strHd, List.length_map] at *; omega)) | (exact AB_fd (by simp only [strHd, List.length_map] at *; omega))))) rfl)
  rw [← hg8]; replace hg8 := hg8.symm; replace hg8 := of_decide_eq_true hg8
  refine gn_val rfl rfl rfl rfl rfl rfl (by decide) ?_
  refine gn_val rfl rfl rfl rfl rfl rfl (by decide) ?_
  refine gn_val rfl rfl rfl rfl rfl rfl (by decide) ?_
  refine g_val (s_pickT rfl rfl rfl) rfl ?_
  refine g_val (s_move rfl rfl) rfl ?_
  refine gn_val rfl rfl rfl rfl rfl rfl (by decide) ?_
  refine gn_val rfl rfl rfl rfl rfl rfl (by decide) ?_
  refine gn_val rfl rfl rfl rfl rfl rfl (by decide) ?_
  refine g_val (s_pickT rfl rfl rfl) rfl ?_
  refine g_val (s_move rfl rfl) rfl ?_
  refine gn_val rfl rfl rfl rfl rfl rfl (by decide) ?_
  refine gn_val rfl rfl rfl rfl rfl rfl (by decide) ?_
  refine gn_val rfl rfl rfl rfl rfl rfl (by decide) ?_
  refine g_val (s_pickT rfl rfl rfl) rfl ?_
  refine g_val (s_move rfl rfl) rfl ?_
  refine gn_val rfl rfl rfl rfl rfl rfl (by decide) ?_
  refine gn_val rfl rfl rfl rfl rfl rfl (by decide) ?_
  refine gn_val rfl rfl rfl rfl rfl rfl (by decide) ?_
  refine g_val (s_pickT rfl rfl rfl) rfl ?_
  refine g_val (s_move rfl rfl) rfl ?_
  refine gn_val rfl rfl rfl rfl rfl rfl (by decide) ?_
  refine gn_val rfl rfl rfl rfl rfl rfl (by decide) ?_
  refine gn_val rfl rfl rfl rfl rfl rfl (by decide) ?_
  refine g_val (s_pickT rfl rfl rfl) rfl ?_
  refine g_val (s_move rfl rfl) rfl ?_
  refine gn_val rfl rfl rfl rfl rfl rfl (by decide) ?_
  refine gn_val rfl rfl rfl rfl rfl rfl (by decide) ?_
  refine gn_val rfl rfl rfl rfl rfl rfl (by decide) ?_
  refine g_val (s_pickT rfl rfl rfl) rfl ?_
  refine g_val (s_move rfl rfl) rfl ?_
  refine gn_val rfl rfl rfl rfl rfl rfl (by decide) ?_
  refine gn_val rfl rfl rfl rfl rfl rfl (by decide) ?_
  refine gn_val rfl rfl rfl rfl rfl rfl (by decide) ?_
  refine gn_val rfl rfl rfl rfl rfl rfl (by decide) ?_
  refine gn_val rfl rfl rfl rfl rfl rfl (by decide) ?_
  refine g_val (s_pickT rfl rfl rfl) rfl ?_
  refine g_val (s_move rfl rfl) rfl ?_
  refine gn_val rfl rfl rfl rfl rfl rfl (by decide) ?_
  refine gn_val rfl rfl rfl rfl rfl rfl (by decide) ?_
  refine gn_val rfl rfl rfl rfl rfl rfl (by decide) ?_
  refine gn_val rfl rfl rfl rfl rfl rfl (by decide) ?_
  refine gz_val rfl rfl rfl rfl rfl rfl ?_
  refine gz_val rfl rfl rfl rfl rfl rfl ?_
  refine gz_val rfl rfl rfl rfl rfl rfl ?_
  refine gz_val rfl rfl rfl rfl rfl rfl ?_
  refine gz_val rfl rfl rfl rfl rfl rfl ?_
  refine gz_val rfl rfl rfl rfl rfl rfl ?_
  refine gn_val rfl rfl rfl rfl rfl rfl (by decide) ?_
  refine g_val (s_pickT rfl rfl rfl) rfl ?_
  refine g_nil ?_
  exact (leE_same (by repeat (first | exact letm_nil _ _ | refine letm_cons rfl ?_ ?_ | exact .same _ | exact .nl (by decide) (by decide) | exact .nn | exact .id' rfl | exact .id' (by first | (exact AB_td (by simp only [strHd, List.length_map] at *; omega)) | (exact AB_dd (by simp only [strHd, List.length_map] at *; omega)) | (exact AB_fd (by simp only [strHd, List.length_map] at *; omega))))) (by repeat (first | exact lehp_nil _ _ | refine lehp_cons rfl ?_ ?_ | exact leB_same _ | exact leB_row (by first | rfl | (first | (exact AB_td (by simp only [strHd, List.length_map] at *; omega)) | (exact AB_dd (by simp only [strHd, List.length_map] at *; omega)) | (exact AB_fd (by simp only [strHd, List.length_map] at *; omega)))) | exact leB_obj (by first | (exact AB_td (by simp only [strHd, List.length_map] at *; omega)) | (exact AB_dd (by simp only [strHd, List.length_map] at *; omega)) | (exact AB_fd (by simp only [strHd, List.length_map] at *; omega))) | exact leB_nest (by first | rfl | (first | (exact AB_td (by simp only [strHd, List.length_map] at *; omega)) | (exact AB_dd (by simp only [strHd, List.length_map] at *; omega)) | (exact AB_fd (by simp only [strHd, List.length_map] at *; omega)))) | refine leB_box ?_ | exact leL_nil | refine leL_cons ?_ ?_ | exact .same _ | exact .nl (by decide) (by decide) | exact .nn | exact .id' rfl | exact .id' (by first | (exact AB_td (by simp only [strHd, List.length_map] at *; omega)) | (exact AB_dd (by simp only [strHd, List.length_map] at *; omega)) | (exact AB_fd (by simp only [strHd, List.length_map] at *; omega))))) rfl)
  refine vc_cond rfl (fun hc57 => ?_) (fun hc57 => ?_)
  replace hc57 := of_decide_eq_true hc57
  rw [show strB s = false from Bool.eq_false_iff.2 fun hr => (by simpa using hc57 : ¬ strHd s) (hsb.1 hr).1]
  refine vc_rseq mixed ?_
  refine g_val (s_assign rfl rfl) rfl ?_
  refine g_nil ?_
  exact vc_ret (ret_of _ (.cons (.tmp rfl) .nil) rfl rfl)
  replace hc57 := of_decide_eq_false hc57
  simp only [Decidable.not_not] at hc57
  refine vc_skip ?_
  have hh : strHd s := by simpa using hc57
  refine vc_rseq mixed ?_
  refine g_val (s_assign rfl rfl) rfl ?_
  refine g_nil ?_
  refine vc_seq ?_
  refine vc_rseq mixed ?_
  refine g_val (s_assign rfl rfl) rfl ?_
  refine g_nil ?_
  refine vc_block ?_
  refine vc_while (α := Nat × Int) (fun q => ⟨[(1, .ref 1 0), (3, AI .i64 q.2), (4, AI .i64 q.1)], [(1, some (.box ((strC s).map .t)))], [1]⟩) (fun q => q.1 ≤ s.items.length ∧ ascB s.blocks s.size q.2 (s.items.drop q.1) = ascB s.blocks s.size (-1) s.items) (fun q => s.items.length - q.1) (0, -1) (leE_same (by repeat (first | exact letm_nil _ _ | refine letm_cons rfl ?_ ?_ | exact .same _ | exact .nl (by decide) (by decide) | exact .nn | exact .id' rfl | exact .id' (by simp; done))) (by repeat (first | exact lehp_nil _ _ | refine lehp_cons rfl ?_ ?_ | exact leB_same _ | exact leB_row (by first | rfl | (simp; done)) | exact leB_obj (by simp; done) | exact leB_nest (by first | rfl | (simp; done)) | refine leB_box ?_ | exact leL_nil | refine leL_cons ?_ ?_ | exact .same _ | exact .nl (by decide) (by decide) | exact .nn | exact .id' rfl | exact .id' (by simp; done))) rfl) ⟨Nat.zero_le _, rfl⟩ (fun q ⟨hs1, hs2⟩ => ?_)
  obtain ⟨i, last⟩ := q
  simp only at hs1 hs2
  refine vc_seq ?_
  refine vc_rseq mixed ?_
  refine g_val (s_move rfl rfl) rfl ?_
  refine g_val (s_field rfl rfl rfl rfl) rfl ?_
  refine g_val (s_load rfl rfl rfl rfl) rfl ?_
  refine g_val (s_len rfl rfl) rfl ?_
  refine g_val (s_lss rfl rfl rfl) rfl ?_
  refine g_nil ?_
  refine vc_cond rfl (fun hc62 => ?_) (fun hc62 => ?_)
  replace hc62 := of_decide_eq_true hc62
  simp only [List.length_map] at hc62
  obtain ⟨x, hx⟩ := get_of_lt (l := s.items) (i := i) (by omega)
  rw [ascB_drop hx] at hs2
  refine vc_skip ?_
  refine vc_seq ?_
  refine vc_block ?_
  refine vc_seq ?_
  refine vc_rseq mixed ?_
  refine d_val (s_field rfl rfl rfl rfl) rfl ?_
  refine d_val (s_load rfl rfl rfl rfl) rfl ?_
  refine d_val (s_move rfl rfl) rfl ?_
  refine d_val (s_index rfl rfl rfl (by omega) (idx_map hx)) rfl ?_
  refine d_val (s_fieldT rfl rfl rfl rfl rfl) rfl ?_
  refine d_val (s_loadT rfl rfl rfl) rfl ?_
  refine d_val (s_move rfl rfl) rfl ?_
  refine d_val (s_leq rfl rfl rfl) rfl ?_
  refine d_val (s_move rfl rfl) rfl ?_
  refine g_probe (j := 73) rfl (fun c hg73 => ?_)
  cases c
  rw [← hg73]; replace hg73 := hg73.symm; replace hg73 := of_decide_eq_false hg73
  simp only [Int.not_le] at hg73
  refine dq_val (s_field rfl rfl rfl rfl) rfl rfl rfl rfl ?_
  refine dq_val (s_load rfl rfl rfl rfl) rfl rfl rfl rfl ?_
  refine dq_val (s_move rfl rfl) rfl rfl rfl rfl ?_
  refine dq_val (s_index rfl rfl rfl (by omega) (idx_map hx)) rfl rfl rfl rfl ?_
  refine dq_val (s_fieldT rfl rfl rfl rfl rfl) rfl rfl rfl rfl ?_
  refine dq_val (s_loadT rfl rfl rfl) rfl rfl rfl rfl ?_
  refine dq_val (s_field rfl rfl rfl rfl) rfl rfl rfl rfl ?_
  refine dq_val (s_load rfl rfl rfl rfl) rfl rfl rfl rfl ?_
  refine dq_val (s_geq rfl rfl rfl) rfl rfl rfl rfl ?_
  refine d_val (s_pickF rfl rfl rfl) rfl ?_
  refine d_val (s_move rfl rfl) rfl ?_
  refine g_probe (j := 84) rfl (fun c hg84 => ?_)
  cases c
  rw [← hg84]; replace hg84 := hg84.symm; replace hg84 := of_decide_eq_false hg84
  simp only [Int.not_le] at hg84
  refine dq_val (s_field rfl rfl rfl rfl) rfl rfl rfl rfl ?_
  refine dq_val (s_load rfl rfl rfl rfl) rfl rfl rfl rfl ?_
  refine dq_val (s_move rfl rfl) rfl rfl rfl rfl ?_
  refine dq_val (s_index rfl rfl rfl (by omega) (idx_map hx)) rfl rfl rfl rfl ?_
  refine dq_val (s_fieldT rfl rfl rfl rfl rfl) rfl rfl rfl rfl ?_
  refine dq_val (s_loadT rfl rfl rfl) rfl rfl rfl rfl ?_
  refine dq_val (s_len rfl rfl) rfl rfl rfl rfl ?_
  refine dq_val (s_field rfl rfl rfl rfl) rfl rfl rfl rfl ?_
  refine dq_val (s_load rfl rfl rfl rfl) rfl rfl rfl rfl ?_
  refine dq_val (s_neq rfl rfl rfl) rfl rfl rfl rfl ?_
  refine d_val (s_pickF rfl rfl rfl) rfl ?_
  refine d_nil rfl ?_
  refine vc_cond rfl (fun hc95 => ?_) (fun hc95 => ?_)
  replace hc95 := of_decide_eq_true hc95
  simp only [List.length_map, ne_eq] at hc95
  rw [show strB s = false from Bool.eq_false_iff.2 fun hr => by
  have h7 := (hsb.1 hr).2
  rw [← hs2, Bool.and_eq_true, decide_eq_true_eq] at h7
  simp only [List.length_map] at *
  omega]
  refine vc_rseq mixed ?_
  refine g_val (s_assign rfl rfl) rfl ?_
  refine g_nil ?_
  exact vc_ret (ret_of _ (.cons (.tmp rfl) .nil) rfl rfl)
  replace hc95 := of_decide_eq_false hc95
  simp only [List.length_map, ne_eq, Decidable.not_not] at hc95
  refine vc_skip ?_
  refine vc_region mixed ?_
  refine g_val (s_field rfl rfl rfl rfl) rfl ?_
  refine g_val (s_load rfl rfl rfl rfl) rfl ?_
  refine g_val (s_move rfl rfl) rfl ?_
  refine g_val (s_index rfl rfl rfl (by omega) (idx_map hx)) rfl ?_
  refine g_val (s_fieldT rfl rfl rfl rfl rfl) rfl ?_
  refine g_val (s_loadT rfl rfl rfl) rfl ?_
  refine g_val (s_assign rfl rfl) rfl ?_
  refine g_nil ?_
  refine vc_region mixed ?_
  refine g_val (s_move rfl rfl) rfl ?_
  refine g_val (s_add rfl rfl rfl (by simp only [inI, kMin, kMax]; omega)) rfl ?_
  refine g_val (s_assign rfl rfl) rfl ?_
  refine g_nil ?_
  exact ⟨(i + 1, x.block), ⟨by simp only; omega, by simp only; rw [← hs2, decide_eq_true (show last < x.block ∧ x.block < s.blocks ∧ (x.data.length : Int) = s.size from by simp only [List.length_map] at *; omega), Bool.true_and]⟩, by simp only; omega, (leE_same (by repeat (first | exact letm_nil _ _ | refine letm_cons rfl ?_ ?_ | exact .same _ | exact .nl (by decide) (by decide) | exact .nn | exact .id' rfl | exact .id' (by simp; done))) (by repeat (first | exact lehp_nil _ _ | refine lehp_cons rfl ?_ ?_ | exact leB_same _ | exact leB_row (by first | rfl | (simp; done)) | exact leB_obj (by simp; done) | exact leB_nest (by first | rfl | (simp; done)) | refine leB_box ?_ | exact leL_nil | refine leL_cons ?_ ?_ | exact .same _ | exact .nl (by decide) (by decide) | exact .nn | exact .id' rfl | exact .id' (by simp; done))) rfl)⟩
  rw [← hg84]; replace hg84 := hg84.symm; replace hg84 := of_decide_eq_true hg84
  refine dn_val rfl rfl rfl rfl rfl rfl (by decide) ?_
  refine dn_val rfl rfl rfl rfl rfl rfl (by decide) ?_
  refine dn_val rfl rfl rfl rfl rfl rfl (by decide) ?_
  refine dn_val rfl rfl rfl rfl rfl rfl (by decide) ?_
  refine dn_val rfl rfl rfl rfl rfl rfl (by decide) ?_
  refine dn_val rfl rfl rfl rfl rfl rfl (by decide) ?_
  refine dn_val rfl rfl rfl rfl rfl rfl (by decide) ?_
  refine dn_val rfl rfl rfl rfl rfl rfl (by decide) ?_
  refine dn_val rfl rfl rfl rfl rfl rfl (by decide) ?_
  refine dn_val rfl rfl rfl rfl rfl rfl (by decide) ?_
  refine d_val (s_pickT rfl rfl rfl) rfl ?_
  refine d_nil rfl ?_
  refine vc_cond rfl (fun _ => ?_) (fun h => by cases h)
  rw [show strB s = false from Bool.eq_false_iff.2 fun hr => by
  have h7 := (hsb.1 hr).2
  rw [← hs2, Bool.and_eq_true, decide_eq_true_eq] at h7
  simp only [List.length_map] at *
  omega]
  refine vc_rseq mixed ?_
  refine g_val (s_assign rfl rfl) rfl ?_
  refine g_nil ?_
  exact vc_ret (ret_of _ (.cons (.tmp rfl) .nil) rfl rfl)
  rw [← hg73]; replace hg73 := hg73.symm; replace hg73 := of_decide_eq_true hg73
  try simp only [List.length_map, ne_eq, Decidable.not_not, Int.not_lt, Int.not_le, ge_iff_le, gt_iff_lt, Bool.not_eq_true', Bool.not_eq_false', decide_eq_true_eq, decide_eq_false_iff_not] at hg73
  refine dn_val rfl rfl rfl rfl rfl rfl (by decide) ?_
  refine dn_val rfl rfl rfl rfl rfl rfl (by decide) ?_
  refine dn_val rfl rfl rfl rfl rfl rfl (by decide) ?_
  refine dn_val rfl rfl rfl rfl rfl rfl (by decide) ?_
  refine dn_val rfl rfl rfl rfl rfl rfl (by decide) ?_
  refine dn_val rfl rfl rfl rfl rfl rfl (by decide) ?_
  refine dn_val rfl rfl rfl rfl rfl rfl (by decide) ?_
  refine dn_val rfl rfl rfl rfl rfl rfl (by decide) ?_
  refine dn_val rfl rfl rfl rfl rfl rfl (by decide) ?_
  refine d_val (s_pickT rfl rfl rfl) rfl ?_
  refine d_val (s_move rfl rfl) rfl ?_
  refine dn_val rfl rfl rfl rfl rfl rfl (by decide) ?_
  refine dn_val rfl rfl rfl rfl rfl rfl (by decide) ?_
  refine dn_val rfl rfl rfl rfl rfl rfl (by decide) ?_
  refine dn_val rfl rfl rfl rfl rfl rfl (by decide) ?_
  refine dn_val rfl rfl rfl rfl rfl rfl (by decide) ?_
  refine dn_val rfl rfl rfl rfl rfl rfl (by decide) ?_
  refine dn_val rfl rfl rfl rfl rfl rfl (by decide) ?_
  refine dn_val rfl rfl rfl rfl rfl rfl (by decide) ?_
  refine dn_val rfl rfl rfl rfl rfl rfl (by decide) ?_
  refine dn_val rfl rfl rfl rfl rfl rfl (by decide) ?_
  refine d_val (s_pickT rfl rfl rfl) rfl ?_
  refine d_nil rfl ?_
  refine vc_cond rfl (fun _ => ?_) (fun h => by cases h)
  rw [show strB s = false from Bool.eq_false_iff.2 fun hr => by
  have h7 := (hsb.1 hr).2
  rw [← hs2, Bool.and_eq_true, decide_eq_true_eq] at h7
  simp only [List.length_map] at *
  omega]
  refine vc_rseq mixed ?_
  refine g_val (s_assign rfl rfl) rfl ?_
  refine g_nil ?_
  exact vc_ret (ret_of _ (.cons (.tmp rfl) .nil) rfl rfl)
  replace hc62 := of_decide_eq_false hc62
  simp only [List.length_map, Int.not_lt] at hc62
  refine vc_exit ?_
  have hwr : ascB s.blocks s.size (-1) s.items = true := by rw [← hs2, List.drop_of_length_le (by omega)]; rfl
  rw [hsb.2 ⟨hh, hwr⟩]
  refine vc_rseq mixed ?_
  refine g_val (s_assign rfl rfl) rfl ?_
  refine g_nil ?_
  exact vc_ret (ret_of _ (.cons (.tmp rfl) .nil) rfl rfl)

def blocksF (s : Strm) : List (List Int) := if strB s = true ∧ s.frm < 0 then s.items.map (·.data) else []

theorem c_mementoref21_Blocks (s : Strm) : Con Tryz.prog 16 [sC (strC s)] [] (.t (bodiesT (blocksF s))) [] := by
  refine con_intro [] [] Tryz.func16 rfl Tryz.ntmps16 Tryz.results16 rfl rfl ?_
  intro E
  refine vc_rseq mixed ?_
  refine g_new (s_box 1 rfl rfl rfl rfl) rfl ?_
  refine g_val (s_assign rfl rfl) rfl ?_
  refine g_nil ?_
  refine vc_seq ?_
  refine vc_cut (⟨[(1, .ref 1 0), (2, .t (.k (.slice none 0 0))), (12, AB (decide (¬ (strB s = true ∧ s.frm < 0))))], [(1, some (.box ((strC s).map .t)))], [1]⟩) ?_ ?_
  refine vc_region mixed ?_
  refine g_val (s_loadA rfl rfl rfl rfl rfl) rfl ?_
  refine g_val (s_call [] (c_mementoref21_Right s) (evArgs_cons rfl evArgs_nil) trivial rfl (okVL_nil _) rfl (.inl rfl) rfl) rfl ?_
  refine g_val (s_not rfl rfl) rfl ?_
  refine g_val (s_move rfl rfl) rfl ?_
  refine g_probe (j := 8) rfl (fun c hg8 => ?_)
  cases c
  rw [← hg8]; replace hg8 := hg8.symm
  simp only [Bool.not_eq_false'] at hg8
  refine gq_val (s_field rfl rfl rfl rfl) rfl rfl rfl rfl ?_
  refine gq_val (s_load rfl rfl rfl rfl) rfl rfl rfl rfl ?_
  refine gq_val (s_geq rfl rfl rfl) rfl rfl rfl rfl ?_
  refine g_val (s_pickF rfl rfl rfl) rfl ?_
  refine g_nil ?_
  exact (leE_same (by repeat (first | exact letm_nil _ _ | refine letm_cons rfl ?_ ?_ | exact .same _ | exact .nl (by decide) (by decide) | exact .nn | exact .id' rfl | exact .id' (by first | (exact AB_td (by rintro ⟨h1, h2⟩; simp_all; done)) | (exact AB_dd ⟨fun h1 h2 => by omega, fun hn => Int.not_lt.1 fun hlt => hn ⟨by simp_all, hlt⟩⟩)))) (by repeat (first | exact lehp_nil _ _ | refine lehp_cons rfl ?_ ?_ | exact leB_same _ | exact leB_row (by first | rfl | (first | (exact AB_td (by rintro ⟨h1, h2⟩; simp_all; done)) | (exact AB_dd ⟨fun h1 h2 => by omega, fun hn => Int.not_lt.1 fun hlt => hn ⟨by simp_all, hlt⟩⟩))) | exact leB_obj (by first | (exact AB_td (by rintro ⟨h1, h2⟩; simp_all; done)) | (exact AB_dd ⟨fun h1 h2 => by omega, fun hn => Int.not_lt.1 fun hlt => hn ⟨by simp_all, hlt⟩⟩)) | exact leB_nest (by first | rfl | (first | (exact AB_td (by rintro ⟨h1, h2⟩; simp_all; done)) | (exact AB_dd ⟨fun h1 h2 => by omega, fun hn => Int.not_lt.1 fun hlt => hn ⟨by simp_all, hlt⟩⟩))) | refine leB_box ?_ | exact leL_nil | refine leL_cons ?_ ?_ | exact .same _ | exact .nl (by decide) (by decide) | exact .nn | exact .id' rfl | exact .id' (by first | (exact AB_td (by rintro ⟨h1, h2⟩; simp_all; done)) | (exact AB_dd ⟨fun h1 h2 => by omega, fun hn => Int.not_lt.1 fun hlt => hn ⟨by simp_all, hlt⟩⟩)))) rfl)
  rw [← hg8]; replace hg8 := hg8.symm
  simp only [Bool.not_eq_true'] at hg8
  refine gn_val rfl rfl rfl rfl rfl rfl (by decide) ?_
  refine gn_val rfl rfl rfl rfl rfl rfl (by decide) ?_
  refine gn_val rfl rfl rfl rfl rfl rfl (by decide) ?_
  refine g_val (s_pickT rfl rfl rfl) rfl ?_
  refine g_nil ?_
  exact (leE_same (by repeat (first | exact letm_nil _ _ | refine letm_cons rfl ?_ ?_ | exact .same _ | exact .nl (by decide) (by decide) | exact .nn | exact .id' rfl | exact .id' (by first | (exact AB_td (by rintro ⟨h1, h2⟩; simp_all; done)) | (exact AB_dd ⟨fun h1 h2 => by omega, fun hn => Int.not_lt.1 fun hlt => hn ⟨by simp_all, hlt⟩⟩)))) (by repeat (first | exact lehp_nil _ _ | refine lehp_cons rfl ?_ ?_ | exact leB_same _ | exact leB_row (by first | rfl | (first | (exact AB_td (by rintro ⟨h1, h2⟩; simp_all; done)) | (exact AB_dd ⟨fun h1 h2 => by omega, fun hn => Int.not_lt.1 fun hlt => hn ⟨by simp_all, hlt⟩⟩))) | exact leB_obj (by first | (exact AB_td (by rintro ⟨h1, h2⟩; simp_all; done)) | (exact AB_dd ⟨fun h1 h2 => by omega, fun hn => Int.not_lt.1 fun hlt => hn ⟨by simp_all, hlt⟩⟩)) | exact leB_nest (by first | rfl | (first | (exact AB_td (by rintro ⟨h1, h2⟩; simp_all; done)) | (exact AB_dd ⟨fun h1 h2 => by omega, fun hn => Int.not_lt.1 fun hlt => hn ⟨by simp_all, hlt⟩⟩))) | refine leB_box ?_ | exact leL_nil | refine leL_cons ?_ ?_ | exact .same _ | exact .nl (by decide) (by decide) | exact .nn | exact .id' rfl | exact .id' (by first | (exact AB_td (by rintro ⟨h1, h2⟩; simp_all; done)) | (exact AB_dd ⟨fun h1 h2 => by omega, fun hn => Int.not_lt.1 fun hlt => hn ⟨by simp_all, hlt⟩⟩)))) rfl)
  refine vc_cond rfl (fun hc12 => ?_) (fun hc12 => ?_)
  replace hc12 := of_decide_eq_true hc12
  rw [show blocksF s = [] from if_neg (by simpa using hc12)]
  refine vc_rseq mixed ?_
  refine g_val (s_assign rfl rfl) rfl ?_
  refine g_nil ?_
  exact vc_ret (ret_le [] _ (.cons (.tmp rfl) .nil) trivial (.nl (by decide) (by decide)) rfl)
  replace hc12 := of_decide_eq_false hc12
  simp only [Decidable.not_not] at hc12
  refine vc_skip ?_
  have hh : strB s = true ∧ s.frm < 0 := by simpa using hc12
  rw [show blocksF s = s.items.map (·.data) from if_pos hh]
  have hlb := ((strB_iff s).1 hh.1).1
  have hlen := hlb.2.2.2.2.2.2.2.2 hh.2
  have hbb := hlb.2.1
  refine vc_rseq mixed ?_
  refine g_val (s_assign rfl rfl) rfl ?_
  refine g_nil ?_
  refine vc_seq ?_
  refine vc_ownnil (i := 3) 3 1 24 rfl rfl rfl ?_
  refine vc_rseq mixed ?_
  refine g_val (s_assign rfl rfl) rfl ?_
  refine g_nil ?_
  refine vc_block ?_
  refine vc_up s.items.length (fun i => ⟨[(1, .ref 1 0), (3, .rows 3 1 0 i), (4, AI .i64 i)], [(1, some (.box ((strC s).map .t))), (3, some (.row 1 24 ((s.items.take i).map fun x => [bytesT x.data])))], [1, 3]⟩) (fun i => True) (leE_same (by repeat (first | exact letm_nil _ _ | refine letm_cons rfl ?_ ?_ | exact .same _ | exact .nl (by decide) (by decide) | exact .nn | exact .id' rfl | exact .id' (by first | (simp; done)))) (by repeat (first | exact lehp_nil _ _ | refine lehp_cons rfl ?_ ?_ | exact leB_same _ | exact leB_row (by first | rfl | (first | (simp; done))) | exact leB_obj (by first | (simp; done)) | exact leB_nest (by first | rfl | (first | (simp; done))) | refine leB_box ?_ | exact leL_nil | refine leL_cons ?_ ?_ | exact .same _ | exact .nl (by decide) (by decide) | exact .nn | exact .id' rfl | exact .id' (by first | (simp; done)))) rfl) trivial (fun i hi _ => ?_)
  refine vc_seq ?_
  refine vc_rseq mixed ?_
  refine g_val (s_move rfl rfl) rfl ?_
  refine g_val (s_field rfl rfl rfl rfl) rfl ?_
  refine g_val (s_load rfl rfl rfl rfl) rfl ?_
  refine g_val (s_len rfl rfl) rfl ?_
  refine g_val (s_lss rfl rfl rfl) rfl ?_
  refine g_nil ?_
  refine vc_cond rfl (fun hc17 => ?_) (fun hc17 => ?_)
  replace hc17 := of_decide_eq_true hc17
  simp only [List.length_map] at hc17
  obtain ⟨x, hx⟩ := get_of_lt (l := s.items) (i := i) (by omega)
  refine vc_skip ?_
  refine vc_seq ?_
  refine vc_block ?_
  refine vc_region mixed ?_
  refine g_val (s_move rfl rfl) rfl ?_
  refine g_val (s_field rfl rfl rfl rfl) rfl ?_
  refine g_val (s_load rfl rfl rfl rfl) rfl ?_
  refine g_val (s_move rfl rfl) rfl ?_
  refine g_val (s_index rfl rfl rfl (by omega) (idx_map hx)) rfl ?_
  refine g_val (s_fieldT rfl rfl rfl rfl rfl) rfl ?_
  refine g_val (s_loadT rfl rfl rfl) rfl ?_
  refine g_fz ((s_buildSlice 27 (evArgs_cons rfl evArgs_nil) rfl rfl rfl rfl).fzE rfl) rfl ?_
  refine g_app (s_append 28 rfl rfl rfl rfl rfl (by first | (simp; done) | (simp; omega)) rfl rfl (by (try simp only [List.length_cons, List.length_nil, List.length_map, List.length_take]); omega)) rfl ?_
  refine g_val (s_assign rfl rfl) rfl ?_
  refine g_nil ?_
  refine vc_region mixed ?_
  refine g_val (s_move rfl rfl) rfl ?_
  refine g_val (s_add rfl rfl rfl (by simp only [inI, kMin, kMax]; omega)) rfl ?_
  refine g_val (s_assign rfl rfl) rfl ?_
  refine g_nil ?_
  exact ⟨by omega, trivial, by
  simp only [List.length_cons, List.length_nil]
  exact (leE_gen [] [(3, 28)] (by repeat (first | exact letm_nil _ _ | refine letm_cons rfl ?_ ?_ | exact LeV.tt rfl | exact .eq (okV_nil _) rfl | exact LeV.tt (by first | (simp; done) | (rw [List.take_of_length_le (by first | (simp; done) | (simp; omega))]; rw [take_snoc hx]; simp [bytesT])) | exact .eq (okV_nil _) (by first | (simp; done) | (rw [List.take_of_length_le (by first | (simp; done) | (simp; omega))]; rw [take_snoc hx]; simp [bytesT])))) (by repeat (first | exact lehp_nil _ _ | refine lehp_cons rfl ?_ ?_ | exact leB_row (by first | rfl | (first | (simp; done) | (rw [List.take_of_length_le (by first | (simp; done) | (simp; omega))]; rw [take_snoc hx]; simp [bytesT]))) | exact leB_obj (by first | (simp; done) | (rw [List.take_of_length_le (by first | (simp; done) | (simp; omega))]; rw [take_snoc hx]; simp [bytesT])) | exact leB_nest (by first | rfl | (first | (simp; done) | (rw [List.take_of_length_le (by first | (simp; done) | (simp; omega))]; rw [take_snoc hx]; simp [bytesT]))) | refine leB_box ?_ | exact leL_nil | refine leL_cons ?_ ?_ | exact LeV.tt rfl | exact .eq (okV_nil _) rfl | exact LeV.tt (by first | (simp; done) | (rw [List.take_of_length_le (by first | (simp; done) | (simp; omega))]; rw [take_snoc hx]; simp [bytesT])) | exact .eq (okV_nil _) (by first | (simp; done) | (rw [List.take_of_length_le (by first | (simp; done) | (simp; omega))]; rw [take_snoc hx]; simp [bytesT])))) trivial rfl)⟩
  replace hc17 := of_decide_eq_false hc17
  simp only [List.length_map, Int.not_lt] at hc17
  refine vc_exit ?_
  obtain rfl : i = s.items.length := by omega
  rw [List.take_length]
  refine vc_rseq mixed ?_
  refine g_val (s_move rfl rfl) rfl ?_
  refine g_val (s_assign rfl rfl) rfl ?_
  refine g_nil ?_
  exact vc_ret (ret_le [(3, _)] _ (.cons (.tmp rfl) .nil) ⟨rfl, trivial⟩ (.eq (by simp [single, AV.okV, okR, lkB]) (by simp [single, AV.view, viewR, lkB, AV.ren, bodiesT, bodyC, List.take_of_length_le]; try rfl)) rfl)

end Go.Eng

set_option maxHeartbeats 1000000
namespace Go.Eng

/-! ### What is taken home of right chunks -/
/-- Chunks of a volume, of whatever mark. -/
def ofV (v : Volume) (l : List Chunk) : Prop := ∀ c ∈ l, ∃ n : Nat, n < v.place.length ∧ KR v n c
theorem ofV_app {v : Volume} {a b : List Chunk} (h1 : ofV v a) (h2 : ofV v b) : ofV v (a ++ b) := fun c hc => (List.mem_append.1 hc).elim (h1 c) (h2 c)

theorem KR.sm {k : Nat} {v : Volume} (h : VR k v) (hk : k ≤ 10000) {n : Nat} {c : Chunk} (hc : KR v n c) : chkSm c := by
  obtain ⟨s1, s2, s3, s4, s5, s6, s7, s8, s9, s10, s11, s12⟩ := h.shape
  have h1 := hc.len
  have h2 := hc.count
  have h3 := h.nw
  refine ⟨by omega, fun e he => ?_, by omega⟩
  obtain ⟨b, hb⟩ := List.mem_iff_getElem?.1 he
  have := hc.sorted h hb
  exact ⟨by omega, this.1⟩
theorem ofV_sm {k : Nat} {v : Volume} (h : VR k v) (hk : k ≤ 10000) {l : List Chunk} (hl : ofV v l) : ∀ c ∈ l, chkSm c := fun c hc => by
  obtain ⟨n, _, hn⟩ := hl c hc
  exact hn.sm h hk

theorem pickK_ok {k : Nat} {v : Volume} (h : VR k v) {l : List Chunk} (hl : ofV v l) {n : Nat} (hn : n < v.place.length) {a b : Int} (he : ∃ c ∈ l, KR v n c ∧ c.floor ≤ a ∧ b ≤ c.mark) :
    ∃ c, pickK v l n a b = (c, true) ∧ c ∈ l ∧ KR v n c ∧ c.floor ≤ a ∧ b ≤ c.mark := by
  have hp : pushOK v n 0 = true := (pushOK_iff v n 0).2 ⟨by omega, by omega, by omega, by omega⟩
  obtain ⟨c, hc, hK, h1, h2⟩ := he
  unfold pickK
  rw [if_pos hp]
  have hb : pickB (pushP v n 0) a b c = true := decide_eq_true ⟨hK.vol, hK.chunk, hK.count, hK.size, h1, h2⟩
  have hs : (pickL (pushP v n 0) l a b).2 = true := by
    unfold pickL
    cases hf : l.find? (pickB (pushP v n 0) a b) with
    | some c => rfl
    | none =>
      rw [List.find?_eq_none] at hf
      exact absurd hb (hf c hc)
  obtain ⟨g1, g2⟩ := pickL_mem hs
  obtain ⟨e1, e2, e3, e4, e5, e6⟩ := of_decide_eq_true g2
  obtain ⟨m, hm, hKm⟩ := hl _ g1
  have : m = n := by
    have := hKm.chunk
    rw [e2] at this
    simp only [pushP] at this
    omega
  subst this
  exact ⟨(pickL (pushP v m 0) l a b).1, by rw [← hs], g1, hKm, e5, e6⟩

theorem readK_ok {k : Nat} {v : Volume} (h : VR k v) {n : Nat} {c : Chunk} (hc : KR v n c) {t : Int} (h1 : c.floor ≤ t) (h2 : t ≤ c.mark) {b : Nat} (hb : (b : Int) < c.count) : (readK c b t).1 = stB v t (n * v.per.toNat + b) ∧ (readK c b t).2 = 0 := by
  obtain ⟨s1, s2, s3, s4, s5, s6, s7, s8, s9, s10, s11, s12⟩ := h.shape
  have hl := hc.len
  obtain ⟨e, he⟩ := get_of_lt (l := c.hist) (i := b) (by omega)
  have hat := hc.at h he h1 h2
  have hge : c.hist.getD (b : Int).toNat [] = e := by rw [List.getD_eq_getElem?_getD, Int.toNat_natCast, he]; rfl
  have hsz : (min (max c.size 0) 32).toNat = v.size.toNat := by rw [hc.size]; omega
  unfold readK
  rw [if_neg (by omega), if_neg (by omega), if_neg (by omega), hge, hat, hsz]
  unfold stB
  split <;> exact ⟨rfl, rfl⟩

theorem range_cut {α : Type} (f : Nat → α) (per B : Nat) : ∀ (i : Nat) (cnt : Nat → Nat), (∀ n, n < i → n * per ≤ B ∧ cnt n = min per (B - n * per)) → ((List.range i).map fun n => (List.range (cnt n)).map fun b => f (n * per + b)).flatten = (List.range (min (i * per) B)).map f
  | 0, cnt, _ => by simp
  | i + 1, cnt, h => by
    have ih := range_cut f per B i cnt fun n hn => h n (by omega)
    obtain ⟨h1, h2⟩ := h i (by omega)
    rw [List.range_succ, List.map_append, List.flatten_append, ih, Nat.min_eq_left h1]
    have e : min ((i + 1) * per) B = i * per + cnt i := by rw [h2, Nat.add_mul, Nat.one_mul]; omega
    rw [e, List.range_add, List.map_append]
    simp [Function.comp]

theorem VR.ceil {k : Nat} {v : Volume} (h : VR k v) : v.blocks.toNat ≤ v.place.length * v.per.toNat ∧ ∀ n, n < v.place.length → n * v.per.toNat < v.blocks.toNat := by
  obtain ⟨s1, s2, s3, s4, s5, s6, s7, s8, s9, s10, s11, s12⟩ := h.shape
  unfold chunksN at s9
  have h1 := Int.lt_mul_ediv_self_add (x := v.blocks + v.per - 1) (k := v.per) (by omega)
  rw [← s9] at h1
  have e1 : ((v.place.length * v.per.toNat : Nat) : Int) = v.per * v.place.length := by push_cast; rw [Int.toNat_of_nonneg (by omega), Int.mul_comm]
  refine ⟨by omega, fun n hn => ?_⟩
  have := h.cnt hn
  have e2 : ((n * v.per.toNat : Nat) : Int) = n * v.per := by push_cast; rw [Int.toNat_of_nonneg (by omega)]
  omega

theorem fullK_ok {k : Nat} {v : Volume} (h : VR k v) (hh : v.hidden = false) {l : List Chunk} (hl : ofV v l) {t : Int} (h1 : v.floor ≤ t) (h2 : t ≤ v.writes.length)
    (he : ∀ n : Nat, n < v.place.length → ∃ c ∈ l, KR v n c ∧ c.floor ≤ t ∧ t ≤ c.mark) :
    fullK v l t = (⟨v.blocks, v.size, -1, t, (List.range v.blocks.toNat).map fun j : Nat => ⟨(j : Int), stB v t j⟩⟩, 0) := by
  obtain ⟨s1, s2, s3, s4, s5, s6, s7, s8, s9, s10, s11, s12⟩ := h.shape
  have hm : mayF v t t = 0 := by unfold mayF; rw [if_neg (by rw [hh]; decide), if_neg (by omega), if_neg (by omega), if_neg (by omega)]
  have hp : picksK v l t t = (picksR v l t t v.place.length, 0) := if_pos (List.all_eq_true.2 fun n hn => by
    obtain ⟨c, e, _⟩ := pickK_ok h hl (List.mem_range.1 hn) (he n (List.mem_range.1 hn))
    rw [e])
  unfold fullK
  rw [hm, hp, if_neg (by decide), if_neg (by simp)]
  simp only
  congr 2
  have hlen : (picksR v l t t v.place.length).length = v.place.length := by simp [picksR]
  rw [hlen]
  unfold fullI
  obtain ⟨c1, c2⟩ := h.ceil
  have hper : ((v.per.toNat : Nat) : Int) = v.per := Int.toNat_of_nonneg (by omega)
  have key : ((List.range v.place.length).map fun n : Nat => itsK v n ((picksR v l t t v.place.length).getD n chkZ) t ((picksR v l t t v.place.length).getD n chkZ).count.toNat) =
      (List.range v.place.length).map fun n : Nat => (List.range (min v.per.toNat (v.blocks.toNat - n * v.per.toNat))).map fun b : Nat => (⟨((n * v.per.toNat + b : Nat) : Int), stB v t (n * v.per.toNat + b)⟩ : Item) := by
    refine List.map_congr_left fun n hn => ?_
    have hn := List.mem_range.1 hn
    obtain ⟨c, e, _, hK, f1, f2⟩ := pickK_ok h hl hn (he n hn)
    have hgd : (picksR v l t t v.place.length).getD n chkZ = c := by
      rw [List.getD_eq_getElem?_getD, picksR, List.getElem?_map, List.getElem?_range hn]
      simp [e]
    have hc2 := c2 n hn
    have hmul : ((n * v.per.toNat : Nat) : Int) = n * v.per := by push_cast; rw [hper]
    have hcnt : c.count.toNat = min v.per.toNat (v.blocks.toNat - n * v.per.toNat) := by rw [hK.count]; omega
    rw [hgd, itsK, hcnt]
    refine List.map_congr_left fun b hb => ?_
    have hb := List.mem_range.1 hb
    have := readK_ok h hK f1 f2 (b := b) (by rw [hK.count]; omega)
    unfold itemK
    rw [this.1]
    congr 1
    push_cast
    rw [hper]
  rw [key]
  rw [range_cut (fun j : Nat => (⟨(j : Int), stB v t j⟩ : Item)) v.per.toNat v.blocks.toNat v.place.length (fun n => min v.per.toNat (v.blocks.toNat - n * v.per.toNat)) fun n hn => ⟨by have := c2 n hn; omega, rfl⟩]
  rw [Nat.min_eq_right c1]

theorem finV_len {s : Nat} : ∀ {l : List Ver} {z : List Int}, (∀ x ∈ l, x.data.length = s) → z.length = s → (finV l z).length = s
  | [], z, _, hz => hz
  | x :: l, z, h, _ => finV_len (l := l) (z := x.data) (fun y hy => h y (List.mem_cons_of_mem _ hy)) (h x (List.mem_cons_self ..))
theorem stB_len {k : Nat} {v : Volume} (h : VR k v) (t : Int) (j : Nat) : ((stB v t j).length : Int) = v.size := by
  obtain ⟨s1, s2, s3, s4, s5, s6, s7, s8, s9, s10, s11, s12⟩ := h.shape
  rw [stB_fin, finV_len (s := v.size.toNat)]
  · omega
  · intro x hx
    have hx := (List.takeWhile_prefix _).subset hx
    simp only [histF, List.mem_flatten, List.mem_map] at hx
    obtain ⟨q, ⟨w, hw, rfl⟩, hx⟩ := hx
    simp only [verI, List.mem_map, List.mem_filter] at hx
    obtain ⟨y, ⟨hy, _⟩, rfl⟩ := hx
    obtain ⟨i, hi⟩ := List.mem_iff_getElem?.1 hw
    have := ((h.wr i w hi).2.2.2.1 y hy).2.2
    simp only
    omega
  · simp [zerB]
theorem ascB_range {B s : Nat} {f : Nat → List Int} (hf : ∀ j, (f j).length = s) : ∀ (m j : Nat), j + m = B → ∀ last : Int, last < j → ascB B s last ((List.range' j m).map fun j : Nat => ⟨(j : Int), f j⟩) = true
  | 0, j, _, last, _ => rfl
  | m + 1, j, hj, last, hl => by
    rw [List.range'_succ, List.map_cons]
    simp only [ascB, Bool.and_eq_true, decide_eq_true_eq]
    exact ⟨⟨hl, by omega, by rw [hf]⟩, ascB_range hf m (j + 1) (by omega) _ (by omega)⟩

theorem full_right {k : Nat} {v : Volume} (h : VR k v) (hk : k ≤ 10000) {t : Int} (h1 : 0 ≤ t) (h2 : t ≤ v.writes.length) : strB ⟨v.blocks, v.size, -1, t, (List.range v.blocks.toNat).map fun j : Nat => ⟨(j : Int), stB v t j⟩⟩ = true := by
  obtain ⟨s1, s2, s3, s4, s5, s6, s7, s8, s9, s10, s11, s12⟩ := h.shape
  have hnw := h.nw
  refine (strB_iff _).2 ⟨⟨s3, s4, s5, s6, by simp only; omega, h1, by simp only; omega, by simp only; omega, fun _ => by simp; omega⟩, ?_⟩
  have := ascB_range (B := v.blocks.toNat) (s := v.size.toNat) (f := stB v t) (fun j => by have := stB_len h t j; omega) v.blocks.toNat 0 (by omega) (-1) (by omega)
  rw [← List.range_eq_range'] at this
  simp only
  rw [Int.toNat_of_nonneg (by omega), Int.toNat_of_nonneg (by omega)] at this
  exact this

theorem full_blocks {k : Nat} {v : Volume} (h : VR k v) (hk : k ≤ 10000) {t : Int} (h0 : v.floor ≤ t) (h2 : t ≤ v.writes.length) : blocksF ⟨v.blocks, v.size, -1, t, (List.range v.blocks.toNat).map fun j : Nat => ⟨(j : Int), stB v t j⟩⟩ = (stateF v t).1 := by
  have hfl := h.floor
  unfold blocksF stateF
  rw [if_pos ⟨full_right h hk (by omega) h2, show (-1 : Int) < 0 by decide⟩, if_neg (by omega), if_neg (by omega), List.map_map]
  rfl

/-- All chunks of a volume. -/
def allK (v : Volume) (mark : Int) (i : Nat) : List Chunk := (List.range i).map fun n : Nat => seatK v n mark
theorem allK_ofV {k : Nat} {v : Volume} (h : VR k v) (hk : k ≤ 10000) (mark : Int) {i : Nat} (hi : i ≤ v.place.length) : ofV v (allK v mark i) := fun c hc => by
  obtain ⟨n, hn, rfl⟩ := List.mem_map.1 hc
  have := List.mem_range.1 hn
  exact ⟨n, by omega, (seatK_KR h (by omega) (by omega) mark).1⟩
theorem chunksL_ofV {k : Nat} {v : Volume} (h : VR k v) (hk : k ≤ 10000) {l : List Int} : ofV v (chunksL v l) := fun c hc => by
  obtain ⟨x, hx, rfl⟩ := List.mem_map.1 hc
  have hp0 : 0 < v.place.length := by
    have h1 := h.ceil.1
    have h2 := h.shape.2.2.1
    rcases Nat.eq_zero_or_pos v.place.length with e | e
    · rw [e, Nat.zero_mul] at h1; omega
    · exact e
  have hm1 := Int.emod_nonneg x (b := (v.place.length : Int)) (by omega)
  have hm2 := Int.emod_lt_of_pos x (b := (v.place.length : Int)) (by omega)
  refine ⟨(x % v.place.length).toNat, by omega, ?_⟩
  have := (seatK_KR h (by omega) (n := (x % v.place.length).toNat) (by omega) (x / 8 % (v.writes.length + 4))).1
  rwa [Int.toNat_of_nonneg hm1] at this
theorem allK_has {k : Nat} {v : Volume} (h : VR k v) (hk : k ≤ 1000) {mark : Int} (hm : k ≤ mark) {n : Nat} (hn : n < v.place.length) : ∃ c ∈ allK v mark v.place.length, KR v n c ∧ c.floor = v.floor ∧ c.mark = v.writes.length := by
  obtain ⟨g1, g2⟩ := seatK_KR h (by omega) hn mark
  have hw := h.nw
  have hc := g1.mark
  have hf := g1.floor
  have hv := h.floor
  exact ⟨seatK v n mark, List.mem_map.2 ⟨n, List.mem_range.2 hn, rfl⟩, g1, by omega, by omega⟩

end Go.Eng

set_option maxHeartbeats 8000000
namespace Go.Eng
open Go.Proofs

def kv23 : Volume := ⟨0, 3, 2, 2, [2, 1], 0, 0, false, 0, [], []⟩
def ks23 : Strm := ⟨3, 2, -1, 0, [⟨0, [0, 0]⟩, ⟨1, [0, 0]⟩, ⟨2, [0, 0]⟩]⟩
def kc23 : Chunk := ⟨0, 0, 2, 2, 0, 0, [[], []]⟩
set_option maxRecDepth 100000 in
theorem kv23_eq : seatVol [0, 2, 1, 1] = kv23 := by decide
set_option maxRecDepth 100000 in
theorem kf1 : fullK kv23 (allK kv23 9 2) 0 = (ks23, 0) := by decide
set_option maxRecDepth 100000 in
theorem kf2 : fullK kv23 (allK kv23 9 2) 9 = (strZ, 31) := by decide
set_option maxRecDepth 100000 in
theorem kf3 : fullK kv23 [] 0 = (strZ, 32) := by decide
set_option maxRecDepth 100000 in
theorem kf4 : pickK kv23 (allK kv23 9 2) 0 0 0 = (kc23, true) := by decide

theorem c_law23_known : Con Tryz.prog 8 [] [] (AB true) [] := by
  refine con_intro [] [] Tryz.func8 rfl Tryz.ntmps8 Tryz.results8 rfl rfl ?_
  intro E
  have hVR := seatVol_VR [0, 2, 1, 1]
  rw [kv23_eq] at hVR
  have hsv := c_mementoseat_Volume [0, 2, 1, 1] (by decide)
  rw [kv23_eq] at hsv
  have hsm := ofV_sm hVR (by decide) (allK_ofV hVR (by decide) 9 (i := 2) (by decide))
  have h1 := c_export_Full 4 kv23 (allK kv23 9 2) 0 hVR (by decide) hsm
  have h2 := c_export_Full 4 kv23 (allK kv23 9 2) 9 hVR (by decide) hsm
  have h3 := (c_export_Full 4 kv23 [] 0 hVR (by decide) (fun c hc => by cases hc)).args (leL_cons (.same _) (leL_cons (.nl (by decide) (by decide)) (leL_cons (.same _) leL_nil)))
  have h4 := c_export_Gather_nil 0
  have h5 := c_export_Pick 4 kv23 (allK kv23 9 2) 0 0 0 hVR (by decide) hsm
  rw [kf1] at h1
  rw [kf2] at h2
  rw [kf3] at h3
  rw [kf4] at h5
  refine vc_rseq mixed ?_
  refine g_val (s_assign rfl rfl) rfl ?_
  refine g_nil ?_
  refine vc_rseq mixed ?_
  refine g_fz ((s_buildSlice 15 (evArgs_cons rfl (evArgs_cons rfl (evArgs_cons rfl (evArgs_cons rfl evArgs_nil)))) rfl rfl rfl rfl).fzE rfl) rfl ?_
  refine g_val (s_call [] (hsv) (evArgs_cons rfl evArgs_nil) trivial rfl (okVL_nil _) rfl (.inl rfl) rfl) rfl ?_
  refine g_new (s_alloc 1 rfl rfl) rfl ?_
  refine g_sto (s_store rfl rfl rfl rfl rfl rfl) rfl ?_
  refine g_nil ?_
  refine vc_rseq mixed ?_
  refine g_val (s_assign rfl rfl) rfl ?_
  refine g_nil ?_
  refine vc_seq ?_
  refine vc_ownnil (i := 2) 2 7 72 rfl rfl rfl ?_
  refine vc_rseq mixed ?_
  refine g_val (s_assign rfl rfl) rfl ?_
  refine g_nil ?_
  refine vc_block ?_
  refine vc_up 2 (fun i => ⟨[(1, .ref 1 0), (2, .rows 2 7 0 i), (3, AI .i64 i)], [(1, some (.box ((volC kv23).map .t))), (2, some (.row 7 72 ((allK kv23 9 i).map chkC)))], [1, 2]⟩) (fun i => True) (leE_same (by repeat (first | exact letm_nil _ _ | refine letm_cons rfl ?_ ?_ | exact .same _ | exact .nl (by decide) (by decide) | exact .nn | exact .id' rfl | exact .id' (by simp [allK]; done))) (by repeat (first | exact lehp_nil _ _ | refine lehp_cons rfl ?_ ?_ | exact leB_same _ | exact leB_row (by first | rfl | (simp [allK]; done)) | exact leB_obj (by simp [allK]; done) | exact leB_nest (by first | rfl | (simp [allK]; done)) | refine leB_box ?_ | exact leL_nil | refine leL_cons ?_ ?_ | exact .same _ | exact .nl (by decide) (by decide) | exact .nn | exact .id' rfl | exact .id' (by simp [allK]; done))) rfl) trivial (fun i hi _ => ?_)
  refine vc_seq ?_
  refine vc_rseq mixed ?_
  refine g_val (s_move rfl rfl) rfl ?_
  refine g_val (s_field rfl rfl rfl rfl) rfl ?_
  refine g_val (s_load rfl rfl rfl rfl) rfl ?_
  refine g_val (s_len rfl rfl) rfl ?_
  refine g_val (s_lss rfl rfl rfl) rfl ?_
  refine g_nil ?_
  refine vc_cond rfl (fun hc21 => ?_) (fun hc21 => ?_)
  replace hc21 := of_decide_eq_true hc21
  simp only [List.length_map] at hc21
  have hsk := c_mementoseat_Chunk 4 kv23 i 9 hVR (by decide) (by simp [kv23] at *; omega)
  refine vc_skip ?_
  refine vc_seq ?_
  refine vc_block ?_
  refine vc_region mixed ?_
  refine g_val (s_move rfl rfl) rfl ?_
  refine g_val (s_loadA rfl rfl rfl rfl rfl) rfl ?_
  refine g_val (s_move rfl rfl) rfl ?_
  refine g_val (s_call [] (hsk) (evArgs_cons rfl (evArgs_cons rfl (evArgs_cons rfl evArgs_nil))) trivial rfl (okVL_nil _) rfl (.inl rfl) rfl) rfl ?_
  refine g_fz ((s_buildSlice 28 (evArgs_cons rfl evArgs_nil) rfl rfl rfl rfl).fzE rfl) rfl ?_
  refine g_app (s_append 29 rfl rfl rfl rfl rfl (by simp [allK]) rfl rfl (by (try simp only [List.length_cons, List.length_nil, List.length_map, allK, List.length_range]); omega)) rfl ?_
  refine g_val (s_assign rfl rfl) rfl ?_
  refine g_nil ?_
  refine vc_region mixed ?_
  refine g_val (s_move rfl rfl) rfl ?_
  refine g_val (s_add rfl rfl rfl (by simp only [inI, kMin, kMax]; omega)) rfl ?_
  refine g_val (s_assign rfl rfl) rfl ?_
  refine g_nil ?_
  exact ⟨by simp [kv23] at *; omega, trivial, by
  simp only [List.length_cons, List.length_nil]
  exact (leE_gen [] [(2, 29)] (by repeat (first | exact letm_nil _ _ | refine letm_cons rfl ?_ ?_ | exact LeV.tt rfl | exact .eq (okV_nil _) rfl | exact LeV.tt (by first | (simp; done) | (rw [List.take_of_length_le (by simp [allK])]; simp [allK, List.range_succ, chkC])) | exact .eq (okV_nil _) (by first | (simp; done) | (rw [List.take_of_length_le (by simp [allK])]; simp [allK, List.range_succ, chkC])))) (by repeat (first | exact lehp_nil _ _ | refine lehp_cons rfl ?_ ?_ | exact leB_row (by first | rfl | (first | (simp; done) | (rw [List.take_of_length_le (by simp [allK])]; simp [allK, List.range_succ, chkC]))) | exact leB_obj (by first | (simp; done) | (rw [List.take_of_length_le (by simp [allK])]; simp [allK, List.range_succ, chkC])) | exact leB_nest (by first | rfl | (first | (simp; done) | (rw [List.take_of_length_le (by simp [allK])]; simp [allK, List.range_succ, chkC]))) | refine leB_box ?_ | exact leL_nil | refine leL_cons ?_ ?_ | exact LeV.tt rfl | exact .eq (okV_nil _) rfl | exact LeV.tt (by first | (simp; done) | (rw [List.take_of_length_le (by simp [allK])]; simp [allK, List.range_succ, chkC])) | exact .eq (okV_nil _) (by first | (simp; done) | (rw [List.take_of_length_le (by simp [allK])]; simp [allK, List.range_succ, chkC])))) trivial rfl)⟩
  replace hc21 := of_decide_eq_false hc21
  simp only [List.length_map, Int.not_lt] at hc21
  refine vc_exit ?_
  obtain rfl : i = 2 := by simp [kv23] at *; omega
  refine vc_freezeE 2 rfl rfl (by simp [allK]) ?_
  refine vc_rseq mixed ?_
  refine g_val (s_loadA rfl rfl rfl rfl rfl) rfl ?_
  refine g_val (s_move rfl rfl) rfl ?_
  refine g_val (s_call [] (h1) (evArgs_cons rfl (evArgs_cons rfl (evArgs_cons rfl evArgs_nil))) trivial rfl (okVL_nil _) rfl (.inl rfl) rfl) rfl ?_
  refine g_val (s_move rfl rfl) rfl ?_
  refine g_val (s_extract rfl rfl rfl) rfl ?_
  refine g_val (s_extract rfl rfl rfl) rfl ?_
  refine g_new (s_alloc 4 rfl rfl) rfl ?_
  refine g_sto (s_store rfl rfl rfl rfl rfl rfl) rfl ?_
  refine g_val (s_assign rfl rfl) rfl ?_
  refine g_nil ?_
  refine vc_rseq mixed ?_
  refine g_val (s_loadA rfl rfl rfl rfl rfl) rfl ?_
  refine g_val (s_move rfl rfl) rfl ?_
  refine g_val (s_call [] (h2) (evArgs_cons rfl (evArgs_cons rfl (evArgs_cons rfl evArgs_nil))) trivial rfl (okVL_nil _) rfl (.inl rfl) rfl) rfl ?_
  refine g_val (s_move rfl rfl) rfl ?_
  refine g_val (s_extract rfl rfl rfl) rfl ?_
  refine g_val (s_extract rfl rfl rfl) rfl ?_
  refine g_new (s_alloc 6 rfl rfl) rfl ?_
  refine g_sto (s_store rfl rfl rfl rfl rfl rfl) rfl ?_
  refine g_val (s_assign rfl rfl) rfl ?_
  refine g_nil ?_
  refine vc_rseq mixed ?_
  refine g_val (s_loadA rfl rfl rfl rfl rfl) rfl ?_
  refine g_val (s_call [] (h3) (evArgs_cons rfl (evArgs_cons rfl (evArgs_cons rfl evArgs_nil))) trivial rfl (okVL_nil _) rfl (.inl rfl) rfl) rfl ?_
  refine g_val (s_move rfl rfl) rfl ?_
  refine g_val (s_extract rfl rfl rfl) rfl ?_
  refine g_val (s_extract rfl rfl rfl) rfl ?_
  refine g_new (s_alloc 8 rfl rfl) rfl ?_
  refine g_sto (s_store rfl rfl rfl rfl rfl rfl) rfl ?_
  refine g_val (s_assign rfl rfl) rfl ?_
  refine g_nil ?_
  refine vc_rseq mixed ?_
  refine g_val (s_call [] (h4) (evArgs_cons rfl (evArgs_cons rfl evArgs_nil)) trivial rfl (okVL_nil _) rfl (.inl rfl) rfl) rfl ?_
  refine g_val (s_move rfl rfl) rfl ?_
  refine g_val (s_extract rfl rfl rfl) rfl ?_
  refine g_val (s_extract rfl rfl rfl) rfl ?_
  refine g_val (s_extract rfl rfl rfl) rfl ?_
  refine g_new (s_alloc 10 rfl rfl) rfl ?_
  refine g_sto (s_store rfl rfl rfl rfl rfl rfl) rfl ?_
  refine g_val (s_assign rfl rfl) rfl ?_
  refine g_val (s_assign rfl rfl) rfl ?_
  refine g_nil ?_
  refine vc_rseq mixed ?_
  refine g_val (s_loadA rfl rfl rfl rfl rfl) rfl ?_
  refine g_val (s_move rfl rfl) rfl ?_
  refine g_val (s_call [] (h5) (evArgs_cons rfl (evArgs_cons rfl (evArgs_cons rfl (evArgs_cons rfl (evArgs_cons rfl evArgs_nil))))) trivial rfl (okVL_nil _) rfl (.inl rfl) rfl) rfl ?_
  refine g_val (s_move rfl rfl) rfl ?_
  refine g_val (s_extract rfl rfl rfl) rfl ?_
  refine g_val (s_extract rfl rfl rfl) rfl ?_
  refine g_new (s_alloc 13 rfl rfl) rfl ?_
  refine g_sto (s_store rfl rfl rfl rfl rfl rfl) rfl ?_
  refine g_val (s_assign rfl rfl) rfl ?_
  refine g_nil ?_
  refine vc_rseq mixed ?_
  refine g_val (s_move rfl rfl) rfl ?_
  refine g_val (s_eql rfl rfl rfl) rfl ?_
  refine g_val (s_move rfl rfl) rfl ?_
  refine g_probe (j := 60) rfl (fun c hg60 => ?_)
  rw [← hg60, hg60.trans (show _ = true from rfl)]
  clear hg60 c
  refine gq_val (s_field rfl rfl rfl rfl) rfl rfl rfl rfl ?_
  refine gq_val (s_load rfl rfl rfl rfl) rfl rfl rfl rfl ?_
  refine gq_val (s_eql rfl rfl rfl) rfl rfl rfl rfl ?_
  refine g_val (s_pickT rfl rfl rfl) rfl ?_
  refine g_val (s_move rfl rfl) rfl ?_
  refine g_probe (j := 65) rfl (fun c hg65 => ?_)
  rw [← hg65, hg65.trans (show _ = true from rfl)]
  clear hg65 c
  refine gq_val (s_field rfl rfl rfl rfl) rfl rfl rfl rfl ?_
  refine gq_val (s_load rfl rfl rfl rfl) rfl rfl rfl rfl ?_
  refine gq_val (s_len rfl rfl) rfl rfl rfl rfl ?_
  refine gq_val (s_field rfl rfl rfl rfl) rfl rfl rfl rfl ?_
  refine gq_val (s_load rfl rfl rfl rfl) rfl rfl rfl rfl ?_
  refine gq_val (s_eql rfl rfl rfl) rfl rfl rfl rfl ?_
  refine g_val (s_pickT rfl rfl rfl) rfl ?_
  refine g_val (s_move rfl rfl) rfl ?_
  refine g_probe (j := 73) rfl (fun c hg73 => ?_)
  rw [← hg73, hg73.trans (show _ = true from rfl)]
  clear hg73 c
  refine gq_val (s_move rfl rfl) rfl rfl rfl rfl ?_
  refine gq_val (s_eql rfl rfl rfl) rfl rfl rfl rfl ?_
  refine g_val (s_pickT rfl rfl rfl) rfl ?_
  refine g_val (s_move rfl rfl) rfl ?_
  refine g_probe (j := 77) rfl (fun c hg77 => ?_)
  rw [← hg77, hg77.trans (show _ = true from rfl)]
  clear hg77 c
  refine gq_val (s_move rfl rfl) rfl rfl rfl rfl ?_
  refine gq_val (s_eql rfl rfl rfl) rfl rfl rfl rfl ?_
  refine g_val (s_pickT rfl rfl rfl) rfl ?_
  refine g_val (s_move rfl rfl) rfl ?_
  refine g_probe (j := 81) rfl (fun c hg81 => ?_)
  rw [← hg81, hg81.trans (show _ = true from rfl)]
  clear hg81 c
  refine gq_val (s_move rfl rfl) rfl rfl rfl rfl ?_
  refine gq_val (s_eql rfl rfl rfl) rfl rfl rfl rfl ?_
  refine g_val (s_pickT rfl rfl rfl) rfl ?_
  refine g_val (s_move rfl rfl) rfl ?_
  refine g_probe (j := 85) rfl (fun c hg85 => ?_)
  rw [← hg85, hg85.trans (show _ = true from rfl)]
  clear hg85 c
  refine gq_val (s_move rfl rfl) rfl rfl rfl rfl ?_
  refine g_val (s_pickT rfl rfl rfl) rfl ?_
  refine g_val (s_assign rfl rfl) rfl ?_
  refine g_nil ?_
  exact vc_ret (ret_of _ (.cons (.tmp rfl) .nil) rfl rfl)

theorem c_law_ExportWhich (l marks : List Int) (at_ : Int) : Con Tryz.prog 3 [.t (bytesT l), .t (bytesT marks), AI .u8 at_] [] (AB true) [] := by
  refine con_intro [] [] Tryz.func3 rfl Tryz.ntmps3 Tryz.results3 rfl rfl ?_
  intro E
  refine vc_int (t := 2) rfl fun ha => ?_
  refine vc_okT (i := 1) rfl fun ok1 => ?_
  simp only [inI, kMin, kMax] at ha
  refine vc_rseq mixed ?_
  refine g_val (s_assign rfl rfl) rfl ?_
  refine g_nil ?_
  refine vc_seq ?_
  refine vc_rseq mixed ?_
  refine g_val (s_call [] (c_law23_known) evArgs_nil trivial rfl (okVL_nil _) rfl (.inl rfl) rfl) rfl ?_
  refine g_val (s_not rfl rfl) rfl ?_
  refine g_nil ?_
  refine vc_cond rfl (fun h => by cases h) (fun _ => ?_)
  refine vc_skip ?_
  refine vc_seq ?_
  refine vc_rseq mixed ?_
  refine g_val (s_move rfl rfl) rfl ?_
  refine g_val (s_len rfl rfl) rfl ?_
  refine g_val (s_gtr rfl rfl rfl) rfl ?_
  refine g_val (s_move rfl rfl) rfl ?_
  refine g_probe (j := 20) rfl (fun c hg20 => ?_)
  cases c
  rw [← hg20]; replace hg20 := hg20.symm; replace hg20 := of_decide_eq_false hg20
  simp only [List.length_map, Int.not_lt] at hg20
  refine gq_val (s_move rfl rfl) rfl rfl rfl rfl ?_
  refine gq_val (s_len rfl rfl) rfl rfl rfl rfl ?_
  refine gq_val (s_gtr rfl rfl rfl) rfl rfl rfl rfl ?_
  refine g_val (s_pickF rfl rfl rfl) rfl ?_
  refine g_nil ?_
  refine vc_cond rfl (fun hc24 => ?_) (fun hc24 => ?_)
  replace hc24 := of_decide_eq_true hc24
  simp only [List.length_map] at hc24
  refine vc_rseq mixed ?_
  refine g_val (s_assign rfl rfl) rfl ?_
  refine g_nil ?_
  exact vc_ret (ret_of _ (.cons (.tmp rfl) .nil) rfl rfl)
  replace hc24 := of_decide_eq_false hc24
  simp only [List.length_map, Int.not_lt] at hc24
  refine vc_skip ?_
  refine vc_rseq mixed ?_
  refine g_val (s_move rfl rfl) rfl ?_
  refine g_val (s_call [] (c_mementoseat_Volume l (by first | omega | (simp only [List.length_map] at *; omega))) (evArgs_cons rfl evArgs_nil) trivial rfl (okVL_nil _) rfl (.inl rfl) rfl) rfl ?_
  refine g_new (s_alloc 7 rfl rfl) rfl ?_
  refine g_sto (s_store rfl rfl rfl rfl rfl rfl) rfl ?_
  refine g_nil ?_
  refine vc_seq ?_
  have hVR := seatVol_VR l
  generalize seatVol l = v at *
  have hVR := hVR.mono (show l.length ≤ 60 by first | omega | (simp only [List.length_map] at *; omega))
  have hfl := hVR.floor
  have hnw := hVR.nw
  have hpl := hVR.plen
  refine vc_rseq mixed ?_
  refine g_val (s_field rfl rfl rfl rfl) rfl ?_
  refine g_val (s_load rfl rfl rfl rfl) rfl ?_
  refine g_nil ?_
  refine vc_cond rfl (fun hc28 => ?_) (fun hc28 => ?_)
  refine vc_rseq mixed ?_
  refine g_val (s_assign rfl rfl) rfl ?_
  refine g_nil ?_
  exact vc_ret (ret_of _ (.cons (.tmp rfl) .nil) rfl rfl)
  refine vc_skip ?_
  have hh : v.hidden = false := by simpa [bT] using hc28
  have hr1 := Int.emod_nonneg at_ (b := (v.writes.length : Int) - v.floor + 1) (by omega)
  have hr2 := Int.emod_lt_of_pos at_ (b := (v.writes.length : Int) - v.floor + 1) (by omega)
  refine vc_rseq mixed ?_
  refine d_val (s_field rfl rfl rfl rfl) rfl ?_
  refine d_val (s_load rfl rfl rfl rfl) rfl ?_
  refine d_val (s_move rfl rfl) rfl ?_
  refine d_val (s_conv rfl rfl (by simp only [inI, kMin, kMax]; omega)) rfl ?_
  refine d_val (s_loadA rfl rfl rfl rfl rfl) rfl ?_
  refine d_val (s_call [] (c_mementoref16_Len v) (evArgs_cons rfl evArgs_nil) trivial rfl (okVL_nil _) rfl (.inl rfl) rfl) rfl ?_
  refine d_val (s_field rfl rfl rfl rfl) rfl ?_
  refine d_val (s_load rfl rfl rfl rfl) rfl ?_
  refine d_val (s_sub rfl rfl rfl (by simp only [inI, kMin, kMax]; omega)) rfl ?_
  refine d_val (s_add rfl rfl rfl (by simp only [inI, kMin, kMax]; omega)) rfl ?_
  refine d_val (s_rem rfl rfl rfl (by omega) (by omega)) rfl ?_
  refine d_val (s_add rfl rfl rfl (by simp only [inI, kMin, kMax]; omega)) rfl ?_
  refine d_val (s_assign rfl rfl) rfl ?_
  refine d_nil rfl ?_
  have hp1 : v.floor ≤ v.floor + at_ % ((v.writes.length : Int) - v.floor + 1) := by omega
  have hp2 : v.floor + at_ % ((v.writes.length : Int) - v.floor + 1) ≤ v.writes.length := by omega
  generalize v.floor + at_ % ((v.writes.length : Int) - v.floor + 1) = p at *
  have hml : marks.length ≤ 8 := by first | omega | (simp only [List.length_map] at *; omega)
  have hcl : (chunksL v marks).length = marks.length := by simp [chunksL]
  refine vc_rseq mixed ?_
  refine g_val (s_loadA rfl rfl rfl rfl rfl) rfl ?_
  refine g_val (s_move rfl rfl) rfl ?_
  refine g_new (s_callH [] [(0, 9)] (c_law23_chunks 60 v marks hVR (by omega) (by omega)) (evArgs_cons rfl (evArgs_cons rfl evArgs_nil)) trivial rfl (okVL_nil _) rfl rfl rfl) rfl ?_
  refine g_val (s_assign rfl rfl) rfl ?_
  refine g_nil ?_
  refine vc_seq ?_
  refine vc_rseq mixed ?_
  refine g_val (s_assign rfl rfl) rfl ?_
  refine g_nil ?_
  refine vc_block ?_
  refine vc_up v.place.length (fun i => ⟨[(1, .t (bytesT marks)), (7, .ref 7 0), (8, AI .i64 p), (9, .rows 9 7 0 (marks.length + i)), (10, AI .i64 i)], [(7, some (.box ((volC v).map .t))), (9, some (.row 7 72 ((chunksL v marks ++ allK v 1000 i).map chkC)))], [7, 9]⟩) (fun i => True) (leE_same (by repeat (first | exact letm_nil _ _ | refine letm_cons rfl ?_ ?_ | exact .same _ | exact .nl (by decide) (by decide) | exact .nn | exact .id' rfl | exact .id' (by first | (simp; done) | (simp [allK]; done)))) (by repeat (first | exact lehp_nil _ _ | refine lehp_cons rfl ?_ ?_ | exact leB_same _ | exact leB_row (by first | rfl | (first | (simp; done) | (simp [allK]; done))) | exact leB_obj (by first | (simp; done) | (simp [allK]; done)) | exact leB_nest (by first | rfl | (first | (simp; done) | (simp [allK]; done))) | refine leB_box ?_ | exact leL_nil | refine leL_cons ?_ ?_ | exact .same _ | exact .nl (by decide) (by decide) | exact .nn | exact .id' rfl | exact .id' (by first | (simp; done) | (simp [allK]; done)))) rfl) trivial (fun i hi _ => ?_)
  refine vc_seq ?_
  refine vc_rseq mixed ?_
  refine g_val (s_move rfl rfl) rfl ?_
  refine g_val (s_field rfl rfl rfl rfl) rfl ?_
  refine g_val (s_load rfl rfl rfl rfl) rfl ?_
  refine g_val (s_len rfl rfl) rfl ?_
  refine g_val (s_lss rfl rfl rfl) rfl ?_
  refine g_nil ?_
  refine vc_cond rfl (fun hc48 => ?_) (fun hc48 => ?_)
  replace hc48 := of_decide_eq_true hc48
  simp only [List.length_map] at hc48
  have hsk := c_mementoseat_Chunk 60 v i 1000 hVR (by omega) (by first | omega | (simp only [List.length_map] at *; omega))
  refine vc_skip ?_
  refine vc_seq ?_
  refine vc_block ?_
  refine vc_region mixed ?_
  refine g_val (s_move rfl rfl) rfl ?_
  refine g_val (s_loadA rfl rfl rfl rfl rfl) rfl ?_
  refine g_val (s_move rfl rfl) rfl ?_
  refine g_val (s_call [] (hsk) (evArgs_cons rfl (evArgs_cons rfl (evArgs_cons rfl evArgs_nil))) trivial rfl (okVL_nil _) rfl (.inl rfl) rfl) rfl ?_
  refine g_fz ((s_buildSlice 55 (evArgs_cons rfl evArgs_nil) rfl rfl rfl rfl).fzE rfl) rfl ?_
  refine g_app (s_append 56 rfl rfl rfl rfl rfl (by simp [allK, hcl]) rfl rfl (by (try simp only [List.length_cons, List.length_nil, List.length_map, List.length_append, allK, List.length_range]); omega)) rfl ?_
  refine g_val (s_assign rfl rfl) rfl ?_
  refine g_nil ?_
  refine vc_region mixed ?_
  refine g_val (s_move rfl rfl) rfl ?_
  refine g_val (s_add rfl rfl rfl (by simp only [inI, kMin, kMax]; omega)) rfl ?_
  refine g_val (s_assign rfl rfl) rfl ?_
  refine g_nil ?_
  exact ⟨by first | omega | (simp only [List.length_map] at *; omega), trivial, by
  simp only [List.length_cons, List.length_nil]
  exact (leE_gen [] [(9, 56)] (by repeat (first | exact letm_nil _ _ | refine letm_cons rfl ?_ ?_ | exact LeV.tt rfl | exact .eq (okV_nil _) rfl | exact LeV.tt (by first | (simp; done) | (simp; omega) | (rw [List.take_of_length_le (by simp [allK, hcl])]; simp [allK, List.range_succ, chkC])) | exact .eq (okV_nil _) (by first | (simp; done) | (simp; omega) | (rw [List.take_of_length_le (by simp [allK, hcl])]; simp [allK, List.range_succ, chkC])))) (by repeat (first | exact lehp_nil _ _ | refine lehp_cons rfl ?_ ?_ | exact leB_row (by first | rfl | (first | (simp; done) | (simp; omega) | (rw [List.take_of_length_le (by simp [allK, hcl])]; simp [allK, List.range_succ, chkC]))) | exact leB_obj (by first | (simp; done) | (simp; omega) | (rw [List.take_of_length_le (by simp [allK, hcl])]; simp [allK, List.range_succ, chkC])) | exact leB_nest (by first | rfl | (first | (simp; done) | (simp; omega) | (rw [List.take_of_length_le (by simp [allK, hcl])]; simp [allK, List.range_succ, chkC]))) | refine leB_box ?_ | exact leL_nil | refine leL_cons ?_ ?_ | exact LeV.tt rfl | exact .eq (okV_nil _) rfl | exact LeV.tt (by first | (simp; done) | (simp; omega) | (rw [List.take_of_length_le (by simp [allK, hcl])]; simp [allK, List.range_succ, chkC])) | exact .eq (okV_nil _) (by first | (simp; done) | (simp; omega) | (rw [List.take_of_length_le (by simp [allK, hcl])]; simp [allK, List.range_succ, chkC])))) trivial rfl)⟩
  replace hc48 := of_decide_eq_false hc48
  simp only [List.length_map, Int.not_lt] at hc48
  refine vc_exit ?_
  obtain rfl : i = v.place.length := by first | omega | (simp only [List.length_map] at *; omega)
  refine vc_freezeE 9 rfl rfl (by simp [allK, hcl]) ?_
  have hof := ofV_app (chunksL_ofV hVR (by omega) (l := marks)) (allK_ofV hVR (by omega) 1000 (Nat.le_refl v.place.length))
  have hfull := fullK_ok hVR hh hof hp1 hp2 (fun n hn => by
    obtain ⟨c, g1, g2, g3, g4⟩ := allK_has hVR (by omega) (mark := 1000) (by omega) hn
    exact ⟨c, List.mem_append_right _ g1, g2, by omega, by omega⟩)
  have hF := c_export_Full 60 v _ p hVR (by omega) (ofV_sm hVR (by omega) hof)
  have hB := full_blocks hVR (by omega) hp1 hp2
  have hBs := c_mementoref21_Blocks (fullK v (chunksL v marks ++ allK v 1000 v.place.length) p).1
  rw [hfull] at hF hBs
  rw [hB] at hBs
  refine vc_rseq mixed ?_
  refine g_val (s_loadA rfl rfl rfl rfl rfl) rfl ?_
  refine g_val (s_move rfl rfl) rfl ?_
  refine g_val (s_move rfl rfl) rfl ?_
  refine g_val (s_call [] (hF) (evArgs_cons rfl (evArgs_cons rfl (evArgs_cons rfl evArgs_nil))) trivial rfl (okVL_nil _) rfl (.inl rfl) rfl) rfl ?_
  refine g_val (s_move rfl rfl) rfl ?_
  refine g_val (s_extract rfl rfl rfl) rfl ?_
  refine g_val (s_extract rfl rfl rfl) rfl ?_
  refine g_new (s_alloc 11 rfl rfl) rfl ?_
  refine g_sto (s_store rfl rfl rfl rfl rfl rfl) rfl ?_
  refine g_val (s_assign rfl rfl) rfl ?_
  refine g_nil ?_
  refine vc_rseq mixed ?_
  refine g_val (s_loadA rfl rfl rfl rfl rfl) rfl ?_
  refine g_val (s_move rfl rfl) rfl ?_
  refine g_val (s_call [] (c_mementoref16_State 60 v p hVR (by omega)) (evArgs_cons rfl (evArgs_cons rfl evArgs_nil)) trivial rfl (okVL_nil _) rfl (.inl rfl) rfl) rfl ?_
  refine g_val (s_move rfl rfl) rfl ?_
  refine g_val (s_extract rfl rfl rfl) rfl ?_
  refine g_val (s_extract rfl rfl rfl) rfl ?_
  refine g_val (s_assign rfl rfl) rfl ?_
  refine g_val (s_assign rfl rfl) rfl ?_
  refine g_nil ?_
  refine vc_rseq mixed ?_
  refine g_val (s_move rfl rfl) rfl ?_
  refine g_val (s_eql rfl rfl rfl) rfl ?_
  refine g_val (s_move rfl rfl) rfl ?_
  refine g_probe (j := 72) rfl (fun c hg72 => ?_)
  rw [← hg72, hg72.trans (show _ = true from rfl)]
  clear hg72 c
  refine gq_val (s_loadA rfl rfl rfl rfl rfl) rfl rfl rfl rfl ?_
  refine gq_val (s_call [] (hBs) (evArgs_cons rfl evArgs_nil) trivial rfl (okVL_nil _) rfl (.inl rfl) rfl) rfl rfl rfl rfl ?_
  refine gq_val (s_move rfl rfl) rfl rfl rfl rfl ?_
  refine gq_val (s_call [] (c_mementohelp_Bodies (stateF v p).1 (stateF v p).1) (evArgs_cons rfl (evArgs_cons rfl evArgs_nil)) trivial rfl (okVL_nil _) rfl (.inl rfl) rfl) rfl rfl rfl rfl ?_
  refine g_val (s_pickT rfl rfl rfl) rfl ?_
  refine g_val (s_assign rfl rfl) rfl ?_
  refine g_nil ?_
  exact vc_ret (ret_of _ (.cons (.tmp rfl) .nil) (congrArg (fun b => AV.t (T.k (Value.bool b))) (decide_eq_true rfl)) rfl)
  rw [← hg20]; replace hg20 := hg20.symm; replace hg20 := of_decide_eq_true hg20
  simp only [List.length_map] at hg20
  refine gn_val rfl rfl rfl rfl rfl rfl (by decide) ?_
  refine gn_val rfl rfl rfl rfl rfl rfl (by decide) ?_
  refine gn_val rfl rfl rfl rfl rfl rfl (by decide) ?_
  refine g_val (s_pickT rfl rfl rfl) rfl ?_
  refine g_nil ?_
  refine vc_cond rfl (fun _ => ?_) (fun h => by cases h)
  refine vc_rseq mixed ?_
  refine g_val (s_assign rfl rfl) rfl ?_
  refine g_nil ?_
  exact vc_ret (ret_of _ (.cons (.tmp rfl) .nil) rfl rfl)

end Go.Eng
