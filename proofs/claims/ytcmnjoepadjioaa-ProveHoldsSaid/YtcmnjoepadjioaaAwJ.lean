/- The words that simplify an abstract walk. Nothing of the program is named here. -/
import Derived.Test.YtcmnjoepadjioaaAwI
namespace Go.Proofs.Ytcmnjoepadjioaa
open Go.RowKit Go.Maps
attribute [congr] onSome_congr pu_congr rds_congr rd_congr al_congr wr_congr wrs_congr wrf_congr ca_congr cav_congr cd_congr gd_congr gdv_congr loop_congr cut_congr rt_congr ldF_congr lookF_congr stBox_congr stRow_congr appRow_congr appNil_congr msetF_congr clrRow_congr
attribute [simp ↓ high] cd_t cd_f gd_tt gd_ff gd_tf gd_ft gdv_tt gdv_ff gdv_tf gdv_ft pick_t pick_f onSome_some
attribute [simp ↓] q_mv q_pick q_nil_ptr q_nil_eptr q_nil_dptr q_nil_fn q_add_ptr q_add_eptr q_add_dptr q_idx_dsl q_idx_osl q_aidx_ptr q_aidx_eptr q_aidx_dptr q_fld_agg q_add_i q_sub_i q_mul_i q_quo_i q_rem_i q_and_i q_or_i q_xor_i q_eql_i q_neq_i q_lss_i q_leq_i q_gtr_i q_geq_i q_shl_i q_shr_i q_eql_b q_neq_b q_eql_s q_neq_s q_add_s q_lss_s q_neg_i q_not_b q_conv_i q_same_s q_len_dsl q_len_osl q_len_nil q_len_s q_slc_00 q_slc_10 q_slc_01 q_slc_11 q_slo_00 q_slo_10 q_slo_01 q_slo_11 q_ssl_00 q_ssl_10 q_ssl_01 q_ssl_11 q_cap_nil q_slc_nil q_mn_i q_mx_i q_mkfn q_fld_one q_ext q_sidx q_bld rds_eq wrs_eq rd_ld rd_look al_nw al_bx al_mm al_ms al_bs wr_st_ptr wr_st_eptr wr_app_osl wr_app_nil q_mset wr_apz_nil wr_clr_osl wf_st cd_eq gd_eq gdv_eq rg_eq vw_eq q_eqnil_p q_eqnil_dsl q_eqnil_osl q_nenil_p q_nenil_dsl q_nenil_osl
attribute [simp] boxAt_box rowAt_row rowAt_frz atF_ptr atF_eptr atF_dptr ldF_t ldF_f elF_dsl elF_nil elF_osl elRow_row elRow_frz up_get up_nx put_nx kill_nx put_get stBox stRow appRow appNil msetF clrRow lookF fillA chunks
@[simp] theorem part_p (v : Value) : AV.part (.p v) = true := rfl
@[simp] theorem cells_p (v : Value) : AV.cells (.p v) = [(.p v)] := rfl
@[simp] theorem part_dsl (sz : Nat) (xs : List (List AV)) : AV.part (.dsl sz xs) = true := rfl
@[simp] theorem cells_dsl (sz : Nat) (xs : List (List AV)) : AV.cells (.dsl sz xs) = [(.dsl sz xs)] := rfl
@[simp] theorem part_dptr (sz : Nat) (xs : List (List AV)) (i j : Nat) : AV.part (.dptr sz xs i j) = true := rfl
@[simp] theorem cells_dptr (sz : Nat) (xs : List (List AV)) (i j : Nat) : AV.cells (.dptr sz xs i j) = [(.dptr sz xs i j)] := rfl
@[simp] theorem part_ptr (i j : Nat) : AV.part (.ptr i j) = true := rfl
@[simp] theorem cells_ptr (i j : Nat) : AV.cells (.ptr i j) = [(.ptr i j)] := rfl
@[simp] theorem part_eptr (i sz q j : Nat) : AV.part (.eptr i sz q j) = true := rfl
@[simp] theorem cells_eptr (i sz q j : Nat) : AV.cells (.eptr i sz q j) = [(.eptr i sz q j)] := rfl
@[simp] theorem part_osl (i sz q j : Nat) : AV.part (.osl i sz q j) = true := rfl
@[simp] theorem cells_osl (i sz q j : Nat) : AV.cells (.osl i sz q j) = [(.osl i sz q j)] := rfl
@[simp] theorem part_mp (i : Nat) : AV.part (.mp i) = true := rfl
@[simp] theorem cells_mp (i : Nat) : AV.cells (.mp i) = [(.mp i)] := rfl
@[simp] theorem part_fn (f : Fn) (xs ys : List AV) : AV.part (.fn f xs ys) = true := rfl
@[simp] theorem cells_fn (f : Fn) (xs ys : List AV) : AV.cells (.fn f xs ys) = [(.fn f xs ys)] := rfl
@[simp] theorem part_agg (cs : List AV) : AV.part (.agg cs) = true := rfl
@[simp] theorem cells_agg (cs : List AV) : AV.cells (.agg cs) = cs := rfl
@[simp] theorem val_p (v : Value) : AV.val (.p v) = some v := rfl
@[simp] theorem vals_nil : vals [] = some [] := rfl
@[simp] theorem vals_p (v : Value) (r : List AV) : vals (.p v :: r) = (vals r).map (v :: ·) := by cases h : vals r <;> simp [vals, h]
@[simp] theorem val_agg (cs : List AV) : AV.val (.agg cs) = (vals cs).map fun vs => .agg vs.toArray := by cases h : vals cs <;> simp [AV.val, h]
theorem wrapI {x : Int} (h : -9223372036854775808 ≤ x) (k : x ≤ 9223372036854775807) : IntKind.i64.wrap x = x := by rw [IntKind.wrap_i64]; omega
end Go.Proofs.Ytcmnjoepadjioaa
