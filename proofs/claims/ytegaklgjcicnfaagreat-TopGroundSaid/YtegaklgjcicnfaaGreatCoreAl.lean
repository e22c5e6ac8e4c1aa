/- The rules of a run, gathered. -/
import Derived.Test.YtegaklgjcicnfaaGreatCoreE
set_option linter.unusedSimpArgs false
set_option linter.unusedVariables false
namespace Go.Proofs.YtegaklgjcicnfaaGreat.Abs
open Go Go.RowKit
attribute [go_sem ↓] k_skip k_reg k_seq k_cond k_block k_loop k_exit k_ret k_seq_normal k_seq_exit k_seq_ret k_blk_normal
attribute [go_sem ↓] k_blk_exit k_blk_ret k_x_same k_x_other k_nil k_done k_both k_p k_h k_call k_callv k_g
attribute [go_sem] k_i_true k_i_false k_guard k_p_some k_h_some k_g_true k_g_false k_v apure aheap ev_tmp ev_const ev_func Env.get_put
attribute [go_sem] Env.put_none int2 isNil partL fillL ow bnd resVals resVal oneOr entry storable
attribute [go_sem] ldv_false ldv_true rd_new rd_set cellsOf_new cellsOf_set St.blk_new St.blk_set St.blk_kill St.next_new St.next_set St.next_kill
attribute [go_sem] Value.cells List.getD_cons_zero List.getD_cons_succ List.map_cons List.map_nil List.set_cons_zero List.set_cons_succ List.length_cons List.length_nil List.cons_append List.nil_append List.append_nil
attribute [go_sem] List.drop_zero List.drop_succ_cons List.take_succ_cons List.take_zero Nat.add_eq_left Nat.left_eq_add Option.bind_some Option.map_some Option.map_none and_true true_and and_self
attribute [go_sem] Bool.false_eq_true if_true if_false Nat.zero_add Nat.add_zero Nat.le_refl decide_true decide_false Bool.not_true Bool.not_false Bool.true_and Bool.false_and
attribute [go_sem] Bool.and_true Bool.and_false Bool.true_or Bool.false_or Bool.or_true Bool.or_false bne_self_eq_false Bool.bne_false Bool.bne_true beq_self_eq_true beq_true beq_false
attribute [go_sem ↓] k_lp_normal k_lp_exit k_lp_ret k_lnew k_lnew2 k_lbox k_lbox2 k_laddr k_lidx k_lload k_lstore k_chk k_pend_nil k_pend_cons
attribute [go_sem] List.getD_nil lloadV_agg lstoreV_agg laddrV_agg lidxV_agg lnewV_again lnewV_undef offV_nat offV_lit
attribute [go_sem ↓] k_oP k_oM k_oG k_oH k_oS k_oC k_oA k_oL k_oW k_inv
attribute [go_sem ↓] ev_cI ev_cB
attribute [go_sem] k_pend Env.get_clr offOf List.getElem?_cons_zero List.getElem?_cons_succ List.toList_toArray List.getElem?_toArray Bool.true_beq Bool.false_beq decide_eq_true_eq ne_eq not_false_eq_true not_true_eq_false
end Go.Proofs.YtegaklgjcicnfaaGreat.Abs
