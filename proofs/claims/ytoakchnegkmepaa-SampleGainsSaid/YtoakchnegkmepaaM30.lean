/- A library of this session: the lemmas of the walk, in one set. -/
import Derived.Test.YtoakchnegkmepaaM29
namespace Go.Pv
attribute [push_cast] op_move op_assign op_bin op_pick op_un op_conv op_extract op_load
attribute [push_cast] op_fa op_field op_ia op_idx op_slice op_nc op_func op_call
attribute [push_cast] op_append op_len op_min op_max op_make op_bs op_bld op_box
attribute [push_cast] op_alloc op_store bin_add bin_sub bin_mul bin_quo bin_rem bin_and
attribute [push_cast] bin_or bin_xor bin_eql bin_neq bin_lss bin_leq bin_gtr bin_geq
attribute [push_cast] bin_shl bin_shr bin_str bin_beq bin_bne dOk asgP mvConst
attribute [push_cast] mvZero zerosOf isNilC St.put putO argsV lk pt
attribute [push_cast] Ct.refs killS List.map_cons List.map_nil thenQ blkQ movP opv
attribute [push_cast] opvs rdc binE binStr unP convP extP kdOf
attribute [push_cast] shv shvs fnOf ncP faP fieldOf szOf fieldP
attribute [push_cast] cutC loadP shs iaP idxP lenP mmP sliceP
attribute [push_cast] bndOf mkP bsP bldP fillS tysOk litE cellsM
attribute [push_cast] boxP aloP stoP stoE stoB setR noOwn appP
attribute [push_cast] retO retOs memN aggKd St.at St.retire setCt retS
attribute [push_cast] retC St.upd killB noCell resC flatR flatV flatM
attribute [push_cast] flatL postP postBP resP resI List.length_cons List.length_nil List.getElem?_cons_zero
attribute [push_cast] List.getElem?_cons_succ List.getElem?_toArray List.take_zero List.take_succ_cons List.drop_zero List.drop_succ_cons List.nil_append List.cons_append
attribute [push_cast] List.append_nil List.zip_cons_cons List.zip_nil_left Option.map_some Option.bind_some List.all_cons List.all_nil Nat.add_zero
attribute [push_cast] Nat.zero_add Int.toNat_zero Bool.false_eq_true Bool.not_false Bool.not_true Bool.and_true Bool.true_and Bool.and_false
attribute [push_cast] true_and and_true and_self or_false false_or or_true true_or or_self
attribute [push_cast] ne_eq not_false_eq_true not_true_eq_false decide_true decide_false decide_eq_true_eq decide_eq_false_iff_not false_implies
attribute [push_cast] forall_const Bool.true_eq_false false_and and_false imp_true_iff implies_true exists_eq_left' exists_const
attribute [push_cast] Option.some.injEq List.cons.injEq MV.int.injEq MV.bool.injEq MV.str.injEq MV.list.injEq MV.agg.injEq Option.isSome_some
attribute [push_cast] List.set_cons_zero List.set_cons_succ List.length_set List.getElem?_set_self TK.slice.injEq TK.ptr.injEq exists_eq' eq_self
attribute [push_cast] forall_eq List.forall_mem_cons List.not_mem_nil St.norm normG keepC_sh keepC_own keepC_dead
attribute [push_cast] keepC_als keepC_alc keepC_eas keepC_eac keepC_tupc kpAt resM eqCells
attribute [push_cast] eq1 Bool.not_eq_true' byteRow_len
end Go.Pv
