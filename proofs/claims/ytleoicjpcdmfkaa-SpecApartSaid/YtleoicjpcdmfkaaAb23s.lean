/-
  THE ABSTRACT MACHINE: the lemmas for stepping, bundled, so that a step is short to write.
-/
import Derived.Test.YtleoicjpcdmfkaaAb23
set_option linter.unusedSimpArgs false
set_option linter.unusedVariables false
set_option linter.defProp false
namespace Ab
open Go

def sa0 :=
  And.intro @Ab.g_skip <|
  And.intro @Ab.g_exit <|
  And.intro @Ab.g_ret <|
  And.intro @Ab.g_region <|
  And.intro @Ab.g_dyn <|
  And.intro @Ab.g_seq <|
  And.intro @Ab.g_cond <|
  And.intro @Ab.g_block <|
  And.intro @Ab.g_nil <|
  And.intro @Ab.g_cons0 <|
  And.intro @Ab.g_cons <|
  And.intro @Ab.gT_nil <|
  And.intro @Ab.gT_cons0 <|
  And.intro @Ab.gT_cons <|
  And.intro @Ab.g_call <|
  And.intro @Ab.g_mov <|
  And.intro @Ab.g_pick <|
  And.intro @Ab.g_alloc <|
  And.intro @Ab.g_box <|
  And.intro @Ab.g_build <|
  And.intro @Ab.g_buildSlice <|
  And.intro @Ab.g_load1 <|
  And.intro @Ab.g_loadN <|
  And.intro @Ab.g_store <|
  @Ab.g_nilCheck
def sa1 :=
  And.intro @Ab.g_bin <|
  And.intro @Ab.g_eqv <|
  And.intro @Ab.g_un <|
  And.intro @Ab.g_conv <|
  And.intro @Ab.g_makeMap <|
  And.intro @Ab.g_slice <|
  And.intro @Ab.g_sliceZero <|
  And.intro @Ab.g_sliceArr <|
  And.intro @Ab.g_fieldAddr <|
  And.intro @Ab.g_field1 <|
  And.intro @Ab.g_fieldN <|
  And.intro @Ab.g_indexSl <|
  And.intro @Ab.g_indexArr <|
  And.intro @Ab.g_lookup <|
  And.intro @Ab.g_mapUpdate <|
  And.intro @Ab.g_delete <|
  And.intro @Ab.g_extract <|
  And.intro @Ab.g_lenS <|
  And.intro @Ab.g_lenM <|
  And.intro @Ab.g_append <|
  And.intro @Ab.g_copy <|
  And.intro @Ab.seqK_normal <|
  And.intro @Ab.seqK_exit <|
  @Ab.seqK_ret
def sb0 :=
  And.intro @Ab.blockX_normal <|
  And.intro @Ab.blockX_ret <|
  And.intro @Ab.blockX_same <|
  And.intro @Ab.ocase_some <|
  And.intro @Ab.ocase_none <|
  And.intro @Ab.ccase_true <|
  And.intro @Ab.ccase_false <|
  And.intro @Ab.gcase_true <|
  And.intro @Ab.gcase_false <|
  And.intro @Ab.beq_t <|
  And.intro @Ab.beq_f <|
  And.intro @Ab.a_mov <|
  And.intro @Ab.a_pick <|
  And.intro @Ab.a_alloc <|
  And.intro @Ab.a_box <|
  And.intro @Ab.a_build <|
  And.intro @Ab.a_buildSlice <|
  And.intro @Ab.a_load1 <|
  And.intro @Ab.a_loadN <|
  And.intro @Ab.a_store <|
  And.intro @Ab.a_nilCheck <|
  And.intro @Ab.a_bin <|
  And.intro @Ab.a_eqv <|
  And.intro @Ab.a_un <|
  @Ab.a_conv
def sb1 :=
  And.intro @Ab.a_makeMap <|
  And.intro @Ab.a_slice <|
  And.intro @Ab.a_sliceZero <|
  And.intro @Ab.a_sliceArr <|
  And.intro @Ab.a_fieldAddr <|
  And.intro @Ab.a_field1 <|
  And.intro @Ab.a_fieldN <|
  And.intro @Ab.a_indexSl <|
  And.intro @Ab.a_indexArr <|
  And.intro @Ab.a_lookup2 <|
  And.intro @Ab.lookV_some <|
  And.intro @Ab.a_mapUpdate2 <|
  And.intro @Ab.updV_some <|
  And.intro @Ab.a_delete <|
  And.intro @Ab.a_extract <|
  And.intro @Ab.a_lenS <|
  And.intro @Ab.a_lenM <|
  And.intro @Ab.a_append <|
  And.intro @Ab.a_copy <|
  And.intro @Ab.guardIs_none <|
  And.intro @Ab.ev_tmp <|
  And.intro @Ab.getD_tmp <|
  And.intro @Ab.ev_const <|
  And.intro @Ab.upd_some <|
  @Ab.upd_none
def sb2 :=
  And.intro @Ab.storeCs_eq <|
  And.intro @List.toList_toArray.{0} <|
  And.intro @Ab.get_self <|
  And.intro @Ab.get_ne <|
  And.intro @Ab.Heap.get_skip <|
  And.intro @Ab.Heap.next_skip <|
  And.intro @Ab.Heap.next_put <|
  And.intro @Ab.getD_arg0 <|
  And.intro @Ab.getD_argS <|
  And.intro @List.getElem?_toArray.{0} <|
  And.intro @List.getElem?_cons_zero.{0} <|
  And.intro @List.getElem?_cons_succ.{0} <|
  And.intro @List.size_toArray.{0} <|
  And.intro @List.length_cons.{0} <|
  And.intro @List.length_nil.{0} <|
  And.intro @List.extract_toArray.{0} <|
  And.intro @List.extract_eq_take_drop.{0} <|
  And.intro @List.drop_zero.{0} <|
  And.intro @List.drop_succ_cons.{0} <|
  And.intro @List.take_succ_cons.{0} <|
  And.intro @List.take_zero.{0} <|
  And.intro @List.setIfInBounds_toArray.{0} <|
  And.intro @List.set_cons_zero.{0} <|
  And.intro @List.set_cons_succ.{0} <|
  @List.all_cons.{0}
def sb3 :=
  And.intro @List.all_nil.{0} <|
  And.intro @List.map_cons.{0, 0} <|
  And.intro @List.map_nil.{0, 0} <|
  And.intro @List.map_toArray.{0, 0} <|
  And.intro @Option.map_some.{0, 0} <|
  And.intro @Option.bind_some.{0, 0} <|
  And.intro @Option.some.injEq.{0} <|
  And.intro @ite_true.{1} <|
  And.intro @ite_true.{0} <|
  And.intro @ite_false.{1} <|
  And.intro @ite_false.{0} <|
  And.intro @if_true.{1} <|
  And.intro @if_true.{0} <|
  And.intro @if_false.{1} <|
  And.intro @if_false.{0} <|
  And.intro @Bool.and_self <|
  And.intro @Bool.true_and <|
  And.intro @Bool.false_and <|
  And.intro @Bool.and_false <|
  And.intro @Bool.and_true <|
  And.intro @and_true <|
  And.intro @true_and <|
  And.intro @ne_eq.{1} <|
  And.intro @ne_eq.{0} <|
  @not_true
def sb4 :=
  And.intro @not_false_eq_true <|
  And.intro @Bool.false_eq_true <|
  And.intro @decide_true <|
  And.intro @decide_false <|
  And.intro @beq_self_eq_true.{0} <|
  And.intro @Nat.zero_add <|
  And.intro @Nat.add_zero <|
  And.intro @Nat.le_refl <|
  And.intro @Bool.not_true <|
  And.intro @Bool.not_false <|
  And.intro @BEq.rfl.{0} <|
  And.intro @true_or <|
  And.intro @or_true <|
  And.intro @exists_eq_left'.{1} <|
  And.intro @exists_eq_left'.{0} <|
  And.intro @exists_eq'.{1} <|
  And.intro @exists_eq'.{0} <|
  And.intro @or_false <|
  And.intro @false_or <|
  And.intro @Ab.DynAll_cons <|
  And.intro @Ab.DynAll_nil <|
  And.intro @List.getD_cons_zero.{0} <|
  And.intro @List.getD_cons_succ.{0} <|
  And.intro @forall_const.{1} <|
  @forall_const.{0}
def sb5 :=
  And.intro @Option.some_beq_some.{0} <|
  And.intro @implies_true.{1} <|
  And.intro @implies_true.{0} <|
  And.intro @false_implies <|
  And.intro @true_implies <|
  And.intro @Option.isNone_none.{0} <|
  @Option.isNone_some.{0}

theorem natV_cast (kd : IntKind) (k : Nat) : natV (.int kd (k : Int)) = some k := by simp [natV]

end Ab
