import Derived.Test.YtecjccggbbbaaaaGreatMach
import Derived.Attr
set_option linter.unusedVariables false
set_option linter.unusedSimpArgs false
namespace Go.A
attribute [go_sem] R.get R.put V.cells C.kns Ob.elem Store.elem Store.cell over upd Ob.write R.setOb R.alloc R.write cint vint vbool vsl vf vagg vfp vone V.c1 aint ashift abool isShift abin aun eqCells eqRes aeqa abeq
  frzC ocons frzRow frzRows Ob.frz frzV frzVs elems Ob.front Ob.setFront Ob.grow Ob.isRow appTok appRow okSz aapp copyRow acpy fillC fillS ticket tokens tokO tokC R.allocs aal abld absl abslF abslT
  alen alens afa ckSz aiaRow aia aiaa cut ald ast nest amks amkc amkr nestR natOf bound slcTo ownTo strTo two sameInt mxOk aslc aslcs isSl aext afld aidx single asla byteOf bytesOf vstr astr asteq abxf apnil anil apick aconv amxn Ob.entries lkRes alk muTo amu mget mput
  C.shift C.shifts V.shift V.shifts Ob.shift isOwn V.plain V.plains callCl callCk callOp closed acall R.gets anl stepOp aguard step steps clr dropSt St.mkSt St.clear exTo findLabel enter resAt frzI frzO frzCo frzRowO outs resV leaveK leave
  seqK condK blockK loopK scK regK vun C.lt C.lts V.lt V.lts C.ltss C.ltm Ob.lt Obs.lt
attribute [go_sem] exec_skip exec_label exec_goto exec_exit exec_ret exec_reg exec_seq exec_cond exec_block exec_scope
attribute [go_sem] List.getD_cons_zero List.getD_cons_succ List.set_cons_zero List.set_cons_succ List.nil_append List.cons_append List.append_nil List.append_assoc List.length_cons List.length_nil List.length_append List.length_map
  List.map_cons List.map_nil List.getElem?_cons_zero List.getElem?_cons_succ List.take_succ_cons List.take_zero List.drop_succ_cons List.drop_zero List.any_cons List.any_nil List.replicate_succ List.replicate_zero List.take_nil List.drop_nil
  Option.map_some Option.map_none Option.bind_some Option.bind_none if_true if_false Bool.false_eq_true Bool.or_false Bool.or_true Bool.false_or Bool.true_or Bool.not_true Bool.not_false Bool.true_and Bool.and_true Bool.false_and Bool.and_false Function.comp
  Nat.zero_add Nat.add_zero Nat.reduceAdd Nat.reduceSub Nat.reduceLeDiff Nat.reduceMul decide_true decide_false reduceCtorEq not_true_eq_false not_false_eq_true Nat.reduceEqDiff Nat.reduceLT Int.reduceLT Int.reduceLE Int.reduceToNat Nat.le_refl Option.isSome_none Option.isSome_some
  true_and and_true decide_eq_true_eq Bool.and_self Bool.or_self ite_true ite_false Nat.succ_ne_self
end Go.A
