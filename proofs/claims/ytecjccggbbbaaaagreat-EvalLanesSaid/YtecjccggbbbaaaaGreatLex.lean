import Derived.Test.YtecjccggbbbaaaaGreatSoundG
import Derived.Test.YtecjccggbbbaaaaGreatSimp
set_option linter.unusedVariables false
set_option linter.unusedSimpArgs false
namespace Go.A.Lex
abbrev t : Bool := true
abbrev f : Bool := false
@[go_sem] abbrev q (op : Op) : Oper := ⟨.loc, op, none⟩
@[go_sem] abbrev e (op : Op) : Oper := ⟨.no, op, none⟩
@[go_sem] abbrev w (t : Nat) (op : Op) : Oper := ⟨.slot t, op, none⟩
@[go_sem] abbrev i (n : Int) : X := .c (.one (.f (.lit (.int .i64 n))))
@[go_sem] abbrev ik (k : IntKind) (n : Int) : X := .c (.one (.f (.lit (.int k n))))
@[go_sem] abbrev bo (b : Bool) : X := .c (.one (.f (.lit (.bool b))))
attribute [go_sem] t f
end Go.A.Lex
