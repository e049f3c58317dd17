/- Events, as plain data. -/
import Derived.Test.YtkhppojlabajaaaMem
namespace Go.Proofs.Ytkhppojlabajaaa
set_option linter.unusedSimpArgs false
set_option linter.unusedVariables false

structure Ev where
  op : Int
  code : Int
  data : ByteArray
def Ev.zero : Ev := ⟨0, 0, ⟨#[]⟩⟩
def Ev.cs (e : Ev) : List Value := [.int .i64 e.op, .int .i64 e.code, .string e.data]
def Ev.val (e : Ev) : Value := .agg #[.int .i64 e.op, .int .i64 e.code, .string e.data]
def evCells (l : List Ev) : List Value := l.flatMap Ev.cs
def evSize (l : List Ev) : Nat := (l.map fun e => e.data.size).sum

end Go.Proofs.Ytkhppojlabajaaa
