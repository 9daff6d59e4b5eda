/-
  Parts of code, by their place.
-/
import GoSem.Core.Code
namespace Go.VE
def cl : Code → Code
  | .seq a _ => a
  | .cond _ a _ => a
  | .block _ b => b
  | .loop b => b
  | c => c
def cr : Code → Code
  | .seq _ b => b
  | .cond _ _ b => b
  | c => c
def bodyOf (f : Func) : Code := f.body.getD .skip
end Go.VE
