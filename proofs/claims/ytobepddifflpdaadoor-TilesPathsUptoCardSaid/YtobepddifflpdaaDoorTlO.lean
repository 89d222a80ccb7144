import Derived.Test.YtobepddifflpdaaDoorTlA
import Derived.Lib.ItoaNum
set_option linter.unusedVariables false
namespace Go.Proofs.YtobepddifflpdaaDoor
open Go Go.RowKit Go.Lib

def itoaB (n : Int) : ByteArray := ⟨(Lib.itoa n).toArray⟩
def sTile : ByteArray := ⟨#[116, 105, 108, 101, 47]⟩
def sSlash : ByteArray := ⟨#[47]⟩
def sP : ByteArray := ⟨#[46, 112, 47]⟩
def pathT (l i x : Int) : ByteArray := if fitT l i x then (if x < 4 then sTile ++ itoaB l ++ sSlash ++ itoaB i ++ sP ++ itoaB x else sTile ++ itoaB l ++ sSlash ++ itoaB i) else ⟨#[]⟩

end Go.Proofs.YtobepddifflpdaaDoor
