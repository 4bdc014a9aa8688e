/- ScopeBack's law, called with any input: true. -/
import Derived.Test.YtdjjlpgphkbehaaSd6

namespace Go.Proofs.Ytdjjlpgphkbehaa
open Go Go.Sx Go.Sx.Chunk
theorem scopeBack_law (oa ia : Option Addr) (oc ic : Nat) (outer inner : List ByteArray) (name : ByteArray) :
    FnC (α := Unit) Try.prog 3 [.slice oa outer.length oc, .slice ia inner.length ic, .string name] [] [rng oa (strC outer), rng ia (strC inner)] (fun _ => .bool true) (fun _ => []) (fun _ => True) :=
  back_spec oa ia outer.length oc inner.length ic outer inner name rfl rfl (fun h _ => back_facts outer inner name h)
end Go.Proofs.Ytdjjlpgphkbehaa
