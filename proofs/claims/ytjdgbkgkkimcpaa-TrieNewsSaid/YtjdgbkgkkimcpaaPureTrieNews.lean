/-
TrieNews: a trie is made just for a right width and bound; no trie and an empty trie answer as the document says.
Conditions: none beyond the statement's own.
-/
import Derived.Test.YtjdgbkgkkimcpaaTrNews
import Derived.Test.YtjdgbkgkkimcpaaSxOpen
namespace Go.Proofs.Ytjdgbkgkkimcpaa.PureTrieNews
open Go Go.RowKit Go.Proofs.Ytjdgbkgkkimcpaa.Sx Go.Proofs.Ytjdgbkgkkimcpaa.Fs
set_option linter.unusedVariables false
theorem walk (w : Int) (ww : (Lit.int .i64 w).wf = true) (m : Int) (wm : (Lit.int .i64 m).wf = true) (key : Int) (wk : (Lit.int .u32 key).wf = true) (n : Int) (wn : (Lit.int .i64 n).wf = true) (W : World) :
    Calls Try.prog 4 #[.int .i64 w, .int .i64 m, .int .u32 key, .int .i64 n] W fun e w' => e = .returned (.bool true) ∧ Below W.heap.size W w' :=
  walk_of (TrieNews_s w m key n fun h' e => ⟨rfl, e⟩)
end Go.Proofs.Ytjdgbkgkkimcpaa.PureTrieNews
