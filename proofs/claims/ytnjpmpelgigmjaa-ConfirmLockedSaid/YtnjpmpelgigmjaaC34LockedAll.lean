/-
  confirm.Locked, for all tables. No condition.
-/
import Derived.Test.YtnjpmpelgigmjaaC34Both
import Derived.Test.YtnjpmpelgigmjaaC34ProgLocked
import Derived.Test.YtnjpmpelgigmjaaC34Law8
namespace Go.Proofs.Ytnjpmpelgigmjaa
open Go.RowKit
theorem lockedAll : LockedAll := fun sA sC stubs nA nC scions w hs hn hsl hnl =>
  progLocks_any sA sC stubs nA nC scions w hs hn hsl hnl fun A c l base u ho hl hb =>
    (sortTrace A c l base u ho hl hb).mono fun _ _ ⟨he, l', hp, hpw, ho', hb', _⟩ => ⟨he, l', ⟨hp, locked_both hp hpw⟩, ho', hb'⟩
end Go.Proofs.Ytnjpmpelgigmjaa
