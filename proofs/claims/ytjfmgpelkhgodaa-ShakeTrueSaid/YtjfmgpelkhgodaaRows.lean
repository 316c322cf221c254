/-
  No cell of these rows narrows 'for every input' (looked for: loops, veiled, ifaces, maps, wideKeys, modest, calm, conditions, laid).
  DERIVED. THE GIVEN ROWS OF THIS SEAT. 10 by the template 'for every input the law returns true; each argument reads behind the call as it read before'; 0 by the template 'total and deterministic' (their statements: YtjfmgpelkhgodaaTotals.lean).
  GIVEN WITH THE SEED: the statements are not yours to turn. If you find one false, say at which input.
  Laid BY PROGRAM, IN A SANDBOX (cutbox-rows.mjs): the forced cells as the released guide's own fill.sh prints them over the translation 31fdf23a5cb8f6af… (all of the seat's roots in one cut). By AI agents, Wed Nov 11 2026. No macro, syntax, notation, axiom, sorry.
-/
import Derived.Test.YtjfmgpelkhgodaaChecked
import GoSem.Claim
import GoSem.ClaimJoined
import GoSem.ClaimMapViews
import Derived.JoinedTies
import Derived.KernelRfl
namespace Go.Proofs.Ytjfmgpelkhgodaa
/- THE CELL 'sum', in the pinned program and in every row, IS THE sha256 OF THE DUMP (.gsa) THAT YtjfmgpelkhgodaaProg.lean LOADS. Nothing in Lean hashes anything: it is a label: what it is worth is what the hold of that sum in a sandbox is worth. -/
noncomputable def Try.pinned : Pinned := { name := "ytjfmgpelkhgodaa", sum := "31fdf23a5cb8f6afbb0c6edde1e400755f8178d9ed8eb50b1d74eee9fc796754", checked := Try.checked }
namespace Rows
def none {H : Type} : Left H := { results := [], args := [] }

/-- 'embrasurelaw19.TrustOne': WHATEVER THE INPUT: true; the input reads as it did. -/
def trustOneSpec : ChangeSpec := { name := "trustOne", fn := fun _ => fun
  | [d1, d2, d3] => { results := [.lit (.bool true)], args := [d1, d2, d3] }
  | _ => none }
def trustOneRow : OpenClaim := { program := "ytjfmgpelkhgodaa", sum := "31fdf23a5cb8f6afbb0c6edde1e400755f8178d9ed8eb50b1d74eee9fc796754", func := "embrasure/embrasurelaw19.TrustOne", spec := "trustOne", plainKeys := false, apart := false }
def TrustOneSaid : Prop := trustOneRow.holds Try.pinned (OpenSpec.ofChange trustOneSpec)

/-- ITS FALSE NEIGHBOUR: 'it returns false'. Refute it at one input. -/
def trustOneWrong : ChangeSpec := { name := "trustOne", fn := fun _ => fun
  | [d1, d2, d3] => { results := [.lit (.bool false)], args := [d1, d2, d3] }
  | _ => none }
def TrustOneWrongFalsely : Prop := trustOneRow.holds Try.pinned (OpenSpec.ofChange trustOneWrong)

/-- 'embrasurelaw19.TrustTurns': WHATEVER THE INPUT: true; the input reads as it did. -/
def trustTurnsSpec : ChangeSpec := { name := "trustTurns", fn := fun _ => fun
  | [d1, d2, d3] => { results := [.lit (.bool true)], args := [d1, d2, d3] }
  | _ => none }
def trustTurnsRow : OpenClaim := { program := "ytjfmgpelkhgodaa", sum := "31fdf23a5cb8f6afbb0c6edde1e400755f8178d9ed8eb50b1d74eee9fc796754", func := "embrasure/embrasurelaw19.TrustTurns", spec := "trustTurns", plainKeys := false, apart := false }
def TrustTurnsSaid : Prop := trustTurnsRow.holds Try.pinned (OpenSpec.ofChange trustTurnsSpec)

/-- ITS FALSE NEIGHBOUR: 'it returns false'. Refute it at one input. -/
def trustTurnsWrong : ChangeSpec := { name := "trustTurns", fn := fun _ => fun
  | [d1, d2, d3] => { results := [.lit (.bool false)], args := [d1, d2, d3] }
  | _ => none }
def TrustTurnsWrongFalsely : Prop := trustTurnsRow.holds Try.pinned (OpenSpec.ofChange trustTurnsWrong)

/-- 'embrasurelaw19.TrustAsks': WHATEVER THE INPUT: true; the input reads as it did. -/
def trustAsksSpec : ChangeSpec := { name := "trustAsks", fn := fun _ => fun
  | [d1, d2] => { results := [.lit (.bool true)], args := [d1, d2] }
  | _ => none }
def trustAsksRow : OpenClaim := { program := "ytjfmgpelkhgodaa", sum := "31fdf23a5cb8f6afbb0c6edde1e400755f8178d9ed8eb50b1d74eee9fc796754", func := "embrasure/embrasurelaw19.TrustAsks", spec := "trustAsks", plainKeys := false, apart := false }
def TrustAsksSaid : Prop := trustAsksRow.holds Try.pinned (OpenSpec.ofChange trustAsksSpec)

/-- ITS FALSE NEIGHBOUR: 'it returns false'. Refute it at one input. -/
def trustAsksWrong : ChangeSpec := { name := "trustAsks", fn := fun _ => fun
  | [d1, d2] => { results := [.lit (.bool false)], args := [d1, d2] }
  | _ => none }
def TrustAsksWrongFalsely : Prop := trustAsksRow.holds Try.pinned (OpenSpec.ofChange trustAsksWrong)

/-- 'embrasurelaw15.ShakeTrue': WHATEVER THE INPUT: true; the input reads as it did. -/
def shakeTrueSpec : ChangeSpec := { name := "shakeTrue", fn := fun _ => fun
  | [d1, d2] => { results := [.lit (.bool true)], args := [d1, d2] }
  | _ => none }
def shakeTrueRow : OpenClaim := { program := "ytjfmgpelkhgodaa", sum := "31fdf23a5cb8f6afbb0c6edde1e400755f8178d9ed8eb50b1d74eee9fc796754", func := "embrasure/embrasurelaw15.ShakeTrue", spec := "shakeTrue", unfollowed := true, recurses := true, plainKeys := false, apart := false }
def ShakeTrueSaid : Prop := shakeTrueRow.holds Try.pinned (OpenSpec.ofChange shakeTrueSpec)

/-- ITS FALSE NEIGHBOUR: 'it returns false'. Refute it at one input. -/
def shakeTrueWrong : ChangeSpec := { name := "shakeTrue", fn := fun _ => fun
  | [d1, d2] => { results := [.lit (.bool false)], args := [d1, d2] }
  | _ => none }
def ShakeTrueWrongFalsely : Prop := shakeTrueRow.holds Try.pinned (OpenSpec.ofChange shakeTrueWrong)

/-- 'embrasurelaw15.ShakeForged': WHATEVER THE INPUT: true; the input reads as it did. -/
def shakeForgedSpec : ChangeSpec := { name := "shakeForged", fn := fun _ => fun
  | [d1, d2, d3] => { results := [.lit (.bool true)], args := [d1, d2, d3] }
  | _ => none }
def shakeForgedRow : OpenClaim := { program := "ytjfmgpelkhgodaa", sum := "31fdf23a5cb8f6afbb0c6edde1e400755f8178d9ed8eb50b1d74eee9fc796754", func := "embrasure/embrasurelaw15.ShakeForged", spec := "shakeForged", unfollowed := true, recurses := true, plainKeys := false, apart := false }
def ShakeForgedSaid : Prop := shakeForgedRow.holds Try.pinned (OpenSpec.ofChange shakeForgedSpec)

/-- ITS FALSE NEIGHBOUR: 'it returns false'. Refute it at one input. -/
def shakeForgedWrong : ChangeSpec := { name := "shakeForged", fn := fun _ => fun
  | [d1, d2, d3] => { results := [.lit (.bool false)], args := [d1, d2, d3] }
  | _ => none }
def ShakeForgedWrongFalsely : Prop := shakeForgedRow.holds Try.pinned (OpenSpec.ofChange shakeForgedWrong)

/-- 'embrasurelaw15.ShakeMeets': WHATEVER THE INPUT: true; the input reads as it did. -/
def shakeMeetsSpec : ChangeSpec := { name := "shakeMeets", fn := fun _ => fun
  | [d1, d2, d3] => { results := [.lit (.bool true)], args := [d1, d2, d3] }
  | _ => none }
def shakeMeetsRow : OpenClaim := { program := "ytjfmgpelkhgodaa", sum := "31fdf23a5cb8f6afbb0c6edde1e400755f8178d9ed8eb50b1d74eee9fc796754", func := "embrasure/embrasurelaw15.ShakeMeets", spec := "shakeMeets", unfollowed := true, recurses := true, plainKeys := false, apart := false }
def ShakeMeetsSaid : Prop := shakeMeetsRow.holds Try.pinned (OpenSpec.ofChange shakeMeetsSpec)

/-- ITS FALSE NEIGHBOUR: 'it returns false'. Refute it at one input. -/
def shakeMeetsWrong : ChangeSpec := { name := "shakeMeets", fn := fun _ => fun
  | [d1, d2, d3] => { results := [.lit (.bool false)], args := [d1, d2, d3] }
  | _ => none }
def ShakeMeetsWrongFalsely : Prop := shakeMeetsRow.holds Try.pinned (OpenSpec.ofChange shakeMeetsWrong)

/-- 'embrasurelaw15.ShakeAgain': WHATEVER THE INPUT: true; the input reads as it did. -/
def shakeAgainSpec : ChangeSpec := { name := "shakeAgain", fn := fun _ => fun
  | [d1, d2] => { results := [.lit (.bool true)], args := [d1, d2] }
  | _ => none }
def shakeAgainRow : OpenClaim := { program := "ytjfmgpelkhgodaa", sum := "31fdf23a5cb8f6afbb0c6edde1e400755f8178d9ed8eb50b1d74eee9fc796754", func := "embrasure/embrasurelaw15.ShakeAgain", spec := "shakeAgain", unfollowed := true, recurses := true, plainKeys := false, apart := false }
def ShakeAgainSaid : Prop := shakeAgainRow.holds Try.pinned (OpenSpec.ofChange shakeAgainSpec)

/-- ITS FALSE NEIGHBOUR: 'it returns false'. Refute it at one input. -/
def shakeAgainWrong : ChangeSpec := { name := "shakeAgain", fn := fun _ => fun
  | [d1, d2] => { results := [.lit (.bool false)], args := [d1, d2] }
  | _ => none }
def ShakeAgainWrongFalsely : Prop := shakeAgainRow.holds Try.pinned (OpenSpec.ofChange shakeAgainWrong)

/-- 'embrasurelaw15.ShakeOver': WHATEVER THE INPUT: true; the input reads as it did. -/
def shakeOverSpec : ChangeSpec := { name := "shakeOver", fn := fun _ => fun
  | [d1, d2] => { results := [.lit (.bool true)], args := [d1, d2] }
  | _ => none }
def shakeOverRow : OpenClaim := { program := "ytjfmgpelkhgodaa", sum := "31fdf23a5cb8f6afbb0c6edde1e400755f8178d9ed8eb50b1d74eee9fc796754", func := "embrasure/embrasurelaw15.ShakeOver", spec := "shakeOver", unfollowed := true, recurses := true, plainKeys := false, apart := false }
def ShakeOverSaid : Prop := shakeOverRow.holds Try.pinned (OpenSpec.ofChange shakeOverSpec)

/-- ITS FALSE NEIGHBOUR: 'it returns false'. Refute it at one input. -/
def shakeOverWrong : ChangeSpec := { name := "shakeOver", fn := fun _ => fun
  | [d1, d2] => { results := [.lit (.bool false)], args := [d1, d2] }
  | _ => none }
def ShakeOverWrongFalsely : Prop := shakeOverRow.holds Try.pinned (OpenSpec.ofChange shakeOverWrong)

/-- 'embrasurelaw15.ShakePlays': WHATEVER THE INPUT: true; the input reads as it did. -/
def shakePlaysSpec : ChangeSpec := { name := "shakePlays", fn := fun _ => fun
  | [d1, d2] => { results := [.lit (.bool true)], args := [d1, d2] }
  | _ => none }
def shakePlaysRow : OpenClaim := { program := "ytjfmgpelkhgodaa", sum := "31fdf23a5cb8f6afbb0c6edde1e400755f8178d9ed8eb50b1d74eee9fc796754", func := "embrasure/embrasurelaw15.ShakePlays", spec := "shakePlays", unfollowed := true, recurses := true, plainKeys := false, apart := false }
def ShakePlaysSaid : Prop := shakePlaysRow.holds Try.pinned (OpenSpec.ofChange shakePlaysSpec)

/-- ITS FALSE NEIGHBOUR: 'it returns false'. Refute it at one input. -/
def shakePlaysWrong : ChangeSpec := { name := "shakePlays", fn := fun _ => fun
  | [d1, d2] => { results := [.lit (.bool false)], args := [d1, d2] }
  | _ => none }
def ShakePlaysWrongFalsely : Prop := shakePlaysRow.holds Try.pinned (OpenSpec.ofChange shakePlaysWrong)

/-- 'embrasurelaw17.LinkShut': WHATEVER THE INPUT: true; the input reads as it did. -/
def linkShutSpec : ChangeSpec := { name := "linkShut", fn := fun _ => fun
  | [d1, d2] => { results := [.lit (.bool true)], args := [d1, d2] }
  | _ => none }
def linkShutRow : OpenClaim := { program := "ytjfmgpelkhgodaa", sum := "31fdf23a5cb8f6afbb0c6edde1e400755f8178d9ed8eb50b1d74eee9fc796754", func := "embrasure/embrasurelaw17.LinkShut", spec := "linkShut", unfollowed := true, recurses := true, plainKeys := false, apart := false }
def LinkShutSaid : Prop := linkShutRow.holds Try.pinned (OpenSpec.ofChange linkShutSpec)

/-- ITS FALSE NEIGHBOUR: 'it returns false'. Refute it at one input. -/
def linkShutWrong : ChangeSpec := { name := "linkShut", fn := fun _ => fun
  | [d1, d2] => { results := [.lit (.bool false)], args := [d1, d2] }
  | _ => none }
def LinkShutWrongFalsely : Prop := linkShutRow.holds Try.pinned (OpenSpec.ofChange linkShutWrong)

/- THE SECOND FORM. 'bulk': how many values and letters a reading holds, each counted each time it is reached (what is shared counts as often as it is met; a slice's spare places count too). A statement '..UptoSaid' is the law's where the arguments, and the package variables that the reading takes, are together of bulk at most 1048576: NARROWER than '..Said'. Prove '..Said' where nothing that the law and all that it calls make is longer than what came in: it says more and counts as full. Else prove '..UptoSaid'. A law counts once. -/
mutual
def uptoBulk {H : Type} : DataW H → Nat
  | .lit (.string bytes) => bytes.length + 1
  | .lit _ => 1
  | .nil => 1
  | .ptr d => uptoBulk d + 1
  | .slice elems spare => uptoBulkAll elems + uptoBulkAll spare + 1
  | .agg parts => uptoBulkAll parts + 1
  | .iface _ d => uptoBulk d + 1
  | .map entries => uptoBulkEntries entries + 1
  | .held _ => 1
def uptoBulkAll {H : Type} : List (DataW H) → Nat
  | [] => 0
  | d :: r => uptoBulk d + uptoBulkAll r
def uptoBulkEntries {H : Type} : List (Lit × DataW H) → Nat
  | [] => 0
  | x :: r => uptoBulkEntry x + uptoBulkEntries r
def uptoBulkEntry {H : Type} : Lit × DataW H → Nat
  | (.string bytes, d) => bytes.length + uptoBulk d + 1
  | (_, d) => uptoBulk d + 1
 end
def uptoSmall : (H : Type) → List (DataW H) → Bool := fun _ ds => decide (uptoBulkAll ds ≤ 1048576)
def OpenSpec.upto (s : _root_.Go.ChangeSpec) : _root_.Go.OpenSpec := { _root_.Go.OpenSpec.ofChange s with cond := some uptoSmall }

/-- 'embrasurelaw19.TrustOne', WHERE WHAT IT READS IS OF BULK AT MOST 1048576: true; the input reads as it did. -/
def trustOneUptoRow : OpenClaim := { program := "ytjfmgpelkhgodaa", sum := "31fdf23a5cb8f6afbb0c6edde1e400755f8178d9ed8eb50b1d74eee9fc796754", func := "embrasure/embrasurelaw19.TrustOne", spec := "trustOne", plainKeys := false, apart := false, narrowed := true }
def TrustOneUptoSaid : Prop := trustOneUptoRow.holds Try.pinned (OpenSpec.upto trustOneSpec)

/-- 'embrasurelaw19.TrustTurns', WHERE WHAT IT READS IS OF BULK AT MOST 1048576: true; the input reads as it did. -/
def trustTurnsUptoRow : OpenClaim := { program := "ytjfmgpelkhgodaa", sum := "31fdf23a5cb8f6afbb0c6edde1e400755f8178d9ed8eb50b1d74eee9fc796754", func := "embrasure/embrasurelaw19.TrustTurns", spec := "trustTurns", plainKeys := false, apart := false, narrowed := true }
def TrustTurnsUptoSaid : Prop := trustTurnsUptoRow.holds Try.pinned (OpenSpec.upto trustTurnsSpec)

/-- 'embrasurelaw19.TrustAsks', WHERE WHAT IT READS IS OF BULK AT MOST 1048576: true; the input reads as it did. -/
def trustAsksUptoRow : OpenClaim := { program := "ytjfmgpelkhgodaa", sum := "31fdf23a5cb8f6afbb0c6edde1e400755f8178d9ed8eb50b1d74eee9fc796754", func := "embrasure/embrasurelaw19.TrustAsks", spec := "trustAsks", plainKeys := false, apart := false, narrowed := true }
def TrustAsksUptoSaid : Prop := trustAsksUptoRow.holds Try.pinned (OpenSpec.upto trustAsksSpec)

/-- 'embrasurelaw15.ShakeTrue', WHERE WHAT IT READS IS OF BULK AT MOST 1048576: true; the input reads as it did. -/
def shakeTrueUptoRow : OpenClaim := { program := "ytjfmgpelkhgodaa", sum := "31fdf23a5cb8f6afbb0c6edde1e400755f8178d9ed8eb50b1d74eee9fc796754", func := "embrasure/embrasurelaw15.ShakeTrue", spec := "shakeTrue", unfollowed := true, recurses := true, plainKeys := false, apart := false, narrowed := true }
def ShakeTrueUptoSaid : Prop := shakeTrueUptoRow.holds Try.pinned (OpenSpec.upto shakeTrueSpec)

/-- 'embrasurelaw15.ShakeForged', WHERE WHAT IT READS IS OF BULK AT MOST 1048576: true; the input reads as it did. -/
def shakeForgedUptoRow : OpenClaim := { program := "ytjfmgpelkhgodaa", sum := "31fdf23a5cb8f6afbb0c6edde1e400755f8178d9ed8eb50b1d74eee9fc796754", func := "embrasure/embrasurelaw15.ShakeForged", spec := "shakeForged", unfollowed := true, recurses := true, plainKeys := false, apart := false, narrowed := true }
def ShakeForgedUptoSaid : Prop := shakeForgedUptoRow.holds Try.pinned (OpenSpec.upto shakeForgedSpec)

/-- 'embrasurelaw15.ShakeMeets', WHERE WHAT IT READS IS OF BULK AT MOST 1048576: true; the input reads as it did. -/
def shakeMeetsUptoRow : OpenClaim := { program := "ytjfmgpelkhgodaa", sum := "31fdf23a5cb8f6afbb0c6edde1e400755f8178d9ed8eb50b1d74eee9fc796754", func := "embrasure/embrasurelaw15.ShakeMeets", spec := "shakeMeets", unfollowed := true, recurses := true, plainKeys := false, apart := false, narrowed := true }
def ShakeMeetsUptoSaid : Prop := shakeMeetsUptoRow.holds Try.pinned (OpenSpec.upto shakeMeetsSpec)

/-- 'embrasurelaw15.ShakeAgain', WHERE WHAT IT READS IS OF BULK AT MOST 1048576: true; the input reads as it did. -/
def shakeAgainUptoRow : OpenClaim := { program := "ytjfmgpelkhgodaa", sum := "31fdf23a5cb8f6afbb0c6edde1e400755f8178d9ed8eb50b1d74eee9fc796754", func := "embrasure/embrasurelaw15.ShakeAgain", spec := "shakeAgain", unfollowed := true, recurses := true, plainKeys := false, apart := false, narrowed := true }
def ShakeAgainUptoSaid : Prop := shakeAgainUptoRow.holds Try.pinned (OpenSpec.upto shakeAgainSpec)

/-- 'embrasurelaw15.ShakeOver', WHERE WHAT IT READS IS OF BULK AT MOST 1048576: true; the input reads as it did. -/
def shakeOverUptoRow : OpenClaim := { program := "ytjfmgpelkhgodaa", sum := "31fdf23a5cb8f6afbb0c6edde1e400755f8178d9ed8eb50b1d74eee9fc796754", func := "embrasure/embrasurelaw15.ShakeOver", spec := "shakeOver", unfollowed := true, recurses := true, plainKeys := false, apart := false, narrowed := true }
def ShakeOverUptoSaid : Prop := shakeOverUptoRow.holds Try.pinned (OpenSpec.upto shakeOverSpec)

/-- 'embrasurelaw15.ShakePlays', WHERE WHAT IT READS IS OF BULK AT MOST 1048576: true; the input reads as it did. -/
def shakePlaysUptoRow : OpenClaim := { program := "ytjfmgpelkhgodaa", sum := "31fdf23a5cb8f6afbb0c6edde1e400755f8178d9ed8eb50b1d74eee9fc796754", func := "embrasure/embrasurelaw15.ShakePlays", spec := "shakePlays", unfollowed := true, recurses := true, plainKeys := false, apart := false, narrowed := true }
def ShakePlaysUptoSaid : Prop := shakePlaysUptoRow.holds Try.pinned (OpenSpec.upto shakePlaysSpec)

/-- 'embrasurelaw17.LinkShut', WHERE WHAT IT READS IS OF BULK AT MOST 1048576: true; the input reads as it did. -/
def linkShutUptoRow : OpenClaim := { program := "ytjfmgpelkhgodaa", sum := "31fdf23a5cb8f6afbb0c6edde1e400755f8178d9ed8eb50b1d74eee9fc796754", func := "embrasure/embrasurelaw17.LinkShut", spec := "linkShut", unfollowed := true, recurses := true, plainKeys := false, apart := false, narrowed := true }
def LinkShutUptoSaid : Prop := linkShutUptoRow.holds Try.pinned (OpenSpec.upto linkShutSpec)

end Rows
end Go.Proofs.Ytjfmgpelkhgodaa
