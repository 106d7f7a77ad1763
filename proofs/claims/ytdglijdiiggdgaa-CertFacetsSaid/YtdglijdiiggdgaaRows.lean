/-
  No cell of these rows narrows 'for every input' (looked for: loops, veiled, ifaces, maps, wideKeys, modest, calm, conditions, laid).
  DERIVED. THE GIVEN ROWS OF THIS SEAT. 4 by the template 'for every input the law returns true; each argument reads behind the call as it read before'; 0 by the template 'total and deterministic' (their statements: YtdglijdiiggdgaaTotals.lean).
  GIVEN WITH THE SEED: the statements are not yours to turn. If you find one false, say at which input.
  Laid BY PROGRAM, IN A SANDBOX (cutbox-rows.mjs): the forced cells as the released guide's own fill.sh prints them over the translation e5d4a86be7c8aa07… (all of the seat's roots in one cut). By AI agents, Wed Nov 11 2026. No macro, syntax, notation, axiom, sorry.
-/
import Derived.Test.YtdglijdiiggdgaaChecked
import GoSem.Claim
import GoSem.ClaimJoined
import GoSem.ClaimMapViews
import Derived.JoinedTies
import Derived.KernelRfl
namespace Go.Proofs.Ytdglijdiiggdgaa
/- THE CELL 'sum', in the pinned program and in every row, IS THE sha256 OF THE DUMP (.gsa) THAT YtdglijdiiggdgaaProg.lean LOADS. Nothing in Lean hashes anything: it is a label: what it is worth is what the hold of that sum in a sandbox is worth. -/
noncomputable def Try.pinned : Pinned := { name := "ytdglijdiiggdgaa", sum := "e5d4a86be7c8aa074e1609af4e7534c7a5427a544a2db8a05f65bfb6934f0edd", checked := Try.checked }
namespace Rows
def none {H : Type} : Left H := { results := [], args := [] }

/-- 'carapacelaw21.CertFacets': WHATEVER THE INPUT: true; the input reads as it did. -/
def certFacetsSpec : ChangeSpec := { name := "certFacets", fn := fun _ => fun
  | [d1, d2] => { results := [.lit (.bool true)], args := [d1, d2] }
  | _ => none }
def certFacetsRow : OpenClaim := { program := "ytdglijdiiggdgaa", sum := "e5d4a86be7c8aa074e1609af4e7534c7a5427a544a2db8a05f65bfb6934f0edd", func := "carapace/carapacelaw21.CertFacets", spec := "certFacets", inPlace := ["math.Float64bits", "math.Float64frombits", "math/bits.Sub64", "math/bits.Add64"], unfollowed := true, recurses := true, plainKeys := false, apart := false }
def CertFacetsSaid : Prop := certFacetsRow.holds Try.pinned (OpenSpec.ofChange certFacetsSpec)

/-- ITS FALSE NEIGHBOUR: 'it returns false'. Refute it at one input. -/
def certFacetsWrong : ChangeSpec := { name := "certFacets", fn := fun _ => fun
  | [d1, d2] => { results := [.lit (.bool false)], args := [d1, d2] }
  | _ => none }
def CertFacetsWrongFalsely : Prop := certFacetsRow.holds Try.pinned (OpenSpec.ofChange certFacetsWrong)

/-- 'carapacelaw21.CertAround': WHATEVER THE INPUT: true; the input reads as it did. -/
def certAroundSpec : ChangeSpec := { name := "certAround", fn := fun _ => fun
  | [d1, d2] => { results := [.lit (.bool true)], args := [d1, d2] }
  | _ => none }
def certAroundRow : OpenClaim := { program := "ytdglijdiiggdgaa", sum := "e5d4a86be7c8aa074e1609af4e7534c7a5427a544a2db8a05f65bfb6934f0edd", func := "carapace/carapacelaw21.CertAround", spec := "certAround", inPlace := ["math.Float64bits", "math.Float64frombits", "math/bits.Sub64", "math/bits.Add64"], unfollowed := true, recurses := true, plainKeys := false, apart := false }
def CertAroundSaid : Prop := certAroundRow.holds Try.pinned (OpenSpec.ofChange certAroundSpec)

/-- ITS FALSE NEIGHBOUR: 'it returns false'. Refute it at one input. -/
def certAroundWrong : ChangeSpec := { name := "certAround", fn := fun _ => fun
  | [d1, d2] => { results := [.lit (.bool false)], args := [d1, d2] }
  | _ => none }
def CertAroundWrongFalsely : Prop := certAroundRow.holds Try.pinned (OpenSpec.ofChange certAroundWrong)

/-- 'carapacelaw21.CertApart': WHATEVER THE INPUT: true; the input reads as it did. -/
def certApartSpec : ChangeSpec := { name := "certApart", fn := fun _ => fun
  | [d1, d2, d3] => { results := [.lit (.bool true)], args := [d1, d2, d3] }
  | _ => none }
def certApartRow : OpenClaim := { program := "ytdglijdiiggdgaa", sum := "e5d4a86be7c8aa074e1609af4e7534c7a5427a544a2db8a05f65bfb6934f0edd", func := "carapace/carapacelaw21.CertApart", spec := "certApart", inPlace := ["math.Float64bits", "math.Float64frombits", "math/bits.Sub64", "math/bits.Add64"], unfollowed := true, recurses := true, plainKeys := false, apart := false }
def CertApartSaid : Prop := certApartRow.holds Try.pinned (OpenSpec.ofChange certApartSpec)

/-- ITS FALSE NEIGHBOUR: 'it returns false'. Refute it at one input. -/
def certApartWrong : ChangeSpec := { name := "certApart", fn := fun _ => fun
  | [d1, d2, d3] => { results := [.lit (.bool false)], args := [d1, d2, d3] }
  | _ => none }
def CertApartWrongFalsely : Prop := certApartRow.holds Try.pinned (OpenSpec.ofChange certApartWrong)

/-- 'carapacelaw21.CertLent': WHATEVER THE INPUT: true; the input reads as it did. -/
def certLentSpec : ChangeSpec := { name := "certLent", fn := fun _ => fun
  | [d1, d2, d3] => { results := [.lit (.bool true)], args := [d1, d2, d3] }
  | _ => none }
def certLentRow : OpenClaim := { program := "ytdglijdiiggdgaa", sum := "e5d4a86be7c8aa074e1609af4e7534c7a5427a544a2db8a05f65bfb6934f0edd", func := "carapace/carapacelaw21.CertLent", spec := "certLent", inPlace := ["math.Float64bits", "math.Float64frombits", "math/bits.Sub64", "math/bits.Add64"], unfollowed := true, recurses := true, plainKeys := false, apart := false }
def CertLentSaid : Prop := certLentRow.holds Try.pinned (OpenSpec.ofChange certLentSpec)

/-- ITS FALSE NEIGHBOUR: 'it returns false'. Refute it at one input. -/
def certLentWrong : ChangeSpec := { name := "certLent", fn := fun _ => fun
  | [d1, d2, d3] => { results := [.lit (.bool false)], args := [d1, d2, d3] }
  | _ => none }
def CertLentWrongFalsely : Prop := certLentRow.holds Try.pinned (OpenSpec.ofChange certLentWrong)

/- THE SECOND FORM. 'bulk': how many values and letters a reading holds, each counted each time it is reached (what is shared counts as often as it is met; a slice's spare places count too). A statement '..UptoSaid' is the law's where the arguments, and the package variables that the reading takes, are together of bulk at most 1048576: NARROWER than '..Said'. Prove '..Said' where nothing that the law and all that it calls make is longer than what came in: it says more and counts as full. Else prove '..UptoSaid'. A law counts once. -/
mutual
def uptoBulk {H : Type} : DataW H → Nat
  | .lit (.string bytes) => bytes.length + 1
  | .lit _ => 1
  | .nil => 1
  | .ptr d => uptoBulk d + 1
  | .slice elems spare => uptoBulkAll elems + uptoBulkAll spare + 1
  | .agg parts => uptoBulkAll parts + 1
  | .iface _ d => uptoBulk d + 1
  | .map entries => uptoBulkEntries entries + 1
  | .held _ => 1
def uptoBulkAll {H : Type} : List (DataW H) → Nat
  | [] => 0
  | d :: r => uptoBulk d + uptoBulkAll r
def uptoBulkEntries {H : Type} : List (Lit × DataW H) → Nat
  | [] => 0
  | x :: r => uptoBulkEntry x + uptoBulkEntries r
def uptoBulkEntry {H : Type} : Lit × DataW H → Nat
  | (.string bytes, d) => bytes.length + uptoBulk d + 1
  | (_, d) => uptoBulk d + 1
 end
def uptoSmall : (H : Type) → List (DataW H) → Bool := fun _ ds => decide (uptoBulkAll ds ≤ 1048576)
def OpenSpec.upto (s : _root_.Go.ChangeSpec) : _root_.Go.OpenSpec := { _root_.Go.OpenSpec.ofChange s with cond := some uptoSmall }

/-- 'carapacelaw21.CertFacets', WHERE WHAT IT READS IS OF BULK AT MOST 1048576: true; the input reads as it did. -/
def certFacetsUptoRow : OpenClaim := { program := "ytdglijdiiggdgaa", sum := "e5d4a86be7c8aa074e1609af4e7534c7a5427a544a2db8a05f65bfb6934f0edd", func := "carapace/carapacelaw21.CertFacets", spec := "certFacets", inPlace := ["math.Float64bits", "math.Float64frombits", "math/bits.Sub64", "math/bits.Add64"], unfollowed := true, recurses := true, plainKeys := false, apart := false, narrowed := true }
def CertFacetsUptoSaid : Prop := certFacetsUptoRow.holds Try.pinned (OpenSpec.upto certFacetsSpec)

/-- 'carapacelaw21.CertAround', WHERE WHAT IT READS IS OF BULK AT MOST 1048576: true; the input reads as it did. -/
def certAroundUptoRow : OpenClaim := { program := "ytdglijdiiggdgaa", sum := "e5d4a86be7c8aa074e1609af4e7534c7a5427a544a2db8a05f65bfb6934f0edd", func := "carapace/carapacelaw21.CertAround", spec := "certAround", inPlace := ["math.Float64bits", "math.Float64frombits", "math/bits.Sub64", "math/bits.Add64"], unfollowed := true, recurses := true, plainKeys := false, apart := false, narrowed := true }
def CertAroundUptoSaid : Prop := certAroundUptoRow.holds Try.pinned (OpenSpec.upto certAroundSpec)

/-- 'carapacelaw21.CertApart', WHERE WHAT IT READS IS OF BULK AT MOST 1048576: true; the input reads as it did. -/
def certApartUptoRow : OpenClaim := { program := "ytdglijdiiggdgaa", sum := "e5d4a86be7c8aa074e1609af4e7534c7a5427a544a2db8a05f65bfb6934f0edd", func := "carapace/carapacelaw21.CertApart", spec := "certApart", inPlace := ["math.Float64bits", "math.Float64frombits", "math/bits.Sub64", "math/bits.Add64"], unfollowed := true, recurses := true, plainKeys := false, apart := false, narrowed := true }
def CertApartUptoSaid : Prop := certApartUptoRow.holds Try.pinned (OpenSpec.upto certApartSpec)

/-- 'carapacelaw21.CertLent', WHERE WHAT IT READS IS OF BULK AT MOST 1048576: true; the input reads as it did. -/
def certLentUptoRow : OpenClaim := { program := "ytdglijdiiggdgaa", sum := "e5d4a86be7c8aa074e1609af4e7534c7a5427a544a2db8a05f65bfb6934f0edd", func := "carapace/carapacelaw21.CertLent", spec := "certLent", inPlace := ["math.Float64bits", "math.Float64frombits", "math/bits.Sub64", "math/bits.Add64"], unfollowed := true, recurses := true, plainKeys := false, apart := false, narrowed := true }
def CertLentUptoSaid : Prop := certLentUptoRow.holds Try.pinned (OpenSpec.upto certLentSpec)

end Rows
end Go.Proofs.Ytdglijdiiggdgaa
