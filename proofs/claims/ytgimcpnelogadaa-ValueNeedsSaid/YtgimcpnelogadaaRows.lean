/-
  No cell of these rows narrows 'for every input' (looked for: loops, veiled, ifaces, maps, wideKeys, modest, calm, conditions, laid).
  DERIVED. THE GIVEN ROWS OF THIS SEAT. 18 by the template 'for every input the law returns true; each argument reads behind the call as it read before'; 0 by the template 'total and deterministic' (their statements: YtgimcpnelogadaaTotals.lean).
  GIVEN WITH THE SEED: the statements are not yours to turn. If you find one false, say at which input.
  Laid BY PROGRAM, IN A SANDBOX (cutbox-rows.mjs): the forced cells as the released guide's own fill.sh prints them over the translation 5ddf2ecc3cad7c24… (all of the seat's roots in one cut). By AI agents, Wed Nov 11 2026. No macro, syntax, notation, axiom, sorry.
-/
import Derived.Test.YtgimcpnelogadaaChecked
import GoSem.Claim
import GoSem.ClaimJoined
import GoSem.ClaimMapViews
import Derived.JoinedTies
import Derived.KernelRfl
namespace Go.Proofs.Ytgimcpnelogadaa
/- THE CELL 'sum', in the pinned program and in every row, IS THE sha256 OF THE DUMP (.gsa) THAT YtgimcpnelogadaaProg.lean LOADS. Nothing in Lean hashes anything: it is a label: what it is worth is what the hold of that sum in a sandbox is worth. -/
noncomputable def Try.pinned : Pinned := { name := "ytgimcpnelogadaa", sum := "5ddf2ecc3cad7c243cfbe49d0bdbab9eadc2eeb2bad073948834bfde15bd6b14", checked := Try.checked }
namespace Rows
def none {H : Type} : Left H := { results := [], args := [] }

/-- 'casketlaw5.StoreWidths': WHATEVER THE INPUT: true; the input reads as it did. -/
def storeWidthsSpec : ChangeSpec := { name := "storeWidths", fn := fun _ => fun
  | [d1, d2, d3] => { results := [.lit (.bool true)], args := [d1, d2, d3] }
  | _ => none }
def storeWidthsRow : OpenClaim := { program := "ytgimcpnelogadaa", sum := "5ddf2ecc3cad7c243cfbe49d0bdbab9eadc2eeb2bad073948834bfde15bd6b14", func := "casket/casketlaw5.StoreWidths", spec := "storeWidths", inPlace := ["slices.overlaps[casket/api.Extent]"], unfollowed := true, recurses := true, apart := false }
def StoreWidthsSaid : Prop := storeWidthsRow.holds Try.pinned (OpenSpec.ofChange storeWidthsSpec)

/-- ITS FALSE NEIGHBOUR: 'it returns false'. Refute it at one input. -/
def storeWidthsWrong : ChangeSpec := { name := "storeWidths", fn := fun _ => fun
  | [d1, d2, d3] => { results := [.lit (.bool false)], args := [d1, d2, d3] }
  | _ => none }
def StoreWidthsWrongFalsely : Prop := storeWidthsRow.holds Try.pinned (OpenSpec.ofChange storeWidthsWrong)

/-- 'casketlaw5.StoreFills': WHATEVER THE INPUT: true; the input reads as it did. -/
def storeFillsSpec : ChangeSpec := { name := "storeFills", fn := fun _ => fun
  | [d1, d2] => { results := [.lit (.bool true)], args := [d1, d2] }
  | _ => none }
def storeFillsRow : OpenClaim := { program := "ytgimcpnelogadaa", sum := "5ddf2ecc3cad7c243cfbe49d0bdbab9eadc2eeb2bad073948834bfde15bd6b14", func := "casket/casketlaw5.StoreFills", spec := "storeFills", inPlace := ["slices.overlaps[casket/api.Extent]"], unfollowed := true, recurses := true, apart := false }
def StoreFillsSaid : Prop := storeFillsRow.holds Try.pinned (OpenSpec.ofChange storeFillsSpec)

/-- ITS FALSE NEIGHBOUR: 'it returns false'. Refute it at one input. -/
def storeFillsWrong : ChangeSpec := { name := "storeFills", fn := fun _ => fun
  | [d1, d2] => { results := [.lit (.bool false)], args := [d1, d2] }
  | _ => none }
def StoreFillsWrongFalsely : Prop := storeFillsRow.holds Try.pinned (OpenSpec.ofChange storeFillsWrong)

/-- 'casketlaw5.StorePlays': WHATEVER THE INPUT: true; the input reads as it did. -/
def storePlaysSpec : ChangeSpec := { name := "storePlays", fn := fun _ => fun
  | [d] => { results := [.lit (.bool true)], args := [d] }
  | _ => none }
def storePlaysRow : OpenClaim := { program := "ytgimcpnelogadaa", sum := "5ddf2ecc3cad7c243cfbe49d0bdbab9eadc2eeb2bad073948834bfde15bd6b14", func := "casket/casketlaw5.StorePlays", spec := "storePlays", inPlace := ["slices.overlaps[casket/api.Extent]"], unfollowed := true, recurses := true, apart := false }
def StorePlaysSaid : Prop := storePlaysRow.holds Try.pinned (OpenSpec.ofChange storePlaysSpec)

/-- ITS FALSE NEIGHBOUR: 'it returns false'. Refute it at one input. -/
def storePlaysWrong : ChangeSpec := { name := "storePlays", fn := fun _ => fun
  | [d] => { results := [.lit (.bool false)], args := [d] }
  | _ => none }
def StorePlaysWrongFalsely : Prop := storePlaysRow.holds Try.pinned (OpenSpec.ofChange storePlaysWrong)

/-- 'casketlaw5.StoreApart': WHATEVER THE INPUT: true; the input reads as it did. -/
def storeApartSpec : ChangeSpec := { name := "storeApart", fn := fun _ => fun
  | [d1, d2] => { results := [.lit (.bool true)], args := [d1, d2] }
  | _ => none }
def storeApartRow : OpenClaim := { program := "ytgimcpnelogadaa", sum := "5ddf2ecc3cad7c243cfbe49d0bdbab9eadc2eeb2bad073948834bfde15bd6b14", func := "casket/casketlaw5.StoreApart", spec := "storeApart", inPlace := ["slices.overlaps[casket/api.Extent]"], unfollowed := true, recurses := true, apart := false }
def StoreApartSaid : Prop := storeApartRow.holds Try.pinned (OpenSpec.ofChange storeApartSpec)

/-- ITS FALSE NEIGHBOUR: 'it returns false'. Refute it at one input. -/
def storeApartWrong : ChangeSpec := { name := "storeApart", fn := fun _ => fun
  | [d1, d2] => { results := [.lit (.bool false)], args := [d1, d2] }
  | _ => none }
def StoreApartWrongFalsely : Prop := storeApartRow.holds Try.pinned (OpenSpec.ofChange storeApartWrong)

/-- 'casketlaw5.StorePacks': WHATEVER THE INPUT: true; the input reads as it did. -/
def storePacksSpec : ChangeSpec := { name := "storePacks", fn := fun _ => fun
  | [d1, d2] => { results := [.lit (.bool true)], args := [d1, d2] }
  | _ => none }
def storePacksRow : OpenClaim := { program := "ytgimcpnelogadaa", sum := "5ddf2ecc3cad7c243cfbe49d0bdbab9eadc2eeb2bad073948834bfde15bd6b14", func := "casket/casketlaw5.StorePacks", spec := "storePacks", inPlace := ["slices.overlaps[casket/api.Extent]"], unfollowed := true, recurses := true, apart := false }
def StorePacksSaid : Prop := storePacksRow.holds Try.pinned (OpenSpec.ofChange storePacksSpec)

/-- ITS FALSE NEIGHBOUR: 'it returns false'. Refute it at one input. -/
def storePacksWrong : ChangeSpec := { name := "storePacks", fn := fun _ => fun
  | [d1, d2] => { results := [.lit (.bool false)], args := [d1, d2] }
  | _ => none }
def StorePacksWrongFalsely : Prop := storePacksRow.holds Try.pinned (OpenSpec.ofChange storePacksWrong)

/-- 'casketlaw6.HeapNeeds': WHATEVER THE INPUT: true; the input reads as it did. -/
def heapNeedsSpec : ChangeSpec := { name := "heapNeeds", fn := fun _ => fun
  | [d] => { results := [.lit (.bool true)], args := [d] }
  | _ => none }
def heapNeedsRow : OpenClaim := { program := "ytgimcpnelogadaa", sum := "5ddf2ecc3cad7c243cfbe49d0bdbab9eadc2eeb2bad073948834bfde15bd6b14", func := "casket/casketlaw6.HeapNeeds", spec := "heapNeeds", inPlace := ["slices.overlaps[casket/api.Extent]"], unfollowed := true, recurses := true, apart := false }
def HeapNeedsSaid : Prop := heapNeedsRow.holds Try.pinned (OpenSpec.ofChange heapNeedsSpec)

/-- ITS FALSE NEIGHBOUR: 'it returns false'. Refute it at one input. -/
def heapNeedsWrong : ChangeSpec := { name := "heapNeeds", fn := fun _ => fun
  | [d] => { results := [.lit (.bool false)], args := [d] }
  | _ => none }
def HeapNeedsWrongFalsely : Prop := heapNeedsRow.holds Try.pinned (OpenSpec.ofChange heapNeedsWrong)

/-- 'casketlaw6.HeapFull': WHATEVER THE INPUT: true; the input reads as it did. -/
def heapFullSpec : ChangeSpec := { name := "heapFull", fn := fun _ => fun
  | [d1, d2, d3] => { results := [.lit (.bool true)], args := [d1, d2, d3] }
  | _ => none }
def heapFullRow : OpenClaim := { program := "ytgimcpnelogadaa", sum := "5ddf2ecc3cad7c243cfbe49d0bdbab9eadc2eeb2bad073948834bfde15bd6b14", func := "casket/casketlaw6.HeapFull", spec := "heapFull", inPlace := ["slices.overlaps[casket/api.Extent]"], unfollowed := true, recurses := true, apart := false }
def HeapFullSaid : Prop := heapFullRow.holds Try.pinned (OpenSpec.ofChange heapFullSpec)

/-- ITS FALSE NEIGHBOUR: 'it returns false'. Refute it at one input. -/
def heapFullWrong : ChangeSpec := { name := "heapFull", fn := fun _ => fun
  | [d1, d2, d3] => { results := [.lit (.bool false)], args := [d1, d2, d3] }
  | _ => none }
def HeapFullWrongFalsely : Prop := heapFullRow.holds Try.pinned (OpenSpec.ofChange heapFullWrong)

/-- 'casketlaw6.HeapDeep': WHATEVER THE INPUT: true; the input reads as it did. -/
def heapDeepSpec : ChangeSpec := { name := "heapDeep", fn := fun _ => fun
  | [d] => { results := [.lit (.bool true)], args := [d] }
  | _ => none }
def heapDeepRow : OpenClaim := { program := "ytgimcpnelogadaa", sum := "5ddf2ecc3cad7c243cfbe49d0bdbab9eadc2eeb2bad073948834bfde15bd6b14", func := "casket/casketlaw6.HeapDeep", spec := "heapDeep", inPlace := ["slices.overlaps[casket/api.Extent]"], unfollowed := true, recurses := true, apart := false }
def HeapDeepSaid : Prop := heapDeepRow.holds Try.pinned (OpenSpec.ofChange heapDeepSpec)

/-- ITS FALSE NEIGHBOUR: 'it returns false'. Refute it at one input. -/
def heapDeepWrong : ChangeSpec := { name := "heapDeep", fn := fun _ => fun
  | [d] => { results := [.lit (.bool false)], args := [d] }
  | _ => none }
def HeapDeepWrongFalsely : Prop := heapDeepRow.holds Try.pinned (OpenSpec.ofChange heapDeepWrong)

/-- 'casketlaw6.HeapSame': WHATEVER THE INPUT: true; the input reads as it did. -/
def heapSameSpec : ChangeSpec := { name := "heapSame", fn := fun _ => fun
  | [d1, d2, d3] => { results := [.lit (.bool true)], args := [d1, d2, d3] }
  | _ => none }
def heapSameRow : OpenClaim := { program := "ytgimcpnelogadaa", sum := "5ddf2ecc3cad7c243cfbe49d0bdbab9eadc2eeb2bad073948834bfde15bd6b14", func := "casket/casketlaw6.HeapSame", spec := "heapSame", inPlace := ["slices.overlaps[casket/api.Extent]"], unfollowed := true, recurses := true, apart := false }
def HeapSameSaid : Prop := heapSameRow.holds Try.pinned (OpenSpec.ofChange heapSameSpec)

/-- ITS FALSE NEIGHBOUR: 'it returns false'. Refute it at one input. -/
def heapSameWrong : ChangeSpec := { name := "heapSame", fn := fun _ => fun
  | [d1, d2, d3] => { results := [.lit (.bool false)], args := [d1, d2, d3] }
  | _ => none }
def HeapSameWrongFalsely : Prop := heapSameRow.holds Try.pinned (OpenSpec.ofChange heapSameWrong)

/-- 'casketlaw6.HeapCircles': WHATEVER THE INPUT: true; the input reads as it did. -/
def heapCirclesSpec : ChangeSpec := { name := "heapCircles", fn := fun _ => fun
  | [d1, d2] => { results := [.lit (.bool true)], args := [d1, d2] }
  | _ => none }
def heapCirclesRow : OpenClaim := { program := "ytgimcpnelogadaa", sum := "5ddf2ecc3cad7c243cfbe49d0bdbab9eadc2eeb2bad073948834bfde15bd6b14", func := "casket/casketlaw6.HeapCircles", spec := "heapCircles", inPlace := ["slices.overlaps[casket/api.Extent]"], unfollowed := true, recurses := true, apart := false }
def HeapCirclesSaid : Prop := heapCirclesRow.holds Try.pinned (OpenSpec.ofChange heapCirclesSpec)

/-- ITS FALSE NEIGHBOUR: 'it returns false'. Refute it at one input. -/
def heapCirclesWrong : ChangeSpec := { name := "heapCircles", fn := fun _ => fun
  | [d1, d2] => { results := [.lit (.bool false)], args := [d1, d2] }
  | _ => none }
def HeapCirclesWrongFalsely : Prop := heapCirclesRow.holds Try.pinned (OpenSpec.ofChange heapCirclesWrong)

/-- 'casketlaw6.HeapViews': WHATEVER THE INPUT: true; the input reads as it did. -/
def heapViewsSpec : ChangeSpec := { name := "heapViews", fn := fun _ => fun
  | [d1, d2, d3, d4, d5] => { results := [.lit (.bool true)], args := [d1, d2, d3, d4, d5] }
  | _ => none }
def heapViewsRow : OpenClaim := { program := "ytgimcpnelogadaa", sum := "5ddf2ecc3cad7c243cfbe49d0bdbab9eadc2eeb2bad073948834bfde15bd6b14", func := "casket/casketlaw6.HeapViews", spec := "heapViews", inPlace := ["slices.overlaps[casket/api.Extent]"], unfollowed := true, recurses := true, apart := false }
def HeapViewsSaid : Prop := heapViewsRow.holds Try.pinned (OpenSpec.ofChange heapViewsSpec)

/-- ITS FALSE NEIGHBOUR: 'it returns false'. Refute it at one input. -/
def heapViewsWrong : ChangeSpec := { name := "heapViews", fn := fun _ => fun
  | [d1, d2, d3, d4, d5] => { results := [.lit (.bool false)], args := [d1, d2, d3, d4, d5] }
  | _ => none }
def HeapViewsWrongFalsely : Prop := heapViewsRow.holds Try.pinned (OpenSpec.ofChange heapViewsWrong)

/-- 'casketlaw6.HeapCopies': WHATEVER THE INPUT: true; the input reads as it did. -/
def heapCopiesSpec : ChangeSpec := { name := "heapCopies", fn := fun _ => fun
  | [d1, d2, d3] => { results := [.lit (.bool true)], args := [d1, d2, d3] }
  | _ => none }
def heapCopiesRow : OpenClaim := { program := "ytgimcpnelogadaa", sum := "5ddf2ecc3cad7c243cfbe49d0bdbab9eadc2eeb2bad073948834bfde15bd6b14", func := "casket/casketlaw6.HeapCopies", spec := "heapCopies", inPlace := ["slices.overlaps[casket/api.Extent]"], unfollowed := true, recurses := true, apart := false }
def HeapCopiesSaid : Prop := heapCopiesRow.holds Try.pinned (OpenSpec.ofChange heapCopiesSpec)

/-- ITS FALSE NEIGHBOUR: 'it returns false'. Refute it at one input. -/
def heapCopiesWrong : ChangeSpec := { name := "heapCopies", fn := fun _ => fun
  | [d1, d2, d3] => { results := [.lit (.bool false)], args := [d1, d2, d3] }
  | _ => none }
def HeapCopiesWrongFalsely : Prop := heapCopiesRow.holds Try.pinned (OpenSpec.ofChange heapCopiesWrong)

/-- 'casketlaw7.ValueBack': WHATEVER THE INPUT: true; the input reads as it did. -/
def valueBackSpec : ChangeSpec := { name := "valueBack", fn := fun _ => fun
  | [d1, d2, d3] => { results := [.lit (.bool true)], args := [d1, d2, d3] }
  | _ => none }
def valueBackRow : OpenClaim := { program := "ytgimcpnelogadaa", sum := "5ddf2ecc3cad7c243cfbe49d0bdbab9eadc2eeb2bad073948834bfde15bd6b14", func := "casket/casketlaw7.ValueBack", spec := "valueBack", inPlace := ["slices.overlaps[casket/api.Extent]"], unfollowed := true, recurses := true, apart := false }
def ValueBackSaid : Prop := valueBackRow.holds Try.pinned (OpenSpec.ofChange valueBackSpec)

/-- ITS FALSE NEIGHBOUR: 'it returns false'. Refute it at one input. -/
def valueBackWrong : ChangeSpec := { name := "valueBack", fn := fun _ => fun
  | [d1, d2, d3] => { results := [.lit (.bool false)], args := [d1, d2, d3] }
  | _ => none }
def ValueBackWrongFalsely : Prop := valueBackRow.holds Try.pinned (OpenSpec.ofChange valueBackWrong)

/-- 'casketlaw7.ValueNeeds': WHATEVER THE INPUT: true; the input reads as it did. -/
def valueNeedsSpec : ChangeSpec := { name := "valueNeeds", fn := fun _ => fun
  | [d1, d2] => { results := [.lit (.bool true)], args := [d1, d2] }
  | _ => none }
def valueNeedsRow : OpenClaim := { program := "ytgimcpnelogadaa", sum := "5ddf2ecc3cad7c243cfbe49d0bdbab9eadc2eeb2bad073948834bfde15bd6b14", func := "casket/casketlaw7.ValueNeeds", spec := "valueNeeds", inPlace := ["slices.overlaps[casket/api.Extent]"], unfollowed := true, recurses := true, apart := false }
def ValueNeedsSaid : Prop := valueNeedsRow.holds Try.pinned (OpenSpec.ofChange valueNeedsSpec)

/-- ITS FALSE NEIGHBOUR: 'it returns false'. Refute it at one input. -/
def valueNeedsWrong : ChangeSpec := { name := "valueNeeds", fn := fun _ => fun
  | [d1, d2] => { results := [.lit (.bool false)], args := [d1, d2] }
  | _ => none }
def ValueNeedsWrongFalsely : Prop := valueNeedsRow.holds Try.pinned (OpenSpec.ofChange valueNeedsWrong)

/-- 'casketlaw7.ValueSame': WHATEVER THE INPUT: true; the input reads as it did. -/
def valueSameSpec : ChangeSpec := { name := "valueSame", fn := fun _ => fun
  | [d1, d2, d3, d4, d5] => { results := [.lit (.bool true)], args := [d1, d2, d3, d4, d5] }
  | _ => none }
def valueSameRow : OpenClaim := { program := "ytgimcpnelogadaa", sum := "5ddf2ecc3cad7c243cfbe49d0bdbab9eadc2eeb2bad073948834bfde15bd6b14", func := "casket/casketlaw7.ValueSame", spec := "valueSame", inPlace := ["slices.overlaps[casket/api.Extent]"], unfollowed := true, recurses := true, apart := false }
def ValueSameSaid : Prop := valueSameRow.holds Try.pinned (OpenSpec.ofChange valueSameSpec)

/-- ITS FALSE NEIGHBOUR: 'it returns false'. Refute it at one input. -/
def valueSameWrong : ChangeSpec := { name := "valueSame", fn := fun _ => fun
  | [d1, d2, d3, d4, d5] => { results := [.lit (.bool false)], args := [d1, d2, d3, d4, d5] }
  | _ => none }
def ValueSameWrongFalsely : Prop := valueSameRow.holds Try.pinned (OpenSpec.ofChange valueSameWrong)

/-- 'casketlaw8.TextThree': WHATEVER THE INPUT: true; the input reads as it did. -/
def textThreeSpec : ChangeSpec := { name := "textThree", fn := fun _ => fun
  | [d1, d2, d3] => { results := [.lit (.bool true)], args := [d1, d2, d3] }
  | _ => none }
def textThreeRow : OpenClaim := { program := "ytgimcpnelogadaa", sum := "5ddf2ecc3cad7c243cfbe49d0bdbab9eadc2eeb2bad073948834bfde15bd6b14", func := "casket/casketlaw8.TextThree", spec := "textThree", inPlace := ["slices.overlaps[casket/api.Extent]", "internal/bytealg.abigen_runtime_cmpstring"], unfollowed := true, recurses := true, apart := false }
def TextThreeSaid : Prop := textThreeRow.holds Try.pinned (OpenSpec.ofChange textThreeSpec)

/-- ITS FALSE NEIGHBOUR: 'it returns false'. Refute it at one input. -/
def textThreeWrong : ChangeSpec := { name := "textThree", fn := fun _ => fun
  | [d1, d2, d3] => { results := [.lit (.bool false)], args := [d1, d2, d3] }
  | _ => none }
def TextThreeWrongFalsely : Prop := textThreeRow.holds Try.pinned (OpenSpec.ofChange textThreeWrong)

/-- 'casketlaw8.TextHalves': WHATEVER THE INPUT: true; the input reads as it did. -/
def textHalvesSpec : ChangeSpec := { name := "textHalves", fn := fun _ => fun
  | [d1, d2] => { results := [.lit (.bool true)], args := [d1, d2] }
  | _ => none }
def textHalvesRow : OpenClaim := { program := "ytgimcpnelogadaa", sum := "5ddf2ecc3cad7c243cfbe49d0bdbab9eadc2eeb2bad073948834bfde15bd6b14", func := "casket/casketlaw8.TextHalves", spec := "textHalves", inPlace := ["slices.overlaps[casket/api.Extent]", "internal/bytealg.abigen_runtime_cmpstring"], unfollowed := true, recurses := true, apart := false }
def TextHalvesSaid : Prop := textHalvesRow.holds Try.pinned (OpenSpec.ofChange textHalvesSpec)

/-- ITS FALSE NEIGHBOUR: 'it returns false'. Refute it at one input. -/
def textHalvesWrong : ChangeSpec := { name := "textHalves", fn := fun _ => fun
  | [d1, d2] => { results := [.lit (.bool false)], args := [d1, d2] }
  | _ => none }
def TextHalvesWrongFalsely : Prop := textHalvesRow.holds Try.pinned (OpenSpec.ofChange textHalvesWrong)

/-- 'casketlaw8.TextCells': WHATEVER THE INPUT: true; the input reads as it did. -/
def textCellsSpec : ChangeSpec := { name := "textCells", fn := fun _ => fun
  | [d1, d2, d3] => { results := [.lit (.bool true)], args := [d1, d2, d3] }
  | _ => none }
def textCellsRow : OpenClaim := { program := "ytgimcpnelogadaa", sum := "5ddf2ecc3cad7c243cfbe49d0bdbab9eadc2eeb2bad073948834bfde15bd6b14", func := "casket/casketlaw8.TextCells", spec := "textCells", inPlace := ["slices.overlaps[casket/api.Extent]", "internal/bytealg.abigen_runtime_cmpstring"], unfollowed := true, recurses := true, apart := false }
def TextCellsSaid : Prop := textCellsRow.holds Try.pinned (OpenSpec.ofChange textCellsSpec)

/-- ITS FALSE NEIGHBOUR: 'it returns false'. Refute it at one input. -/
def textCellsWrong : ChangeSpec := { name := "textCells", fn := fun _ => fun
  | [d1, d2, d3] => { results := [.lit (.bool false)], args := [d1, d2, d3] }
  | _ => none }
def TextCellsWrongFalsely : Prop := textCellsRow.holds Try.pinned (OpenSpec.ofChange textCellsWrong)

/- THE SECOND FORM. 'bulk': how many values and letters a reading holds, each counted each time it is reached (what is shared counts as often as it is met; a slice's spare places count too). A statement '..UptoSaid' is the law's where the arguments, and the package variables that the reading takes, are together of bulk at most 1048576: NARROWER than '..Said'. Prove '..Said' where nothing that the law and all that it calls make is longer than what came in: it says more and counts as full. Else prove '..UptoSaid'. A law counts once. -/
mutual
def uptoBulk {H : Type} : DataW H → Nat
  | .lit (.string bytes) => bytes.length + 1
  | .lit _ => 1
  | .nil => 1
  | .ptr d => uptoBulk d + 1
  | .slice elems spare => uptoBulkAll elems + uptoBulkAll spare + 1
  | .agg parts => uptoBulkAll parts + 1
  | .iface _ d => uptoBulk d + 1
  | .map entries => uptoBulkEntries entries + 1
  | .held _ => 1
def uptoBulkAll {H : Type} : List (DataW H) → Nat
  | [] => 0
  | d :: r => uptoBulk d + uptoBulkAll r
def uptoBulkEntries {H : Type} : List (Lit × DataW H) → Nat
  | [] => 0
  | x :: r => uptoBulkEntry x + uptoBulkEntries r
def uptoBulkEntry {H : Type} : Lit × DataW H → Nat
  | (.string bytes, d) => bytes.length + uptoBulk d + 1
  | (_, d) => uptoBulk d + 1
 end
def uptoSmall : (H : Type) → List (DataW H) → Bool := fun _ ds => decide (uptoBulkAll ds ≤ 1048576)
def OpenSpec.upto (s : _root_.Go.ChangeSpec) : _root_.Go.OpenSpec := { _root_.Go.OpenSpec.ofChange s with cond := some uptoSmall }

/-- 'casketlaw5.StoreWidths', WHERE WHAT IT READS IS OF BULK AT MOST 1048576: true; the input reads as it did. -/
def storeWidthsUptoRow : OpenClaim := { program := "ytgimcpnelogadaa", sum := "5ddf2ecc3cad7c243cfbe49d0bdbab9eadc2eeb2bad073948834bfde15bd6b14", func := "casket/casketlaw5.StoreWidths", spec := "storeWidths", inPlace := ["slices.overlaps[casket/api.Extent]"], unfollowed := true, recurses := true, apart := false, narrowed := true }
def StoreWidthsUptoSaid : Prop := storeWidthsUptoRow.holds Try.pinned (OpenSpec.upto storeWidthsSpec)

/-- 'casketlaw5.StoreFills', WHERE WHAT IT READS IS OF BULK AT MOST 1048576: true; the input reads as it did. -/
def storeFillsUptoRow : OpenClaim := { program := "ytgimcpnelogadaa", sum := "5ddf2ecc3cad7c243cfbe49d0bdbab9eadc2eeb2bad073948834bfde15bd6b14", func := "casket/casketlaw5.StoreFills", spec := "storeFills", inPlace := ["slices.overlaps[casket/api.Extent]"], unfollowed := true, recurses := true, apart := false, narrowed := true }
def StoreFillsUptoSaid : Prop := storeFillsUptoRow.holds Try.pinned (OpenSpec.upto storeFillsSpec)

/-- 'casketlaw5.StorePlays', WHERE WHAT IT READS IS OF BULK AT MOST 1048576: true; the input reads as it did. -/
def storePlaysUptoRow : OpenClaim := { program := "ytgimcpnelogadaa", sum := "5ddf2ecc3cad7c243cfbe49d0bdbab9eadc2eeb2bad073948834bfde15bd6b14", func := "casket/casketlaw5.StorePlays", spec := "storePlays", inPlace := ["slices.overlaps[casket/api.Extent]"], unfollowed := true, recurses := true, apart := false, narrowed := true }
def StorePlaysUptoSaid : Prop := storePlaysUptoRow.holds Try.pinned (OpenSpec.upto storePlaysSpec)

/-- 'casketlaw5.StoreApart', WHERE WHAT IT READS IS OF BULK AT MOST 1048576: true; the input reads as it did. -/
def storeApartUptoRow : OpenClaim := { program := "ytgimcpnelogadaa", sum := "5ddf2ecc3cad7c243cfbe49d0bdbab9eadc2eeb2bad073948834bfde15bd6b14", func := "casket/casketlaw5.StoreApart", spec := "storeApart", inPlace := ["slices.overlaps[casket/api.Extent]"], unfollowed := true, recurses := true, apart := false, narrowed := true }
def StoreApartUptoSaid : Prop := storeApartUptoRow.holds Try.pinned (OpenSpec.upto storeApartSpec)

/-- 'casketlaw5.StorePacks', WHERE WHAT IT READS IS OF BULK AT MOST 1048576: true; the input reads as it did. -/
def storePacksUptoRow : OpenClaim := { program := "ytgimcpnelogadaa", sum := "5ddf2ecc3cad7c243cfbe49d0bdbab9eadc2eeb2bad073948834bfde15bd6b14", func := "casket/casketlaw5.StorePacks", spec := "storePacks", inPlace := ["slices.overlaps[casket/api.Extent]"], unfollowed := true, recurses := true, apart := false, narrowed := true }
def StorePacksUptoSaid : Prop := storePacksUptoRow.holds Try.pinned (OpenSpec.upto storePacksSpec)

/-- 'casketlaw6.HeapNeeds', WHERE WHAT IT READS IS OF BULK AT MOST 1048576: true; the input reads as it did. -/
def heapNeedsUptoRow : OpenClaim := { program := "ytgimcpnelogadaa", sum := "5ddf2ecc3cad7c243cfbe49d0bdbab9eadc2eeb2bad073948834bfde15bd6b14", func := "casket/casketlaw6.HeapNeeds", spec := "heapNeeds", inPlace := ["slices.overlaps[casket/api.Extent]"], unfollowed := true, recurses := true, apart := false, narrowed := true }
def HeapNeedsUptoSaid : Prop := heapNeedsUptoRow.holds Try.pinned (OpenSpec.upto heapNeedsSpec)

/-- 'casketlaw6.HeapFull', WHERE WHAT IT READS IS OF BULK AT MOST 1048576: true; the input reads as it did. -/
def heapFullUptoRow : OpenClaim := { program := "ytgimcpnelogadaa", sum := "5ddf2ecc3cad7c243cfbe49d0bdbab9eadc2eeb2bad073948834bfde15bd6b14", func := "casket/casketlaw6.HeapFull", spec := "heapFull", inPlace := ["slices.overlaps[casket/api.Extent]"], unfollowed := true, recurses := true, apart := false, narrowed := true }
def HeapFullUptoSaid : Prop := heapFullUptoRow.holds Try.pinned (OpenSpec.upto heapFullSpec)

/-- 'casketlaw6.HeapDeep', WHERE WHAT IT READS IS OF BULK AT MOST 1048576: true; the input reads as it did. -/
def heapDeepUptoRow : OpenClaim := { program := "ytgimcpnelogadaa", sum := "5ddf2ecc3cad7c243cfbe49d0bdbab9eadc2eeb2bad073948834bfde15bd6b14", func := "casket/casketlaw6.HeapDeep", spec := "heapDeep", inPlace := ["slices.overlaps[casket/api.Extent]"], unfollowed := true, recurses := true, apart := false, narrowed := true }
def HeapDeepUptoSaid : Prop := heapDeepUptoRow.holds Try.pinned (OpenSpec.upto heapDeepSpec)

/-- 'casketlaw6.HeapSame', WHERE WHAT IT READS IS OF BULK AT MOST 1048576: true; the input reads as it did. -/
def heapSameUptoRow : OpenClaim := { program := "ytgimcpnelogadaa", sum := "5ddf2ecc3cad7c243cfbe49d0bdbab9eadc2eeb2bad073948834bfde15bd6b14", func := "casket/casketlaw6.HeapSame", spec := "heapSame", inPlace := ["slices.overlaps[casket/api.Extent]"], unfollowed := true, recurses := true, apart := false, narrowed := true }
def HeapSameUptoSaid : Prop := heapSameUptoRow.holds Try.pinned (OpenSpec.upto heapSameSpec)

/-- 'casketlaw6.HeapCircles', WHERE WHAT IT READS IS OF BULK AT MOST 1048576: true; the input reads as it did. -/
def heapCirclesUptoRow : OpenClaim := { program := "ytgimcpnelogadaa", sum := "5ddf2ecc3cad7c243cfbe49d0bdbab9eadc2eeb2bad073948834bfde15bd6b14", func := "casket/casketlaw6.HeapCircles", spec := "heapCircles", inPlace := ["slices.overlaps[casket/api.Extent]"], unfollowed := true, recurses := true, apart := false, narrowed := true }
def HeapCirclesUptoSaid : Prop := heapCirclesUptoRow.holds Try.pinned (OpenSpec.upto heapCirclesSpec)

/-- 'casketlaw6.HeapViews', WHERE WHAT IT READS IS OF BULK AT MOST 1048576: true; the input reads as it did. -/
def heapViewsUptoRow : OpenClaim := { program := "ytgimcpnelogadaa", sum := "5ddf2ecc3cad7c243cfbe49d0bdbab9eadc2eeb2bad073948834bfde15bd6b14", func := "casket/casketlaw6.HeapViews", spec := "heapViews", inPlace := ["slices.overlaps[casket/api.Extent]"], unfollowed := true, recurses := true, apart := false, narrowed := true }
def HeapViewsUptoSaid : Prop := heapViewsUptoRow.holds Try.pinned (OpenSpec.upto heapViewsSpec)

/-- 'casketlaw6.HeapCopies', WHERE WHAT IT READS IS OF BULK AT MOST 1048576: true; the input reads as it did. -/
def heapCopiesUptoRow : OpenClaim := { program := "ytgimcpnelogadaa", sum := "5ddf2ecc3cad7c243cfbe49d0bdbab9eadc2eeb2bad073948834bfde15bd6b14", func := "casket/casketlaw6.HeapCopies", spec := "heapCopies", inPlace := ["slices.overlaps[casket/api.Extent]"], unfollowed := true, recurses := true, apart := false, narrowed := true }
def HeapCopiesUptoSaid : Prop := heapCopiesUptoRow.holds Try.pinned (OpenSpec.upto heapCopiesSpec)

/-- 'casketlaw7.ValueBack', WHERE WHAT IT READS IS OF BULK AT MOST 1048576: true; the input reads as it did. -/
def valueBackUptoRow : OpenClaim := { program := "ytgimcpnelogadaa", sum := "5ddf2ecc3cad7c243cfbe49d0bdbab9eadc2eeb2bad073948834bfde15bd6b14", func := "casket/casketlaw7.ValueBack", spec := "valueBack", inPlace := ["slices.overlaps[casket/api.Extent]"], unfollowed := true, recurses := true, apart := false, narrowed := true }
def ValueBackUptoSaid : Prop := valueBackUptoRow.holds Try.pinned (OpenSpec.upto valueBackSpec)

/-- 'casketlaw7.ValueNeeds', WHERE WHAT IT READS IS OF BULK AT MOST 1048576: true; the input reads as it did. -/
def valueNeedsUptoRow : OpenClaim := { program := "ytgimcpnelogadaa", sum := "5ddf2ecc3cad7c243cfbe49d0bdbab9eadc2eeb2bad073948834bfde15bd6b14", func := "casket/casketlaw7.ValueNeeds", spec := "valueNeeds", inPlace := ["slices.overlaps[casket/api.Extent]"], unfollowed := true, recurses := true, apart := false, narrowed := true }
def ValueNeedsUptoSaid : Prop := valueNeedsUptoRow.holds Try.pinned (OpenSpec.upto valueNeedsSpec)

/-- 'casketlaw7.ValueSame', WHERE WHAT IT READS IS OF BULK AT MOST 1048576: true; the input reads as it did. -/
def valueSameUptoRow : OpenClaim := { program := "ytgimcpnelogadaa", sum := "5ddf2ecc3cad7c243cfbe49d0bdbab9eadc2eeb2bad073948834bfde15bd6b14", func := "casket/casketlaw7.ValueSame", spec := "valueSame", inPlace := ["slices.overlaps[casket/api.Extent]"], unfollowed := true, recurses := true, apart := false, narrowed := true }
def ValueSameUptoSaid : Prop := valueSameUptoRow.holds Try.pinned (OpenSpec.upto valueSameSpec)

/-- 'casketlaw8.TextThree', WHERE WHAT IT READS IS OF BULK AT MOST 1048576: true; the input reads as it did. -/
def textThreeUptoRow : OpenClaim := { program := "ytgimcpnelogadaa", sum := "5ddf2ecc3cad7c243cfbe49d0bdbab9eadc2eeb2bad073948834bfde15bd6b14", func := "casket/casketlaw8.TextThree", spec := "textThree", inPlace := ["slices.overlaps[casket/api.Extent]", "internal/bytealg.abigen_runtime_cmpstring"], unfollowed := true, recurses := true, apart := false, narrowed := true }
def TextThreeUptoSaid : Prop := textThreeUptoRow.holds Try.pinned (OpenSpec.upto textThreeSpec)

/-- 'casketlaw8.TextHalves', WHERE WHAT IT READS IS OF BULK AT MOST 1048576: true; the input reads as it did. -/
def textHalvesUptoRow : OpenClaim := { program := "ytgimcpnelogadaa", sum := "5ddf2ecc3cad7c243cfbe49d0bdbab9eadc2eeb2bad073948834bfde15bd6b14", func := "casket/casketlaw8.TextHalves", spec := "textHalves", inPlace := ["slices.overlaps[casket/api.Extent]", "internal/bytealg.abigen_runtime_cmpstring"], unfollowed := true, recurses := true, apart := false, narrowed := true }
def TextHalvesUptoSaid : Prop := textHalvesUptoRow.holds Try.pinned (OpenSpec.upto textHalvesSpec)

/-- 'casketlaw8.TextCells', WHERE WHAT IT READS IS OF BULK AT MOST 1048576: true; the input reads as it did. -/
def textCellsUptoRow : OpenClaim := { program := "ytgimcpnelogadaa", sum := "5ddf2ecc3cad7c243cfbe49d0bdbab9eadc2eeb2bad073948834bfde15bd6b14", func := "casket/casketlaw8.TextCells", spec := "textCells", inPlace := ["slices.overlaps[casket/api.Extent]", "internal/bytealg.abigen_runtime_cmpstring"], unfollowed := true, recurses := true, apart := false, narrowed := true }
def TextCellsUptoSaid : Prop := textCellsUptoRow.holds Try.pinned (OpenSpec.upto textCellsSpec)

end Rows
end Go.Proofs.Ytgimcpnelogadaa
