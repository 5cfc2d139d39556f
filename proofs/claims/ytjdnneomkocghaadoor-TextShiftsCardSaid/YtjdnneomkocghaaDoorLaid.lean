/- Chapter 4: from the rows' laid variables to what the walks ask (Glob); the witness's world. -/
import Derived.Test.YtjdnneomkocghaaDoorRows
import Derived.Test.YtjdnneomkocghaaDoorGivA
import Derived.Stop.LaidErr
import Derived.Lib.LaidTab
import Derived.LaidMore
import Derived.Stop.Joined
import Derived.ProofKit
import Derived.OpenShut
import Derived.ShutString
namespace Go.Proofs.YtjdnneomkocghaaDoor.Laid
open Go.ChangeShapes Go.WideShapes Go.ChangeAt Go.RowKit Go.Proofs.YtjdnneomkocghaaDoor.Given Go.Shelf

def laid : List (String × DataW Unit) := [("math/bits.deBruijn32tab", Rows.laid_math_bits_deBruijn32tab), ("math/bits.deBruijn64tab", Rows.laid_math_bits_deBruijn64tab), ("internal/strconv.uint64pow10", Rows.laid_internal_strconv_uint64pow10), ("strconv.ErrRange", Rows.laid_strconv_ErrRange), ("strconv.ErrSyntax", Rows.laid_strconv_ErrSyntax)]

theorem own : ownKnob Tryd.prog.godebug = none := by kernel_rfl
theorem g64 : Tryd.prog.globalNamed "math/bits.deBruijn64tab" = some 0 := by kernel_rfl
theorem ty64 : (Tryd.prog.globals[0]?).map (·.type) = some 74 := by kernel_rfl
theorem tyP : (Tryd.prog.globals[4]?).map (·.type) = some 89 := by kernel_rfl
theorem tyS : (Tryd.prog.globals[2]?).map (·.type) = some 52 := by kernel_rfl
theorem tyR : (Tryd.prog.globals[3]?).map (·.type) = some 52 := by kernel_rfl
theorem c5 : Tryd.prog.cellsOf 5 = 1 := by kernel_rfl
theorem c22 : Tryd.prog.cellsOf 22 = 1 := by kernel_rfl
theorem c74 : Tryd.prog.cellsOf 74 = 64 := by kernel_rfl
theorem c89 : Tryd.prog.cellsOf 89 = 20 := by kernel_rfl
theorem c97 : Tryd.prog.cellsOf 97 = 1 := by kernel_rfl
theorem c9 : Tryd.prog.cellsOf 9 = 1 := by kernel_rfl
theorem star : "*" ++ "errors.errorString" = "*errors.errorString" := by decide
theorem row95 (u : TypeId) (h : Tryd.prog.typeName? 3 u = some "*errors.errorString") : u = 95 :=
  typeName_ptr_named (nm := "errors.errorString") (by rw [star]; kernel_rfl) (by kernel_rfl) (by decide) u (by rw [star]; exact h)

/-- The door's own heap meets the condition. -/
theorem door_met (os : Os) (args : Array Value) : laidMetH Tryd.prog laid ((World.doorLaid Tryd.prog 62 os).forCall (fun _ _ => 0) ⟨#[], args, []⟩).memory :=
  laidMetH_of_parts3 (fuel := 8) (laidMet_of_run' 8 (by kernel_rfl) (by kernel_rfl)) (by kernel_rfl) (by kernel_rfl)

theorem tab64 : (laid.drop 1).head?.map (·.2) = some (Lib.tabData .u8 (Lib.deBruijn64tab.map fun n : Nat => (n : Int))) := by kernel_rfl
theorem var_lt {P : Program} {W : World} {n : String} {cs : Array Value} {g : Nat} (hg : P.globalNamed n = some g) (h : W.var? P n = some cs) : g < W.heap.size := by
  unfold World.var? at h
  rw [hg] at h
  simp only [Option.bind_some] at h
  rcases Nat.lt_or_ge g W.heap.size with h' | h'
  · exact h'
  · simp [Array.getElem?_eq_none h'] at h
theorem of_laid {W : World} (h0 : laidMetH Tryd.prog laid W) : Glob W := by
  rw [MakeChecks.laidMetH_plain _ _ _ (by kernel_rfl)] at h0
  have h1 := laidMet.tail h0
  have h2 := laidMet.tail h1
  have h3 := laidMet.tail h2
  have h4 := laidMet.tail h3
  have t64 : Lib.TabIs Tryd.prog W "math/bits.deBruijn64tab" .u8 (Lib.deBruijn64tab.map fun n : Nat => (n : Int)) := Lib.tabIs_of_head g64 ty64 Tryd.underlying74 Tryd.underlying5 c5 c74 h1
  have tP : Lib.TabIs Tryd.prog W "internal/strconv.uint64pow10" .u64 Lib.pow10Tab := Lib.tabIs_of_head g_pow tyP Tryd.underlying89 Tryd.underlying22 c22 c89 h2
  obtain ⟨a1, s1, hv1, -, -, -⟩ := laid_sentinel h3 g_rng tyR Tryd.underlying52 row95 Tryd.underlying95 Tryd.underlying97 rfl rfl Tryd.underlying9 c97 c9
  obtain ⟨a2, s2, hv2, -, -, -⟩ := laid_sentinel h4 g_syn tyS Tryd.underlying52 row95 Tryd.underlying95 Tryd.underlying97 rfl rfl Tryd.underlying9 c97 c9
  refine ⟨tP, fun j hj => ?_, ⟨_, _, hv2⟩, ⟨_, _, hv1⟩, var_lt g_pow tP⟩
  have := t64.cell g64 j (by simpa using hj)
  rw [this]
  simp [List.getD_eq_getElem?_getD, List.getElem?_eq_getElem hj]
end Go.Proofs.YtjdnneomkocghaaDoor.Laid
