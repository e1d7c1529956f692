import Derived.Test.YtgklmecijeadlaaGreatDoorAT
import Derived.Test.YtgklmecijeadlaaGreatDoorA35
set_option linter.unusedSimpArgs false
set_option linter.unusedVariables false
namespace Go.Proofs.YtgklmecijeadlaaGreatDoor
open Ab
set_option maxRecDepth 100000

/-! the tables of this seat -/
def words : List (List UInt8) := [[], [105, 100], [], [], [], [], [], [], [116, 111, 116, 101, 120, 116], [116, 111, 110, 117, 109], [115, 117, 109], [99, 111, 117, 110, 116]]
def globT : Nat → Option (List AV) := fun g => bif Nat.beq g 2 then some (words.map .str) else none
def exts : List (FuncId × (List AV → St → Option (ER × St))) := [(102, extIdx), (126, extSame), (188, extMake 5)]
noncomputable def tab : Tab := tabOf fnsT tysT globT (extOf exts) eqsT (fun _ => false)
theorem tab_ok : TabOk tab Tryz.prog := tabOk treesOk _ _ _

theorem ext_ok : ExtOk tab Tryz.prog := by
  refine extOf_ok (l := exts) ?_
  intro p hp
  simp only [exts, List.mem_cons, List.mem_nil_iff, or_false] at hp
  rcases hp with rfl | rfl | rfl
  · refine extIdx_ok fun s c w => ?_
    rw [run_callFunc_extern Tryz.func102 (by kernel_rfl) (by kernel_rfl) (by kernel_rfl) (e := Extern.BytealgIndexByte.indexByte) (by kernel_rfl), Lib.run_indexByteString]
    rfl
  · refine extSame_ok fun v w => ?_
    rw [run_callFunc_extern Tryz.func126 (by kernel_rfl) (by kernel_rfl) (by kernel_rfl) (e := Extern.AbiNoEscape.same) (by kernel_rfl), Lib.run_noEscape]
    rfl
  · refine extMake_ok (by kernel_rfl) fun n w hn => ?_
    obtain ⟨cs, h1, h2, _⟩ := Lib.run_makeNoZero (P := Tryz.prog) w #[3] 182 5 Tryz.underlying182 n hn
    refine ⟨cs, ?_, h2⟩
    rw [run_callFunc_extern Tryz.func188 (by kernel_rfl) (by kernel_rfl) (by kernel_rfl) (e := Extern.BytealgMakeNoZero.makeNoZero #[3] #[182]) (by kernel_rfl), h1]
    rfl

def isTrue : Option (ER × St) → Bool
  | some (.ret (.bool b), _) => b
  | _ => false
theorem isTrue_iff {r : Option (ER × St)} (h : isTrue r = true) : ∃ σ, r = some (.ret (.bool true), σ) := by
  unfold isTrue at h
  split at h
  · subst h; exact ⟨_, rfl⟩
  · cases h
end Go.Proofs.YtgklmecijeadlaaGreatDoor
