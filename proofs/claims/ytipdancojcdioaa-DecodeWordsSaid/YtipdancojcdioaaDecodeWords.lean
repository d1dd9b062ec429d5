/- The law DecodeWords returns true of every argument: every word's instruction, or that it is illegal, is the document's, also with each bit turned. No condition. -/
import Derived.Test.YtipdancojcdioaaPlL06
import Derived.Test.YtipdancojcdioaaConDe
import Derived.Test.YtipdancojcdioaaRows
import Derived.Test.YtipdancojcdioaaEvR
import Derived.WalkKit
import Derived.ProofKit
import Derived.OpenShut
import Derived.ShutString
import Derived.SizedLaws
namespace Go.Proofs.Ytipdancojcdioaa.decodeWords
open Go Go.Ev Go.Sh Go.RowKit Go.ChangeShapes Go.WideShapes Go.ChangeAt
set_option linter.unusedVariables false


theorem hc : s11 = ⟨[.ty (.int .u32)], [].map fun t => ⟨false, .many t⟩, ⟨[(0, .ty .bool)], [], [], []⟩⟩ := by kernel_rfl
theorem hy (x0 : (Ty.int .u32).den) (g0 : (Ty.int .u32).wf x0) : f11 (100) (x0) = some true := (F11_eq 100 x0).trans (L_DecodeWords x0 g0)
theorem ev (x0 : (Ty.int .u32).den) (g0 : (Ty.int .u32).wf x0) {r : RM} {H : Heap} {us : List AV}
    (l : LIn H r [.ty (.int .u32)] [⟨.ty (Ty.int .u32), x0⟩] us [] []) : ∃ n H', evF TBDe n 11 us H = some (.bool true, H') :=
  law_ev2 (sg := s11) (fn := f11) gc11 hc (hy x0 g0) l rfl rfl

theorem own : ownKnob Try.prog.godebug = none := by kernel_rfl
theorem laidOut : laidOutB Try.prog = true := by kernel_rfl

set_option maxRecDepth 100000 in
theorem lifted (os : Os) (started : os.Started) (H : Type) (enc : TypeId × Value → H) :
    ReturnsInHanded {} Try.checked os 11 .any (Rows.decodeWordsSpec.pre6 enc Try.prog Try.f11 Rows.decodeWordsRow.domain false) (Rows.decodeWordsSpec.post enc Try.prog Try.f11 false true false false) := by
  refine returnsInHanded_of_change_sized (C := Try.checked) own started (by kernel_rfl) Try.func11
    (ChangeSpec.witness6 (enc := enc) (C := Try.checked) false ⟨#[], #[.int .u32 0], []⟩ 8 (by kernel_rfl) (by kernel_rfl) (by kernel_rfl) (by kernel_rfl)) ?_
  intro W base args ds gs before hval0 hW hcnd hsz _
  have hval : ∀ (j : Nat) t v, Try.f11.params[j]? = some t → args[j]? = some v → Value.okWide Try.prog W .any base t v := hval0
  have hW' := hW
  obtain ⟨p, q, hA0, hV, rfl, hfz, hnd⟩ := hW
  have hA : DataW.TrodAll enc Try.prog W 0 (fun _ => true) true Try.f11.params.toList args.toList ds p := hA0
  have hA1 := hA
  rw [Try.params11] at hA hval
  obtain ⟨v0, vs0, d0, ds0, p0, q0, hargs, rfl, rfl, h0, r0⟩ := trodAll_cons hA
  obtain ⟨rfl, rfl, rfl⟩ := trodAll_nil r0
  obtain rfl : args = #[v0] := by cases args; simp_all
  obtain ⟨rfl, rfl⟩ := trodVars_none hV
  have b0 : Base (fun _ => none) Heap.empty W := Base.empty W
  have l0 := LIn.empty
  obtain ⟨x0, rfl, rfl, rfl, g0⟩ := open_int Try.underlying73 (hval 0 73 v0 rfl rfl) h0
  have l1 := l0.val (.int .u32) x0
  obtain ⟨n, hev⟩ := ev x0 g0 l1
  refine (law_call (w := W) (args := [.int .u32 x0]) (avs := [.int .u32 x0]) goodTabDe Try.checked.mixed b0 ⟨_, _, rfl, rfl, rfl⟩ hev).mono fun e W' ⟨he, bel⟩ => ?_
  subst he
  exact ⟨_, rfl, _, [], _, [], _, [], hW', trodAll_mk1 (shut_bool Try.underlying4 _), trodAll_below laidOut bel (by kernel_rfl) hA1, rfl, bel.frame _, fun h => by cases h⟩

theorem over : Rows.decodeWordsRow.holds Try.pinned (OpenSpec.ofChange Rows.decodeWordsSpec) :=
  OpenClaim.holds_of_wide 11 Try.f11 rfl rfl rfl rfl rfl rfl rfl ⟨rfl, rfl, rfl, rfl, rfl⟩ rfl rfl rfl rfl rfl (by kernel_rfl) Try.func11 (by kernel_rfl)
    (of_decide_eq_true (by kernel_rfl)) (by unfold Func.isWrapper; first | (rw [if_pos (by decide +kernel)]; kernel_rfl) | (rw [if_neg (by decide +kernel)]; exact ⟨rfl, rfl⟩))
    (fun os started H enc _ => lifted os started H enc)

/-- THE STATEMENT -/
theorem proved : Rows.DecodeWordsSaid :=
  over
#print axioms proved
end Go.Proofs.Ytipdancojcdioaa.decodeWords
