/- The law DecodeSome returns true of every argument: a word that is an instruction has its operation's opcode, and an ignored bit of a fence turns nothing. No condition. -/
import Derived.Test.YtipdancojcdioaaPlL06
import Derived.Test.YtipdancojcdioaaConDe
import Derived.Test.YtipdancojcdioaaRows
import Derived.Test.YtipdancojcdioaaEvR
import Derived.WalkKit
import Derived.ProofKit
import Derived.OpenShut
import Derived.ShutString
import Derived.SizedLaws
namespace Go.Proofs.Ytipdancojcdioaa.decodeSome
open Go Go.Ev Go.Sh Go.RowKit Go.ChangeShapes Go.WideShapes Go.ChangeAt
set_option linter.unusedVariables false


theorem hc : s14 = ⟨[.ty (.int .u32), .ty (.int .u32)], [].map fun t => ⟨false, .many t⟩, ⟨[(0, .ty .bool)], [], [], []⟩⟩ := by kernel_rfl
theorem hy (x0 : (Ty.int .u32).den) (x1 : (Ty.int .u32).den) (g0 : (Ty.int .u32).wf x0) (g1 : (Ty.int .u32).wf x1) : f14 (100) (x0, x1) = some true := (F14_eq 100 x0 x1).trans (L_DecodeSome x0 x1 g0 g1)
theorem ev (x0 : (Ty.int .u32).den) (x1 : (Ty.int .u32).den) (g0 : (Ty.int .u32).wf x0) (g1 : (Ty.int .u32).wf x1) {r : RM} {H : Heap} {us : List AV}
    (l : LIn H r [.ty (.int .u32), .ty (.int .u32)] [⟨.ty (Ty.int .u32), x0⟩, ⟨.ty (Ty.int .u32), x1⟩] us [] []) : ∃ n H', evF TBDe n 14 us H = some (.bool true, H') :=
  law_ev2 (sg := s14) (fn := f14) gc14 hc (hy x0 x1 g0 g1) l rfl rfl

theorem own : ownKnob Try.prog.godebug = none := by kernel_rfl
theorem laidOut : laidOutB Try.prog = true := by kernel_rfl

set_option maxRecDepth 100000 in
theorem lifted (os : Os) (started : os.Started) (H : Type) (enc : TypeId × Value → H) :
    ReturnsInHanded {} Try.checked os 14 .any (Rows.decodeSomeSpec.pre6 enc Try.prog Try.f14 Rows.decodeSomeRow.domain false) (Rows.decodeSomeSpec.post enc Try.prog Try.f14 false true false false) := by
  refine returnsInHanded_of_change_sized (C := Try.checked) own started (by kernel_rfl) Try.func14
    (ChangeSpec.witness6 (enc := enc) (C := Try.checked) false ⟨#[], #[.int .u32 0, .int .u32 0], []⟩ 8 (by kernel_rfl) (by kernel_rfl) (by kernel_rfl) (by kernel_rfl)) ?_
  intro W base args ds gs before hval0 hW hcnd hsz _
  have hval : ∀ (j : Nat) t v, Try.f14.params[j]? = some t → args[j]? = some v → Value.okWide Try.prog W .any base t v := hval0
  have hW' := hW
  obtain ⟨p, q, hA0, hV, rfl, hfz, hnd⟩ := hW
  have hA : DataW.TrodAll enc Try.prog W 0 (fun _ => true) true Try.f14.params.toList args.toList ds p := hA0
  have hA1 := hA
  rw [Try.params14] at hA hval
  obtain ⟨v0, vs0, d0, ds0, p0, q0, hargs, rfl, rfl, h0, r0⟩ := trodAll_cons hA
  obtain ⟨v1, vs1, d1, ds1, p1, q1, rfl, rfl, rfl, h1, r1⟩ := trodAll_cons r0
  obtain ⟨rfl, rfl, rfl⟩ := trodAll_nil r1
  obtain rfl : args = #[v0, v1] := by cases args; simp_all
  obtain ⟨rfl, rfl⟩ := trodVars_none hV
  have b0 : Base (fun _ => none) Heap.empty W := Base.empty W
  have l0 := LIn.empty
  obtain ⟨x0, rfl, rfl, rfl, g0⟩ := open_int Try.underlying73 (hval 0 73 v0 rfl rfl) h0
  have l1 := l0.val (.int .u32) x0
  obtain ⟨x1, rfl, rfl, rfl, g1⟩ := open_int Try.underlying73 (hval 1 73 v1 rfl rfl) h1
  have l2 := l1.val (.int .u32) x1
  obtain ⟨n, hev⟩ := ev x0 x1 g0 g1 l2
  refine (law_call (w := W) (args := [.int .u32 x0, .int .u32 x1]) (avs := [.int .u32 x0, .int .u32 x1]) goodTabDe Try.checked.mixed b0 ⟨_, _, rfl, rfl, ⟨_, _, rfl, rfl, rfl⟩⟩ hev).mono fun e W' ⟨he, bel⟩ => ?_
  subst he
  exact ⟨_, rfl, _, [], _, [], _, [], hW', trodAll_mk1 (shut_bool Try.underlying4 _), trodAll_below laidOut bel (by kernel_rfl) hA1, rfl, bel.frame _, fun h => by cases h⟩

theorem over : Rows.decodeSomeRow.holds Try.pinned (OpenSpec.ofChange Rows.decodeSomeSpec) :=
  OpenClaim.holds_of_wide 14 Try.f14 rfl rfl rfl rfl rfl rfl rfl ⟨rfl, rfl, rfl, rfl, rfl⟩ rfl rfl rfl rfl rfl (by kernel_rfl) Try.func14 (by kernel_rfl)
    (of_decide_eq_true (by kernel_rfl)) (by unfold Func.isWrapper; first | (rw [if_pos (by decide +kernel)]; kernel_rfl) | (rw [if_neg (by decide +kernel)]; exact ⟨rfl, rfl⟩))
    (fun os started H enc _ => lifted os started H enc)

/-- THE STATEMENT -/
theorem proved : Rows.DecodeSomeSaid :=
  over
#print axioms proved
end Go.Proofs.Ytipdancojcdioaa.decodeSome
