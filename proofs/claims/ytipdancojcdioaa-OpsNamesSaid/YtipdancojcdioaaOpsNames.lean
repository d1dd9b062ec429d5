/- The law OpsNames returns true of every argument: the operation of every name is the document's. No condition. -/
import Derived.Test.YtipdancojcdioaaOnA
import Derived.Test.YtipdancojcdioaaConOn
import Derived.Test.YtipdancojcdioaaShU
import Derived.Test.YtipdancojcdioaaRows
import Derived.Test.YtipdancojcdioaaEvR
import Derived.WalkKit
import Derived.ProofKit
import Derived.OpenShut
import Derived.ShutString
import Derived.SizedLaws
namespace Go.Proofs.Ytipdancojcdioaa.opsNames
open Go Go.Ev Go.Sh Go.RowKit Go.ChangeShapes Go.WideShapes Go.ChangeAt
set_option linter.unusedVariables false


theorem hc : s5 = ⟨[.ty .str, .ty (.int .i64)], [].map fun t => ⟨false, .many t⟩, ⟨[(0, .ty .bool)], [], [], []⟩⟩ := by kernel_rfl
theorem hy (x0 : (Ty.str).den) (x1 : (Ty.int .i64).den) (g0 : (Ty.str).wf x0) (g1 : (Ty.int .i64).wf x1) : f5 (100) (x0, x1) = some true := (F5_eq 100 x0 x1).trans (F5_is x0 x1)
theorem ev (x0 : (Ty.str).den) (x1 : (Ty.int .i64).den) (g0 : (Ty.str).wf x0) (g1 : (Ty.int .i64).wf x1) {r : RM} {H : Heap} {us : List AV}
    (l : LIn H r [.ty .str, .ty (.int .i64)] [⟨.ty (Ty.str), x0⟩, ⟨.ty (Ty.int .i64), x1⟩] us [] []) : ∃ n H', evF TBOn n 5 us H = some (.bool true, H') :=
  law_ev2 (sg := s5) (fn := f5) gc5 hc (hy x0 x1 g0 g1) l rfl rfl

theorem own : ownKnob Try.prog.godebug = none := by kernel_rfl
theorem laidOut : laidOutB Try.prog = true := by kernel_rfl

set_option maxRecDepth 100000 in
theorem lifted (os : Os) (started : os.Started) (H : Type) (enc : TypeId × Value → H) :
    ReturnsInHanded {} Try.checked os 5 .any (Rows.opsNamesSpec.pre6 enc Try.prog Try.f5 Rows.opsNamesRow.domain false) (Rows.opsNamesSpec.post enc Try.prog Try.f5 false true false false) := by
  refine returnsInHanded_of_change_sized (C := Try.checked) own started (by kernel_rfl) Try.func5
    (ChangeSpec.witness6 (enc := enc) (C := Try.checked) false ⟨#[], #[.string ⟨#[]⟩, .int .i64 0], []⟩ 8 (by kernel_rfl) (by kernel_rfl) (by kernel_rfl) (by kernel_rfl)) ?_
  intro W base args ds gs before hval0 hW hcnd hsz _
  have hval : ∀ (j : Nat) t v, Try.f5.params[j]? = some t → args[j]? = some v → Value.okWide Try.prog W .any base t v := hval0
  have hW' := hW
  obtain ⟨p, q, hA0, hV, rfl, hfz, hnd⟩ := hW
  have hA : DataW.TrodAll enc Try.prog W 0 (fun _ => true) true Try.f5.params.toList args.toList ds p := hA0
  have hA1 := hA
  rw [Try.params5] at hA hval
  obtain ⟨v0, vs0, d0, ds0, p0, q0, hargs, rfl, rfl, h0, r0⟩ := trodAll_cons hA
  obtain ⟨v1, vs1, d1, ds1, p1, q1, rfl, rfl, rfl, h1, r1⟩ := trodAll_cons r0
  obtain ⟨rfl, rfl, rfl⟩ := trodAll_nil r1
  obtain rfl : args = #[v0, v1] := by cases args; simp_all
  obtain ⟨rfl, rfl⟩ := trodVars_none hV
  have b0 : Base (fun _ => none) Heap.empty W := Base.empty W
  have l0 := LIn.empty
  obtain ⟨x0, g0, e0⟩ := imp_str Try.underlying9 (hval 0 9 v0 rfl rfl) h0
  have l1 := l0.val .str x0
  obtain ⟨x1, rfl, rfl, rfl, g1⟩ := open_int Try.underlying3 (hval 1 3 v1 rfl rfl) h1
  have l2 := l1.val (.int .i64) x1
  obtain ⟨n, hev⟩ := ev x0 x1 g0 g1 l2
  refine (law_call (w := W) (args := [v0, .int .i64 x1]) (avs := [.str x0, .int .i64 x1]) goodTabOn Try.checked.mixed b0 ⟨_, _, rfl, (e0 _), ⟨_, _, rfl, rfl, rfl⟩⟩ hev).mono fun e W' ⟨he, bel⟩ => ?_
  subst he
  exact ⟨_, rfl, _, [], _, [], _, [], hW', trodAll_mk1 (shut_bool Try.underlying4 _), trodAll_below laidOut bel (by kernel_rfl) hA1, rfl, bel.frame _, fun h => by cases h⟩

theorem over : Rows.opsNamesRow.holds Try.pinned (OpenSpec.ofChange Rows.opsNamesSpec) :=
  OpenClaim.holds_of_wide 5 Try.f5 rfl rfl rfl rfl rfl rfl rfl ⟨rfl, rfl, rfl, rfl, rfl⟩ rfl rfl rfl rfl rfl (by kernel_rfl) Try.func5 (by kernel_rfl)
    (of_decide_eq_true (by kernel_rfl)) (by unfold Func.isWrapper; first | (rw [if_pos (by decide +kernel)]; kernel_rfl) | (rw [if_neg (by decide +kernel)]; exact ⟨rfl, rfl⟩))
    (fun os started H enc _ => lifted os started H enc)

/-- THE STATEMENT -/
theorem proved : Rows.OpsNamesSaid :=
  over
#print axioms proved
end Go.Proofs.Ytipdancojcdioaa.opsNames
