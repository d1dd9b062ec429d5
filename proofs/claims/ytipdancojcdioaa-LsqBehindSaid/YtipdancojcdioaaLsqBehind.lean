/- The law LsqBehind returns true of every argument: what is behind a load or a fence does not count. No condition. -/
import Derived.Test.YtipdancojcdioaaLbE
import Derived.Test.YtipdancojcdioaaConLb
import Derived.Test.YtipdancojcdioaaRows
import Derived.Test.YtipdancojcdioaaEvR
import Derived.WalkKit
import Derived.ProofKit
import Derived.OpenShut
import Derived.ShutString
import Derived.SizedLaws
namespace Go.Proofs.Ytipdancojcdioaa.lsqBehind
open Go Go.Ev Go.Sh Go.RowKit Go.ChangeShapes Go.WideShapes Go.ChangeAt
set_option linter.unusedVariables false


theorem hc : s10 = ⟨[.sla 0 .any, .ty (.int .u8), .ty .bool], [Ty.pair (.int .i64) (.pair (.int .i64) (.pair (.int .i64) (.pair .bool (.pair (.int .i64) (.pair .bool (.pair (.int .i64) (.pair .bool (.pair (.int .u64) (.pair .bool (.arr 8 (.int .i64)))))))))))].map fun t => ⟨false, .many t⟩, ⟨[(0, .ty .bool)], [], [], []⟩⟩ := by kernel_rfl
theorem hy (x0 : List (Ty.pair (.int .i64) (.pair (.int .i64) (.pair (.int .i64) (.pair .bool (.pair (.int .i64) (.pair .bool (.pair (.int .i64) (.pair .bool (.pair (.int .u64) (.pair .bool (.arr 8 (.int .i64)))))))))))).den) (x1 : (Ty.int .u8).den) (x2 : (Ty.bool).den) (g0 : ∀ x ∈ x0, (Ty.pair (.int .i64) (.pair (.int .i64) (.pair (.int .i64) (.pair .bool (.pair (.int .i64) (.pair .bool (.pair (.int .i64) (.pair .bool (.pair (.int .u64) (.pair .bool (.arr 8 (.int .i64)))))))))))).wf x) {len0 : Nat} (n0 : x0.length = len0) (m0 : len0 ≤ maxLen) (g1 : (Ty.int .u8).wf x1) : f10 (100) (x1, x2, x0) = some true := (F10_eq 100 x1 x2 x0).trans (F10_is (u8_wf1 g1).1 (u8_wf1 g1).2)
theorem ev (x0 : List (Ty.pair (.int .i64) (.pair (.int .i64) (.pair (.int .i64) (.pair .bool (.pair (.int .i64) (.pair .bool (.pair (.int .i64) (.pair .bool (.pair (.int .u64) (.pair .bool (.arr 8 (.int .i64)))))))))))).den) (x1 : (Ty.int .u8).den) (x2 : (Ty.bool).den) (g0 : ∀ x ∈ x0, (Ty.pair (.int .i64) (.pair (.int .i64) (.pair (.int .i64) (.pair .bool (.pair (.int .i64) (.pair .bool (.pair (.int .i64) (.pair .bool (.pair (.int .u64) (.pair .bool (.arr 8 (.int .i64)))))))))))).wf x) {len0 : Nat} (n0 : x0.length = len0) (m0 : len0 ≤ maxLen) (g1 : (Ty.int .u8).wf x1) {r : RM} {H : Heap} {us : List AV}
    (l : LIn H r [.sla 0 .any, .ty (.int .u8), .ty .bool] [⟨.ty (Ty.int .u8), x1⟩, ⟨.ty (Ty.bool), x2⟩] us [Ty.pair (.int .i64) (.pair (.int .i64) (.pair (.int .i64) (.pair .bool (.pair (.int .i64) (.pair .bool (.pair (.int .i64) (.pair .bool (.pair (.int .u64) (.pair .bool (.arr 8 (.int .i64)))))))))))] [⟨.lst (Ty.pair (.int .i64) (.pair (.int .i64) (.pair (.int .i64) (.pair .bool (.pair (.int .i64) (.pair .bool (.pair (.int .i64) (.pair .bool (.pair (.int .u64) (.pair .bool (.arr 8 (.int .i64)))))))))))), x0⟩]) : ∃ n H', evF TBLb n 10 us H = some (.bool true, H') :=
  law_ev2 (sg := s10) (fn := f10) gc10 hc (hy x0 x1 x2 g0 n0 m0 g1) l rfl rfl

theorem own : ownKnob Try.prog.godebug = none := by kernel_rfl
theorem laidOut : laidOutB Try.prog = true := by kernel_rfl

set_option maxRecDepth 100000 in
theorem lifted (os : Os) (started : os.Started) (H : Type) (enc : TypeId × Value → H) :
    ReturnsInHanded {} Try.checked os 10 .any (Rows.lsqBehindSpec.pre6 enc Try.prog Try.f10 Rows.lsqBehindRow.domain false) (Rows.lsqBehindSpec.post enc Try.prog Try.f10 false true false false) := by
  refine returnsInHanded_of_change_sized (C := Try.checked) own started (by kernel_rfl) Try.func10
    (ChangeSpec.witness6 (enc := enc) (C := Try.checked) false ⟨#[], #[.slice none 0 0, .int .u8 0, .bool false], []⟩ 8 (by kernel_rfl) (by kernel_rfl) (by kernel_rfl) (by kernel_rfl)) ?_
  intro W base args ds gs before hval0 hW hcnd hsz _
  have hval : ∀ (j : Nat) t v, Try.f10.params[j]? = some t → args[j]? = some v → Value.okWide Try.prog W .any base t v := hval0
  have hW' := hW
  obtain ⟨p, q, hA0, hV, rfl, hfz, hnd⟩ := hW
  have hA : DataW.TrodAll enc Try.prog W 0 (fun _ => true) true Try.f10.params.toList args.toList ds p := hA0
  have hA1 := hA
  rw [Try.params10] at hA hval
  obtain ⟨v0, vs0, d0, ds0, p0, q0, hargs, rfl, rfl, h0, r0⟩ := trodAll_cons hA
  obtain ⟨v1, vs1, d1, ds1, p1, q1, rfl, rfl, rfl, h1, r1⟩ := trodAll_cons r0
  obtain ⟨v2, vs2, d2, ds2, p2, q2, rfl, rfl, rfl, h2, r2⟩ := trodAll_cons r1
  obtain ⟨rfl, rfl, rfl⟩ := trodAll_nil r2
  obtain rfl : args = #[v0, v1, v2] := by cases args; simp_all
  obtain ⟨rfl, rfl⟩ := trodVars_none hV
  have b0 : Base (fun _ => none) Heap.empty W := Base.empty W
  have l0 := LIn.empty
  obtain ⟨j1, H1, s0, a0, len0, y1, b1, e0, w0, m0⟩ := imp_sl (ks := (Ty.pair (.int .i64) (.pair (.int .i64) (.pair (.int .i64) (.pair .bool (.pair (.int .i64) (.pair .bool (.pair (.int .i64) (.pair .bool (.pair (.int .u64) (.pair .bool (.arr 8 (.int .i64)))))))))))).lks) 12 Try.underlying66 (by kernel_rfl) (by kernel_rfl) (hval 0 66 v0 rfl rfl) h0 b0
  obtain ⟨rm1, x0, n0, g0, l1⟩ := l0.sl (t := Ty.pair (.int .i64) (.pair (.int .i64) (.pair (.int .i64) (.pair .bool (.pair (.int .i64) (.pair .bool (.pair (.int .i64) (.pair .bool (.pair (.int .u64) (.pair .bool (.arr 8 (.int .i64)))))))))))) (by decide) w0
  obtain ⟨x1, rfl, rfl, rfl, g1⟩ := open_int Try.underlying5 (hval 1 5 v1 rfl rfl) h1
  have l2 := l1.val (.int .u8) x1
  obtain ⟨x2, rfl, rfl, rfl⟩ := open_bool Try.underlying4 (hval 2 4 v2 rfl rfl) h2
  have l3 := l2.val .bool x2
  obtain ⟨n, hev⟩ := ev x0 x1 x2 g0 n0 m0 g1 l3
  refine (law_call (w := W) (args := [v0, .int .u8 x1, .bool x2]) (avs := [s0, .int .u8 x1, .bool x2]) goodTabLb Try.checked.mixed b1 ⟨_, _, rfl, e0, ⟨_, _, rfl, rfl, ⟨_, _, rfl, rfl, rfl⟩⟩⟩ hev).mono fun e W' ⟨he, bel⟩ => ?_
  subst he
  exact ⟨_, rfl, _, [], _, [], _, [], hW', trodAll_mk1 (shut_bool Try.underlying4 _), trodAll_below laidOut bel (by kernel_rfl) hA1, rfl, bel.frame _, fun h => by cases h⟩

theorem over : Rows.lsqBehindRow.holds Try.pinned (OpenSpec.ofChange Rows.lsqBehindSpec) :=
  OpenClaim.holds_of_wide 10 Try.f10 rfl rfl rfl rfl rfl rfl rfl ⟨rfl, rfl, rfl, rfl, rfl⟩ rfl rfl rfl rfl rfl (by kernel_rfl) Try.func10 (by kernel_rfl)
    (of_decide_eq_true (by kernel_rfl)) (by unfold Func.isWrapper; first | (rw [if_pos (by decide +kernel)]; kernel_rfl) | (rw [if_neg (by decide +kernel)]; exact ⟨rfl, rfl⟩))
    (fun os started H enc _ => lifted os started H enc)

/-- THE STATEMENT -/
theorem proved : Rows.LsqBehindSaid :=
  over
#print axioms proved
end Go.Proofs.Ytipdancojcdioaa.lsqBehind
