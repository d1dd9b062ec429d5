/- The law NamesUndone returns true of every argument: a cell is always free, and what is claimed and undone leaves each cell as it was. No condition. -/
import Derived.Test.YtipdancojcdioaaNmD
import Derived.Test.YtipdancojcdioaaConNm
import Derived.Test.YtipdancojcdioaaRows
import Derived.Test.YtipdancojcdioaaEvR
import Derived.WalkKit
import Derived.ProofKit
import Derived.OpenShut
import Derived.ShutString
import Derived.SizedLaws
namespace Go.Proofs.Ytipdancojcdioaa.namesUndone
open Go Go.Ev Go.Sh Go.RowKit Go.ChangeShapes Go.WideShapes Go.ChangeAt
set_option linter.unusedVariables false


theorem hc : s3 = ⟨[.ty (Ty.arr 32 (.int .u64)), .sla 0 .any, .sla 1 .any], [Ty.pair (.int .i64) (.pair (.int .i64) (.int .u64)), Ty.int .u8].map fun t => ⟨false, .many t⟩, ⟨[(0, .ty .bool)], [], [], []⟩⟩ := by kernel_rfl
theorem hy (x0 : (Ty.arr 32 (.int .u64)).den) (x1 : List (Ty.pair (.int .i64) (.pair (.int .i64) (.int .u64))).den) (x2 : List (Ty.int .u8).den) (g0 : (Ty.arr 32 (.int .u64)).wf x0) (g1 : ∀ x ∈ x1, (Ty.pair (.int .i64) (.pair (.int .i64) (.int .u64))).wf x) {len1 : Nat} (n1 : x1.length = len1) (m1 : len1 ≤ maxLen) (g2 : ∀ x ∈ x2, (Ty.int .u8).wf x) {len2 : Nat} (n2 : x2.length = len2) (m2 : len2 ≤ maxLen) : f3 (x2.length + 100) (x0, x1, x2) = some true := (F3_eq (x2.length + 100) x0 x1 x2).trans (F3_is g0.1 (u8_wf g2) (by rw [n2]; exact m2))
theorem ev (x0 : (Ty.arr 32 (.int .u64)).den) (x1 : List (Ty.pair (.int .i64) (.pair (.int .i64) (.int .u64))).den) (x2 : List (Ty.int .u8).den) (g0 : (Ty.arr 32 (.int .u64)).wf x0) (g1 : ∀ x ∈ x1, (Ty.pair (.int .i64) (.pair (.int .i64) (.int .u64))).wf x) {len1 : Nat} (n1 : x1.length = len1) (m1 : len1 ≤ maxLen) (g2 : ∀ x ∈ x2, (Ty.int .u8).wf x) {len2 : Nat} (n2 : x2.length = len2) (m2 : len2 ≤ maxLen) {r : RM} {H : Heap} {us : List AV}
    (l : LIn H r [.ty (Ty.arr 32 (.int .u64)), .sla 0 .any, .sla 1 .any] [⟨.ty (Ty.arr 32 (.int .u64)), x0⟩] us [Ty.pair (.int .i64) (.pair (.int .i64) (.int .u64)), Ty.int .u8] [⟨.lst (Ty.pair (.int .i64) (.pair (.int .i64) (.int .u64))), x1⟩, ⟨.lst (Ty.int .u8), x2⟩]) : ∃ n H', evF TBNm n 3 us H = some (.bool true, H') :=
  law_ev2 (sg := s3) (fn := f3) gc3 hc (hy x0 x1 x2 g0 g1 n1 m1 g2 n2 m2) l rfl rfl

theorem own : ownKnob Try.prog.godebug = none := by kernel_rfl
theorem laidOut : laidOutB Try.prog = true := by kernel_rfl

set_option maxRecDepth 100000 in
theorem lifted (os : Os) (started : os.Started) (H : Type) (enc : TypeId × Value → H) :
    ReturnsInHanded {} Try.checked os 3 .any (Rows.namesUndoneSpec.pre6 enc Try.prog Try.f3 Rows.namesUndoneRow.domain false) (Rows.namesUndoneSpec.post enc Try.prog Try.f3 false true false false) := by
  refine returnsInHanded_of_change_sized (C := Try.checked) own started (by kernel_rfl) Try.func3
    (ChangeSpec.witness6 (enc := enc) (C := Try.checked) false ⟨#[], #[.agg (zeroOf (Ty.arr 32 (.int .u64)).lks).toArray, .slice none 0 0, .slice none 0 0], []⟩ 8 (by kernel_rfl) (by kernel_rfl) (by kernel_rfl) (by kernel_rfl)) ?_
  intro W base args ds gs before hval0 hW hcnd hsz _
  have hval : ∀ (j : Nat) t v, Try.f3.params[j]? = some t → args[j]? = some v → Value.okWide Try.prog W .any base t v := hval0
  have hW' := hW
  obtain ⟨p, q, hA0, hV, rfl, hfz, hnd⟩ := hW
  have hA : DataW.TrodAll enc Try.prog W 0 (fun _ => true) true Try.f3.params.toList args.toList ds p := hA0
  have hA1 := hA
  rw [Try.params3] at hA hval
  obtain ⟨v0, vs0, d0, ds0, p0, q0, hargs, rfl, rfl, h0, r0⟩ := trodAll_cons hA
  obtain ⟨v1, vs1, d1, ds1, p1, q1, rfl, rfl, rfl, h1, r1⟩ := trodAll_cons r0
  obtain ⟨v2, vs2, d2, ds2, p2, q2, rfl, rfl, rfl, h2, r2⟩ := trodAll_cons r1
  obtain ⟨rfl, rfl, rfl⟩ := trodAll_nil r2
  obtain rfl : args = #[v0, v1, v2] := by cases args; simp_all
  obtain ⟨rfl, rfl⟩ := trodVars_none hV
  have b0 : Base (fun _ => none) Heap.empty W := Base.empty W
  have l0 := LIn.empty
  obtain ⟨a0, e0, w0⟩ := imp_row (ks := (Ty.arr 32 (.int .u64)).lks) 12 (by kernel_rfl) (by kernel_rfl) (hval 0 23 v0 rfl rfl) h0
  obtain ⟨x0, rfl, g0⟩ := row_ty (Ty.arr 32 (.int .u64)) a0 w0
  have l1 := l0.val (Ty.arr 32 (.int .u64)) x0
  obtain ⟨j1, H1, s1, a1, len1, y1, b1, e1, w1, m1⟩ := imp_sl (ks := (Ty.pair (.int .i64) (.pair (.int .i64) (.int .u64))).lks) 12 Try.underlying24 (by kernel_rfl) (by kernel_rfl) (hval 1 24 v1 rfl rfl) h1 b0
  obtain ⟨rm1, x1, n1, g1, l2⟩ := l1.sl (t := Ty.pair (.int .i64) (.pair (.int .i64) (.int .u64))) (by decide) w1
  obtain ⟨j2, H2, s2, a2, len2, y2, b2, e2, w2, m2⟩ := imp_sl (ks := (Ty.int .u8).lks) 12 Try.underlying25 (by kernel_rfl) (by kernel_rfl) (hval 2 25 v2 rfl rfl) h2 b1
  obtain ⟨rm2, x2, n2, g2, l3⟩ := l2.sl (t := Ty.int .u8) (by decide) w2
  obtain ⟨n, hev⟩ := ev x0 x1 x2 g0 g1 n1 m1 g2 n2 m2 l3
  refine (law_call (w := W) (args := [v0, v1, v2]) (avs := [.agg ((Ty.arr 32 (.int .u64)).cells x0), s1, s2]) goodTabNm Try.checked.mixed b2 ⟨_, _, rfl, (e0 _), ⟨_, _, rfl, (VR.mono y2 e1), ⟨_, _, rfl, e2, rfl⟩⟩⟩ hev).mono fun e W' ⟨he, bel⟩ => ?_
  subst he
  exact ⟨_, rfl, _, [], _, [], _, [], hW', trodAll_mk1 (shut_bool Try.underlying4 _), trodAll_below laidOut bel (by kernel_rfl) hA1, rfl, bel.frame _, fun h => by cases h⟩

theorem over : Rows.namesUndoneRow.holds Try.pinned (OpenSpec.ofChange Rows.namesUndoneSpec) :=
  OpenClaim.holds_of_wide 3 Try.f3 rfl rfl rfl rfl rfl rfl rfl ⟨rfl, rfl, rfl, rfl, rfl⟩ rfl rfl rfl rfl rfl (by kernel_rfl) Try.func3 (by kernel_rfl)
    (of_decide_eq_true (by kernel_rfl)) (by unfold Func.isWrapper; first | (rw [if_pos (by decide +kernel)]; kernel_rfl) | (rw [if_neg (by decide +kernel)]; exact ⟨rfl, rfl⟩))
    (fun os started H enc _ => lifted os started H enc)

/-- THE STATEMENT -/
theorem proved : Rows.NamesUndoneSaid :=
  over
#print axioms proved
end Go.Proofs.Ytipdancojcdioaa.namesUndone
