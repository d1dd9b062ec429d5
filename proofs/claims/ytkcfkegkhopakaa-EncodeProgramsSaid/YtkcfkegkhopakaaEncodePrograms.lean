/- The law EncodePrograms returns true of every argument: the bytes of all lists of instructions, and the instructions of all bytes, are the document's. No condition. -/
import Derived.Test.YtkcfkegkhopakaaPlPr
import Derived.Test.YtkcfkegkhopakaaConEn
import Derived.Test.YtkcfkegkhopakaaRows
import Derived.Test.YtkcfkegkhopakaaEvX3
import Derived.WalkKit
import Derived.ProofKit
import Derived.OpenShut
import Derived.ShutString
import Derived.SizedLaws
namespace Go.Proofs.Ytkcfkegkhopakaa.encodePrograms
open Go Go.Ev Go.Sh Go.RowKit Go.ChangeShapes Go.WideShapes Go.ChangeAt
set_option linter.unusedVariables false


theorem hc : s6 = ⟨[.sla 0 .any, .sla 1 .any], [Ty.pair (.int .i64) (.pair (.int .i64) (.pair (.int .i64) (.pair (.int .i64) (.pair (.int .i64) (.pair .bool (.pair .bool (.pair (.int .i64) (.int .i64)))))))), Ty.int .u8].map fun t => ⟨false, .many t⟩, ⟨[(0, .ty .bool)], [], [], []⟩⟩ := by kernel_rfl
theorem hy (x0 : List (Ty.pair (.int .i64) (.pair (.int .i64) (.pair (.int .i64) (.pair (.int .i64) (.pair (.int .i64) (.pair .bool (.pair .bool (.pair (.int .i64) (.int .i64))))))))).den) (x1 : List (Ty.int .u8).den) (g0 : ∀ x ∈ x0, (Ty.pair (.int .i64) (.pair (.int .i64) (.pair (.int .i64) (.pair (.int .i64) (.pair (.int .i64) (.pair .bool (.pair .bool (.pair (.int .i64) (.int .i64))))))))).wf x) {len0 : Nat} (n0 : x0.length = len0) (m0 : len0 ≤ maxLen) (g1 : ∀ x ∈ x1, (Ty.int .u8).wf x) {len1 : Nat} (n1 : x1.length = len1) (m1 : len1 ≤ maxLen) : f6 (5000) (x0, x1) = some true := (F6_eq 5000 x0 x1).trans (EncodePrograms_is (Nat.le_refl _) x0 x1 (fun x hx => (i64_rng (g0 x hx).1).2) (fun x hx => i64_rng (g0 x hx).2.2.2.2.1) (fun x hx => u8_by (g1 x hx)))
theorem ev (x0 : List (Ty.pair (.int .i64) (.pair (.int .i64) (.pair (.int .i64) (.pair (.int .i64) (.pair (.int .i64) (.pair .bool (.pair .bool (.pair (.int .i64) (.int .i64))))))))).den) (x1 : List (Ty.int .u8).den) (g0 : ∀ x ∈ x0, (Ty.pair (.int .i64) (.pair (.int .i64) (.pair (.int .i64) (.pair (.int .i64) (.pair (.int .i64) (.pair .bool (.pair .bool (.pair (.int .i64) (.int .i64))))))))).wf x) {len0 : Nat} (n0 : x0.length = len0) (m0 : len0 ≤ maxLen) (g1 : ∀ x ∈ x1, (Ty.int .u8).wf x) {len1 : Nat} (n1 : x1.length = len1) (m1 : len1 ≤ maxLen) {r : RM} {H : Heap} {us : List AV}
    (l : LIn H r [.sla 0 .any, .sla 1 .any] [] us [Ty.pair (.int .i64) (.pair (.int .i64) (.pair (.int .i64) (.pair (.int .i64) (.pair (.int .i64) (.pair .bool (.pair .bool (.pair (.int .i64) (.int .i64)))))))), Ty.int .u8] [⟨.lst (Ty.pair (.int .i64) (.pair (.int .i64) (.pair (.int .i64) (.pair (.int .i64) (.pair (.int .i64) (.pair .bool (.pair .bool (.pair (.int .i64) (.int .i64))))))))), x0⟩, ⟨.lst (Ty.int .u8), x1⟩]) : ∃ n H', evF TBEn n 6 us H = some (.bool true, H') :=
  law_ev2 (sg := s6) (fn := f6) gc6 hc (hy x0 x1 g0 n0 m0 g1 n1 m1) l rfl rfl

theorem own : ownKnob Try.prog.godebug = none := by kernel_rfl
theorem laidOut : laidOutB Try.prog = true := by kernel_rfl

set_option maxRecDepth 100000 in
theorem lifted (os : Os) (started : os.Started) (H : Type) (enc : TypeId × Value → H) :
    ReturnsInHanded {} Try.checked os 6 .any (Rows.encodeProgramsSpec.pre6 enc Try.prog Try.f6 Rows.encodeProgramsRow.domain false) (Rows.encodeProgramsSpec.post enc Try.prog Try.f6 false true false false) := by
  refine returnsInHanded_of_change_sized (C := Try.checked) own started (by kernel_rfl) Try.func6
    (ChangeSpec.witness6 (enc := enc) (C := Try.checked) false ⟨#[], #[.slice none 0 0, .slice none 0 0], []⟩ 8 (by kernel_rfl) (by kernel_rfl) (by kernel_rfl) (by kernel_rfl)) ?_
  intro W base args ds gs before hval0 hW hcnd hsz _
  have hval : ∀ (j : Nat) t v, Try.f6.params[j]? = some t → args[j]? = some v → Value.okWide Try.prog W .any base t v := hval0
  have hW' := hW
  obtain ⟨p, q, hA0, hV, rfl, hfz, hnd⟩ := hW
  have hA : DataW.TrodAll enc Try.prog W 0 (fun _ => true) true Try.f6.params.toList args.toList ds p := hA0
  have hA1 := hA
  rw [Try.params6] at hA hval
  obtain ⟨v0, vs0, d0, ds0, p0, q0, hargs, rfl, rfl, h0, r0⟩ := trodAll_cons hA
  obtain ⟨v1, vs1, d1, ds1, p1, q1, rfl, rfl, rfl, h1, r1⟩ := trodAll_cons r0
  obtain ⟨rfl, rfl, rfl⟩ := trodAll_nil r1
  obtain rfl : args = #[v0, v1] := by cases args; simp_all
  obtain ⟨rfl, rfl⟩ := trodVars_none hV
  have b0 : Base (fun _ => none) Heap.empty W := Base.empty W
  have l0 := LIn.empty
  obtain ⟨j1, H1, s0, a0, len0, y1, b1, e0, w0, m0⟩ := imp_sl (ks := (Ty.pair (.int .i64) (.pair (.int .i64) (.pair (.int .i64) (.pair (.int .i64) (.pair (.int .i64) (.pair .bool (.pair .bool (.pair (.int .i64) (.int .i64))))))))).lks) 12 Try.underlying35 (by kernel_rfl) (by kernel_rfl) (hval 0 35 v0 rfl rfl) h0 b0
  obtain ⟨rm1, x0, n0, g0, l1⟩ := l0.sl (t := Ty.pair (.int .i64) (.pair (.int .i64) (.pair (.int .i64) (.pair (.int .i64) (.pair (.int .i64) (.pair .bool (.pair .bool (.pair (.int .i64) (.int .i64))))))))) (by decide) w0
  obtain ⟨j2, H2, s1, a1, len1, y2, b2, e1, w1, m1⟩ := imp_sl (ks := (Ty.int .u8).lks) 12 Try.underlying36 (by kernel_rfl) (by kernel_rfl) (hval 1 36 v1 rfl rfl) h1 b1
  obtain ⟨rm2, x1, n1, g1, l2⟩ := l1.sl (t := Ty.int .u8) (by decide) w1
  obtain ⟨n, hev⟩ := ev x0 x1 g0 n0 m0 g1 n1 m1 l2
  refine (law_call (w := W) (args := [v0, v1]) (avs := [s0, s1]) goodTabEn Try.checked.mixed b2 ⟨_, _, rfl, (VR.mono y2 e0), ⟨_, _, rfl, e1, rfl⟩⟩ hev).mono fun e W' ⟨he, bel⟩ => ?_
  subst he
  exact ⟨_, rfl, _, [], _, [], _, [], hW', trodAll_mk1 (shut_bool Try.underlying4 _), trodAll_below laidOut bel (by kernel_rfl) hA1, rfl, bel.frame _, fun h => by cases h⟩

theorem over : Rows.encodeProgramsRow.holds Try.pinned (OpenSpec.ofChange Rows.encodeProgramsSpec) :=
  OpenClaim.holds_of_wide 6 Try.f6 rfl rfl rfl rfl rfl rfl rfl ⟨rfl, rfl, rfl, rfl, rfl⟩ rfl rfl rfl rfl rfl (by kernel_rfl) Try.func6 (by kernel_rfl)
    (of_decide_eq_true (by kernel_rfl)) (by unfold Func.isWrapper; first | (rw [if_pos (by decide +kernel)]; kernel_rfl) | (rw [if_neg (by decide +kernel)]; exact ⟨rfl, rfl⟩))
    (fun os started H enc _ => lifted os started H enc)

/-- THE STATEMENT -/
theorem proved : Rows.EncodeProgramsSaid :=
  over
#print axioms proved
end Go.Proofs.Ytkcfkegkhopakaa.encodePrograms
