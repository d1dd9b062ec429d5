/- A store that is loaded again. No condition beyond the inputs'. -/
import Derived.Test.YtkcfkegkhopakaaGreatDoorPlSv
import Derived.Test.YtkcfkegkhopakaaGreatDoorKnSt
namespace Go.Proofs.YtkcfkegkhopakaaGreatDoor
open Go Go.Ev Go.Sh
set_option linter.unusedVariables false
set_option linter.unusedSimpArgs false
set_option maxRecDepth 100000

theorem ofN_snoc (l : List Int) (x : Int) : ofN (l ++ [x]) = ofN l + 256 ^ l.length * x.toNat := by
  induction l with
  | nil => simp [ofN]
  | cons b l ih =>
    simp only [List.cons_append, ofN, List.length_cons, ih, Nat.pow_succ, Nat.mul_add]
    rw [Nat.mul_comm (256 ^ l.length) 256, Nat.mul_assoc]
    omega

theorem ofN_byl (w n : Nat) : ofN (byl w n) = w % 256 ^ n := by
  induction n with
  | zero => simp [byl, ofN, Nat.mod_one]
  | succ n ih =>
    rw [byl_succ, ofN_snoc, ih, byl_len, Int.toNat_natCast, Nat.pow_succ, Nat.mod_mul]

abbrev AloneU := HartT × List Int × List DoneT
def prj (o : Option AloneU) : Option (Int × Int × Nat × Nat) := o.map fun v => (v.1.2.1.getD 3 0, v.1.2.2, v.2.1.length, v.2.2.length)
def stX (v a : Int) : List Int := setD 0 (setD 0 [0, 0, 0, 0, 0, 0, 0, 0, 0, 0, 0, 0, 0, 0, 0, 0, 0, 0, 0, 0, 0, 0, 0, 0, 0, 0, 0, 0, 0, 0, 0, 0] 1 v) 2 a
def stR (N : Nat) (n op : Int) (v : Int) : Option (Int × Int × Nat × Nat) := bindS (F70 N v (8 * n)) fun w => bindS (F67 N w n) fun bs => bindS (F55 N bs) fun r => bindS (F130 N op r) fun u => some (u, 2, 64, 3)

theorem st0 (v : Int) : ∀ j : Nat, j < 8 → prj (F31 1100 (0, stX v ((8 * j : Nat) : Int), 0) 5 im0St.2.2) = stR 1100 1 15 v
  | 0, _ => by kernel_rfl
  | 1, _ => by kernel_rfl
  | 2, _ => by kernel_rfl
  | 3, _ => by kernel_rfl
  | 4, _ => by kernel_rfl
  | 5, _ => by kernel_rfl
  | 6, _ => by kernel_rfl
  | 7, _ => by kernel_rfl
  | n + 8, h => by omega
theorem st1 (v : Int) : ∀ j : Nat, j < 8 → prj (F31 1100 (0, stX v ((8 * j : Nat) : Int), 0) 5 im1St.2.2) = stR 1100 2 16 v
  | 0, _ => by kernel_rfl
  | 1, _ => by kernel_rfl
  | 2, _ => by kernel_rfl
  | 3, _ => by kernel_rfl
  | 4, _ => by kernel_rfl
  | 5, _ => by kernel_rfl
  | 6, _ => by kernel_rfl
  | 7, _ => by kernel_rfl
  | n + 8, h => by omega
theorem st2 (v : Int) : ∀ j : Nat, j < 8 → prj (F31 1100 (0, stX v ((8 * j : Nat) : Int), 0) 5 im2St.2.2) = stR 1100 4 17 v
  | 0, _ => by kernel_rfl
  | 1, _ => by kernel_rfl
  | 2, _ => by kernel_rfl
  | 3, _ => by kernel_rfl
  | 4, _ => by kernel_rfl
  | 5, _ => by kernel_rfl
  | 6, _ => by kernel_rfl
  | 7, _ => by kernel_rfl
  | n + 8, h => by omega
theorem st3 (v : Int) : ∀ j : Nat, j < 8 → prj (F31 1100 (0, stX v ((8 * j : Nat) : Int), 0) 5 im3St.2.2) = stR 1100 8 14 v
  | 0, _ => by kernel_rfl
  | 1, _ => by kernel_rfl
  | 2, _ => by kernel_rfl
  | 3, _ => by kernel_rfl
  | 4, _ => by kernel_rfl
  | 5, _ => by kernel_rfl
  | 6, _ => by kernel_rfl
  | 7, _ => by kernel_rfl
  | n + 8, h => by omega

theorem stR_is {v n : Nat} (hv : v < 18446744073709551616) (hn : n ≤ 8) {op : Int} (hop : ∀ r : Nat, r < 2 ^ (8 * n) → F130 1100 op r = some (r : Int)) :
    stR 1100 n op v = some (((v % 2 ^ (8 * n) : Nat) : Int), 2, 64, 3) := by
  have h1 := mod_lt2 v (8 * n)
  have h2 := pow_le64 (k := 8 * n) (by omega)
  have e : (8 * (n : Int)) = ((8 * n : Nat) : Int) := by omega
  have e2 : 256 ^ n = 2 ^ (8 * n) := by rw [Nat.pow_mul]
  unfold stR
  rw [e, Zext_full 1100 hv (by omega), bindS_some, Bytes_full (by omega) hn, bindS_some, Of_full (by omega) (byl_by _ _) (by rw [byl_len]; omega), bindS_some, ofN_byl, e2, Nat.mod_mod, hop _ h1, bindS_some]

theorem ld15 (r : Nat) (h : r < 2 ^ (8 * 1)) : F130 1100 15 r = some (r : Int) := by
  have e : F130 1100 15 r = F70 1100 (r : Int) 8 := by kernel_rfl
  rw [e, show (8 : Int) = ((8 : Nat) : Int) from rfl, Zext_full 1100 (by have := pow_le64 (k := 8 * 1) (by omega); omega) (by omega), Nat.mod_eq_of_lt h]
theorem ld16 (r : Nat) (h : r < 2 ^ (8 * 2)) : F130 1100 16 r = some (r : Int) := by
  have e : F130 1100 16 r = F70 1100 (r : Int) 16 := by kernel_rfl
  rw [e, show (16 : Int) = ((16 : Nat) : Int) from rfl, Zext_full 1100 (by have := pow_le64 (k := 8 * 2) (by omega); omega) (by omega), Nat.mod_eq_of_lt h]
theorem ld17 (r : Nat) (h : r < 2 ^ (8 * 4)) : F130 1100 17 r = some (r : Int) := by
  have e : F130 1100 17 r = F70 1100 (r : Int) 32 := by kernel_rfl
  rw [e, show (32 : Int) = ((32 : Nat) : Int) from rfl, Zext_full 1100 (by have := pow_le64 (k := 8 * 4) (by omega); omega) (by omega), Nat.mod_eq_of_lt h]
theorem ld14 (r : Nat) (h : r < 2 ^ (8 * 8)) : F130 1100 14 r = some (r : Int) := by
  have e : F130 1100 14 r = F127 1100 (r : Int) 64 := by kernel_rfl
  have h2 : r < 18446744073709551616 := h
  rw [e, show (64 : Int) = ((64 : Nat) : Int) from rfl, Sext_full 1100 h2 (by omega) (by omega), sx64 h2]

/-- the number of an image, the place: what is left -/
theorem st_all {v : Nat} (hv : v < 18446744073709551616) {j : Nat} (hj : j < 8) :
    prj (F31 1100 (0, stX v ((8 * j : Nat) : Int), 0) 5 im0St.2.2) = some (((v % 2 ^ 8 : Nat) : Int), 2, 64, 3) ∧
    prj (F31 1100 (0, stX v ((8 * j : Nat) : Int), 0) 5 im1St.2.2) = some (((v % 2 ^ 16 : Nat) : Int), 2, 64, 3) ∧
    prj (F31 1100 (0, stX v ((8 * j : Nat) : Int), 0) 5 im2St.2.2) = some (((v % 2 ^ 32 : Nat) : Int), 2, 64, 3) ∧
    prj (F31 1100 (0, stX v ((8 * j : Nat) : Int), 0) 5 im3St.2.2) = some (((v % 2 ^ 64 : Nat) : Int), 2, 64, 3) :=
  ⟨(st0 v j hj).trans (stR_is (n := 1) hv (by omega) ld15), (st1 v j hj).trans (stR_is (n := 2) hv (by omega) ld16), (st2 v j hj).trans (stR_is (n := 4) hv (by omega) ld17), (st3 v j hj).trans (stR_is (n := 8) hv (by omega) ld14)⟩

theorem prj_some {o : Option AloneU} {x : Int × Int × Nat × Nat} (h : prj o = some x) : ∃ v, o = some v ∧ v.1.2.1.getD 3 0 = x.1 ∧ v.1.2.2 = x.2.1 ∧ v.2.1.length = x.2.2.1 ∧ v.2.2.length = x.2.2.2 := by
  obtain ⟨v, rfl, rfl⟩ := Option.map_eq_some_iff.1 h
  exact ⟨v, rfl, rfl, rfl, rfl, rfl⟩

theorem bind_of {α ρ : Type} {o : Option α} {x : α} {k : α → Option ρ} {r : Option ρ} (h : o = some x) (h2 : k x = r) : bindS o k = r := by rw [h]; exact h2

theorem seqStores_t {at' value n : Int} (ha : (Ty.int .u8).wf at') (hv : (Ty.int .u64).wf value) (hn : (Ty.int .u8).wf n) : F11 1100 at' value n = some true := by
  have ha := u8_wf ha
  have hn := u8_wf hn
  have hv := u64_wf hv
  obtain ⟨v, rfl⟩ : ∃ v : Nat, value = v := ⟨value.toNat, by omega⟩
  obtain ⟨a, rfl⟩ : ∃ a : Nat, at' = a := ⟨at'.toNat, by omega⟩
  obtain ⟨m, rfl⟩ : ∃ m : Nat, n = m := ⟨n.toNat, by omega⟩
  have hv : v < 18446744073709551616 := by omega
  obtain ⟨j, hj, ej⟩ : ∃ j : Nat, j < 8 ∧ (IntKind.u64.wrap (IntKind.u64.wrap (((IntKind.u64.wrap (a : Int))).tdiv 8) * 8)).tmod 64 = ((8 * j : Nat) : Int) := by
    refine ⟨a / 8 % 8, by omega, ?_⟩
    have e1 : IntKind.u64.wrap (a : Int) = a := by rw [u64_wrap_eq]; omega
    have e2 : (a : Int).tdiv 8 = ((a / 8 : Nat) : Int) := rfl
    rw [e1, e2]
    have e3 : IntKind.u64.wrap ((a / 8 : Nat) : Int) = ((a / 8 : Nat) : Int) := by rw [u64_wrap_eq]; omega
    rw [e3]
    have e4 : IntKind.u64.wrap (((a / 8 : Nat) : Int) * 8) = ((a / 8 * 8 : Nat) : Int) := by rw [u64_wrap_eq]; omega
    rw [e4]
    have e5 : ((a / 8 * 8 : Nat) : Int).tmod 64 = ((a / 8 * 8 % 64 : Nat) : Int) := rfl
    rw [e5]
    congr 1
    omega
  obtain ⟨s0, s1, s2, s3⟩ := st_all hv hj
  have em : (m : Int).tmod 4 = ((m % 4 : Nat) : Int) := rfl
  have hx : setD 0 (setD 0 [0, 0, 0, 0, 0, 0, 0, 0, 0, 0, 0, 0, 0, 0, 0, 0, 0, 0, 0, 0, 0, 0, 0, 0, 0, 0, 0, 0, 0, 0, 0, 0] 1 (v : Int)) 2 ((8 * j : Nat) : Int) = stX v ((8 * j : Nat) : Int) := rfl
  have alive : F26 1100 = some true := rfl
  unfold F11 R11
  rw [alive, ej, em, bindS_some, hx]
  rw [br_false (by rfl)]
  obtain ⟨q, hq⟩ : ∃ q, q = m % 4 := ⟨_, rfl⟩
  rw [← hq]
  have hq4 : q < 4 := by omega
  clear hq em
  have hz := fun (k : Nat) (hk : k ≤ 64) => rZext_is (N := 1100) (by omega) hv hk
  rcases (by omega : q = 0 ∨ q = 1 ∨ q = 2 ∨ q = 3) with rfl | rfl | rfl | rfl
  · obtain ⟨w, h1, h2, h3, h4, h5⟩ := prj_some s0
    rw [chk_true (by rfl)]
    refine bind_of (x := (0, 0, im0St.2.2)) (by kernel_rfl) ?_
    refine bind_of h1 ?_
    refine bind_of (x := 1) (by kernel_rfl) ?_
    simp only [jp_eq]
    refine bind_of (x := true) rfl ?_
    rw [br_t, brT trivial, brT (by rw [h5]; rfl)]
    refine bind_of (x := ((v % 2 ^ 8 : Nat) : Int)) (by rw [show IntKind.i64.wrap (8 * 1) = ((8 : Nat) : Int) from by decide]; exact hz 8 (by omega)) ?_
    rw [brT h2, brT (by rw [h4]; rfl), h3]
    rfl
  · obtain ⟨w, h1, h2, h3, h4, h5⟩ := prj_some s1
    rw [chk_true (by rfl)]
    refine bind_of (x := (0, 0, im1St.2.2)) (by kernel_rfl) ?_
    refine bind_of h1 ?_
    refine bind_of (x := 2) (by kernel_rfl) ?_
    simp only [jp_eq]
    refine bind_of (x := true) rfl ?_
    rw [br_t, brT trivial, brT (by rw [h5]; rfl)]
    refine bind_of (x := ((v % 2 ^ 16 : Nat) : Int)) (by rw [show IntKind.i64.wrap (8 * 2) = ((16 : Nat) : Int) from by decide]; exact hz 16 (by omega)) ?_
    rw [brT h2, brT (by rw [h4]; rfl), h3]
    rfl
  · obtain ⟨w, h1, h2, h3, h4, h5⟩ := prj_some s2
    rw [chk_true (by rfl)]
    refine bind_of (x := (0, 0, im2St.2.2)) (by kernel_rfl) ?_
    refine bind_of h1 ?_
    refine bind_of (x := 4) (by kernel_rfl) ?_
    simp only [jp_eq]
    refine bind_of (x := true) rfl ?_
    rw [br_t, brT trivial, brT (by rw [h5]; rfl)]
    refine bind_of (x := ((v % 2 ^ 32 : Nat) : Int)) (by rw [show IntKind.i64.wrap (8 * 4) = ((32 : Nat) : Int) from by decide]; exact hz 32 (by omega)) ?_
    rw [brT h2, brT (by rw [h4]; rfl), h3]
    rfl
  · obtain ⟨w, h1, h2, h3, h4, h5⟩ := prj_some s3
    rw [chk_true (by rfl)]
    refine bind_of (x := (0, 0, im3St.2.2)) (by kernel_rfl) ?_
    refine bind_of h1 ?_
    refine bind_of (x := 8) (by kernel_rfl) ?_
    simp only [jp_eq]
    refine bind_of (x := true) rfl ?_
    rw [br_t, brT trivial, brT (by rw [h5]; rfl)]
    refine bind_of (x := ((v % 2 ^ 64 : Nat) : Int)) (by rw [show IntKind.i64.wrap (8 * 8) = ((64 : Nat) : Int) from by decide]; exact hz 64 (by omega)) ?_
    rw [brT h2, brT (by rw [h4]; rfl), h3]
    rfl
end Go.Proofs.YtkcfkegkhopakaaGreatDoor
