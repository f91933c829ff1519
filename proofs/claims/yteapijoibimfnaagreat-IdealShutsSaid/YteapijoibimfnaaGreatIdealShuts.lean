/- The law IdealShuts returns true at every input, and what it is handed reads as it did. No condition. -/
import Derived.Test.YteapijoibimfnaaGreatRows
import Derived.Test.YteapijoibimfnaaGreatMG
import Derived.WalkKit
import Derived.ProofKit
import Derived.OpenShut
set_option linter.unusedVariables false
namespace Go.Proofs.YteapijoibimfnaaGreat.idealShuts
open Go.ChangeShapes Go.WideShapes Go.ChangeAt Go.RowKit Go.Ab
theorem own : ownKnob Tryz.prog.godebug = none := by kernel_rfl
theorem rd_pairs {D : Type} {h : H} : ∀ {ds : List (DataW D)} {css : List (List V)}, RDs (RD T h 20 46) ds css → ∃ es : List (Int × Int), css.flatten = es.flatMap pC ∧ es.length = ds.length
  | [], [], _ => ⟨[], rfl, rfl⟩
  | d :: ds, c :: cs, r => by
    obtain ⟨es, h1, h2⟩ := rd_pairs r.2
    obtain ⟨ls, rfl, hl, _⟩ := rd_arr_ints (T := T) (n := 18) (m := 2) (e := 3) (k := .i64) rfl rfl r.1
    match ls, hl with
    | [x, y], _ => exact ⟨(x, y) :: es, by rw [List.flatten_cons, h1]; rfl, by simp [h2]⟩
  | [], _ :: _, r => r.elim
  | _ :: _, [], r => r.elim
theorem law {D : Type} (h : H) (ds : List (DataW D)) (vs : List V) (r : ArgsRD T h 21 [22, 3, 3, 23] ds vs) : ACalls Tryz.prog 3 vs h fun r _ => r = .bool true := by
  obtain ⟨d1, c1, _, _, rfl, r1, r⟩ := args_cons r
  obtain ⟨d2, c2, _, _, rfl, r2, r⟩ := args_cons r
  obtain ⟨d3, c3, _, _, rfl, r3, r⟩ := args_cons r
  obtain ⟨d4, c4, _, _, rfl, r4, r⟩ := args_cons r
  obtain rfl := args_nil r
  obtain ⟨p0, n0, l0, rfl, _, o0, _⟩ := rd_slice_ints (T := T) (n := 19) (e := 3) (k := .i64) rfl rfl rfl r1
  obtain ⟨x2, rfl, _⟩ := rd_int (T := T) (n := 20) (k := .i64) rfl r2
  obtain ⟨x3, rfl, _⟩ := rd_int (T := T) (n := 20) (k := .i64) rfl r3
  obtain ⟨p, ds, css, rfl, h1, h2, h3⟩ := rd_slice (T := T) (n := 20) (e := 46) rfl r4
  obtain ⟨es, e1, e2⟩ := rd_pairs h3
  have e0 : n0 = l0.length := by
    have := o0.1
    rw [ints_length] at this
    omega
  subst e0
  rw [← e2]
  refine ideal3 (S := es) o0 ⟨flat_length (f := pC) (sz := 2) (fun _ => rfl) es, ?_⟩ x2 x3
  rcases h2 with h2 | ⟨i, rfl, h2⟩
  · exact .inl (e2.trans h2)
  · rw [e1] at h2
    exact .inr ⟨i, 0, _, rfl, h2, by rw [flat_length (f := pC) (sz := 2) (fun _ => rfl) es]; omega, by rw [List.drop_zero, ← flat_length (sz := 2) (f := pC) (fun _ => rfl) es, List.take_length]⟩
set_option maxRecDepth 100000 in
theorem lifted (os : Os) (started : os.Started) (H : Type) (enc : TypeId × Value → H) :
    ReturnsInHanded {} Tryz.checked os 3 .any (Rows.idealShutsSpec.pre6 enc Tryz.prog Tryz.f3 Rows.idealShutsRow.domain false) (Rows.idealShutsSpec.post enc Tryz.prog Tryz.f3 false true false false) := by
  refine returnsInHanded_of_change (C := Tryz.checked) own started (by kernel_rfl) Tryz.func3
    (ChangeSpec.witness6 (enc := enc) (C := Tryz.checked) false ⟨#[], #[.slice none 0 0, .int .i64 0, .int .i64 0, .slice none 0 0], []⟩ 8 (by kernel_rfl) (by kernel_rfl) (by kernel_rfl) (by kernel_rfl)) ?_
  intro W base args ds gs before hval hW hcnd _
  exact law_contract (D := H) hT (f := 3) (tb := 4) (s := Rows.idealShutsSpec) (fn := Tryz.f3) (by kernel_rfl) rfl rfl rfl (by kernel_rfl) (by kernel_rfl)
    (fun ds hd => match ds, hd with
      | [d1, d2, d3, d4], _ => rfl) (fun h ds vs _ r => law h ds vs r) args ds gs before (fun j t v h1 h2 => ⟨base, hval j t v h1 h2⟩) hW
theorem over : Rows.idealShutsRow.holds Tryz.pinned (OpenSpec.ofChange Rows.idealShutsSpec) :=
  OpenClaim.holds_of_wide 3 Tryz.f3 rfl rfl rfl rfl rfl rfl rfl ⟨rfl, rfl, rfl, rfl, rfl⟩ rfl rfl rfl rfl rfl (by kernel_rfl) Tryz.func3 (by kernel_rfl)
    (of_decide_eq_true (by kernel_rfl)) (by unfold Func.isWrapper; first | (rw [if_pos (by decide +kernel)]; kernel_rfl) | (rw [if_neg (by decide +kernel)]; exact ⟨rfl, rfl⟩))
    (fun os started H enc _ => lifted os started H enc)
theorem proved : Rows.IdealShutsSaid :=
  over
end Go.Proofs.YteapijoibimfnaaGreat.idealShuts
