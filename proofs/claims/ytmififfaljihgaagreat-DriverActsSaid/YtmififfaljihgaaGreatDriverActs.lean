/- The law DriverActs returns true at every input, and what it is handed reads as it did. No condition. -/
import Derived.Test.YtmififfaljihgaaGreatRows
import Derived.Test.YtmififfaljihgaaGreatG16
import Derived.WalkKit
import Derived.ProofKit
import Derived.OpenShut
set_option linter.unusedVariables false
namespace Go.Proofs.YtmififfaljihgaaGreat.driverActs
open Go.ChangeShapes Go.WideShapes Go.ChangeAt Go.RowKit Go.Ab
theorem own : ownKnob Tryz.prog.godebug = none := by kernel_rfl
theorem rd_hint {D : Type} {h : H} {d : DataW D} {c : List V} (r : RD T h 18 35 d c) : ∃ y1 y2 y3 y4 : Int, c = [i64 y1, i64 y2, i64 y3, i64 y4] ∧ -9223372036854775808 ≤ y2 ∧ y2 ≤ 9223372036854775807 := by
  obtain ⟨es, ess, rfl, qq⟩ := rd_st (T := T) (n := 17) (fs := [(3, 0), (3, 1), (3, 2), (3, 3)]) rfl r
  obtain ⟨d1, c1, _, _, rfl, t1, qq⟩ := rdf_cons qq
  obtain ⟨d2, c2, _, _, rfl, t2, qq⟩ := rdf_cons qq
  obtain ⟨d3, c3, _, _, rfl, t3, qq⟩ := rdf_cons qq
  obtain ⟨d4, c4, _, _, rfl, t4, qq⟩ := rdf_cons qq
  obtain rfl := rdf_nil qq
  obtain ⟨y1, rfl, _⟩ := rd_int (T := T) (n := 16) (k := .i64) rfl t1
  obtain ⟨y2, rfl, b2⟩ := rd_int (T := T) (n := 16) (k := .i64) rfl t2
  obtain ⟨y3, rfl, _⟩ := rd_int (T := T) (n := 16) (k := .i64) rfl t3
  obtain ⟨y4, rfl, _⟩ := rd_int (T := T) (n := 16) (k := .i64) rfl t4
  exact ⟨y1, y2, y3, y4, rfl, b2.1, b2.2⟩
theorem rd_msg {D : Type} {h : H} {d : DataW D} {c : List V} (r : RD T h 19 37 d c) : ∃ m : Msg, c = m.cells ∧ RoSl h m.ep m.es.length 1 (ints .i64 m.es) ∧ -9223372036854775808 ≤ m.e ∧ m.e ≤ 9223372036854775807 := by
  obtain ⟨ds, css, rfl, q⟩ := rd_st (T := T) (n := 18) (fs := [(3, 0), (3, 1), (3, 2), (22, 3), (3, 4), (35, 5)]) rfl r
  obtain ⟨d1, c1, _, _, rfl, r1, q⟩ := rdf_cons q
  obtain ⟨d2, c2, _, _, rfl, r2, q⟩ := rdf_cons q
  obtain ⟨d3, c3, _, _, rfl, r3, q⟩ := rdf_cons q
  obtain ⟨d4, c4, _, _, rfl, r4, q⟩ := rdf_cons q
  obtain ⟨d5, c5, _, _, rfl, r5, q⟩ := rdf_cons q
  obtain ⟨d6, c6, _, _, rfl, r6, q⟩ := rdf_cons q
  obtain rfl := rdf_nil q
  obtain ⟨x1, rfl, _⟩ := rd_int (T := T) (n := 17) (k := .i64) rfl r1
  obtain ⟨x2, rfl, _⟩ := rd_int (T := T) (n := 17) (k := .i64) rfl r2
  obtain ⟨x3, rfl, _⟩ := rd_int (T := T) (n := 17) (k := .i64) rfl r3
  obtain ⟨p4, n4, vs, rfl, _, o4, _⟩ := rd_slice_ints (T := T) (n := 16) (e := 3) (k := .i64) rfl rfl rfl r4
  obtain ⟨x5, rfl, _⟩ := rd_int (T := T) (n := 17) (k := .i64) rfl r5
  obtain ⟨y1, y2, y3, y4, rfl, b1, b2⟩ := rd_hint r6
  have e4 : n4 = vs.length := by
    have := o4.1
    rw [ints_length] at this
    omega
  subst e4
  exact ⟨⟨x1, x2, x3, p4, vs, x5, y1, y2, y3, y4⟩, rfl, o4, b1, b2⟩
theorem rd_act {D : Type} {h : H} {d : DataW D} {c : List V} (r : RD T h 20 40 d c) : ∃ a : ActV, c = a.cells ∧ ActOk h a := by
  obtain ⟨ds, css, rfl, q⟩ := rd_st (T := T) (n := 19) (fs := [(3, 0), (3, 1), (3, 2), (3, 3), (37, 4), (38, 13)]) rfl r
  obtain ⟨d1, c1, _, _, rfl, r1, q⟩ := rdf_cons q
  obtain ⟨d2, c2, _, _, rfl, r2, q⟩ := rdf_cons q
  obtain ⟨d3, c3, _, _, rfl, r3, q⟩ := rdf_cons q
  obtain ⟨d4, c4, _, _, rfl, r4, q⟩ := rdf_cons q
  obtain ⟨d5, c5, _, _, rfl, r5, q⟩ := rdf_cons q
  obtain ⟨d6, c6, _, _, rfl, r6, q⟩ := rdf_cons q
  obtain rfl := rdf_nil q
  obtain ⟨x1, rfl, _⟩ := rd_int (T := T) (n := 18) (k := .i64) rfl r1
  obtain ⟨x2, rfl, _⟩ := rd_int (T := T) (n := 18) (k := .i64) rfl r2
  obtain ⟨x3, rfl, _⟩ := rd_int (T := T) (n := 18) (k := .i64) rfl r3
  obtain ⟨x4, rfl, _⟩ := rd_int (T := T) (n := 18) (k := .i64) rfl r4
  obtain ⟨m, rfl, om, e1, e2⟩ := rd_msg r5
  obtain ⟨p6, n6, vs, rfl, _, o6, b6⟩ := rd_slice_ints (T := T) (n := 17) (e := 5) (k := .u8) rfl rfl rfl r6
  have e6 : n6 = vs.length := by
    have := o6.1
    rw [ints_length] at this
    omega
  subst e6
  refine ⟨⟨x1, x2, x3, x4, m, p6, vs⟩, rfl, om, ⟨e1, e2⟩, o6, fun y hy => ?_⟩
  have := b6 y hy
  have h1 : IntKind.u8.min = 0 := rfl
  have h2 : IntKind.u8.max = 255 := rfl
  omega
theorem rd_acts {D : Type} {h : H} : ∀ {ds : List (DataW D)} {css : List (List V)}, RDs (RD T h 20 40) ds css → ∃ es : List ActV, css.flatten = es.flatMap ActV.cells ∧ es.length = ds.length ∧ ∀ e ∈ es, ActOk h e
  | [], [], _ => ⟨[], rfl, rfl, fun e he => by cases he⟩
  | d :: ds, c :: cs, r => by
    obtain ⟨es, h1, h2, h3⟩ := rd_acts r.2
    obtain ⟨e, rfl, he⟩ := rd_act r.1
    refine ⟨e :: es, by rw [List.flatten_cons, h1]; rfl, by simp [h2], fun y hy => ?_⟩
    rcases List.mem_cons.1 hy with rfl | hy
    · exact he
    · exact h3 y hy
  | [], _ :: _, r => r.elim
  | _ :: _, [], r => r.elim
theorem law {D : Type} (h : H) (ds : List (DataW D)) (vs : List V) (r : ArgsRD T h 21 [22, 23] ds vs) : ACalls Tryz.prog 3 vs h fun r _ => r = .bool true := by
  obtain ⟨d1, c1, _, _, rfl, r1, r⟩ := args_cons r
  obtain ⟨d2, c2, _, _, rfl, r2, r⟩ := args_cons r
  obtain rfl := args_nil r
  obtain ⟨p0, n0, l0, rfl, _, o0, _⟩ := rd_slice_ints (T := T) (n := 19) (e := 3) (k := .i64) rfl rfl rfl r1
  obtain ⟨p, ds, css, rfl, h1, h2, h3⟩ := rd_slice (T := T) (n := 20) (e := 40) rfl r2
  obtain ⟨es, e1, e2, e3⟩ := rd_acts h3
  rw [← e2]
  refine acts3 (L := es) o0 ⟨⟨flat_length (f := ActV.cells) (sz := 14) (fun _ => rfl) es, ?_⟩, e3⟩
  rcases h2 with h2 | ⟨i, rfl, h2⟩
  · exact .inl (e2.trans h2)
  · rw [e1] at h2
    exact .inr ⟨i, 0, _, rfl, h2, by rw [flat_length (f := ActV.cells) (sz := 14) (fun _ => rfl) es]; omega, by rw [List.drop_zero, ← flat_length (sz := 14) (f := ActV.cells) (fun _ => rfl) es, List.take_length]⟩
set_option maxRecDepth 100000 in
theorem lifted (os : Os) (started : os.Started) (H : Type) (enc : TypeId × Value → H) :
    ReturnsInHanded {} Tryz.checked os 3 .any (Rows.driverActsSpec.pre6 enc Tryz.prog Tryz.f3 Rows.driverActsRow.domain false) (Rows.driverActsSpec.post enc Tryz.prog Tryz.f3 false true false false) := by
  refine returnsInHanded_of_change (C := Tryz.checked) own started (by kernel_rfl) Tryz.func3
    (ChangeSpec.witness6 (enc := enc) (C := Tryz.checked) false ⟨#[], #[.slice none 0 0, .slice none 0 0], []⟩ 8 (by kernel_rfl) (by kernel_rfl) (by kernel_rfl) (by kernel_rfl)) ?_
  intro W base args ds gs before hval hW hcnd _
  exact law_contract (D := H) hT (f := 3) (tb := 4) (s := Rows.driverActsSpec) (fn := Tryz.f3) (by kernel_rfl) rfl rfl rfl (by kernel_rfl) (by kernel_rfl)
    (fun ds hd => match ds, hd with
      | [d1, d2], _ => rfl) (fun h ds vs _ r => law h ds vs r) args ds gs before (fun j t v h1 h2 => ⟨base, hval j t v h1 h2⟩) hW
theorem over : Rows.driverActsRow.holds Tryz.pinned (OpenSpec.ofChange Rows.driverActsSpec) :=
  OpenClaim.holds_of_wide 3 Tryz.f3 rfl rfl rfl rfl rfl rfl rfl ⟨rfl, rfl, rfl, rfl, rfl⟩ rfl rfl rfl rfl rfl (by kernel_rfl) Tryz.func3 (by kernel_rfl)
    (of_decide_eq_true (by kernel_rfl)) (by unfold Func.isWrapper; first | (rw [if_pos (by decide +kernel)]; kernel_rfl) | (rw [if_neg (by decide +kernel)]; exact ⟨rfl, rfl⟩))
    (fun os started H enc _ => lifted os started H enc)
theorem proved : Rows.DriverActsSaid :=
  over
end Go.Proofs.YtmififfaljihgaaGreat.driverActs
