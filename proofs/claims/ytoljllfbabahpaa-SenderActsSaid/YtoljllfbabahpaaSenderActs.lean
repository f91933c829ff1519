/- The law SenderActs returns true at every input, and what it is handed reads as it did. No condition. -/
import Derived.Test.YtoljllfbabahpaaRows
import Derived.Test.YtoljllfbabahpaaU23
import Derived.WalkKit
import Derived.ProofKit
import Derived.OpenShut
set_option linter.unusedVariables false
namespace Go.Proofs.Ytoljllfbabahpaa.senderActs
open Go.ChangeShapes Go.WideShapes Go.ChangeAt Go.RowKit Go.Ab
theorem own : ownKnob Try.prog.godebug = none := by kernel_rfl
theorem rd_act {D : Type} {h : H} {d : DataW D} {c : List V} (r : RD T h 20 101 d c) : ∃ e : ActA, c = e.cells ∧ RoSl h e.bp e.bs.length 1 (ints .u8 e.bs) ∧ Oct e.bs := by
  obtain ⟨ds, css, rfl, q⟩ := rd_st (T := T) (n := 19) (fs := [(3, 0), (3, 1), (3, 2), (33, 3)]) rfl r
  obtain ⟨d1, c1, _, _, rfl, r1, q⟩ := rdf_cons q
  obtain ⟨d2, c2, _, _, rfl, r2, q⟩ := rdf_cons q
  obtain ⟨d3, c3, _, _, rfl, r3, q⟩ := rdf_cons q
  obtain ⟨d4, c4, _, _, rfl, r4, q⟩ := rdf_cons q
  obtain rfl := rdf_nil q
  obtain ⟨x1, rfl, _⟩ := rd_int (T := T) (n := 18) (k := .i64) rfl r1
  obtain ⟨x2, rfl, _⟩ := rd_int (T := T) (n := 18) (k := .i64) rfl r2
  obtain ⟨x3, rfl, _⟩ := rd_int (T := T) (n := 18) (k := .i64) rfl r3
  obtain ⟨p4, n4, vs, rfl, _, o4, b4⟩ := rd_slice_ints (T := T) (n := 17) (e := 5) (k := .u8) rfl rfl rfl r4
  have e4 : n4 = vs.length := by
    have := o4.1
    rw [ints_length] at this
    omega
  subst e4
  exact ⟨⟨x1, x2, x3, p4, vs⟩, rfl, o4, fun y hy => by
    have := b4 y hy
    simp [IntKind.min, IntKind.max, IntKind.signed, IntKind.bits] at this
    omega⟩
theorem rd_acts {D : Type} {h : H} : ∀ {ds : List (DataW D)} {css : List (List V)}, RDs (RD T h 20 101) ds css → ∃ es : List ActA, css.flatten = es.flatMap ActA.cells ∧ es.length = ds.length ∧ ∀ e ∈ es, RoSl h e.bp e.bs.length 1 (ints .u8 e.bs) ∧ Oct e.bs
  | [], [], _ => ⟨[], rfl, rfl, fun e he => by cases he⟩
  | d :: ds, c :: cs, r => by
    obtain ⟨es, h1, h2, h3⟩ := rd_acts r.2
    obtain ⟨e, rfl, he⟩ := rd_act r.1
    refine ⟨e :: es, by rw [List.flatten_cons, h1]; rfl, by simp [h2], fun y hy => ?_⟩
    rcases List.mem_cons.1 hy with rfl | hy
    · exact he
    · exact h3 y hy
  | [], _ :: _, r => r.elim
  | _ :: _, [], r => r.elim
theorem law {D : Type} (h : H) (ds : List (DataW D)) (vs : List V) (r : ArgsRD T h 21 [3, 3, 3, 89] ds vs) : ACalls Try.prog 8 vs h fun r _ => r = .bool true := by
  obtain ⟨d1, c1, _, _, rfl, r1, r⟩ := args_cons r
  obtain ⟨d2, c2, _, _, rfl, r2, r⟩ := args_cons r
  obtain ⟨d3, c3, _, _, rfl, r3, r⟩ := args_cons r
  obtain ⟨d4, c4, _, _, rfl, r4, r⟩ := args_cons r
  obtain rfl := args_nil r
  obtain ⟨x, rfl, _⟩ := rd_int (T := T) (n := 20) (k := .i64) rfl r1
  obtain ⟨y, rfl, _⟩ := rd_int (T := T) (n := 20) (k := .i64) rfl r2
  obtain ⟨z, rfl, _⟩ := rd_int (T := T) (n := 20) (k := .i64) rfl r3
  obtain ⟨p, ds, css, rfl, h1, h2, h3⟩ := rd_slice (T := T) (n := 20) (e := 101) rfl r4
  obtain ⟨es, e1, e2, e3⟩ := rd_acts h3
  refine acts8 (po := p) (m := ds.length) (es := es) ⟨⟨by rw [flat_length (sz := 4) (fun _ => rfl), e2], ?_⟩, e3⟩ x y z
  rcases h2 with h2 | ⟨i, rfl, h2⟩
  · exact .inl h2
  · rw [e1] at h2
    exact .inr ⟨i, 0, _, rfl, h2, by rw [flat_length (sz := 4) (fun _ => rfl), e2]; omega, by rw [List.drop_zero, ← e2, ← flat_length (sz := 4) (f := ActA.cells) (fun _ => rfl), List.take_length]⟩
set_option maxRecDepth 100000 in
theorem lifted (os : Os) (started : os.Started) (H : Type) (enc : TypeId × Value → H) :
    ReturnsInHanded {} Try.checked os 8 .any (Rows.senderActsSpec.pre6 enc Try.prog Try.f8 Rows.senderActsRow.domain false) (Rows.senderActsSpec.post enc Try.prog Try.f8 false true false false) := by
  refine returnsInHanded_of_change (C := Try.checked) own started (by kernel_rfl) Try.func8
    (ChangeSpec.witness6 (enc := enc) (C := Try.checked) false ⟨#[], #[.int .i64 0, .int .i64 0, .int .i64 0, .slice none 0 0], []⟩ 8 (by kernel_rfl) (by kernel_rfl) (by kernel_rfl) (by kernel_rfl)) ?_
  intro W base args ds gs before hval hW hcnd _
  exact law_contract (D := H) hT (f := 8) (tb := 4) (s := Rows.senderActsSpec) (fn := Try.f8) (by kernel_rfl) rfl rfl rfl (by kernel_rfl) (by kernel_rfl)
    (fun ds hd => match ds, hd with
      | [d1, d2, d3, d4], _ => rfl) (fun h ds vs _ r => law h ds vs r) args ds gs before (fun j t v h1 h2 => ⟨base, hval j t v h1 h2⟩) hW
theorem over : Rows.senderActsRow.holds Try.pinned (OpenSpec.ofChange Rows.senderActsSpec) :=
  OpenClaim.holds_of_wide 8 Try.f8 rfl rfl rfl rfl rfl rfl rfl ⟨rfl, rfl, rfl, rfl, rfl⟩ rfl rfl rfl rfl rfl (by kernel_rfl) Try.func8 (by kernel_rfl)
    (of_decide_eq_true (by kernel_rfl)) (by unfold Func.isWrapper; first | (rw [if_pos (by decide +kernel)]; kernel_rfl) | (rw [if_neg (by decide +kernel)]; exact ⟨rfl, rfl⟩))
    (fun os started H enc _ => lifted os started H enc)
theorem proved : Rows.SenderActsSaid :=
  over
end Go.Proofs.Ytoljllfbabahpaa.senderActs
