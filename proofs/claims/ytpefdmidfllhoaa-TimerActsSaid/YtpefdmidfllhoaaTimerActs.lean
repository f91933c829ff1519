/- The law TimerActs returns true at every input, and what it is handed reads as it did. No condition. -/
import Derived.Test.YtpefdmidfllhoaaRows
import Derived.Test.YtpefdmidfllhoaaQ29
import Derived.WalkKit
import Derived.ProofKit
import Derived.OpenShut
set_option linter.unusedVariables false
namespace Go.Proofs.Ytpefdmidfllhoaa.timerActs
open Go.ChangeShapes Go.WideShapes Go.ChangeAt Go.RowKit Go.Ab
theorem own : ownKnob Try.prog.godebug = none := by kernel_rfl
theorem rd_w {D : Type} {h : H} {d : DataW D} {c : List V} (r : RD T h 20 72 d c) : ∃ x : Wt, c = wC x ∧ inI x.2.1 := by
  obtain ⟨ds, css, rfl, q⟩ := rd_st (T := T) (n := 19) (fs := [(3, 0), (3, 1), (3, 2)]) rfl r
  obtain ⟨d1, c1, _, _, rfl, r1, q⟩ := rdf_cons q
  obtain ⟨d2, c2, _, _, rfl, r2, q⟩ := rdf_cons q
  obtain ⟨d3, c3, _, _, rfl, r3, q⟩ := rdf_cons q
  obtain rfl := rdf_nil q
  obtain ⟨x1, rfl, _⟩ := rd_int (T := T) (n := 18) (k := .i64) rfl r1
  obtain ⟨x2, rfl, u1, u2⟩ := rd_int (T := T) (n := 18) (k := .i64) rfl r2
  obtain ⟨x3, rfl, _⟩ := rd_int (T := T) (n := 18) (k := .i64) rfl r3
  exact ⟨(x1, x2, x3), rfl, u1, u2⟩
theorem rd_ws {D : Type} {h : H} : ∀ {ds : List (DataW D)} {css : List (List V)}, RDs (RD T h 20 72) ds css → ∃ es : List Wt, css.flatten = es.flatMap wC ∧ es.length = ds.length ∧ ∀ e ∈ es, inI e.2.1
  | [], [], _ => ⟨[], rfl, rfl, fun e he => by cases he⟩
  | d :: ds, c :: cs, r => by
    obtain ⟨es, h1, h2, h3⟩ := rd_ws r.2
    obtain ⟨e, rfl, he⟩ := rd_w r.1
    refine ⟨e :: es, by rw [List.flatten_cons, h1]; rfl, by simp [h2], fun y hy => ?_⟩
    rcases List.mem_cons.1 hy with rfl | hy
    · exact he
    · exact h3 y hy
  | [], _ :: _, r => r.elim
  | _ :: _, [], r => r.elim
theorem law {D : Type} (h : H) (ds : List (DataW D)) (vs : List V) (r : ArgsRD T h 21 [3, 3, 3, 67, 22] ds vs) : ACalls Try.prog 9 vs h fun r _ => r = .bool true := by
  obtain ⟨d1, c1, _, _, rfl, r1, r⟩ := args_cons r
  obtain ⟨d2, c2, _, _, rfl, r2, r⟩ := args_cons r
  obtain ⟨d3, c3, _, _, rfl, r3, r⟩ := args_cons r
  obtain ⟨d4, c4, _, _, rfl, r4, r⟩ := args_cons r
  obtain ⟨d5, c5, _, _, rfl, r5, r⟩ := args_cons r
  obtain rfl := args_nil r
  obtain ⟨x, rfl, _⟩ := rd_int (T := T) (n := 20) (k := .i64) rfl r1
  obtain ⟨y, rfl, _⟩ := rd_int (T := T) (n := 20) (k := .i64) rfl r2
  obtain ⟨z, rfl, _⟩ := rd_int (T := T) (n := 20) (k := .i64) rfl r3
  obtain ⟨p, ds, css, rfl, h1, h2, h3⟩ := rd_slice (T := T) (n := 20) (e := 72) rfl r4
  obtain ⟨es, e1, e2, e3⟩ := rd_ws h3
  obtain ⟨pw, m, ws, rfl, _, o5, b5⟩ := rd_slice_ints (T := T) (n := 19) (e := 3) (k := .i64) rfl rfl rfl r5
  refine acts9 (pa := p) (n := ds.length) (acts := es) ⟨by rw [w_len, e2], ?_⟩ e2.symm e3 o5 (fun w hw => by
    have := (b5 w hw).2
    simp [IntKind.max, IntKind.signed, IntKind.bits] at this
    exact this) x y z
  rcases h2 with h2 | ⟨i, rfl, h2⟩
  · exact .inl h2
  · rw [e1] at h2
    exact .inr ⟨i, 0, _, rfl, h2, by rw [w_len, e2]; omega, by rw [List.drop_zero, ← e2, ← w_len, List.take_length]⟩
set_option maxRecDepth 100000 in
theorem lifted (os : Os) (started : os.Started) (H : Type) (enc : TypeId × Value → H) :
    ReturnsInHanded {} Try.checked os 9 .any (Rows.timerActsSpec.pre6 enc Try.prog Try.f9 Rows.timerActsRow.domain false) (Rows.timerActsSpec.post enc Try.prog Try.f9 false true false false) := by
  refine returnsInHanded_of_change (C := Try.checked) own started (by kernel_rfl) Try.func9
    (ChangeSpec.witness6 (enc := enc) (C := Try.checked) false ⟨#[], #[.int .i64 0, .int .i64 0, .int .i64 0, .slice none 0 0, .slice none 0 0], []⟩ 8 (by kernel_rfl) (by kernel_rfl) (by kernel_rfl) (by kernel_rfl)) ?_
  intro W base args ds gs before hval hW hcnd _
  exact law_contract (D := H) hT (f := 9) (tb := 4) (s := Rows.timerActsSpec) (fn := Try.f9) (by kernel_rfl) rfl rfl rfl (by kernel_rfl) (by kernel_rfl)
    (fun ds hd => match ds, hd with
      | [d1, d2, d3, d4, d5], _ => rfl) (fun h ds vs _ r => law h ds vs r) args ds gs before (fun j t v h1 h2 => ⟨base, hval j t v h1 h2⟩) hW
theorem over : Rows.timerActsRow.holds Try.pinned (OpenSpec.ofChange Rows.timerActsSpec) :=
  OpenClaim.holds_of_wide 9 Try.f9 rfl rfl rfl rfl rfl rfl rfl ⟨rfl, rfl, rfl, rfl, rfl⟩ rfl rfl rfl rfl rfl (by kernel_rfl) Try.func9 (by kernel_rfl)
    (of_decide_eq_true (by kernel_rfl)) (by unfold Func.isWrapper; first | (rw [if_pos (by decide +kernel)]; kernel_rfl) | (rw [if_neg (by decide +kernel)]; exact ⟨rfl, rfl⟩))
    (fun os started H enc _ => lifted os started H enc)
theorem proved : Rows.TimerActsSaid :=
  over
end Go.Proofs.Ytpefdmidfllhoaa.timerActs
