/- The law ChannelActs returns true at every input, and what it is handed reads as it did. No condition. -/
import Derived.Test.YtoljllfbabahpaaRows
import Derived.Test.YtoljllfbabahpaaU42
import Derived.WalkKit
import Derived.ProofKit
import Derived.OpenShut
set_option linter.unusedVariables false
namespace Go.Proofs.Ytoljllfbabahpaa.channelActs
open Go.ChangeShapes Go.WideShapes Go.ChangeAt Go.RowKit Go.Ab
theorem own : ownKnob Try.prog.godebug = none := by kernel_rfl
theorem rd_oct {D : Type} {h : H} {n : Nat} {d : DataW D} {c : List V} (r : RD T h (n + 2) 33 d c) : ∃ (p : Option (Nat × Nat)) (vs : List Int), c = [.sl p vs.length] ∧ RoSl h p vs.length 1 (ints .u8 vs) ∧ Oct vs := by
  obtain ⟨p4, n4, vs, rfl, _, o4, b4⟩ := rd_slice_ints (T := T) (n := n) (e := 5) (k := .u8) rfl rfl rfl r
  have e4 : n4 = vs.length := by
    have := o4.1
    rw [ints_length] at this
    omega
  subst e4
  exact ⟨p4, vs, rfl, o4, fun y hy => by
    have := b4 y hy
    simp [IntKind.min, IntKind.max, IntKind.signed, IntKind.bits] at this
    omega⟩
theorem rd_gram {D : Type} {h : H} {n : Nat} {d : DataW D} {c : List V} (r : RD T h (n + 4) 35 d c) : ∃ (g : GV) (p : Option (Nat × Nat)), c = gC (g, p) ∧ gOk h (g, p) ∧ Oct g.body ∧ inI g.seq := by
  obtain ⟨ds, css, rfl, q⟩ := rd_st (T := T) (n := n + 3) (fs := [(3, 0), (3, 1), (3, 2), (3, 3), (3, 4), (33, 5)]) rfl r
  obtain ⟨d1, c1, _, _, rfl, r1, q⟩ := rdf_cons q
  obtain ⟨d2, c2, _, _, rfl, r2, q⟩ := rdf_cons q
  obtain ⟨d3, c3, _, _, rfl, r3, q⟩ := rdf_cons q
  obtain ⟨d4, c4, _, _, rfl, r4, q⟩ := rdf_cons q
  obtain ⟨d5, c5, _, _, rfl, r5, q⟩ := rdf_cons q
  obtain ⟨d6, c6, _, _, rfl, r6, q⟩ := rdf_cons q
  obtain rfl := rdf_nil q
  obtain ⟨x1, rfl, _⟩ := rd_int (T := T) (n := n + 2) (k := .i64) rfl r1
  obtain ⟨x2, rfl, _⟩ := rd_int (T := T) (n := n + 2) (k := .i64) rfl r2
  obtain ⟨x3, rfl, b3⟩ := rd_int (T := T) (n := n + 2) (k := .i64) rfl r3
  obtain ⟨x4, rfl, _⟩ := rd_int (T := T) (n := n + 2) (k := .i64) rfl r4
  obtain ⟨x5, rfl, _⟩ := rd_int (T := T) (n := n + 2) (k := .i64) rfl r5
  obtain ⟨p, vs, rfl, o, b⟩ := rd_oct (n := n + 1) r6
  exact ⟨⟨x1, x2, x3, x4, x5, vs⟩, p, rfl, o, b, b3⟩
theorem rd_act {D : Type} {h : H} {d : DataW D} {c : List V} (r : RD T h 20 131 d c) : ∃ e : ActC, c = e.cells ∧ RoSl h e.bp e.bs.length 1 (ints .u8 e.bs) ∧ Oct e.bs ∧ gOk h (e.g, e.gp) ∧ Oct e.g.body ∧ inI e.g.seq := by
  obtain ⟨ds, css, rfl, q⟩ := rd_st (T := T) (n := 19) (fs := [(3, 0), (3, 1), (3, 2), (33, 3), (35, 4)]) rfl r
  obtain ⟨d1, c1, _, _, rfl, r1, q⟩ := rdf_cons q
  obtain ⟨d2, c2, _, _, rfl, r2, q⟩ := rdf_cons q
  obtain ⟨d3, c3, _, _, rfl, r3, q⟩ := rdf_cons q
  obtain ⟨d4, c4, _, _, rfl, r4, q⟩ := rdf_cons q
  obtain ⟨d5, c5, _, _, rfl, r5, q⟩ := rdf_cons q
  obtain rfl := rdf_nil q
  obtain ⟨x1, rfl, _⟩ := rd_int (T := T) (n := 18) (k := .i64) rfl r1
  obtain ⟨x2, rfl, _⟩ := rd_int (T := T) (n := 18) (k := .i64) rfl r2
  obtain ⟨x3, rfl, _⟩ := rd_int (T := T) (n := 18) (k := .i64) rfl r3
  obtain ⟨p4, vs, rfl, o4, b4⟩ := rd_oct (n := 17) r4
  obtain ⟨g, p5, rfl, o5, b5, b6⟩ := rd_gram (n := 15) r5
  exact ⟨⟨x1, x2, x3, p4, vs, p5, g⟩, rfl, o4, b4, o5, b5, b6⟩
theorem rd_acts {D : Type} {h : H} : ∀ {ds : List (DataW D)} {css : List (List V)}, RDs (RD T h 20 131) ds css → ∃ es : List ActC, css.flatten = es.flatMap ActC.cells ∧ es.length = ds.length ∧ ∀ e ∈ es, RoSl h e.bp e.bs.length 1 (ints .u8 e.bs) ∧ Oct e.bs ∧ gOk h (e.g, e.gp) ∧ Oct e.g.body ∧ inI e.g.seq
  | [], [], _ => ⟨[], rfl, rfl, fun e he => by cases he⟩
  | d :: ds, c :: cs, r => by
    obtain ⟨es, h1, h2, h3⟩ := rd_acts r.2
    obtain ⟨e, rfl, he⟩ := rd_act r.1
    refine ⟨e :: es, by rw [List.flatten_cons, h1]; rfl, by simp [h2], fun y hy => ?_⟩
    rcases List.mem_cons.1 hy with rfl | hy
    · exact he
    · exact h3 y hy
  | [], _ :: _, r => r.elim
  | _ :: _, [], r => r.elim
theorem rd_cfg {D : Type} {h : H} {d : DataW D} {c : List V} (r : RD T h 21 29 d c) : ∃ e : Cfg, c = e.cells := by
  obtain ⟨ds, css, rfl, q⟩ := rd_st (T := T) (n := 20) (fs := [(3, 0), (3, 1), (3, 2), (3, 3), (3, 4), (3, 5)]) rfl r
  obtain ⟨d1, c1, _, _, rfl, r1, q⟩ := rdf_cons q
  obtain ⟨d2, c2, _, _, rfl, r2, q⟩ := rdf_cons q
  obtain ⟨d3, c3, _, _, rfl, r3, q⟩ := rdf_cons q
  obtain ⟨d4, c4, _, _, rfl, r4, q⟩ := rdf_cons q
  obtain ⟨d5, c5, _, _, rfl, r5, q⟩ := rdf_cons q
  obtain ⟨d6, c6, _, _, rfl, r6, q⟩ := rdf_cons q
  obtain rfl := rdf_nil q
  obtain ⟨x1, rfl, _⟩ := rd_int (T := T) (n := 19) (k := .i64) rfl r1
  obtain ⟨x2, rfl, _⟩ := rd_int (T := T) (n := 19) (k := .i64) rfl r2
  obtain ⟨x3, rfl, _⟩ := rd_int (T := T) (n := 19) (k := .i64) rfl r3
  obtain ⟨x4, rfl, _⟩ := rd_int (T := T) (n := 19) (k := .i64) rfl r4
  obtain ⟨x5, rfl, _⟩ := rd_int (T := T) (n := 19) (k := .i64) rfl r5
  obtain ⟨x6, rfl, _⟩ := rd_int (T := T) (n := 19) (k := .i64) rfl r6
  exact ⟨⟨x1, x2, x3, x4, x5, x6⟩, rfl⟩
theorem law {D : Type} (h : H) (ds : List (DataW D)) (vs : List V) (r : ArgsRD T h 21 [29, 3, 122] ds vs) : ACalls Try.prog 12 vs h fun r _ => r = .bool true := by
  obtain ⟨d1, c1, _, _, rfl, r1, r⟩ := args_cons r
  obtain ⟨d2, c2, _, _, rfl, r2, r⟩ := args_cons r
  obtain ⟨d3, c3, _, _, rfl, r3, r⟩ := args_cons r
  obtain rfl := args_nil r
  obtain ⟨c, rfl⟩ := rd_cfg r1
  obtain ⟨y, rfl, _⟩ := rd_int (T := T) (n := 20) (k := .i64) rfl r2
  obtain ⟨p, ds, css, rfl, h1, h2, h3⟩ := rd_slice (T := T) (n := 20) (e := 131) rfl r3
  obtain ⟨es, e1, e2, e3⟩ := rd_acts h3
  refine acts12 (po := p) (m := ds.length) (es := es) ⟨⟨by rw [flat_length (sz := 10) (fun _ => rfl), e2], ?_⟩, e2, e3⟩ c y
  rcases h2 with h2 | ⟨i, rfl, h2⟩
  · exact .inl h2
  · rw [e1] at h2
    exact .inr ⟨i, 0, _, rfl, h2, by rw [flat_length (sz := 10) (fun _ => rfl), e2]; omega, by rw [List.drop_zero, ← e2, ← flat_length (sz := 10) (f := ActC.cells) (fun _ => rfl), List.take_length]⟩
set_option maxRecDepth 100000 in
theorem lifted (os : Os) (started : os.Started) (H : Type) (enc : TypeId × Value → H) :
    ReturnsInHanded {} Try.checked os 12 .any (Rows.channelActsSpec.pre6 enc Try.prog Try.f12 Rows.channelActsRow.domain false) (Rows.channelActsSpec.post enc Try.prog Try.f12 false true false false) := by
  refine returnsInHanded_of_change (C := Try.checked) own started (by kernel_rfl) Try.func12
    (ChangeSpec.witness6 (enc := enc) (C := Try.checked) false ⟨#[], #[.agg #[.int .i64 0, .int .i64 0, .int .i64 0, .int .i64 0, .int .i64 0, .int .i64 0], .int .i64 0, .slice none 0 0], []⟩ 8 (by kernel_rfl) (by kernel_rfl) (by kernel_rfl) (by kernel_rfl)) ?_
  intro W base args ds gs before hval hW hcnd _
  exact law_contract (D := H) hT (f := 12) (tb := 4) (s := Rows.channelActsSpec) (fn := Try.f12) (by kernel_rfl) rfl rfl rfl (by kernel_rfl) (by kernel_rfl)
    (fun ds hd => match ds, hd with
      | [d1, d2, d3], _ => rfl) (fun h ds vs _ r => law h ds vs r) args ds gs before (fun j t v h1 h2 => ⟨base, hval j t v h1 h2⟩) hW
theorem over : Rows.channelActsRow.holds Try.pinned (OpenSpec.ofChange Rows.channelActsSpec) :=
  OpenClaim.holds_of_wide 12 Try.f12 rfl rfl rfl rfl rfl rfl rfl ⟨rfl, rfl, rfl, rfl, rfl⟩ rfl rfl rfl rfl rfl (by kernel_rfl) Try.func12 (by kernel_rfl)
    (of_decide_eq_true (by kernel_rfl)) (by unfold Func.isWrapper; first | (rw [if_pos (by decide +kernel)]; kernel_rfl) | (rw [if_neg (by decide +kernel)]; exact ⟨rfl, rfl⟩))
    (fun os started H enc _ => lifted os started H enc)
theorem proved : Rows.ChannelActsSaid :=
  over
end Go.Proofs.Ytoljllfbabahpaa.channelActs
