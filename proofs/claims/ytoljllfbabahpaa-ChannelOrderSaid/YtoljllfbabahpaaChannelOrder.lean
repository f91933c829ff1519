/- The law ChannelOrder returns true at every input, and what it is handed reads as it did. No condition. -/
import Derived.Test.YtoljllfbabahpaaRows
import Derived.Test.YtoljllfbabahpaaU50
import Derived.WalkKit
import Derived.ProofKit
import Derived.OpenShut
set_option linter.unusedVariables false
namespace Go.Proofs.Ytoljllfbabahpaa.channelOrder
open Go.ChangeShapes Go.WideShapes Go.ChangeAt Go.RowKit Go.Ab
theorem own : ownKnob Try.prog.godebug = none := by kernel_rfl
theorem rd_oct {D : Type} {h : H} {n : Nat} {d : DataW D} {c : List V} (r : RD T h (n + 2) 33 d c) : ∃ (p : Option (Nat × Nat)) (vs : List Int), c = [.sl p vs.length] ∧ RoSl h p vs.length 1 (ints .u8 vs) ∧ Oct vs := by
  obtain ⟨p4, n4, vs, rfl, _, o4, b4⟩ := rd_slice_ints (T := T) (n := n) (e := 5) (k := .u8) rfl rfl rfl r
  have e4 : n4 = vs.length := by
    have := o4.1
    rw [ints_length] at this
    omega
  subst e4
  exact ⟨p4, vs, rfl, o4, fun y hy => by
    have := b4 y hy
    simp [IntKind.min, IntKind.max, IntKind.signed, IntKind.bits] at this
    omega⟩
theorem rd_rows {D : Type} {h : H} : ∀ {ds : List (DataW D)} {css : List (List V)}, RDs (RD T h 20 33) ds css → ∃ G : List Bd, css.flatten = G.flatMap slC ∧ G.length = ds.length ∧ ∀ x ∈ G, bOk h x ∧ Oct x.2
  | [], [], _ => ⟨[], rfl, rfl, fun e he => by cases he⟩
  | d :: ds, c :: cs, r => by
    obtain ⟨G, h1, h2, h3⟩ := rd_rows r.2
    obtain ⟨p, vs, rfl, o, b⟩ := rd_oct (n := 18) r.1
    refine ⟨(p, vs) :: G, by rw [List.flatten_cons, h1]; rfl, by simp [h2], fun y hy => ?_⟩
    rcases List.mem_cons.1 hy with rfl | hy
    · exact ⟨o, b⟩
    · exact h3 y hy
  | [], _ :: _, r => r.elim
  | _ :: _, [], r => r.elim
theorem law {D : Type} (h : H) (ds : List (DataW D)) (vs : List V) (r : ArgsRD T h 21 [3, 38, 3, 81] ds vs) : ACalls Try.prog 13 vs h fun r _ => r = .bool true := by
  obtain ⟨d1, c1, _, _, rfl, r1, r⟩ := args_cons r
  obtain ⟨d2, c2, _, _, rfl, r2, r⟩ := args_cons r
  obtain ⟨d3, c3, _, _, rfl, r3, r⟩ := args_cons r
  obtain ⟨d4, c4, _, _, rfl, r4, r⟩ := args_cons r
  obtain rfl := args_nil r
  obtain ⟨x, rfl, _⟩ := rd_int (T := T) (n := 20) (k := .i64) rfl r1
  obtain ⟨p, ds, css, rfl, h1, h2, h3⟩ := rd_slice (T := T) (n := 20) (e := 33) rfl r2
  obtain ⟨G, e1, e2, e3⟩ := rd_rows h3
  obtain ⟨z, rfl, _⟩ := rd_int (T := T) (n := 20) (k := .i64) rfl r3
  obtain ⟨pa, m, ps, rfl, _, o4⟩ := rd_slice_pairs (T := T) (n := 18) (a := 83) (e := 3) (k := .i64) rfl rfl rfl rfl r4
  have hl : (G.map Prod.snd).length = ds.length := by rw [List.length_map, e2]
  have rw0 : Rws h p (G.map Prod.snd) := by
    refine ⟨G, ⟨by rw [flat_length slC_len, List.length_map], ?_⟩, fun x hx => (e3 x hx).1, rfl⟩
    rcases h2 with h2 | ⟨i, rfl, h2⟩
    · exact .inl (by omega)
    · rw [e1] at h2
      exact .inr ⟨i, 0, _, rfl, h2, by rw [flat_length slC_len, List.length_map]; omega, by rw [List.drop_zero, List.length_map, ← flat_length slC_len G, List.take_length]⟩
  have := order13 rw0 (fun b hb => by
    obtain ⟨x, hx, rfl⟩ := List.mem_map.1 hb
    exact (e3 x hx).2) o4 x z
  rw [hl] at this
  exact this
set_option maxRecDepth 100000 in
theorem lifted (os : Os) (started : os.Started) (H : Type) (enc : TypeId × Value → H) :
    ReturnsInHanded {} Try.checked os 13 .any (Rows.channelOrderSpec.pre6 enc Try.prog Try.f13 Rows.channelOrderRow.domain false) (Rows.channelOrderSpec.post enc Try.prog Try.f13 false true false false) := by
  refine returnsInHanded_of_change (C := Try.checked) own started (by kernel_rfl) Try.func13
    (ChangeSpec.witness6 (enc := enc) (C := Try.checked) false ⟨#[], #[.int .i64 0, .slice none 0 0, .int .i64 0, .slice none 0 0], []⟩ 8 (by kernel_rfl) (by kernel_rfl) (by kernel_rfl) (by kernel_rfl)) ?_
  intro W base args ds gs before hval hW hcnd _
  exact law_contract (D := H) hT (f := 13) (tb := 4) (s := Rows.channelOrderSpec) (fn := Try.f13) (by kernel_rfl) rfl rfl rfl (by kernel_rfl) (by kernel_rfl)
    (fun ds hd => match ds, hd with
      | [d1, d2, d3, d4], _ => rfl) (fun h ds vs _ r => law h ds vs r) args ds gs before (fun j t v h1 h2 => ⟨base, hval j t v h1 h2⟩) hW
theorem over : Rows.channelOrderRow.holds Try.pinned (OpenSpec.ofChange Rows.channelOrderSpec) :=
  OpenClaim.holds_of_wide 13 Try.f13 rfl rfl rfl rfl rfl rfl rfl ⟨rfl, rfl, rfl, rfl, rfl⟩ rfl rfl rfl rfl rfl (by kernel_rfl) Try.func13 (by kernel_rfl)
    (of_decide_eq_true (by kernel_rfl)) (by unfold Func.isWrapper; first | (rw [if_pos (by decide +kernel)]; kernel_rfl) | (rw [if_neg (by decide +kernel)]; exact ⟨rfl, rfl⟩))
    (fun os started H enc _ => lifted os started H enc)
theorem proved : Rows.ChannelOrderSaid :=
  over
end Go.Proofs.Ytoljllfbabahpaa.channelOrder
