/- Operations that read memory, and those that make new memory: soundness. -/
import Derived.Test.YtmififfaljihgaaGreatAb25
import Derived.Laws.BytesArg
set_option linter.unusedVariables false
set_option linter.unusedSimpArgs false
namespace Go.Ab
open Go

section
variable {P : Program} {T : TT}
/-- A slice, as it lies in memory. -/
theorem Rel.sl {ρ : Rho} {h : H} {w : World} {p : Option (Nat × Nat)} {n sz : Nat} {own : Bool} {cs : List V} {u : Value} (r : Rel ρ h w) (hs : SlIs h p n own sz cs) (hv : VRel ρ (.sl p n) u) :
    (p = none ∧ n = 0 ∧ cs = [] ∧ u = .slice none 0 0) ∨ (n = 0 ∧ cs = [] ∧ own = false ∧ ∃ i o cap a l, p = some (i, o) ∧ u = .slice (some a) 0 cap ∧ ρ i = some l ∧ cap ≤ maxLen ∧ (0 < cap → a = ⟨l.b, l.o + o, none⟩) ∧ o + cap * l.sz ≤ l.lim) ∨ ∃ i o l cap a o' rest us, p = some (i, o) ∧ u = .slice (some a) n cap ∧ ρ i = some l ∧ l.sz = sz ∧ n ≤ cap ∧ cap ≤ maxLen ∧ (0 < cap → a = ⟨l.b, l.o + o, none⟩) ∧ o + cap * sz ≤ l.lim ∧
      h.obj i = some (.row o' sz rest) ∧ (own = true → o' = true) ∧ o + n * sz ≤ rest.length ∧ (rest.drop o).take (n * sz) = cs ∧ VsRel ρ cs us ∧ us.length = n * sz ∧ (∀ u ∈ us, u.oneCell' = true) ∧ ∀ j u, us[j]? = some u → w.cell? (a.add j) = some u := by
  obtain ⟨hl, hs⟩ := hs
  rcases hs with ⟨rfl, hp⟩ | ⟨i, o, o', rest, rfl, hi, ho, hle, hc⟩
  · have hc0 : cs = [] := List.eq_nil_of_length_eq_zero (by simpa using hl)
    rcases hv.sl_inv with ⟨e1, _, e⟩ | ⟨i, o, cap, a, l, e, e2, e3, e4, e5, e6, e7⟩
    · exact .inl ⟨e1, rfl, hc0, e⟩
    · refine .inr (.inl ⟨rfl, hc0, ?_, i, o, cap, a, l, e, e2, e3, e5, e6, e7⟩)
      rcases hp with hp | hp
      · rw [hp] at e
        cases e
      · exact hp
  · rcases hv.sl_inv with ⟨e, _⟩ | ⟨i', o2, cap, a, l, e, e2, hlc, hn, hm, had, hlim⟩
    · cases e
    · injection e with e
      injection e with e e'
      subst e e'
      have hsz : l.sz = sz := by
        obtain ⟨l', h1, h2, _⟩ := r.obj i _ hi
        rw [hlc] at h1
        injection h1 with h1
        subst h1
        exact h2
      obtain ⟨us, hus, hul, hu1, hcell⟩ := r.cells (i := i) (off := o) (n := n * sz) (vs := cs) ⟨o', sz, rest, hi, hle, hc⟩ hlc
      refine .inr (.inr ⟨i, o, l, cap, a, o', rest, us, rfl, e2, hlc, hsz, hn, hm, had, by rw [← hsz]; exact hlim, hi, ho, hle, hc, hus, hul, hu1, fun j u hj => ?_⟩)
      have hjl := (List.getElem?_eq_some_iff.1 hj).1
      have hn0 : 0 < n := by
        rcases Nat.eq_zero_or_pos n with h0 | h0
        · subst h0
          simp at hul
          subst hul
          simp at hjl
        · exact h0
      rw [had (by omega), add_plain]
      exact hcell j u hj
theorem Rel.firstCells {ρ : Rho} {h : H} {w : World} {p : Option (Nat × Nat)} {n sz : Nat} {own : Bool} {cs : List V} {u : Value} (r : Rel ρ h w) (hs : SlIs h p n own sz cs) (hv : VRel ρ (.sl p n) u) :
    ∃ us : List Value, (Builtin.firstCells sz n u).run P w = .ok us.toArray w ∧ VsRel ρ cs us ∧ us.length = n * sz ∧ (∀ u ∈ us, u.oneCell' = true) := by
  rcases r.sl hs hv with ⟨rfl, rfl, rfl, rfl⟩ | ⟨rfl, rfl, _, i, o, cap, a, l, rfl, rfl, _⟩ | ⟨i, o, l, cap, a, o', rest, us, rfl, rfl, hlc, hsz, hn, hm, had, hlim, hi, ho, hle, hc, hus, hul, hu1, hcell⟩
  · exact ⟨[], by simp [Builtin.firstCells], VsRel.nil _, by simp, by simp⟩
  · exact ⟨[], by simp [Builtin.firstCells, loadCells, loadCellsFrom], VsRel.nil _, by simp, by simp⟩
  · exact ⟨us, run_firstCells_some w sz n a n cap us hul hcell, hus, hul, hu1⟩

theorem Rel.var (hT : TOk P T) {ρ : Rho} {h : H} {w : World} {t i off : Nat} {l : Loc} (r : Rel ρ h w) (hl : ρ i = some l) :
    (∀ v, aggK T t = .one → Cell h i off v → ∃ u, (loadVar t ⟨l.b, l.o + off, none⟩).run P w = .ok u w ∧ VRel ρ v u) ∧ (∀ cs, aggK T t = .agg → Cells h i off (T.at_ t).size cs → ∃ u, (loadVar t ⟨l.b, l.o + off, none⟩).run P w = .ok u w ∧ VRel ρ (.agg cs) u) := by
  constructor
  · intro v hk hc
    obtain ⟨u, h1, h2, h3⟩ := r.cell hc hl
    exact ⟨u, by simp [loadVar, (hT.isAgg w).2 hk, h1], h3⟩
  · intro cs hk hc
    obtain ⟨us, h1, h2, h3, h4⟩ := r.cells hc hl
    have hh : has T t = true := by
      unfold aggK at hk
      unfold has
      split at hk <;> simp_all
    refine ⟨.agg us.toArray, ?_, .agg _ _ h3 h1.1 h1.2⟩
    have := run_loadCells_plain (P := P) h4
    rw [h2] at this
    simp [loadVar, (hT.isAgg w).1 hk, hT.size hh, this]

/-- The operation gives v, in whatever world that this memory stands for. -/
def RSem (P : Program) (o : Oper) (env : Env) (h : H) (v : V) : Prop := ∀ ρ N (a : Act) (w : World), ERel ρ N env a → Rel ρ h w → ∃ u, (execOp a.eval o).run P w = .ok (.value u) w ∧ VRel ρ v u

theorem rO_sound (hT : TOk P T) {o : Oper} {env : Env} {h : H} {K : V → Prop} (hr : rO T o env h K) : ∃ v, K v ∧ RSem P o env h v := by
  obtain ⟨dst, op, type, pos, after, guard⟩ := o
  cases op with
  | load t x =>
    simp only [rO] at hr
    split at hr
    · rename_i i off hx hk
      obtain ⟨v, hc, hK⟩ := hr
      refine ⟨v, fv_iff.1 hK, fun ρ N a w ha r => ?_⟩
      have rx := opv_rel ha x
      rw [hx] at rx
      obtain ⟨l, hl, e⟩ := rx.ptr_inv
      obtain ⟨u, h1, h2⟩ := (r.var hT hl (t := t)).1 v hk hc
      exact ⟨u, by simp [execOp, e, Instr.loadAt, Instr.sureAddr, h1], h2⟩
    · rename_i i off hx hk
      obtain ⟨cs, hc, hK⟩ := hr
      refine ⟨_, hK, fun ρ N a w ha r => ?_⟩
      have rx := opv_rel ha x
      rw [hx] at rx
      obtain ⟨l, hl, e⟩ := rx.ptr_inv
      obtain ⟨u, h1, h2⟩ := (r.var hT hl (t := t)).2 cs hk hc
      exact ⟨u, by simp [execOp, e, Instr.loadAt, Instr.sureAddr, h1], h2⟩
    · exact hr.elim
  | slice t x lo hi mx =>
    simp only [rO] at hr
    split at hr
    · rename_i e p n ht hx
      rw [chk_iff] at hr
      obtain ⟨hh, ⟨cs, hs⟩, hr⟩ := hr
      obtain ⟨l, hr, hl1, hl2⟩ := boundO_sound hr
      obtain ⟨m, ⟨h1, h2, hr⟩, hm1, hm2⟩ := boundO_sound hr
      refine ⟨_, hr, fun ρ N a w ha r => ?_⟩
      have rx := opv_rel ha x
      rw [hx] at rx
      rcases r.sl hs rx with ⟨rfl, rfl, rfl, e2⟩ | ⟨rfl, rfl, _, i', o', cap, ad, lc, rfl, e2, hlc, hmx, had, hlim⟩ | ⟨i', o', lc, cap, ad, ow, rest, us, rfl, e2, hlc, hsz, hn, hmx, had, hlim, _⟩
      · have hb := run_sliceBounds (P := P) (w := w) ha (b := true) (lo := lo) (hi := hi) ⟨hl1, hl2⟩ ⟨hm1, hm2⟩ h1 h2 (Nat.le_refl 0)
        have hm0 : m = 0 := by omega
        have hl0 : l = 0 := by omega
        subst hm0 hl0
        exact ⟨.slice none 0 0, by simp [execOp, e2, Instr.sliceAt, Instr.slice, run_underlying (hT.of_sl ht), hb, hT.size hh], by simpa [slp] using .nils⟩
      · have hb := run_sliceBounds (P := P) (w := w) ha (b := true) (lo := lo) (hi := hi) ⟨hl1, hl2⟩ ⟨hm1, hm2⟩ h1 h2 (Nat.zero_le cap)
        have hm0 : m = 0 := by omega
        have hl0 : l = 0 := by omega
        subst hm0 hl0
        refine ⟨.slice (some (if cap = 0 then ad else ad.add (0 * (T.at_ e).size))) 0 cap, ?_, ?_⟩
        · simp only [execOp, e2, Instr.sliceAt, Instr.slice, Sem.run_bind, run_underlying (hT.of_sl ht), Result.andThen_ok, hb, hT.size hh, Sem.run_pure, Option.map_none, Option.map_some]
          split <;> rfl
        · refine .sl _ _ _ _ _ lc hlc (Nat.zero_le _) hmx (fun hc => ?_) ?_
          · rw [if_neg (by omega), had (by omega), add_plain]
            simp
          · simpa using hlim
      · have hb := run_sliceBounds (P := P) (w := w) ha (b := true) (lo := lo) (hi := hi) ⟨hl1, hl2⟩ ⟨hm1, hm2⟩ h1 h2 hn
        refine ⟨.slice (some (if cap = l then ad else ad.add (l * (T.at_ e).size))) (m - l) (cap - l), ?_, ?_⟩
        · simp only [execOp, e2, Instr.sliceAt, Instr.slice, Sem.run_bind, run_underlying (hT.of_sl ht), Result.andThen_ok, hb, hT.size hh, Sem.run_pure, Option.map_none, Option.map_some]
          split <;> rfl
        · refine .sl _ _ _ _ _ lc hlc (by omega) (by omega) (fun hc => ?_) ?_
          · rw [if_neg (by omega), had (by omega), add_plain]
            simp [Nat.add_assoc]
          · rw [hsz, Nat.add_assoc, ← Nat.add_mul]
            have : l + (cap - l) = cap := by omega
            rw [this]
            exact hlim
    · exact hr.elim
  | convert src dst x =>
    simp only [rO] at hr
    split at hr
    · rename_i e p n hs hd hx
      split at hr
      · rename_i he
        obtain ⟨xs, hsl, hrange, hr⟩ := hr
        refine ⟨_, hr, fun ρ N a w ha r => ?_⟩
        have rx := opv_rel ha x
        rw [hx] at rx
        have hstr : VRel ρ (.str xs) (.string (strOfNums xs)) := by
          have : xs = (strOfNums xs).data.toList.map fun b => (b.toNat : Int) := by
            rw [strOfNums_data, List.map_map]
            conv => lhs; rw [← List.map_id xs]
            refine List.map_congr_left fun x hx => ?_
            have := hrange x hx
            simp only [Function.comp, id, UInt8.toNat_ofNat']
            omega
          conv => arg 2; rw [this]
          exact .str _
        refine ⟨_, ?_, hstr⟩
        rcases r.sl hsl rx with ⟨rfl, rfl, e1, e2⟩ | ⟨rfl, e1, _, i', o', cap, ad, lc, rfl, e2, _⟩ | ⟨i', o', lc, cap, ad, ow, rest, us, rfl, e2, hlc, hsz, hn, hmx, had, hlim, _, _, _, _, hus, hul, _, hcell⟩
        · have hx0 : xs = [] := by simpa [ints] using e1
          subst hx0
          have := run_convert_bytes_nil (P := P) w src e (hT.of_sl hs) (hT.of_int he) 0 0 dst (hT.of_str hd)
          simp only [execOp, e2, Sem.run_bind, this, Result.andThen_ok]
          rfl
        · have hx0 : xs = [] := by simpa [ints] using e1
          subst hx0
          have hrun : (convert src dst (.slice (some ad) 0 cap)).run P w = .ok (.string (strOfNums [])) w := by
            obtain ⟨b, o, sp⟩ := ad
            simp only [convert, Sem.run_bind, run_underlying (hT.of_sl hs), run_underlying (hT.of_str hd), Result.andThen_ok, run_underlying (hT.of_int he)]
            simp [Conv.bytesToString, loadCells, loadCellsFrom, strOfNums]
            rfl
          simp only [execOp, e2, Sem.run_bind, hrun, Result.andThen_ok]
          rfl
        · have hxl : xs.length = n := by
            have := hus.1
            simp [ints] at this
            omega
          have hval : ∀ j, j < n → us[j]? = some (.int .u8 (xs.getD j 0)) := by
            intro j hj
            have hc : (ints .u8 xs)[j]? = some (.int .u8 (xs.getD j 0)) := by
              simp [ints, List.getElem?_eq_getElem (show j < xs.length by omega), List.getD_eq_getElem?_getD]
            obtain ⟨u, h1, h2⟩ := hus.get hc
            rw [h1, h2.int_inv]
          have hrun : (convert src dst (.slice (some ad) n cap)).run P w = .ok (.string (strOfNums xs)) w := by
            rcases Nat.eq_zero_or_pos n with h0 | h0
            · subst h0
              have : xs = [] := List.eq_nil_of_length_eq_zero hxl
              subst this
              obtain ⟨b, o, sp⟩ := ad
              simp only [convert, Sem.run_bind, run_underlying (hT.of_sl hs), run_underlying (hT.of_str hd), Result.andThen_ok, run_underlying (hT.of_int he)]
              simp [Conv.bytesToString, loadCells, loadCellsFrom, strOfNums]
              rfl
            · have := had (by omega)
              subst this
              refine run_convert_bytes_arg w src e (hT.of_sl hs) (hT.of_int he) lc.b (lc.o + o') n cap xs hxl (fun j hj => ?_) dst (hT.of_str hd)
              have := hcell j _ (hval j hj)
              rwa [add_plain] at this
          simp only [execOp, e2, Sem.run_bind, hrun, Result.andThen_ok]
          rfl
      · exact hr.elim
    · exact hr.elim
  | lookup t x ix ok =>
    simp only [rO] at hr
    split at hr
    · rename_i kt et k n ht hx hix
      split at hr
      · rename_i k' hk
        rw [chk_iff, chk_iff] at hr
        obtain ⟨hkk, hh, hr⟩ := hr
        have := kEq_eq hkk
        subst this
        obtain ⟨i, z, g1, g2, g3, g4, g5, g6, g7⟩ := (hT et hh).info
        refine ⟨_, hr, fun ρ N a w ha r => ?_⟩
        have rx := opv_rel ha x
        rw [hx] at rx
        have ri := opv_rel ha ix
        rw [hix] at ri
        have ex : a.eval x = .map none := by
          rcases rx.mp_inv with ⟨_, e⟩ | ⟨_, _, e, _⟩
          · exact e
          · cases e
        have hrun := run_lookup_nil (P := P) (w := w) (hT.of_mp ht) (hT.of_int hk) n (uz := z) (by simp [zeroValue, typeInfo, g1, g4]) ok
        refine ⟨_, by simp [execOp, ex, ri.int_inv, hrun]; rfl, ?_⟩
        cases ok with
        | true => exact .tup _ [z, .bool false] rfl (VsRel.cons (g5 ρ) (VsRel.cons (.bool _) (VsRel.nil ρ))).2
        | false => exact g5 ρ
      · exact hr.elim
    · rename_i kt et i k n ht hx hix
      split at hr
      · rename_i k' hk
        rw [chk_iff, chk_iff] at hr
        obtain ⟨hkk, hh, own, ms, hi, hr⟩ := hr
        have := kEq_eq hkk
        subst this
        obtain ⟨i', z, g1, g2, g3, g4, g5, g6, g7⟩ := (hT et hh).info
        refine ⟨_, hr, fun ρ N a w ha r => ?_⟩
        have rx := opv_rel ha x
        rw [hx] at rx
        have ri := opv_rel ha ix
        rw [hix] at ri
        have ex : ∃ l, a.eval x = .map (some l.b) ∧ ρ i = some l := by
          rcases rx.mp_inv with ⟨e, _⟩ | ⟨i2, l, e, e2, e3⟩
          · cases e
          · injection e with e
            subst e
            exact ⟨l, e2, e3⟩
        obtain ⟨l, ex, hl⟩ := ex
        obtain ⟨u, hrun, hu⟩ := run_lookup (P := P) (hT.of_mp ht) (hT.of_int hk) r hi hl n (g5 ρ) (uz := z) (by simp [zeroValue, typeInfo, g1, g4]) ok
        refine ⟨_, by simp [execOp, ex, ri.int_inv, hrun]; rfl, ?_⟩
        cases ok with
        | true => exact .tup _ [u, .bool _] rfl (VsRel.cons hu (VsRel.cons (.bool _) (VsRel.nil ρ))).2
        | false => exact hu
      · exact hr.elim
    · rename_i kt et i k a' k2 b' ht hx hix
      split at hr
      · rename_i m e hk
        split at hr
        · rename_i k' hke
          simp only [chk_iff] at hr
          obtain ⟨q1, q2, q3, q4, q5, hh, own, ms, hi, hn, hw, wn, hr⟩ := hr
          obtain rfl := kEq_eq q1
          obtain rfl := kEq_eq q2
          obtain rfl := Nat.eq_of_beq_eq_true q3
          obtain ⟨i', z, g1, g2, g3, g4, g5, g6, g7⟩ := (hT et hh).info
          have A := hT.arrKey hk hke (Nat.eq_of_beq_eq_true q4) (Nat.eq_of_beq_eq_true q5)
          refine ⟨_, hr, fun ρ N a w ha r => ?_⟩
          have rx := opv_rel ha x
          rw [hx] at rx
          have ri := opv_rel ha ix
          rw [hix] at ri
          have ri := pk_inv (n := (_, _)) ri
          have ex : ∃ l, a.eval x = .map (some l.b) ∧ ρ i = some l := by
            rcases rx.mp_inv with ⟨e, _⟩ | ⟨i2, l, e, e2, e3⟩
            · cases e
            · injection e with e
              subst e
              exact ⟨l, e2, e3⟩
          obtain ⟨l, ex, hl⟩ := ex
          obtain ⟨u, hrun, hu⟩ := run_lookup_p (P := P) (hT.of_mp ht) A (hT.of_int hke) (hT et hh).tys r hi hl hn hw wn (g5 ρ) (uz := z) (by simp [zeroValue, typeInfo, g1, g4]) ok
          refine ⟨_, by simp [execOp, ex, ri, hrun]; rfl, ?_⟩
          cases ok with
          | true => exact .tup _ [u, .bool _] rfl (VsRel.cons hu (VsRel.cons (.bool _) (VsRel.nil ρ))).2
          | false => exact hu
        · exact hr.elim
      · exact hr.elim
    · exact hr.elim
  | call c =>
    obtain ⟨callee, ⟨args⟩, ⟨argTypes⟩⟩ := c
    simp only [rO] at hr
    split at hr
    · rename_i x t
      split at hr
      · rename_i kt et ht hx
        refine ⟨_, hr, fun ρ N a w ha r => ?_⟩
        have rx := opv_rel ha x
        rw [hx] at rx
        have ex : a.eval x = .map none := by
          rcases rx.mp_inv with ⟨_, e⟩ | ⟨_, _, e, _⟩
          · exact e
          · cases e
        exact ⟨_, by simp [execOp, resolve, invoke, builtin, Builtin.len_, run_underlying (hT.of_mp ht), ex]; rfl, .int _ _⟩
      · rename_i kt et i ht hx
        obtain ⟨own, es, hi, hr⟩ := hr
        refine ⟨_, hr, fun ρ N a w ha r => ?_⟩
        have rx := opv_rel ha x
        rw [hx] at rx
        rcases rx.mp_inv with ⟨e, _⟩ | ⟨i2, l, e, e2, e3⟩
        · cases e
        injection e with e
        subst e
        obtain ⟨l', e1, ms, clock, q1, q2, _⟩ := r.obj i _ hi
        rw [e3] at e1
        injection e1 with e1
        subst e1
        refine ⟨_, by simp [execOp, resolve, invoke, builtin, Builtin.len_, run_underlying (hT.of_mp ht), e2, MapKept.run_getObj_map q1]; rfl, ?_⟩
        rw [q2]
        exact .int _ _
      · exact hr.elim
    · exact hr.elim
  | _ => exact hr.elim
end
end Go.Ab
