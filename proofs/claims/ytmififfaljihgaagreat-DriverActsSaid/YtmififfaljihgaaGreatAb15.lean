/- What a call is handed, read as data, stands for rows that nobody writes. -/
import Derived.Test.YtmififfaljihgaaGreatAb14
import Derived.ChangeArms
import Derived.OpenShut
set_option linter.unusedVariables false
set_option linter.unusedSimpArgs false
namespace Go.Ab
open Go

/-! ### Data as cells -/
def RDs {α : Type} (R : α → List V → Prop) : List α → List (List V) → Prop
  | [], [] => True
  | d :: ds, c :: cs => R d c ∧ RDs R ds cs
  | _, _ => False
def RDf {α : Type} (R : Nat → α → List V → Prop) : List (Nat × Nat) → List α → List (List V) → Prop
  | [], [], [] => True
  | f :: fs, d :: ds, c :: cs => R f.1 d c ∧ RDf R fs ds cs
  | _, _, _ => False
/-- The datum d, of type t, is told by the cells c. -/
def RD {D : Type} (T : TT) (h : H) : Nat → Nat → DataW D → List V → Prop
  | 0, _, _, _ => False
  | n + 1, t, d, c => match (T.at_ t).d, d with
    | .bool, .lit (.bool b) => c = [.bool b]
    | .int k, .lit (.int k' x) => k' = k ∧ c = [.int k x] ∧ k.min ≤ x ∧ x ≤ k.max
    | .str, .lit (.string bs) => c = [.str (bs.map fun b => (b.toNat : Int))] ∧ bs.length ≤ maxLen
    | .sl _, .nil => c = [.sl none 0]
    | .sl e, .slice elems _ => ∃ i css, c = [.sl (some (i, 0)) elems.length] ∧ elems.length ≤ maxLen ∧ (elems ≠ [] → h.obj i = some (.row false (T.at_ e).size css.flatten)) ∧ RDs (RD T h n e) elems css
    | .st fs, .agg ds => ∃ css, c = css.flatten ∧ RDf (fun t => RD T h n t) fs ds css
    | .arr m e, .agg ds => ∃ css, c = css.flatten ∧ ds.length = m ∧ RDs (RD T h n e) ds css
    | _, _ => False
theorem RDs.mono {α : Type} {R R' : α → List V → Prop} : ∀ {ds : List α} {cs : List (List V)}, (∀ d c, R d c → R' d c) → RDs R ds cs → RDs R' ds cs
  | [], [], _, _ => trivial
  | d :: ds, c :: cs, hR, h => ⟨hR _ _ h.1, RDs.mono hR h.2⟩
  | [], _ :: _, _, h => h.elim
  | _ :: _, [], _, h => h.elim
theorem RDf.mono {α : Type} {R R' : Nat → α → List V → Prop} : ∀ {fs : List (Nat × Nat)} {ds : List α} {cs : List (List V)}, (∀ t d c, R t d c → R' t d c) → RDf R fs ds cs → RDf R' fs ds cs
  | [], [], [], _, _ => trivial
  | f :: fs, d :: ds, c :: cs, hR, h => ⟨hR _ _ _ h.1, RDf.mono hR h.2⟩
  | [], [], _ :: _, _, h => h.elim
  | [], _ :: _, _, _, h => h.elim
  | _ :: _, [], _, _, h => h.elim
  | _ :: _, _ :: _, [], _, h => h.elim
theorem RD.mono {D : Type} {T : TT} {h h' : H} (hh : ∀ i ob, h.obj i = some ob → h'.obj i = some ob) : ∀ {n t : Nat} {d : DataW D} {c : List V}, RD T h n t d c → RD T h' n t d c
  | 0, _, _, _, r => r.elim
  | n + 1, t, d, c, r => by
    unfold RD at r ⊢
    split at r
    · exact r
    · exact r
    · exact r
    · exact r
    · obtain ⟨i, css, h1, h2, h3, h4⟩ := r
      exact ⟨i, css, h1, h2, fun hne => hh _ _ (h3 hne), h4.mono fun d c r => RD.mono hh r⟩
    · obtain ⟨css, h1, h2⟩ := r
      exact ⟨css, h1, h2.mono fun t d c r => RD.mono hh r⟩
    · obtain ⟨css, h1, h2, h3⟩ := r
      exact ⟨css, h1, h2, h3.mono fun d c r => RD.mono hh r⟩
    · exact r.elim

/-! ### Types that are served: contiguous structs, arrays, slices, plain values -/
def offsOk (T : TT) : Nat → List (Nat × Nat) → Option Nat
  | o, [] => some o
  | o, (t, f) :: r => match Nat.beq o f with
    | true => offsOk T (o + (T.at_ t).size) r
    | false => none
def sup (T : TT) : Nat → Nat → Bool
  | 0, _ => false
  | n + 1, t => match (T.at_ t).d with
    | .bool => Nat.beq (T.at_ t).size 1
    | .int _ => Nat.beq (T.at_ t).size 1
    | .str => Nat.beq (T.at_ t).size 1
    | .sl e => Nat.beq (T.at_ t).size 1 && Nat.ble 1 (T.at_ e).size && sup T n e
    | .st fs => (match offsOk T 0 fs with
      | some o => Nat.beq o (T.at_ t).size
      | none => false) && fs.all fun f => sup T n f.1
    | .arr m e => Nat.beq (T.at_ t).size (m * (T.at_ e).size) && sup T n e
    | _ => false
theorem mapM_some {α β : Type} {f : α → Option β} : ∀ {l : List α} {ys : List β}, l.mapM f = some ys → ys.length = l.length ∧ ∀ (i : Nat) (x : α), l[i]? = some x → ∃ y, ys[i]? = some y ∧ f x = some y
  | [], ys, h => by
    simp at h
    subst h
    exact ⟨rfl, fun i x hx => by simp at hx⟩
  | x :: l, ys, h => by
    rw [List.mapM_cons] at h
    obtain ⟨y, hy, h⟩ := Option.bind_eq_some_iff.1 h
    obtain ⟨zs, hz, h⟩ := Option.bind_eq_some_iff.1 h
    injection h with h
    subst h
    obtain ⟨h1, h2⟩ := mapM_some hz
    refine ⟨by simp [h1], fun i a ha => ?_⟩
    cases i with
    | zero =>
      simp at ha
      subst ha
      exact ⟨y, rfl, hy⟩
    | succ i =>
      obtain ⟨z, hz1, hz2⟩ := h2 i a (by simpa using ha)
      exact ⟨z, by simpa using hz1, hz2⟩
/-- What grows as arguments are read: rows that nobody writes. -/
structure Reads (ρ : Rho) (h : H) (W : World) : Prop where
  r : Rel ρ h W
  d : Dom ρ h.next
  ro : ∀ i ob, h.obj i = some ob → ob.own = false
structure GrowR (ρ : Rho) (h : H) (ρ' : Rho) (h' : H) : Prop where
  ext : ∀ i l, ρ i = some l → ρ' i = some l
  obj : ∀ i ob, h.obj i = some ob → h'.obj i = some ob
theorem GrowR.refl (ρ : Rho) (h : H) : GrowR ρ h ρ h := ⟨fun _ _ e => e, fun _ _ e => e⟩
theorem GrowR.trans {ρ ρ1 ρ2 : Rho} {h h1 h2 : H} (a : GrowR ρ h ρ1 h1) (b : GrowR ρ1 h1 ρ2 h2) : GrowR ρ h ρ2 h2 := ⟨fun i l e => b.ext i l (a.ext i l e), fun i ob e => b.obj i ob (a.obj i ob e)⟩
/-- One number more; no object. -/
def H.skip (h : H) : H := ⟨h.next + 1, h.obj, fun i ob e => Nat.lt_succ_of_lt (h.lt i ob e)⟩
theorem Reads.skip {ρ : Rho} {h : H} {W : World} (r : Reads ρ h W) (l : Loc) : Reads (ρ.add h.next l) h.skip W ∧ GrowR ρ h (ρ.add h.next l) h.skip := by
  have he := Rho.add_ext r.d l
  refine ⟨⟨⟨fun i ob e => ?_, fun i j oi oj li lj hi hj ho => ?_⟩, r.d.add l, r.ro⟩, he, fun _ _ e => e⟩
  · obtain ⟨l', h1, h2⟩ := r.r.obj i ob e
    exact ⟨l', he _ _ h1, h2.mono he rfl⟩
  · rw [r.ro i oi hi] at ho
    cases ho
theorem Reads.row {ρ : Rho} {h : H} {W : World} (r : Reads ρ h W) (l : Loc) {ob : Obj} (ho : ob.own = false) (hob : ObjRel (ρ.add h.next l) W l ob) : Reads (ρ.add h.next l) (h.push ob) W ∧ GrowR ρ h (ρ.add h.next l) (h.push ob) := by
  have he := Rho.add_ext r.d l
  have hro : ∀ i o, (h.push ob).obj i = some o → o.own = false := by
    intro i o e
    simp only [H.push] at e
    split at e
    · injection e with e
      subst e
      exact ho
    · exact r.ro i o e
  refine ⟨⟨⟨fun i o e => ?_, fun i j oi oj li lj hi hj hoi => ?_⟩, r.d.add l, hro⟩, he, fun i o e => H.obj_push ob e⟩
  · simp only [H.push] at e
    split at e
    · rename_i ei
      injection e with e
      subst e ei
      exact ⟨l, Rho.add_self _ _ _, hob⟩
    · obtain ⟨l', h1, h2⟩ := r.r.obj i o e
      exact ⟨l', he _ _ h1, h2.mono he rfl⟩
  · rw [hro i oi hi] at hoi
    cases hoi

section
variable {P : Program} {T : TT} {D : Type} {enc : TypeId × Value → D} {W : World}
theorem cells_of {a : Addr} {n : Nat} {xs : List Value} (h : W.cells? 0 a n = some xs) : xs.length = n ∧ ∀ j u, xs[j]? = some u → W.cell? (a.add j) = some u := by
  unfold World.cells? at h
  rw [if_pos (Nat.zero_le _)] at h
  obtain ⟨h1, h2⟩ := mapM_some h
  refine ⟨by simpa using h1, fun j u hj => ?_⟩
  have hjl : j < n := by
    have := (List.getElem?_eq_some_iff.1 hj).1
    rw [h1] at this
    simpa using this
  obtain ⟨y, hy1, hy2⟩ := h2 j j (by simp [hjl])
  rw [hj] at hy1
  injection hy1 with hy1
  rw [hy1]
  exact hy2
theorem cell_norm {a : Addr} {p q : Nat} {u : Value} (h : W.cell? ((a.add p).add q) = some u) : W.cell? ⟨a.block, a.off + (p + q), none⟩ = some u := by
  obtain ⟨b, o, sp⟩ := a
  by_cases hp : p = 0
  · by_cases hq : q = 0
    · subst hp hq
      simp only [Addr.add, if_true] at h
      cases sp with
      | none => simpa using h
      | some x =>
        unfold World.cell? at h
        simp at h
        split at h <;> cases h
    · subst hp
      simpa [Addr.add, hq] using h
  · by_cases hq : q = 0
    · subst hq
      simpa [Addr.add, hp] using h
    · simpa [Addr.add, hp, hq, Nat.add_assoc] using h
theorem cell_block {b x : Nat} {u : Value} (h : W.cell? ⟨b, x, none⟩ = some u) : ∃ c e f, W.heap[b]? = some (.cells c e f) ∧ c[x]? = some u := by
  unfold World.cell? at h
  split at h
  · rename_i c e f hb
    exact ⟨c, e, f, hb, by simpa using h⟩
  · cases h
def ReadOne (P : Program) (T : TT) (enc : TypeId × Value → D) (W : World) (n F : Nat) : Prop := ∀ (t : Nat) (cs : List Value) (d : DataW D) (ps : List MemPlace), sup T n t = true → DataW.trod enc P W 0 (fun _ => true) true F t cs = some (d, ps) → ∀ ρ h, Reads ρ h W →
  ∃ ρ' h' c, Reads ρ' h' W ∧ GrowR ρ h ρ' h' ∧ VsRel ρ' c cs ∧ (∀ u ∈ cs, u.oneCell' = true) ∧ cs.length = (T.at_ t).size ∧ RD T h' n t d c
/-- Many of one type, one behind the other. -/
theorem read_seq {n F e : Nat} (ih : ReadOne P T enc W n F) (he : sup T n e = true) : ∀ (items : List (List Value × DataW D × List MemPlace)), (∀ it ∈ items, DataW.trod enc P W 0 (fun _ => true) true F e it.1 = some (it.2.1, it.2.2)) → ∀ ρ h, Reads ρ h W →
    ∃ ρ' h' css, Reads ρ' h' W ∧ GrowR ρ h ρ' h' ∧ VsRel ρ' css.flatten (items.map (·.1)).flatten ∧ (∀ u ∈ (items.map (·.1)).flatten, u.oneCell' = true) ∧ (items.map (·.1)).flatten.length = items.length * (T.at_ e).size ∧ RDs (RD T h' n e) (items.map (·.2.1)) css
  | [], _, ρ, h, r => ⟨ρ, h, [], r, GrowR.refl _ _, VsRel.nil _, by simp, by simp, trivial⟩
  | it :: items, hi, ρ, h, r => by
    obtain ⟨ρ1, h1, c, r1, g1, v1, o1, l1, d1⟩ := ih e it.1 it.2.1 it.2.2 he (hi it (by simp)) ρ h r
    obtain ⟨ρ2, h2, css, r2, g2, v2, o2, l2, d2⟩ := read_seq ih he items (fun x hx => hi x (by simp [hx])) ρ1 h1 r1
    refine ⟨ρ2, h2, c :: css, r2, g1.trans g2, ?_, ?_, ?_, d1.mono g2.obj, d2⟩
    · simpa using (v1.mono g2.ext).append v2
    · intro u hu
      simp only [List.map_cons, List.flatten_cons, List.mem_append] at hu
      rcases hu with hu | hu
      · exact o1 u hu
      · exact o2 u hu
    · simp only [List.map_cons, List.flatten_cons, List.length_append, List.length_cons, l1, l2, Nat.add_mul, Nat.one_mul]
      omega
/-- The fields of a struct, one behind the other. -/
theorem read_fields {n F : Nat} (ih : ReadOne P T enc W n F) : ∀ (fs : List (Nat × Nat)) (o : Nat) (cs : List Value) (xs : List (DataW D × List MemPlace)) (tot : Nat), offsOk T o fs = some tot → (fs.all fun f => sup T n f.1) = true → cs.length = tot → o ≤ tot →
    (xs.length = fs.length ∧ ∀ (j : Nat) f, fs[j]? = some f → ∃ x, xs[j]? = some x ∧ DataW.trod enc P W 0 (fun _ => true) true F f.1 ((cs.drop f.2).take (T.at_ f.1).size) = some x) → ∀ ρ h, Reads ρ h W →
    ∃ ρ' h' css, Reads ρ' h' W ∧ GrowR ρ h ρ' h' ∧ VsRel ρ' css.flatten (cs.drop o) ∧ (∀ u ∈ cs.drop o, u.oneCell' = true) ∧ RDf (fun t => RD T h' n t) fs (xs.map (·.1)) css
  | [], o, cs, xs, tot, ho, _, hl, hle, hx, ρ, h, r => by
    simp [offsOk] at ho
    have : xs = [] := List.eq_nil_of_length_eq_zero hx.1
    subst this
    have hd : cs.drop o = [] := List.drop_eq_nil_of_le (by omega)
    rw [hd]
    exact ⟨ρ, h, [], r, GrowR.refl _ _, VsRel.nil _, by simp, trivial⟩
  | (t, f) :: fs, o, cs, xs, tot, ho, hs, hl, hle, hx, ρ, h, r => by
    simp only [offsOk] at ho
    cases hb : Nat.beq o f with
    | false => simp [hb] at ho
    | true =>
      simp only [hb] at ho
      have := Nat.eq_of_beq_eq_true hb
      subst this
      simp only [List.all_cons, Bool.and_eq_true] at hs
      obtain ⟨hxl, hx⟩ := hx
      cases xs with
      | nil => simp at hxl
      | cons x xs =>
        obtain ⟨x', hx1, hx2⟩ := hx 0 _ rfl
        simp at hx1
        subst hx1
        obtain ⟨ρ1, h1, c, r1, g1, v1, o1, l1, d1⟩ := ih t _ x.1 x.2 hs.1 hx2 ρ h r
        have hle2 : ∀ (fs : List (Nat × Nat)) (o tot : Nat), offsOk T o fs = some tot → o ≤ tot := by
          intro fs
          induction fs with
          | nil => intro o tot h; simp [offsOk] at h; omega
          | cons g fs ihf =>
            obtain ⟨t', f'⟩ := g
            intro o tot h
            simp only [offsOk] at h
            cases hb : Nat.beq o f' with
            | false => simp [hb] at h
            | true =>
              simp only [hb] at h
              have := ihf _ _ h
              omega
        obtain ⟨ρ2, h2, css, r2, g2, v2, o2, d2⟩ := read_fields ih fs (o + (T.at_ t).size) cs xs tot ho hs.2 hl (hle2 _ _ _ ho) ⟨by simpa using hxl, fun j g hg => by
          obtain ⟨y, hy1, hy2⟩ := hx (j + 1) g (by simpa using hg)
          exact ⟨y, by simpa using hy1, hy2⟩⟩ ρ1 h1 r1
        have hsplit : cs.drop o = (cs.drop o).take (T.at_ t).size ++ cs.drop (o + (T.at_ t).size) := by
          rw [← List.drop_drop, List.take_append_drop]
        refine ⟨ρ2, h2, c :: css, r2, g1.trans g2, ?_, ?_, d1.mono g2.obj, d2⟩
        · rw [hsplit]
          simpa using (v1.mono g2.ext).append v2
        · rw [hsplit]
          intro u hu
          rcases List.mem_append.1 hu with hu | hu
          · exact o1 u hu
          · exact o2 u hu

theorem read_one (hT : TOk P T) : ∀ (n F : Nat), ReadOne P T enc W n F
  | 0, F => fun t cs d ps hs => by simp [sup] at hs
  | n + 1, F => by
    intro t cs d ps hs hd ρ h r
    have size_of : ∀ t, has T t = true → P.cellsOf t = (T.at_ t).size := fun t ht => by
      obtain ⟨i, z, h1, h2, _⟩ := (hT t ht).info
      simp [Program.cellsOf, h1, h2]
    have hasT : ∀ n t, sup T n t = true → has T t = true := fun n t hs => by
      cases n with
      | zero => simp [sup] at hs
      | succ n =>
        unfold sup at hs
        unfold has
        split at hs <;> simp_all
    have hh := hasT _ _ hs
    unfold sup at hs
    unfold RD
    split at hs
    · rename_i ht
      have hsz := Nat.eq_of_beq_eq_true hs
      obtain ⟨b, rfl, hx⟩ := DataW.trod_bool (hT.of_bool ht) hd
      injection hx with hx _
      subst hx
      exact ⟨ρ, h, [.bool b], r, GrowR.refl _ _, VsRel.cons (.bool b) (VsRel.nil _), by simp [Value.oneCell'], by simp [hsz], by simp [ht]⟩
    · rename_i k ht
      have hsz := Nat.eq_of_beq_eq_true hs
      obtain ⟨x, rfl, hx, hw⟩ := DataW.trod_int (hT.of_int ht) hd
      injection hx with hx _
      subst hx
      have hw' : k.min ≤ x ∧ x ≤ k.max := by simpa [Lit.wf] using hw
      exact ⟨ρ, h, [.int k x], r, GrowR.refl _ _, VsRel.cons (.int k x) (VsRel.nil _), by simp [Value.oneCell'], by simp [hsz], by simp [ht, hw']⟩
    · rename_i ht
      have hsz := Nat.eq_of_beq_eq_true hs
      obtain ⟨s, rfl, hx, hw⟩ := DataW.trod_string (hT.of_str ht) hd
      injection hx with hx _
      subst hx
      refine ⟨ρ, h, [.str (s.data.toList.map fun b => (b.toNat : Int))], r, GrowR.refl _ _, VsRel.cons (.str s) (VsRel.nil _), by simp [Value.oneCell'], by simp [hsz], ?_⟩
      rw [ht]
      refine ⟨rfl, ?_⟩
      rw [Array.length_toList]
      exact hw
    · rename_i e ht
      simp only [Bool.and_eq_true] at hs
      obtain ⟨⟨hsz, he1⟩, hse⟩ := hs
      have hsz := Nat.eq_of_beq_eq_true hsz
      have he1 := Nat.le_of_ble_eq_true he1
      have hce := size_of e (hasT _ _ hse)
      rcases DataW.trod_slice (hT.of_sl ht) hd with ⟨rfl, hx⟩ | ⟨a, len, cap, elems, rest, F', rfl, rfl, hx, _, hle, hmx, hel, hread, hrest, _⟩
      · injection hx with hx _
        subst hx
        exact ⟨ρ, h, [.sl none 0], r, GrowR.refl _ _, VsRel.cons .nils (VsRel.nil _), by simp [Value.oneCell'], by simp [hsz], by simp [ht]⟩
      · injection hx with hx _
        subst hx
        rw [hce] at hread hrest
        obtain ⟨hrl, hrest⟩ := hrest rfl
        -- the elements' cells
        have hit : ∃ items : List (List Value × DataW D × List MemPlace), items.length = len ∧ items.map (·.2) = elems ∧ (∀ it ∈ items, DataW.trod enc P W 0 (fun _ => true) true F' e it.1 = some (it.2.1, it.2.2)) ∧
            ∀ (i : Nat) it, items[i]? = some it → W.cells? 0 (a.add (i * (T.at_ e).size)) (T.at_ e).size = some it.1 := by
          have hex : ∀ i, i < len → ∃ xs y, W.cells? 0 (a.add (i * (T.at_ e).size)) (T.at_ e).size = some xs ∧ DataW.trod enc P W 0 (fun _ => true) true F' e xs = some y ∧ elems[i]? = some y := by
            intro i hi
            have := hread i hi
            rw [List.getElem?_eq_getElem (by omega)] at this
            obtain ⟨xs, h1, h2⟩ := Option.bind_eq_some_iff.1 this
            exact ⟨xs, _, h1, h2, List.getElem?_eq_getElem (by omega)⟩
          refine ⟨(List.range len).map fun i => ((W.cells? 0 (a.add (i * (T.at_ e).size)) (T.at_ e).size).getD [], (elems[i]?).getD (.nil, [])), by simp, ?_, ?_, ?_⟩
          · apply List.ext_getElem?
            intro i
            simp only [List.map_map, List.getElem?_map]
            rcases Nat.lt_or_ge i len with hi | hi
            · rw [List.getElem?_range hi, List.getElem?_eq_getElem (show i < elems.length by omega)]
              simp [List.getElem?_eq_getElem (show i < elems.length by omega)]
            · rw [List.getElem?_eq_none (by simp; omega), List.getElem?_eq_none (by omega)]
              rfl
          · intro it hm
            simp only [List.mem_map, List.mem_range] at hm
            obtain ⟨i, hi, rfl⟩ := hm
            obtain ⟨xs, y, h1, h2, h3⟩ := hex i hi
            simp [h1, h2, h3]
          · intro i it hm
            rcases Nat.lt_or_ge i len with hi | hi
            · rw [List.getElem?_map, List.getElem?_range hi] at hm
              injection hm with hm
              subst hm
              obtain ⟨xs, y, h1, h2, h3⟩ := hex i hi
              simp [h1]
            · rw [List.getElem?_eq_none (by simp; omega)] at hm
              cases hm
        obtain ⟨items, il, im, itr, icell⟩ := hit
        obtain ⟨ρ1, h1, css, r1, g1, v1, o1, l1, d1⟩ := read_seq (read_one hT n F') hse items itr ρ h r
        have hds : items.map (·.2.1) = elems.map (·.1) := by
          rw [← im, List.map_map]
          rfl
        rw [hds] at d1
        -- each cell of the row
        have hcellat : ∀ (L : List (List Value)) (k : Nat), (∀ (i : Nat) xs, L[i]? = some xs → W.cells? 0 (a.add ((k + i) * (T.at_ e).size)) (T.at_ e).size = some xs) → ∀ (j : Nat) u, L.flatten[j]? = some u → W.cell? (⟨a.block, a.off + (k * (T.at_ e).size + j), none⟩) = some u := by
          intro L
          induction L with
          | nil => intro k _ j u hj; simp at hj
          | cons xs L ihL =>
            intro k hL j u hj
            have hx := hL 0 xs rfl
            obtain ⟨hxl, hxc⟩ := cells_of hx
            rcases Nat.lt_or_ge j xs.length with hlt | hge
            · rw [List.flatten_cons, List.getElem?_append_left hlt] at hj
              have := hxc j u hj
              rw [Nat.add_zero] at this
              exact cell_norm this
            · rw [List.flatten_cons, List.getElem?_append_right hge] at hj
              have h2 := ihL (k + 1) (fun i ys hy => by
                have := hL (i + 1) ys (by simpa using hy)
                rw [show k + 1 + i = k + (i + 1) by omega]
                exact this) (j - xs.length) u hj
              rw [Nat.add_mul, Nat.one_mul] at h2
              rw [show k * (T.at_ e).size + j = k * (T.at_ e).size + (T.at_ e).size + (j - xs.length) by omega]
              exact h2
        have hall : ∀ i, i < cap → ∃ xs, W.cells? 0 (a.add (i * (T.at_ e).size)) (T.at_ e).size = some xs := by
          intro i hi
          rcases Nat.lt_or_ge i len with hl | hl
          · have := hread i hl
            rw [List.getElem?_eq_getElem (by omega)] at this
            obtain ⟨xs, h1, _⟩ := Option.bind_eq_some_iff.1 this
            exact ⟨xs, h1⟩
          · have := hrest (i - len) (by omega)
            rw [List.getElem?_eq_getElem (by omega), show len + (i - len) = i by omega] at this
            obtain ⟨xs, h1, _⟩ := Option.bind_eq_some_iff.1 this
            exact ⟨xs, h1⟩
        have hcell : ∀ q, q < cap * (T.at_ e).size → ∃ u, W.cell? ⟨a.block, a.off + q, none⟩ = some u := by
          intro q hq
          have hi : q / (T.at_ e).size < cap := Nat.div_lt_of_lt_mul (by rw [Nat.mul_comm]; exact hq)
          obtain ⟨xs, hxs⟩ := hall _ hi
          obtain ⟨hl, hc⟩ := cells_of hxs
          have hj : q % (T.at_ e).size < xs.length := by
            rw [hl]
            exact Nat.mod_lt _ (by omega)
          have := cell_norm (hc _ _ (List.getElem?_eq_getElem hj))
          rw [Nat.mul_comm, Nat.div_add_mod] at this
          exact ⟨_, this⟩
        have hspot : 0 < cap → a = ⟨a.block, a.off, none⟩ := by
          intro h0
          obtain ⟨xs, hxs⟩ := hall 0 h0
          obtain ⟨hl, hc⟩ := cells_of hxs
          have := hc 0 _ (List.getElem?_eq_getElem (show 0 < xs.length by omega))
          rw [Nat.zero_mul] at this
          obtain ⟨b, o, sp⟩ := a
          simp only [Addr.add, if_true] at this
          cases sp with
          | none => rfl
          | some x =>
            unfold World.cell? at this
            simp at this
            split at this <;> cases this
        have hvr : ∀ ρ2 : Rho, ρ2 h1.next = some ⟨a.block, a.off, cap * (T.at_ e).size, (T.at_ e).size⟩ → VRel ρ2 (.sl (some (h1.next, 0)) (elems.map (·.1)).length) (.slice (some a) len cap) := by
          intro ρ2 h2
          rw [List.length_map, hel]
          refine .sl _ 0 len cap a _ h2 hle hmx (fun h0 => ?_) (by simp)
          simpa using hspot h0
        have hmlen : (elems.map (·.1)).length ≤ maxLen := by
          rw [List.length_map, hel]
          omega
        rcases Nat.eq_zero_or_pos len with h0 | h0
        · obtain ⟨r2, g2⟩ := r1.skip ⟨a.block, a.off, cap * (T.at_ e).size, (T.at_ e).size⟩
          have hee : elems.map (·.1) = [] := List.eq_nil_of_length_eq_zero (by rw [List.length_map]; omega)
          refine ⟨_, _, [.sl (some (h1.next, 0)) (elems.map (·.1)).length], r2, g1.trans g2, VsRel.cons (hvr _ (Rho.add_self _ _ _)) (VsRel.nil _), by simp [Value.oneCell'], by simp [hsz], ?_⟩
          rw [ht]
          exact ⟨h1.next, css, rfl, hmlen, fun hne => absurd hee hne, d1.mono fun d c r => r.mono g2.obj⟩
        · have hpos : 0 < cap * (T.at_ e).size := Nat.mul_pos (by omega) (by omega)
          obtain ⟨u0, hu0⟩ := hcell (cap * (T.at_ e).size - 1) (by omega)
          obtain ⟨cl, et, fr, hb, hlast⟩ := cell_block hu0
          have hlt := (Array.getElem?_eq_some_iff.1 hlast).1
          have hobj : ∀ ρ2 : Rho, (∀ i l, ρ1 i = some l → ρ2 i = some l) → ObjRel ρ2 W ⟨a.block, a.off, cap * (T.at_ e).size, (T.at_ e).size⟩ (.row false (T.at_ e).size css.flatten) := by
            intro ρ2 hext
            refine ⟨rfl, ?_, cl, et, fr, hb, by simp only; omega, (fun e => by cases e), fun j c hj => ?_⟩
            · simp only
              rw [v1.1, l1, il]
              exact Nat.mul_le_mul_right _ hle
            · obtain ⟨u, hu1, hu2⟩ := v1.get hj
              refine ⟨u, ?_, o1 u (List.mem_of_getElem? hu1), hu2.mono hext⟩
              have := hcellat (items.map (·.1)) 0 (fun i xs hx => by
                rw [List.getElem?_map] at hx
                obtain ⟨it, hit1, rfl⟩ := Option.map_eq_some_iff.1 hx
                rw [Nat.zero_add]
                exact icell i it hit1) j u hu1
              rw [Nat.zero_mul, Nat.zero_add] at this
              obtain ⟨c2, e2, f2, hb2, hc2⟩ := cell_block this
              rw [hb] at hb2
              injection hb2 with hb2
              injection hb2 with hb2
              subst hb2
              exact hc2
          obtain ⟨r2, g2⟩ := r1.row ⟨a.block, a.off, cap * (T.at_ e).size, (T.at_ e).size⟩ (ob := .row false (T.at_ e).size css.flatten) rfl (hobj _ (Rho.add_ext r1.d _))
          refine ⟨_, _, [.sl (some (h1.next, 0)) (elems.map (·.1)).length], r2, g1.trans g2, VsRel.cons (hvr _ (Rho.add_self _ _ _)) (VsRel.nil _), by simp [Value.oneCell'], by simp [hsz], ?_⟩
          rw [ht]
          exact ⟨h1.next, css, rfl, hmlen, fun _ => H.obj_push_new _ _, d1.mono fun d c r => r.mono g2.obj⟩
    · rename_i fs ht
      simp only [Bool.and_eq_true] at hs
      obtain ⟨ho, hall⟩ := hs
      split at ho
      · rename_i o hoff
        have ho := Nat.eq_of_beq_eq_true ho
        obtain ⟨fl, hu, hm⟩ := hT.of_st ht
        obtain ⟨xs, F', rfl, hx, hcl, hxl, hf⟩ := DataW.trod_struct hu hd
        injection hx with hx _
        subst hx
        have hcl' : cs.length = o := by rw [hcl, size_of t hh, ho]
        obtain ⟨ρ1, h1, css, r1, g1, v1, o1, d1⟩ := read_fields (read_one hT n F') fs 0 cs xs o hoff hall hcl' (Nat.zero_le _) ⟨by rw [hxl, ← hm, List.length_map, Array.length_toList], fun j f hj => by
          rw [← hm, List.getElem?_map] at hj
          obtain ⟨g, hg, rfl⟩ := Option.map_eq_some_iff.1 hj
          have hjl : j < xs.length := by
            have := (List.getElem?_eq_some_iff.1 hg).1
            rw [hxl]
            simpa using this
          refine ⟨xs[j], List.getElem?_eq_getElem hjl, ?_⟩
          have hsup : sup T n g.type = true := by
            rw [List.all_eq_true] at hall
            exact hall (g.type, g.offset) (by rw [← hm]; exact List.mem_map.2 ⟨g, List.mem_of_getElem? hg, rfl⟩)
          have := hf j g (by rw [Array.getElem?_toList] at hg; exact hg)
          rw [size_of _ (hasT _ _ hsup), List.getElem?_eq_getElem hjl] at this
          exact this⟩ ρ h r
        refine ⟨ρ1, h1, css.flatten, r1, g1, by simpa using v1, by simpa using o1, by rw [hcl', ho], ?_⟩
        rw [ht]
        exact ⟨css, rfl, d1⟩
      · cases ho
    · rename_i m e ht
      simp only [Bool.and_eq_true] at hs
      obtain ⟨hsz, hse⟩ := hs
      have hsz := Nat.eq_of_beq_eq_true hsz
      have hce := size_of e (hasT _ _ hse)
      obtain ⟨xs, F', rfl, hx, hcl, hxl, hf⟩ := DataW.trod_array (hT.of_arr ht) hd
      injection hx with hx _
      subst hx
      rw [hce] at hf
      have hcl' : cs.length = m * (T.at_ e).size := by rw [hcl, size_of t hh, hsz]
      have hflat : ∀ (k : Nat) (L : List Value), L.length = k * (T.at_ e).size → ((List.range k).map fun i => (L.drop (i * (T.at_ e).size)).take (T.at_ e).size).flatten = L := by
        intro k
        induction k with
        | zero => intro L hL; simp at hL; subst hL; rfl
        | succ k ihk =>
          intro L hL
          rw [List.range_succ_eq_map, List.map_cons, List.flatten_cons, List.map_map]
          have h2 := ihk (L.drop (T.at_ e).size) (by rw [List.length_drop, hL, Nat.succ_mul]; omega)
          have h3 : ((List.range k).map ((fun i => (L.drop (i * (T.at_ e).size)).take (T.at_ e).size) ∘ Nat.succ)) = (List.range k).map fun i => ((L.drop (T.at_ e).size).drop (i * (T.at_ e).size)).take (T.at_ e).size := by
            apply List.map_congr_left
            intro i _
            simp only [Function.comp, List.drop_drop]
            congr 2
            rw [Nat.succ_mul]
            omega
          rw [h3, h2, Nat.zero_mul, List.drop_zero, List.take_append_drop]
      obtain ⟨ρ1, h1, css, r1, g1, v1, o1, l1, d1⟩ := read_seq (read_one hT n F') hse ((List.range m).map fun i => ((cs.drop (i * (T.at_ e).size)).take (T.at_ e).size, (xs[i]?).getD (.nil, []))) (by
        intro it hit
        simp only [List.mem_map, List.mem_range] at hit
        obtain ⟨i, hi, rfl⟩ := hit
        have := hf i hi
        rw [List.getElem?_eq_getElem (by omega)] at this
        simp [this, List.getElem?_eq_getElem (show i < xs.length by omega)]) ρ h r
      have e1 : (((List.range m).map fun i => ((cs.drop (i * (T.at_ e).size)).take (T.at_ e).size, (xs[i]?).getD (.nil, []))).map (·.1)).flatten = cs := by
        rw [List.map_map]
        exact hflat m cs hcl'
      have e2 : ((List.range m).map fun i => ((cs.drop (i * (T.at_ e).size)).take (T.at_ e).size, (xs[i]?).getD ((.nil : DataW D), []))).map (·.2.1) = xs.map (·.1) := by
        apply List.ext_getElem?
        intro i
        simp only [List.map_map, List.getElem?_map]
        rcases Nat.lt_or_ge i m with hi | hi
        · rw [List.getElem?_range hi, List.getElem?_eq_getElem (show i < xs.length by omega)]
          simp [List.getElem?_eq_getElem (show i < xs.length by omega)]
        · rw [List.getElem?_eq_none (by simp; omega), List.getElem?_eq_none (by omega)]
          rfl
      rw [e1] at v1 o1
      rw [e2] at d1
      refine ⟨ρ1, h1, css.flatten, r1, g1, v1, o1, by rw [hcl', hsz], ?_⟩
      rw [ht]
      exact ⟨css, rfl, by rw [List.length_map, hxl], d1⟩
    · cases hs
end
end Go.Ab
