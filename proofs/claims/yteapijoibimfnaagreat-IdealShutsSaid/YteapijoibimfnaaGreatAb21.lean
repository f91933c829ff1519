/- Library functions that turn a row of integers where it lies: from their contracts over the model. -/
import Derived.Test.YteapijoibimfnaaGreatMB
import Derived.Sort.Grow
set_option linter.unusedVariables false
set_option linter.unusedSimpArgs false
namespace Go.Ab
open Go
theorem splice_get {α : Type} : ∀ (vs cs : List α) (o j : Nat), o + vs.length ≤ cs.length → (splice cs o vs)[j]? = if o ≤ j ∧ j < o + vs.length then vs[j - o]? else cs[j]?
  | [], cs, o, j, h => by
    rw [splice, if_neg (by simp)]
  | v :: vs, cs, o, j, h => by
    rw [List.length_cons] at h
    rw [splice, splice_get vs (cs.set o v) (o + 1) j (by rw [List.length_set]; omega), List.length_cons, List.getElem?_set]
    by_cases e : o = j
    · subst e
      rw [if_neg (by omega), if_pos rfl, if_pos (by omega), if_pos (by omega), Nat.sub_self]
      rfl
    · rw [if_neg e]
      by_cases hj : o + 1 ≤ j ∧ j < o + 1 + vs.length
      · rw [if_pos hj, if_pos (by omega), show j - o = (j - (o + 1)) + 1 by omega, List.getElem?_cons_succ]
      · rw [if_neg hj, if_neg (by omega)]
theorem Rel.grow {ρ : Rho} {h : H} {w : World} (r : Rel ρ h w) (os : Array Go.Obj) : Rel ρ h (Sort.grow w os) :=
  ⟨fun i ob hi => by
    obtain ⟨l, e, k⟩ := r.obj i ob hi
    exact ⟨l, e, k.mono (fun _ _ e => e) (Sort.heap_grow_old w os k.lt)⟩, r.sep⟩
theorem Since.grow (ρ : Rho) (h : H) (w : World) (os : Array Go.Obj) : Since ρ h w ρ h (Sort.grow w os) :=
  ⟨fun _ _ e => e, rfl, rfl, rfl, by simp, Nat.le_refl _, fun b hb _ => Sort.heap_grow_old w os hb, fun i ob l h1 h2 h3 => .inl ⟨i, ob, l, h1, h2, h3, rfl⟩⟩
theorem Rel.ahead {ρ : Rho} {h : H} {w : World} (r : Rel ρ h w) (n : Nat) : Rel ρ h (Sort.ahead w n) :=
  ⟨fun i ob hi => by
    obtain ⟨l, e, k⟩ := r.obj i ob hi
    exact ⟨l, e, k.mono (fun _ _ e => e) rfl⟩, r.sep⟩
theorem Since.ahead (ρ : Rho) (h : H) (w : World) (n : Nat) : Since ρ h w ρ h (Sort.ahead w n) :=
  ⟨fun _ _ e => e, rfl, rfl, rfl, Nat.le_refl _, Nat.le_refl _, fun b hb _ => rfl, fun i ob l h1 h2 h3 => .inl ⟨i, ob, l, h1, h2, h3, rfl⟩⟩
/-- a row of integers that has turned -/
theorem put_row {ρ : Rho} {h : H} {w : World} (r : Rel ρ h w) {i off : Nat} {cs : List V} {l : Loc} (hi : h.obj i = some (.row true 1 cs)) (hl : ρ i = some l) (zs : List Int) (hz : off + zs.length ≤ cs.length) :
    Rel ρ (h.set i (.row true 1 (splice cs off (ints .i64 zs)))) (Sort.putRow (Value.int .i64) w l.b (l.o + off) zs.toArray) ∧ Since ρ h w ρ (h.set i (.row true 1 (splice cs off (ints .i64 zs)))) (Sort.putRow (Value.int .i64) w l.b (l.o + off) zs.toArray) := by
  obtain ⟨l', e1, g1, g2, cells, e, fr, g3, g4, g5, g6⟩ := r.obj i _ hi
  rw [hl] at e1
  injection e1 with e1
  subst e1
  have hother : ∀ b, b ≠ l.b → (Sort.putRow (Value.int .i64) w l.b (l.o + off) zs.toArray).heap[b]? = w.heap[b]? := fun b hne => by
    simp [Sort.putRow, Sort.mapBlock, Array.getElem?_modify, hne.symm]
  have hself : (Sort.putRow (Value.int .i64) w l.b (l.o + off) zs.toArray).heap[l.b]? = some (.cells (Sort.putCells (Value.int .i64) (l.o + off) zs.toArray cells) e fr) := by
    simp [Sort.putRow, Sort.mapBlock, Array.getElem?_modify, g3, Sort.onCells]
  have hlen : (ints .i64 zs).length = zs.length := by simp [ints]
  refine ⟨r.upd hi rfl hl hother ⟨g1, by rw [splice_length]; exact g2, _, e, fr, hself, by simpa [Sort.putCells] using g4, fun _ => frOk_eq (g5 rfl) (by simp [Sort.putCells]), fun j c hj => ?_⟩ rfl, Since.upd r hi rfl hl hother rfl rfl rfl rfl (by simp)⟩
  rw [splice_get _ _ _ _ (by rw [hlen]; exact hz), hlen] at hj
  by_cases hin : off ≤ j ∧ j < off + zs.length
  · rw [if_pos hin] at hj
    have hjz : j - off < zs.length := by omega
    have hc : c = .int .i64 zs[j - off] := by
      simp [ints, hjz] at hj
      exact hj.symm
    subst hc
    have hjc : l.o + j < cells.size := by omega
    refine ⟨.int .i64 zs[j - off], ?_, rfl, .int _ _⟩
    simp only [Sort.putCells, Array.getElem?_mapIdx, Array.getElem?_eq_getElem hjc, Option.map_some, List.size_toArray]
    rw [if_pos (by omega), show l.o + j - (l.o + off) = j - off by omega]
    simp [hjz]
  · rw [if_neg hin] at hj
    obtain ⟨u, a1, a2, a3⟩ := g6 j c hj
    refine ⟨u, ?_, a2, a3⟩
    simp only [Sort.putCells, Array.getElem?_mapIdx, a1, Option.map_some, List.size_toArray]
    rw [if_neg (by omega)]
/-- what a slice of integers holds -/
theorem holds_row {ρ : Rho} {h : H} {w : World} (r : Rel ρ h w) {i off : Nat} {cs : List V} {l : Loc} (hi : h.obj i = some (.row true 1 cs)) (hl : ρ i = some l) (zs : List Int) (hz : off + zs.length ≤ cs.length) (hc : (cs.drop off).take zs.length = ints .i64 zs) :
    Sort.Holds (Value.int .i64) w l.b (l.o + off) zs.toArray ∧ l.b < w.heap.size := by
  obtain ⟨l', e1, g1, g2, cells, e, fr, g3, g4, g5, g6⟩ := r.obj i _ hi
  rw [hl] at e1
  injection e1 with e1
  subst e1
  refine ⟨fun j hj => ?_, (Array.getElem?_eq_some_iff.1 g3).1⟩
  have hj : j < zs.length := by simpa using hj
  have hcj : cs[off + j]? = some (.int .i64 zs[j]) := by
    have := congrArg (fun x : List V => x[j]?) hc
    simp only [List.getElem?_take, List.getElem?_drop] at this
    rw [if_pos hj] at this
    rw [this]
    simp [ints, hj]
  obtain ⟨u, a1, a2, a3⟩ := g6 _ _ hcj
  obtain rfl := a3.int_inv
  have hjc := (Array.getElem?_eq_some_iff.1 a1).1
  obtain ⟨f1, f2⟩ := fr
  refine ⟨?_, ?_⟩
  · simp only [World.cell?, g3]
    rw [show l.o + off + j = l.o + (off + j) by omega, a1]
    simp [hj]
  · have := (g5 rfl).no (o := l.o + off + j) (by omega)
    simp only [World.frozen?, g3]
    simp
    omega
/-- a function that turns a row of integers where it lies, and hands back nothing -/
theorem turns_acalls {P : Program} {f : Nat} {g : List Int → List Int} (hcall : Callable P f) (hg : ∀ zs, (g zs).length = zs.length)
    (hs : ∀ (blk off cap : Nat) (zs : List Int) (w : World), Sort.Holds (Value.int .i64) w blk off zs.toArray → blk < w.heap.size → zs.length < 4611686018427387904 → Calls P f #[.slice (some ⟨blk, off, none⟩) zs.length cap] w fun e w' => e = .returned (.tuple #[]) ∧ ∃ n os, w' = Sort.grow (Sort.putRow (Value.int .i64) (Sort.ahead w n) blk off (g zs).toArray) os)
    {h : H} {p : Option (Nat × Nat)} {n : Nat} {xs : List Int} (s : SlIs h p n true 1 (ints .i64 xs)) (hn : 0 < n) (hm : n ≤ 1000000) :
    ACalls P f [.sl p n] h (fun r h' => r = .tup [] ∧ SlIs h' p n true 1 (ints .i64 (g xs)) ∧ Mod (inSl p) h h') := by
  refine ⟨hcall, fun ρ w vs r hd hv => ?_⟩
  obtain ⟨u, vs', rfl, hu, hv'⟩ := hv.uncons
  obtain rfl : vs' = [] := List.eq_nil_of_length_eq_zero hv'.1.symm
  have hl : n = xs.length := by
    have := s.1
    rw [ints_length] at this
    omega
  rcases r.sl s hu with ⟨_, h0, _⟩ | ⟨h0, _⟩ | ⟨i, o, l, cap, a, o', rest, us, rfl, rfl, hlc, hsz, hncap, hcm, had, hlim, hi, ho, hle, hc, hus, hul, hu1, hcell⟩
  · omega
  · omega
  obtain rfl := ho rfl
  have had := had (by omega)
  subst had
  rw [Nat.mul_one] at hle hc
  have hh := holds_row (off := o) r hi hlc xs (by omega) (by rw [← hl]; exact hc)
  subst hl
  refine (hs l.b (l.o + o) cap xs w hh.1 hh.2 (by omega)).mono fun e w' he => ?_
  obtain ⟨rfl, k, os, rfl⟩ := he
  have hz : o + (g xs).length ≤ rest.length := by rw [hg]; exact hle
  obtain ⟨r1, s1⟩ := put_row (r.ahead k) hi hlc (g xs) hz
  refine ⟨.tup [], _, ρ, _, rfl, ⟨rfl, ?_, Mod.set (S := inSl (some (i, o))) ⟨o, rfl⟩ hi rfl⟩, .tup [] [] rfl (fun j c u h => by simp at h), r1.grow os, hd, ((Since.ahead ρ h w k).trans s1).trans (Since.grow ρ _ _ os)⟩
  have hil : (ints .i64 (g xs)).length = xs.length := by rw [ints_length, hg]
  refine ⟨by rw [hil, Nat.mul_one], .inr ⟨i, o, true, _, rfl, H.obj_set_same hi, fun e => e, by rw [splice_length, Nat.mul_one]; exact hle, ?_⟩⟩
  apply List.ext_getElem?
  intro j
  rw [Nat.mul_one, List.getElem?_take, List.getElem?_drop, splice_get _ _ _ _ (by rw [hil]; omega), hil]
  by_cases hj : j < xs.length
  · rw [if_pos hj, if_pos (by omega), show o + j - o = j by omega]
  · rw [if_neg hj, List.getElem?_eq_none (by omega)]
/-- a function that turns a row of integers where it lies, and hands back its beginning -/
theorem packs_acalls {P : Program} {f : Nat} {g : List Int → List Int} {z : List Int → List Int} (hcall : Callable P f) (hg : ∀ zs, (g zs ++ z zs).length = zs.length)
    (hs : ∀ (blk off cap : Nat) (zs : List Int) (w : World), Sort.Holds (Value.int .i64) w blk off zs.toArray → zs.length ≤ 9223372036854775807 → zs.length ≤ cap → Calls P f #[.slice (some ⟨blk, off, none⟩) zs.length cap] w fun e w' => e = .returned (.slice (some ⟨blk, off, none⟩) (g zs).length cap) ∧ ∃ q, w' = Sort.putRow (Value.int .i64) (Sort.ahead w q) blk off (g zs ++ z zs).toArray)
    {h : H} {p : Option (Nat × Nat)} {n : Nat} {xs : List Int} (s : SlIs h p n true 1 (ints .i64 xs)) (hn : 0 < n) (hm : n ≤ 1000000) :
    ACalls P f [.sl p n] h (fun r h' => r = .sl p (g xs).length ∧ SlIs h' p (g xs).length true 1 (ints .i64 (g xs)) ∧ Mod (inSl p) h h') := by
  refine ⟨hcall, fun ρ w vs r hd hv => ?_⟩
  obtain ⟨u, vs', rfl, hu, hv'⟩ := hv.uncons
  obtain rfl : vs' = [] := List.eq_nil_of_length_eq_zero hv'.1.symm
  have hl : n = xs.length := by
    have := s.1
    rw [ints_length] at this
    omega
  rcases r.sl s hu with ⟨_, h0, _⟩ | ⟨h0, _⟩ | ⟨i, o, l, cap, a, o', rest, us, rfl, rfl, hlc, hsz, hncap, hcm, had, hlim, hi, ho, hle, hc, hus, hul, hu1, hcell⟩
  · omega
  · omega
  obtain rfl := ho rfl
  have had := had (by omega)
  subst had
  rw [Nat.mul_one] at hle hc
  have hh := holds_row (off := o) r hi hlc xs (by omega) (by rw [← hl]; exact hc)
  subst hl
  refine (hs l.b (l.o + o) cap xs w hh.1 (by omega) hncap).mono fun e w' he => ?_
  obtain ⟨rfl, k, rfl⟩ := he
  have hgl := hg xs
  have hgl2 : (g xs).length ≤ xs.length := by
    rw [List.length_append] at hgl
    omega
  have hz : o + (g xs ++ z xs).length ≤ rest.length := by rw [hgl]; exact hle
  obtain ⟨r1, s1⟩ := put_row (r.ahead k) hi hlc (g xs ++ z xs) hz
  refine ⟨.sl (some (i, o)) (g xs).length, _, ρ, _, rfl, ⟨rfl, ?_, Mod.set (S := inSl (some (i, o))) ⟨o, rfl⟩ hi rfl⟩, .sl i o _ cap _ l hlc (by omega) hcm (fun _ => rfl) (by rw [hsz]; exact hlim), r1, hd, (Since.ahead ρ h w k).trans s1⟩
  have hil : (ints .i64 (g xs ++ z xs)).length = xs.length := by rw [ints_length, hgl]
  refine ⟨by rw [ints_length, Nat.mul_one], .inr ⟨i, o, true, _, rfl, H.obj_set_same hi, fun e => e, by rw [splice_length, Nat.mul_one]; omega, ?_⟩⟩
  apply List.ext_getElem?
  intro j
  rw [Nat.mul_one, List.getElem?_take, List.getElem?_drop, splice_get _ _ _ _ (by rw [hil]; omega), hil]
  by_cases hj : j < (g xs).length
  · rw [if_pos hj, if_pos (by omega), show o + j - o = j by omega, ints_append, List.getElem?_append_left (by rw [ints_length]; exact hj)]
  · rw [if_neg hj, List.getElem?_eq_none (by rw [ints_length]; omega)]
/-- a function that does nothing to what is empty -/
theorem idle_acalls {P : Program} {f : Nat} (hcall : Callable P f) (hs : ∀ (a : Option Addr) (cap : Nat) (w : World), Calls P f #[.slice a 0 cap] w fun e w' => e = .returned (.tuple #[]) ∧ w' = w) (h : H) (p : Option (Nat × Nat)) :
    ACalls P f [.sl p 0] h (fun r h' => r = .tup [] ∧ h' = h) := by
  refine ⟨hcall, fun ρ w vs r hd hv => ?_⟩
  obtain ⟨u, vs', rfl, hu, hv'⟩ := hv.uncons
  obtain rfl : vs' = [] := List.eq_nil_of_length_eq_zero hv'.1.symm
  have key : ∃ a cap, u = .slice a 0 cap := by
    cases hu with
    | nils => exact ⟨_, _, rfl⟩
    | sl i o n cap a l _ _ _ _ _ => exact ⟨_, _, rfl⟩
  obtain ⟨a, cap, rfl⟩ := key
  refine (hs a cap w).mono fun e w' he => ?_
  obtain ⟨rfl, rfl⟩ := he
  exact ⟨.tup [], h, ρ, _, rfl, ⟨rfl, rfl⟩, .tup [] [] rfl (fun j c u h => by simp at h), r, hd, Since.refl _ _ _⟩
theorem idle_acalls_same {P : Program} {f : Nat} (hcall : Callable P f) (hs : ∀ (a : Option Addr) (cap : Nat) (w : World), Calls P f #[.slice a 0 cap] w fun e w' => e = .returned (.slice a 0 cap) ∧ w' = w) (h : H) (p : Option (Nat × Nat)) :
    ACalls P f [.sl p 0] h (fun r h' => r = .sl p 0 ∧ h' = h) := by
  refine ⟨hcall, fun ρ w vs r hd hv => ?_⟩
  obtain ⟨u, vs', rfl, hu, hv'⟩ := hv.uncons
  obtain rfl : vs' = [] := List.eq_nil_of_length_eq_zero hv'.1.symm
  have key : ∃ a cap, u = .slice a 0 cap := by
    cases hu with
    | nils => exact ⟨_, _, rfl⟩
    | sl i o n cap a l _ _ _ _ _ => exact ⟨_, _, rfl⟩
  obtain ⟨a, cap, rfl⟩ := key
  refine (hs a cap w).mono fun e w' he => ?_
  obtain ⟨rfl, rfl⟩ := he
  exact ⟨.sl p 0, h, ρ, _, rfl, ⟨rfl, rfl⟩, hu, r, hd, Since.refl _ _ _⟩
end Go.Ab
