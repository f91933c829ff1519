/- Tables: what lies in memory; who may come, and comes. -/
import Derived.Test.YtoljllfbabahpaaU28
set_option linter.unusedVariables false
namespace Go.Proofs.Ytoljllfbabahpaa
open Go Go.Ab
abbrev En := List (Int × (Nat × Int))
def eV (x : Nat × Int) : V := .ptr (some (x.1, 0))
/-- an entry: nobody writes it -/
def EnSt (h : H) (i : Nat) (p c : Int) : Prop := ∃ v, h.obj i = some (.row false 5 [i64 p, i64 c, v, .ptr none, i64 0])
theorem EnSt.get {Z : Nat → Prop} {h h' : H} {i : Nat} {p c : Int} (s : EnSt h i p c) (m : Ab.Mod Z h h') : EnSt h' i p c := by
  obtain ⟨v, e⟩ := s
  exact ⟨v, m.ro_get e⟩
structure TbSt (h : H) (t mi gi : Nat) (most : Int) (E : En) (G : List (Int × Int)) : Prop where
  box : h.obj t = some (.row true 3 [i64 most, .mp (some mi), .mp (some gi)])
  map : ∃ ms, h.obj mi = some (.map true (mpE .i64 (encM eV ms))) ∧ Same ms E
  grt : BSt h gi G
  ent : ∀ x ∈ E, EnSt h x.2.1 x.1 x.2.2
  asc : AscS E
  rng : ∀ k ∈ keys E, 0 ≤ k ∧ k < 16
  sep : mi ≠ t ∧ gi ≠ t ∧ mi ≠ gi
section
variable {h h' : H} {t mi gi : Nat} {most : Int} {E : En} {G : List (Int × Int)}
theorem TbSt.get {Z : Nat → Prop} (s : TbSt h t mi gi most E G) (m : Ab.Mod Z h h') (h1 : ¬ Z t) (h2 : ¬ Z mi) (h3 : ¬ Z gi) : TbSt h' t mi gi most E G := by
  obtain ⟨ms, e1, e2⟩ := s.map
  exact ⟨m.get s.box (.inl h1), ⟨ms, m.get e1 (.inl h2), e2⟩, s.grt.get m h3, fun x hx => (s.ent x hx).get m, s.asc, s.rng, s.sep⟩
theorem TbSt.old (s : TbSt h t mi gi most E G) (m : Ab.Mod none_ h h') : TbSt h' t mi gi most E G := s.get m (fun k => k) (fun k => k) (fun k => k)
theorem TbSt.lt (s : TbSt h t mi gi most E G) : t < h.next ∧ mi < h.next ∧ gi < h.next := by
  obtain ⟨ms, e1, _⟩ := s.map
  exact ⟨h.lt _ _ s.box, h.lt _ _ e1, s.grt.lt⟩
theorem TbSt.small (s : TbSt h t mi gi most E G) : E.length ≤ 16 := by
  have := asc_short (l := keys E) (a := 0) (b := 16) s.asc s.rng
  rw [keys_length] at this
  omega
end
/-- why one may not come -/
def mayV (most : Int) (E : En) (G : List (Int × Int)) (p c : Int) : Int :=
  if inR p 0 15 = false ∨ inR c 1 2147483648 = false then 1 else if c ≤ (sget G p).getD 0 then 6 else if most ≤ E.length ∧ (sget E p).isNone = true then 5 else 0
theorem tbNew (h : H) (most : Int) : ACalls Try.prog 22 [i64 most] h (fun r h' => (inR most 1 16 = false ∧ h' = h ∧ r = .tup [.ptr none, i64 1]) ∨ (inR most 1 16 = true ∧ ∃ t mi gi, r = .tup [.ptr (some (t, 0)), i64 0] ∧ TbSt h' t mi gi most [] [] ∧ h.next ≤ t ∧ h.next ≤ mi ∧ h.next ≤ gi ∧ Ab.Mod none_ h h')) := by
  refine call_ Try.func22 rfl rfl (by kernel_rfl) ?_
  conv => whnf
  have nay : ¬ (1 ≤ most ∧ most ≤ 16) → inR most 1 16 = false := fun e => by
    cases q : inR most 1 16 with
    | false => rfl
    | true => exact absurd (inR_iff.1 q) e
  refine br_mk (fun ha => ?_) (fun ha => ?_)
  · conv => whnf
    have ha : most < 1 := by simpa using ha
    exact .inl ⟨nay (by omega), rfl, rfl⟩
  have ha : ¬ most < 1 := by simpa using ha
  conv => whnf
  refine br_mk (fun hb => ?_) (fun hb => ?_)
  · conv => whnf
    have hb : most > 16 := by simpa using hb
    exact .inl ⟨nay (by omega), rfl, rfl⟩
  have hb : ¬ most > 16 := by simpa using hb
  conv => whnf
  have m1 := Mod.push none_ h (.map true [])
  have m2 := Mod.push none_ (h.push (.map true [])) (.map true [])
  have m3 := Mod.push none_ ((h.push (.map true [])).push (.map true [])) (.row true 3 [i64 most, .mp (some h.next), .mp (some (h.next + 1))])
  refine .inr ⟨inR_iff.2 ⟨by omega, by omega⟩, h.next + 1 + 1, h.next, h.next + 1, rfl, ⟨H.obj_push_new ((h.push _).push _) _, ⟨[], m3.get (m2.get (H.obj_push_new h _) (.inl (fun k => k))) (.inl (fun k => k)), List.nodup_nil, fun _ => rfl⟩, ⟨[], m3.get (H.obj_push_new (h.push _) _) (.inl (fun k => k)), List.nodup_nil, fun _ => rfl⟩, (fun x hx => by cases hx), List.Pairwise.nil, (fun k hk => by cases hk), by omega, by omega, by omega⟩, by omega, Nat.le_refl _, by omega, mod_none (mod_none m1 m2) m3⟩
theorem entry27 (h : H) (p c : Int) : ACalls Try.prog 27 [i64 p, i64 c] h (fun r h' => ∃ i, r = .ptr (some (i, 0)) ∧ EnSt h' i p c ∧ h.next ≤ i ∧ Ab.Mod none_ h h') := by
  refine ACalls.ro (Q := fun r h' => ∃ i v, r = .ptr (some (i, 0)) ∧ h'.obj i = some (.row true 5 [i64 p, i64 c, v, .ptr none, i64 0]) ∧ h.next ≤ i ∧ Ab.Mod none_ h h') ?_ (by
    rintro r h' ⟨i, v, rfl, e, hi, m⟩
    exact ⟨i, i, rfl, ⟨v, H.ro_same e⟩, hi, m.ro_new hi⟩)
  refine call_ Try.func27 rfl rfl (by kernel_rfl) ?_
  conv => whnf
  refine (cNew h ⟨1, 1, 0, 1, 1, 1⟩ c).mono ?_
  rintro r1 h1 q
  have key : ∃ z e, r1 = .tup [.ptr z, i64 e] ∧ Ab.Mod none_ h h1 := by
    rcases q with ⟨_, rfl, m⟩ | ⟨_, d, rfl, _, _, m⟩
    · exact ⟨_, _, rfl, m⟩
    · exact ⟨_, _, rfl, m⟩
  obtain ⟨z, e, rfl, m⟩ := key
  clear q
  conv => whnf
  refine ⟨_, rfl, ?_⟩
  conv => whnf
  refine ⟨_, rfl, ?_⟩
  conv => whnf
  exact ⟨h1.next, _, rfl, H.obj_push_new _ _, m.next, mod_none m (Mod.push none_ h1 _)⟩
theorem mget_i {ms : List (Int × (Nat × Int))} {E : En} (s : Same ms E) (p : Int) : mget (encM eV ms) p = (sget E p).map eV := by rw [mget_enc, s.2]
theorem may25 {h : H} {t mi gi : Nat} {most : Int} {E : En} {G : List (Int × Int)} (s : TbSt h t mi gi most E G) (p c : Int) : ACalls Try.prog 25 [.ptr (some (t, 0)), i64 p, i64 c] h (fun r h' => h' = h ∧ r = i64 (mayV most E G p c)) := by
  refine call_ Try.func25 rfl rfl (by kernel_rfl) ?_
  conv => whnf
  have n1 : ¬ (0 ≤ p ∧ p ≤ 15) → mayV most E G p c = 1 := fun e => by
    rw [mayV, if_pos]
    left
    cases q : inR p 0 15 with
    | false => rfl
    | true => exact absurd (inR_iff.1 q) e
  have n2 : ¬ (1 ≤ c ∧ c ≤ 2147483648) → mayV most E G p c = 1 := fun e => by
    rw [mayV, if_pos]
    right
    cases q : inR c 1 2147483648 with
    | false => rfl
    | true => exact absurd (inR_iff.1 q) e
  refine br_mk (fun ha => ?_) (fun ha => ?_)
  · conv => whnf
    have ha : p < 0 := by simpa using ha
    exact ⟨rfl, by rw [n1 (by omega)]⟩
  have ha : ¬ p < 0 := by simpa using ha
  conv => whnf
  refine br_mk (fun hb => ?_) (fun hb => ?_)
  · conv => whnf
    have hb : p ≥ 16 := by simpa using hb
    exact ⟨rfl, by rw [n1 (by omega)]⟩
  have hb : ¬ p ≥ 16 := by simpa using hb
  conv => whnf
  refine br_mk (fun hc => ?_) (fun hc => ?_)
  · conv => whnf
    have hc : c < 1 := by simpa using hc
    exact ⟨rfl, by rw [n2 (by omega)]⟩
  have hc : ¬ c < 1 := by simpa using hc
  conv => whnf
  refine br_mk (fun hd => ?_) (fun hd => ?_)
  · conv => whnf
    have hd : c > 2147483648 := by simpa using hd
    exact ⟨rfl, by rw [n2 (by omega)]⟩
  have hd : ¬ c > 2147483648 := by simpa using hd
  have e0 : ¬ (inR p 0 15 = false ∨ inR c 1 2147483648 = false) := by
    rw [inR_iff.2 ⟨by omega, by omega⟩, inR_iff.2 ⟨by omega, by omega⟩]
    simp
  have hsm := s.small
  conv => whnf
  refine ⟨_, Cell.mk s.box rfl, ?_⟩
  conv => whnf
  obtain ⟨bms, b1, b2⟩ := s.grt
  refine ⟨_, _, b1, ?_⟩
  have eg : (mget (encM i64V bms) p).getD (i64 0) = i64 ((sget G p).getD 0) := by
    rw [mget_enc, b2.2]
    cases sget G p <;> rfl
  have eg2 : (mget (encM i64V bms) p).getD (T.at_ 3).zero = i64 ((sget G p).getD 0) := eg
  rw [eg2]
  conv => whnf
  refine br_mk (fun he => ?_) (fun he => ?_)
  · conv => whnf
    have he : c ≤ (sget G p).getD 0 := by simpa using he
    exact ⟨rfl, by rw [mayV, if_neg e0, if_pos he]⟩
  have he : ¬ c ≤ (sget G p).getD 0 := by simpa using he
  conv => whnf
  obtain ⟨ms, a1, a2⟩ := s.map
  have hlen : (mpE .i64 (encM eV ms)).length = E.length := by
    rw [mpE, List.length_map, encM_length, a2.length s.asc]
  refine ⟨[0, 1, 2, 3, 4, 5, 6, 7, 8, 9, 10, 11, 12, 13, 14, 15, 16, 17, 18, 19], [0, 1, 3, 7, 15, 0, 32, 96, 224, 511, 1023, 2047, 4095, 8191, 16383, 2047, 65535, 131071, 262143, 524287], by kernel_rfl, ?_⟩
  conv => whnf
  refine ⟨_, Cell.mk s.box rfl, ?_⟩
  conv => whnf
  refine ⟨_, _, a1, ?_⟩
  rw [hlen]
  conv => whnf
  refine ⟨_, Cell.mk s.box rfl, ?_⟩
  conv => whnf
  refine br_mk (fun hf => ?_) (fun hf => ?_)
  rotate_left
  · conv => whnf
    have hf : ¬ (E.length : Int) ≥ most := by simpa using hf
    exact ⟨rfl, by rw [mayV, if_neg e0, if_neg he, if_neg (fun q => hf q.1)]⟩
  have hf : (E.length : Int) ≥ most := by simpa using hf
  conv => whnf
  refine ⟨_, Cell.mk s.box rfl, ?_⟩
  conv => whnf
  refine ⟨_, _, a1, ?_⟩
  have em : (mget (encM eV ms) p).getD (T.at_ 59).zero = match sget E p with
      | some x => eV x
      | none => .ptr none := by
    rw [mget_i a2]
    cases sget E p <;> rfl
  rw [em]
  cases hs : sget E p with
  | none =>
    conv => whnf
    exact ⟨rfl, by rw [mayV, if_neg e0, if_neg he, if_pos ⟨hf, by rw [hs]; rfl⟩]⟩
  | some x =>
    conv => whnf
    exact ⟨rfl, by rw [mayV, if_neg e0, if_neg he, if_neg (fun q => by rw [hs] at q; cases q.2)]⟩
theorem insS_e {E : En} (ha : AscS E) {p : Int} {v : Nat × Int} {x : Int × (Nat × Int)} (hx : x ∈ insS E p v) : x = (p, v) ∨ x ∈ E := by
  rw [insS, List.mem_append, List.mem_cons] at hx
  rcases hx with hx | hx | hx
  · exact .inr (List.mem_filter.1 hx).1
  · exact .inl hx
  · exact .inr (List.mem_filter.1 hx).1
/-- one comes, or may not -/
def AddQ (h : H) (t mi gi : Nat) (most : Int) (E : En) (G : List (Int × Int)) (i : Nat) (p c : Int) (r : V) (h' : H) : Prop :=
  r = i64 (mayV most E G p c) ∧ Ab.Mod (two mi gi) h h' ∧ ((mayV most E G p c ≠ 0 ∧ h' = h) ∨ (mayV most E G p c = 0 ∧ ∃ G', (∀ k, sget G' k = if k = p then some c else sget G k) ∧ TbSt h' t mi gi most (insS E p (i, c)) G'))
theorem add0 (h : H) (t : Nat) : ACalls Try.prog 26 [.ptr (some (t, 0)), .ptr none] h (fun r h' => h' = h ∧ r = i64 1) := by
  refine call_ Try.func26 rfl rfl (by kernel_rfl) ?_
  conv => whnf
  exact ⟨rfl, rfl⟩
theorem add00 (h : H) (x : V) : ACalls Try.prog 26 [.ptr none, x] h (fun r h' => h' = h ∧ r = i64 1) := by
  refine call_ Try.func26 rfl rfl (by kernel_rfl) ?_
  conv => whnf
  exact ⟨rfl, rfl⟩
set_option maxHeartbeats 1000000 in
theorem add26 {h : H} {t mi gi : Nat} {most : Int} {E : En} {G : List (Int × Int)} (s : TbSt h t mi gi most E G) {i : Nat} {p c : Int} (e : EnSt h i p c) : ACalls Try.prog 26 [.ptr (some (t, 0)), .ptr (some (i, 0))] h (AddQ h t mi gi most E G i p c) := by
  obtain ⟨v, e⟩ := e
  refine call_ Try.func26 rfl rfl (by kernel_rfl) ?_
  conv => whnf
  refine ⟨[0, 1, 2, 3, 4, 5, 6, 7, 8, 9, 10], [0, 0, 2, 6, 14, 0, 32, 96, 224, 511, 1023], by kernel_rfl, ?_⟩
  conv => whnf
  refine ⟨_, Cell.mk e rfl, ?_⟩
  conv => whnf
  refine ⟨_, Cell.mk e rfl, ?_⟩
  conv => whnf
  refine (may25 s p c).mono ?_
  rintro _ h1 ⟨eh, rfl⟩
  subst eh
  conv => whnf
  refine br_mk (fun ha => ?_) (fun ha => ?_)
  · conv => whnf
    have ha : mayV most E G p c ≠ 0 := by simpa using ha
    exact ⟨rfl, mod_refl _ _, .inl ⟨ha, rfl⟩⟩
  have ha : mayV most E G p c = 0 := by simpa using ha
  conv => whnf
  obtain ⟨ms, a1, a2⟩ := s.map
  obtain ⟨bms, b1, b2⟩ := s.grt
  obtain ⟨sp1, sp2, sp3⟩ := s.sep
  refine ⟨[0, 1, 2, 3, 4, 5, 6, 7, 8, 9, 10, 11, 12, 13, 14, 15, 16, 17, 18, 19, 20, 21, 22, 23, 24, 25, 26], [0, 1, 3, 7, 0, 16, 48, 112, 0, 256, 768, 1792, 0, 4096, 12288, 28672, 0, 0, 131072, 393216, 917504, 2031615, 4128767, 8388607, 16777215, 33554431, 67108863], by kernel_rfl, ?_⟩
  conv => whnf
  refine ⟨_, Cell.mk s.box rfl, ?_⟩
  conv => whnf
  refine ⟨_, Cell.mk e rfl, ?_⟩
  conv => whnf
  refine ⟨_, Cell.mk s.box rfl, ?_⟩
  conv => whnf
  refine ⟨_, Cell.mk e rfl, ?_⟩
  conv => whnf
  refine ⟨_, Cell.mk e rfl, ?_⟩
  conv => whnf
  refine ⟨_, a1, fun ms' bs cl q b q1 q2 q3 q4 q5 q6 => ?_⟩
  conv => whnf
  refine ⟨_, rfl, ?_⟩
  conv => whnf
  refine ⟨_, _, _, _, _, _, _, H.obj_set_same a1, rfl, q5, q4, ?_⟩
  rw [H.set_set, q6]
  conv => whnf
  have m1 : Ab.Mod (one mi) h1 (h1.set mi (.map true (mpE .i64 (mput (encM eV ms) p (eV (i, c)))))) := Mod.set rfl a1 rfl
  have b3 := m1.get b1 (.inl (fun k => sp3 (Eq.symm k)))
  refine ⟨_, b3, fun ns' bs cl q b q1 q2 q3 q4 q5 q6 => ?_⟩
  conv => whnf
  refine ⟨_, rfl, ?_⟩
  conv => whnf
  refine ⟨_, _, _, _, _, _, _, H.obj_set_same b3, rfl, q5, q4, ?_⟩
  rw [H.set_set, q6]
  conv => whnf
  have m2 : Ab.Mod (one gi) (h1.set mi (.map true (mpE .i64 (mput (encM eV ms) p (eV (i, c)))))) ((h1.set mi (.map true (mpE .i64 (mput (encM eV ms) p (eV (i, c)))))).set gi (.map true (mpE .i64 (mput (encM i64V bms) p (i64V c))))) := Mod.set rfl b3 rfl
  have mm : Ab.Mod (two mi gi) h1 ((h1.set mi (.map true (mpE .i64 (mput (encM eV ms) p (eV (i, c)))))).set gi (.map true (mpE .i64 (mput (encM i64V bms) p (i64V c))))) := m1.trans' m2 (fun _ _ k => .inl k) (fun _ _ k => .inr k)
  have hp : 0 ≤ p ∧ p ≤ 15 := by
    unfold mayV at ha
    split at ha
    · cases ha
    · rename_i hn
      have : inR p 0 15 = true := by
        cases q : inR p 0 15 with
        | true => rfl
        | false => exact absurd (.inl q) hn
      exact inR_iff.1 this
  refine ⟨by rw [ha], mm, .inr ⟨ha, sput bms p c, fun k => by rw [sput_get, b2.2], ⟨mm.get s.box (.inl ?_), ⟨sput ms p (i, c), ?_, a2.put p (i, c) (fun k => insS_get s.asc p (i, c) k)⟩, ⟨sput bms p c, ?_, sput_nodup b2.1 p c, fun k => rfl⟩, fun x hx => ?_, insS_asc s.asc p (i, c), ?_, s.sep⟩⟩⟩
  · rintro (k | k)
    · exact sp1 k.symm
    · exact sp2 k.symm
  · rw [← mput_enc]
    exact m2.get (H.obj_set_same a1) (.inl (fun k => sp3 k))
  · rw [← mput_enc]
    exact H.obj_set_same b3
  · rcases insS_e s.asc hx with rfl | hx
    · exact ⟨v, mm.ro_get e⟩
    · exact (s.ent x hx).get mm
  · exact insS_keys s.rng (by omega) _
end Go.Proofs.Ytoljllfbabahpaa
