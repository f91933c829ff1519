/- Maps as lists, and as sorted lists: plain laws. -/
import Derived.Test.YtpefdmidfllhoaaQ2
set_option linter.unusedVariables false
namespace Go.Ab
open Go
section
variable {β : Type}
def sget (S : List (Int × β)) (k : Int) : Option β := (S.find? fun p => p.1 == k).map (·.2)
def sput : List (Int × β) → Int → β → List (Int × β)
  | [], n, v => [(n, v)]
  | p :: ms, n, v => if p.1 = n then (p.1, v) :: ms else p :: sput ms n v
def sdel : List (Int × β) → Int → List (Int × β)
  | [], _ => []
  | p :: ms, n => if p.1 = n then ms else p :: sdel ms n
def keys (S : List (Int × β)) : List Int := S.map (·.1)
theorem sget_cons (p : Int × β) (S : List (Int × β)) (k : Int) : sget (p :: S) k = if p.1 = k then some p.2 else sget S k := by
  unfold sget
  by_cases h : p.1 = k
  · rw [List.find?_cons_of_pos (by simpa using h), if_pos h]
    rfl
  · rw [List.find?_cons_of_neg (by simpa using h), if_neg h]
theorem sget_mem : ∀ {S : List (Int × β)} {k : Int} {v : β}, (keys S).Nodup → (sget S k = some v ↔ (k, v) ∈ S)
  | [], k, v, _ => by simp [sget]
  | p :: S, k, v, h => by
    rw [keys, List.map_cons, List.nodup_cons] at h
    rw [sget_cons]
    by_cases e : p.1 = k
    · rw [if_pos e]
      constructor
      · intro a
        injection a with a
        subst e a
        exact List.mem_cons_self
      · intro a
        rcases List.mem_cons.1 a with a | a
        · rw [← a]
        · exact absurd (List.mem_map.2 ⟨_, a, rfl⟩) (by rw [e] at h; exact h.1)
    · rw [if_neg e, sget_mem h.2, List.mem_cons]
      constructor
      · exact .inr
      · rintro (a | a)
        · exact absurd (by rw [← a]) e
        · exact a
theorem sget_none {S : List (Int × β)} {k : Int} : sget S k = none ↔ k ∉ keys S := by
  unfold sget keys
  simp [List.find?_eq_none]
  exact ⟨fun h v hv => h k v hv rfl, fun h a b hab e => h b (e ▸ hab)⟩
theorem sget_some {S : List (Int × β)} {k : Int} : (sget S k).isSome = true ↔ k ∈ keys S := by
  cases h : sget S k with
  | none =>
    have := sget_none.1 h
    simp [this]
  | some v =>
    by_cases hk : k ∈ keys S
    · simp [hk]
    · rw [sget_none.2 hk] at h
      cases h
theorem sput_get (n : Int) (v : β) (k : Int) : ∀ S : List (Int × β), sget (sput S n v) k = if k = n then some v else sget S k
  | [] => by
    rw [sput, sget_cons]
    by_cases h : n = k
    · rw [if_pos h, if_pos h.symm]
    · rw [if_neg h, if_neg (fun e => h e.symm)]
  | p :: S => by
    rw [sput]
    by_cases h : p.1 = n
    · rw [if_pos h, sget_cons, sget_cons]
      subst h
      by_cases e : p.1 = k
      · rw [if_pos e, if_pos e.symm]
      · rw [if_neg e, if_neg (fun x => e x.symm), if_neg e]
    · rw [if_neg h, sget_cons, sget_cons, sput_get n v k S]
      by_cases e : p.1 = k
      · rw [if_pos e, if_pos e, if_neg (by rw [← e]; exact h)]
      · rw [if_neg e, if_neg e]
theorem sput_keys (n : Int) (v : β) : ∀ S : List (Int × β), keys (sput S n v) = if n ∈ keys S then keys S else keys S ++ [n]
  | [] => rfl
  | p :: S => by
    rw [sput]
    by_cases h : p.1 = n
    · rw [if_pos h, if_pos (by simp [keys, h])]
      rfl
    · rw [if_neg h]
      show p.1 :: keys (sput S n v) = _
      rw [sput_keys n v S]
      by_cases e : n ∈ keys S
      · rw [if_pos e, if_pos (by simp only [keys, List.map_cons, List.mem_cons]; exact .inr e)]
        rfl
      · rw [if_neg e, if_neg (by
          simp only [keys, List.map_cons, List.mem_cons]
          rintro (a | a)
          · exact h a.symm
          · exact e a)]
        rfl
theorem sput_nodup {S : List (Int × β)} (h : (keys S).Nodup) (n : Int) (v : β) : (keys (sput S n v)).Nodup := by
  rw [sput_keys]
  by_cases e : n ∈ keys S
  · rw [if_pos e]
    exact h
  · rw [if_neg e, List.nodup_append]
    refine ⟨h, by simp, fun a ha b hb => ?_⟩
    have : b = n := by simpa using hb
    rintro rfl
    exact e (this ▸ ha)
theorem sdel_sub (n : Int) : ∀ S : List (Int × β), List.Sublist (sdel S n) S
  | [] => List.Sublist.slnil
  | p :: S => by
    rw [sdel]
    by_cases h : p.1 = n
    · rw [if_pos h]
      exact List.sublist_cons_self _ _
    · rw [if_neg h]
      exact (sdel_sub n S).cons_cons _
theorem sdel_nodup {S : List (Int × β)} (h : (keys S).Nodup) (n : Int) : (keys (sdel S n)).Nodup :=
  List.Nodup.sublist ((sdel_sub n S).map _) h
theorem sdel_get (n k : Int) : ∀ {S : List (Int × β)}, (keys S).Nodup → sget (sdel S n) k = if k = n then none else sget S k
  | [], _ => by simp [sdel, sget]
  | p :: S, h => by
    have h' : p.1 ∉ keys S ∧ (keys S).Nodup := by simpa [keys] using h
    rw [sdel]
    by_cases e : p.1 = n
    · rw [if_pos e, sget_cons]
      by_cases ek : k = n
      · rw [if_pos ek, sget_none, ek, ← e]
        exact h'.1
      · rw [if_neg ek, if_neg (by omega)]
    · rw [if_neg e, sget_cons, sget_cons, sdel_get n k h'.2]
      by_cases ek : p.1 = k
      · rw [if_pos ek, if_pos ek, if_neg (by omega)]
      · rw [if_neg ek, if_neg ek]
def AscS (S : List (Int × β)) : Prop := (keys S).Pairwise (· < ·)
theorem AscS.nodup {S : List (Int × β)} (h : AscS S) : (keys S).Nodup := h.imp (fun a b => by omega)
/-- a map's entries, in whatever order, against a sorted list -/
def Same (ms S : List (Int × β)) : Prop := (keys ms).Nodup ∧ ∀ k, sget ms k = sget S k
theorem Same.keys {ms S : List (Int × β)} (s : Same ms S) (h : AscS S) : ((ms.map (·.1)).mergeSort fun x y => decide (x ≤ y)) = keys S := by
  refine asc_ext ?_ h (fun x => ?_)
  · have hs : ((ms.map (·.1)).mergeSort fun x y => decide (x ≤ y)).Pairwise (fun x y => decide (x ≤ y) = true) :=
      List.pairwise_mergeSort (fun a b c h1 h2 => by simp at h1 h2 ⊢; omega) (fun a b => by simp; omega) _
    have hn : ((ms.map (·.1)).mergeSort fun x y => decide (x ≤ y)).Nodup := (List.mergeSort_perm _ _).nodup_iff.2 s.1
    exact (hs.and hn).imp (fun {a b} q => by
      have := q.1
      have := q.2
      simp at *
      omega)
  · rw [(List.mergeSort_perm _ _).mem_iff]
    show x ∈ Go.Ab.keys ms ↔ _
    rw [← sget_some, ← sget_some, s.2]
theorem Same.length {ms S : List (Int × β)} (s : Same ms S) (h : AscS S) : ms.length = S.length := by
  have := congrArg List.length (s.keys h)
  rw [List.length_mergeSort, List.length_map, Go.Ab.keys, List.length_map] at this
  exact this
theorem Same.put {ms S S' : List (Int × β)} (s : Same ms S) (n : Int) (v : β) (h : ∀ k, sget S' k = if k = n then some v else sget S k) : Same (sput ms n v) S' :=
  ⟨sput_nodup s.1 n v, fun k => by rw [sput_get, h, s.2]⟩
theorem Same.del {ms S S' : List (Int × β)} (s : Same ms S) (n : Int) (h : ∀ k, sget S' k = if k = n then none else sget S k) : Same (sdel ms n) S' :=
  ⟨sdel_nodup s.1 n, fun k => by rw [sdel_get n k s.1, h, s.2]⟩
theorem keys_append (A B : List (Int × β)) : keys (A ++ B) = keys A ++ keys B := by simp [keys]
theorem sget_mid {A B : List (Int × β)} {x : Int × β} (h : AscS (A ++ x :: B)) : sget (A ++ x :: B) x.1 = some x.2 :=
  (sget_mem h.nodup).2 (by simp)
theorem opt_ext {a b : Option β} (h : ∀ v, a = some v ↔ b = some v) : a = b := by
  cases a with
  | none =>
    cases b with
    | none => rfl
    | some v => exact ((h v).2 rfl)
  | some v => exact ((h v).1 rfl).symm
theorem asc_mid {A B : List (Int × β)} {x : Int × β} (h : AscS (A ++ x :: B)) : (∀ p ∈ A, p.1 < x.1) ∧ (∀ p ∈ B, x.1 < p.1) := by
  rw [AscS, keys_append, List.pairwise_append] at h
  obtain ⟨h1, h2, h3⟩ := h
  refine ⟨fun p hp => h3 _ (List.mem_map.2 ⟨p, hp, rfl⟩) _ (by simp [keys]), fun p hp => ?_⟩
  rw [keys, List.map_cons, List.pairwise_cons] at h2
  exact h2.1 _ (List.mem_map.2 ⟨p, hp, rfl⟩)
theorem asc_upd {A B : List (Int × β)} {x : Int × β} (h : AscS (A ++ x :: B)) (v : β) : AscS (A ++ (x.1, v) :: B) := by
  have : keys (A ++ (x.1, v) :: B) = keys (A ++ x :: B) := by simp [keys]
  rw [AscS, this]
  exact h
theorem asc_del {A B : List (Int × β)} {x : Int × β} (h : AscS (A ++ x :: B)) : AscS (A ++ B) :=
  List.Pairwise.sublist (List.Sublist.map _ (List.Sublist.append_left (List.sublist_cons_self _ _) _)) h
theorem sget_upd {A B : List (Int × β)} {x : Int × β} (h : AscS (A ++ x :: B)) (v : β) (k : Int) : sget (A ++ (x.1, v) :: B) k = if k = x.1 then some v else sget (A ++ x :: B) k := by
  obtain ⟨h1, h2⟩ := asc_mid h
  by_cases e : k = x.1
  · rw [if_pos e, e]
    exact sget_mid (asc_upd h v)
  · rw [if_neg e]
    refine opt_ext fun w => ?_
    rw [sget_mem (asc_upd h v).nodup, sget_mem h.nodup]
    simp only [List.mem_append, List.mem_cons]
    constructor
    · rintro (a | a | a)
      · exact .inl a
      · injection a with a _
        exact absurd a e
      · exact .inr (.inr a)
    · rintro (a | a | a)
      · exact .inl a
      · rw [← a] at e
        exact absurd rfl e
      · exact .inr (.inr a)
theorem sget_del {A B : List (Int × β)} {x : Int × β} (h : AscS (A ++ x :: B)) (k : Int) : sget (A ++ B) k = if k = x.1 then none else sget (A ++ x :: B) k := by
  obtain ⟨h1, h2⟩ := asc_mid h
  by_cases e : k = x.1
  · rw [if_pos e, e, sget_none, keys_append, List.mem_append]
    rintro (a | a)
    · obtain ⟨p, hp, hx⟩ := List.mem_map.1 a
      have := h1 p hp
      omega
    · obtain ⟨p, hp, hx⟩ := List.mem_map.1 a
      have := h2 p hp
      omega
  · rw [if_neg e]
    refine opt_ext fun w => ?_
    rw [sget_mem (asc_del h).nodup, sget_mem h.nodup]
    simp only [List.mem_append, List.mem_cons]
    constructor
    · rintro (a | a)
      · exact .inl a
      · exact .inr (.inr a)
    · rintro (a | a | a)
      · exact .inl a
      · rw [← a] at e
        exact absurd rfl e
      · exact .inr a
def delS (S : List (Int × β)) (n : Int) : List (Int × β) := S.filter fun p => p.1 != n
def insS (S : List (Int × β)) (n : Int) (v : β) : List (Int × β) := (S.filter fun p => decide (p.1 < n)) ++ (n, v) :: S.filter fun p => decide (n < p.1)
theorem delS_asc {S : List (Int × β)} (h : AscS S) (n : Int) : AscS (delS S n) := List.Pairwise.sublist (List.Sublist.map _ List.filter_sublist) h
theorem delS_get {S : List (Int × β)} (h : AscS S) (n k : Int) : sget (delS S n) k = if k = n then none else sget S k := by
  refine opt_ext fun w => ?_
  rw [sget_mem (delS_asc h n).nodup, delS, List.mem_filter]
  by_cases e : k = n
  · simp [e]
  · rw [if_neg e, sget_mem h.nodup]
    simp [e]
theorem insS_asc {S : List (Int × β)} (h : AscS S) (n : Int) (v : β) : AscS (insS S n v) := by
  rw [insS, AscS, keys_append, List.pairwise_append]
  refine ⟨List.Pairwise.sublist (List.Sublist.map _ List.filter_sublist) h, ?_, fun a ha b hb => ?_⟩
  · show (n :: keys _).Pairwise _
    rw [List.pairwise_cons]
    refine ⟨fun b hb => ?_, List.Pairwise.sublist (List.Sublist.map _ List.filter_sublist) h⟩
    obtain ⟨p, hp, rfl⟩ := List.mem_map.1 hb
    have := (List.mem_filter.1 hp).2
    simpa using this
  · obtain ⟨p, hp, rfl⟩ := List.mem_map.1 ha
    have h1 : p.1 < n := by simpa using (List.mem_filter.1 hp).2
    obtain ⟨q, hq, rfl⟩ := List.mem_map.1 hb
    rcases List.mem_cons.1 hq with rfl | hq
    · exact h1
    · have h2 : n < q.1 := by simpa using (List.mem_filter.1 hq).2
      omega
theorem insS_get {S : List (Int × β)} (h : AscS S) (n : Int) (v : β) (k : Int) : sget (insS S n v) k = if k = n then some v else sget S k := by
  by_cases e : k = n
  · rw [if_pos e, e, sget_mem (insS_asc h n v).nodup]
    simp [insS]
  · rw [if_neg e]
    refine opt_ext fun w => ?_
    rw [sget_mem (insS_asc h n v).nodup, sget_mem h.nodup, insS]
    simp only [List.mem_append, List.mem_cons, List.mem_filter, decide_eq_true_eq]
    constructor
    · rintro (a | a | a)
      · exact a.1
      · injection a with a _
        exact absurd a e
      · exact a.1
    · intro a
      by_cases h1 : k < n
      · exact .inl ⟨a, h1⟩
      · exact .inr (.inr ⟨a, by omega⟩)
/-- the values, in whatever clothes -/
def encM {γ : Type} (f : β → γ) (ms : List (Int × β)) : List (Int × γ) := ms.map fun p => (p.1, f p.2)
theorem encM_keys {γ : Type} (f : β → γ) (ms : List (Int × β)) : (encM f ms).map (·.1) = ms.map (·.1) := by
  rw [encM, List.map_map]
  rfl
theorem encM_length {γ : Type} (f : β → γ) (ms : List (Int × β)) : (encM f ms).length = ms.length := by simp [encM]
end
end Go.Ab
