/- H2: texts of another seat, turned to this one. -/
import Derived.Test.YteapijoibimfnaaGreatH1
import Derived.Shelf.Lays
import Derived.Shelf.Lays2
import Derived.Shelf.Sort.AssemblyIn
import Derived.Sort.EveryDepth
import Derived.Shelf.Slices.CompactI
import Derived.Shelf.Slices.In.SortNone
set_option linter.unusedVariables false
set_option linter.unusedSimpArgs false
namespace Go.Proofs.YteapijoibimfnaaGreat
open Go Go.Ab Go.Shelf
def sortA_ren : Go.Shelf.Ren := ⟨fun | 189 => 64 | 125 => 79 | 257 => 78 | 128 => 103 | 129 => 104 | 294 => 94 | 295 => 95 | 296 => 96 | 297 => 97 | 298 => 98 | 299 => 99 | 216 => 100 | 300 => 101 | 301 => 102 | 328 => 112 | 329 => 113 | 330 => 114 | 331 => 115 | 332 => 116 | 215 => 81 | 343 => 123 | n => n, fun | 28 => 22 | 3 => 3 | 46 => 142 | 0 => 0 | 51 => 170 | 53 => 172 | 4 => 4 | 183 => 164 | 182 => 163 | 131 => 125 | 5 => 5 | 9 => 9 | 218 => 182 | 222 => 186 | 228 => 193 | 229 => 194 | n => n, fun | n => n⟩
theorem sortA : Go.Proofs.Lays.n189 Tryz.prog sortA_ren where
  mixed := by kernel_rfl
  f125 := Tryz.func79.trans (congrArg some (by kernel_rfl))
  f128 := Tryz.func103.trans (congrArg some (by kernel_rfl))
  f129 := Tryz.func104.trans (congrArg some (by kernel_rfl))
  f189 := Tryz.func64.trans (congrArg some (by kernel_rfl))
  f215 := Tryz.func81.trans (congrArg some (by kernel_rfl))
  f216 := Tryz.func100.trans (congrArg some (by kernel_rfl))
  f257 := Tryz.func78.trans (congrArg some (by kernel_rfl))
  f294 := Tryz.func94.trans (congrArg some (by kernel_rfl))
  f295 := Tryz.func95.trans (congrArg some (by kernel_rfl))
  f296 := Tryz.func96.trans (congrArg some (by kernel_rfl))
  f297 := Tryz.func97.trans (congrArg some (by kernel_rfl))
  f298 := Tryz.func98.trans (congrArg some (by kernel_rfl))
  f299 := Tryz.func99.trans (congrArg some (by kernel_rfl))
  f300 := Tryz.func101.trans (congrArg some (by kernel_rfl))
  f301 := Tryz.func102.trans (congrArg some (by kernel_rfl))
  f328 := Tryz.func112.trans (congrArg some (by kernel_rfl))
  f329 := Tryz.func113.trans (congrArg some (by kernel_rfl))
  f330 := Tryz.func114.trans (congrArg some (by kernel_rfl))
  f331 := Tryz.func115.trans (congrArg some (by kernel_rfl))
  f332 := Tryz.func116.trans (congrArg some (by kernel_rfl))
  f343 := Tryz.func123.trans (congrArg some (by kernel_rfl))
  t0 := Tryz.underlying0
  a0 := Tryz.isAgg0
  z0 := Tryz.sizeOf0
  v0 := Tryz.zeroValue0
  t3 := Tryz.underlying3
  a3 := Tryz.isAgg3
  z3 := Tryz.sizeOf3
  v3 := Tryz.zeroValue3
  t4 := Tryz.underlying4
  a4 := Tryz.isAgg4
  z4 := Tryz.sizeOf4
  v4 := Tryz.zeroValue4
  t5 := Tryz.underlying5
  a5 := Tryz.isAgg5
  z5 := Tryz.sizeOf5
  v5 := Tryz.zeroValue5
  t9 := Tryz.underlying9
  a9 := Tryz.isAgg9
  z9 := Tryz.sizeOf9
  v9 := Tryz.zeroValue9
  t28 := Tryz.underlying22
  a28 := Tryz.isAgg22
  z28 := Tryz.sizeOf22
  v28 := Tryz.zeroValue22
  t46 := Tryz.underlying142
  a46 := Tryz.isAgg142
  z46 := Tryz.sizeOf142
  v46 := Tryz.zeroValue142
  t51 := Tryz.underlying170
  a51 := Tryz.isAgg170
  z51 := Tryz.sizeOf170
  v51 := Tryz.zeroValue170
  t53 := Tryz.underlying172
  a53 := Tryz.isAgg172
  z53 := Tryz.sizeOf172
  v53 := Tryz.zeroValue172
  t131 := Tryz.underlying125
  a131 := Tryz.isAgg125
  z131 := Tryz.sizeOf125
  v131 := Tryz.zeroValue125
  t182 := Tryz.underlying163
  a182 := Tryz.isAgg163
  z182 := Tryz.sizeOf163
  v182 := Tryz.zeroValue163
  t183 := Tryz.underlying164
  a183 := Tryz.isAgg164
  z183 := Tryz.sizeOf164
  v183 := Tryz.zeroValue164
  t218 := Tryz.underlying182
  a218 := Tryz.isAgg182
  z218 := Tryz.sizeOf182
  v218 := Tryz.zeroValue182
  t222 := Tryz.underlying186
  a222 := Tryz.isAgg186
  z222 := Tryz.sizeOf186
  v222 := Tryz.zeroValue186
  t228 := Tryz.underlying193
  a228 := Tryz.isAgg193
  z228 := Tryz.sizeOf193
  v228 := Tryz.zeroValue193
  t229 := Tryz.underlying194
  a229 := Tryz.isAgg194
  z229 := Tryz.sizeOf194
  v229 := Tryz.zeroValue194
def comp_ren : Go.Shelf.Ren := ⟨fun | 20 => 65 | n => n, fun | 22 => 22 | 3 => 3 | 4 => 4 | 0 => 0 | n => n, fun | n => n⟩
theorem comp : Go.Proofs.Lays2.n20 Tryz.prog comp_ren where
  mixed := by kernel_rfl
  f20 := Tryz.func65.trans (congrArg some (by kernel_rfl))
  t0 := Tryz.underlying0
  a0 := Tryz.isAgg0
  z0 := Tryz.sizeOf0
  v0 := Tryz.zeroValue0
  t3 := Tryz.underlying3
  a3 := Tryz.isAgg3
  z3 := Tryz.sizeOf3
  v3 := Tryz.zeroValue3
  t4 := Tryz.underlying4
  a4 := Tryz.isAgg4
  z4 := Tryz.sizeOf4
  v4 := Tryz.zeroValue4
  t22 := Tryz.underlying22
  a22 := Tryz.isAgg22
  z22 := Tryz.sizeOf22
  v22 := Tryz.zeroValue22
  i3 := by kernel_rfl
abbrev leZ : Int → Int → Bool := fun x y => decide (x ≤ y)
theorem callable {f : Nat} {fn : Func} {c : Code} (hf : Tryz.prog.funcs[f]? = some fn) (hb : fn.body = some c) (hname : (fn.name == "runtime.NumGoroutine") = false) : Callable Tryz.prog f := ⟨fn, hf, by rw [hb]; rfl, hname⟩
theorem sort79 {h : H} {p : Option (Nat × Nat)} {n : Nat} {xs : List Int} (s : SlIs h p n true 1 (ints .i64 xs)) (hm : n ≤ 1000000) :
    ACalls Tryz.prog 64 [.sl p n] h (fun r h' => r = .tup [] ∧ SlIs h' p n true 1 (ints .i64 (xs.mergeSort leZ)) ∧ Ab.Mod (inSl p) h h') := by
  have hc : Callable Tryz.prog 64 := callable Tryz.func64 rfl (by kernel_rfl)
  by_cases hn : n = 0
  · subst hn
    have hl := s.1
    rw [ints_length] at hl
    have : xs = [] := List.eq_nil_of_length_eq_zero (by omega)
    subst this
    refine (idle_acalls hc (fun a cap w => Any.slices_Sort_int_none sortA a cap w) h p).mono ?_
    rintro r h' ⟨rfl, rfl⟩
    exact ⟨rfl, by simpa using s, ⟨Nat.le_refl _, fun _ _ _ => rfl⟩⟩
  · exact turns_acalls hc (fun zs => List.length_mergeSort zs) (fun blk off cap zs w h1 h2 h3 => calls_of_every_depth fun D => AnyS.slices_Sort_int_in sortA D blk off cap zs w h1 h2 h3) s (by omega) hm
theorem comp85 {h : H} {p : Option (Nat × Nat)} {n : Nat} {xs : List Int} (s : SlIs h p n true 1 (ints .i64 xs)) (hm : n ≤ 1000000) :
    ACalls Tryz.prog 65 [.sl p n] h (fun r h' => r = .sl p (Lib.compact xs).length ∧ SlIs h' p (Lib.compact xs).length true 1 (ints .i64 (Lib.compact xs)) ∧ Ab.Mod (inSl p) h h') := by
  have hc : Callable Tryz.prog 65 := callable Tryz.func65 rfl (by kernel_rfl)
  by_cases hn : n = 0
  · subst hn
    have hl := s.1
    rw [ints_length] at hl
    have : xs = [] := List.eq_nil_of_length_eq_zero (by omega)
    subst this
    refine (idle_acalls_same hc (fun a cap w => Any.slices_Compact_int_empty comp a cap w) h p).mono ?_
    rintro r h' ⟨rfl, rfl⟩
    exact ⟨rfl, by simpa [Lib.compact, Lib.compactUpTo] using s, ⟨Nat.le_refl _, fun _ _ _ => rfl⟩⟩
  · refine packs_acalls (g := Lib.compact) (z := fun zs => List.replicate (zs.length - (Lib.compact zs).length) 0) hc (fun zs => ?_) (fun blk off cap zs w h1 h2 h3 => Any.slices_Compact_int comp blk off cap zs w h1 h2 h3) s (by omega) hm
    have : (Lib.compact zs).length ≤ zs.length := by
      unfold Lib.compact Lib.compactUpTo
      rw [List.length_map]
      exact Nat.le_trans (List.length_filter_le _ _) (by simp)
    rw [List.length_append, List.length_replicate]
    omega
end Go.Proofs.YteapijoibimfnaaGreat
