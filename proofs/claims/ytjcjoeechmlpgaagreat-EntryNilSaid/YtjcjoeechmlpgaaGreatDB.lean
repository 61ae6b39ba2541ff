/-
  DERIVED: THE SHELF's CONTRACTS AT THIS DUMP, IN PLAIN WORDS (tools/lay-plain.mjs out of 'Tz42Lay.lean', which tools/lay-shelf.mjs wrote): THE SAME DECLARATIONS UNDER THE SAME NAMES: 'import', 'namespace', 'open', 'def', 'theorem' AND NOTHING ELSE: no command of the shelf's: FOR A HAND-IN. Each laying: the table of numbers ('.._ren') and one theorem, a field a fact of the dump's own or the kernel's comparison; each contract: ONE APPLICATION.
-/
import Derived.Shelf.SlIterI.Nil
import Derived.Shelf.SortM.SortNone
import Derived.Shelf.SlGeneric
import Derived.Ground.GgzProg
import Derived.Ground.SlgmProg
import Derived.Test.YtjcjoeechmlpgaaGreatProg
import Derived.Test.YtjcjoeechmlpgaaGreatDA
import Derived.Shelf.SortM.Plain
import Derived.Test.YtjcjoeechmlpgaaGreatEC
namespace Go.Proofs
open Go.Shelf
def Tryz.keysA_ren : Go.Shelf.Ren := ⟨fun | 7 => 70 | 10 => 120 | n => n, fun | 23 => 104 | 26 => 2 | 3 => 103 | 28 => 152 | 0 => 0 | 27 => 151 | 33 => 93 | 4 => 4 | n => n, fun | n => n⟩
theorem Tryz.keysA : Go.Proofs.SlLaysZI.n7 Tryz.prog Tryz.keysA_ren := {
  mixed := by kernel_rfl
  f7 := ⟨Tryz.f70.name, by decide, Tryz.func70.trans (congrArg some (by kernel_rfl))⟩
  f10 := ⟨Tryz.f120.name, by decide, Tryz.func120.trans (congrArg some (by kernel_rfl))⟩
  t0 := Tryz.underlying0
  a0 := Tryz.isAgg0
  z0 := Tryz.sizeOf0
  v0 := Tryz.zeroValue0
  t4 := Tryz.underlying4
  a4 := Tryz.isAgg4
  z4 := Tryz.sizeOf4
  v4 := Tryz.zeroValue4
  t23 := Tryz.underlying104
  a23 := Tryz.isAgg104
  z23 := Tryz.sizeOf104
  v23 := Tryz.zeroValue104
  t26 := Tryz.underlying2
  a26 := Tryz.isAgg2
  z26 := Tryz.sizeOf2
  v26 := Tryz.zeroValue2
  t27 := Tryz.underlying151
  a27 := Tryz.isAgg151
  z27 := Tryz.sizeOf151
  v27 := Tryz.zeroValue151
  t28 := Tryz.underlying152
  a28 := Tryz.isAgg152
  z28 := Tryz.sizeOf152
  v28 := Tryz.zeroValue152
  t33 := Tryz.underlying93
  a33 := Tryz.isAgg93
  z33 := Tryz.sizeOf93
  v33 := Tryz.zeroValue93 }
def Tryz.sortedA_ren : Go.Shelf.Ren := ⟨fun | 6 => 69 | 8 => 118 | 9 => 119 | 11 => 144 | 13 => 146 | 12 => 145 | 23 => 169 | 24 => 170 | 14 => 160 | 15 => 161 | 16 => 162 | 17 => 163 | 18 => 164 | 19 => 165 | 20 => 166 | 21 => 167 | 22 => 168 | 25 => 175 | 26 => 176 | 27 => 177 | 28 => 178 | 29 => 179 | 30 => 132 | 31 => 188 | n => n, fun | 26 => 2 | 28 => 152 | 24 => 89 | 0 => 0 | 3 => 3 | 37 => 201 | 48 => 221 | 50 => 223 | 4 => 4 | 40 => 214 | 39 => 213 | 45 => 218 | 5 => 5 | 9 => 9 | 51 => 227 | 55 => 231 | 57 => 238 | 58 => 239 | 33 => 93 | n => n, fun | n => n⟩
theorem Tryz.sortedA : Go.Proofs.SlLaysZI.n6 Tryz.prog Tryz.sortedA_ren := {
  mixed := by kernel_rfl
  f6 := ⟨Tryz.f69.name, by decide, Tryz.func69.trans (congrArg some (by kernel_rfl))⟩
  f8 := ⟨Tryz.f118.name, by decide, Tryz.func118.trans (congrArg some (by kernel_rfl))⟩
  f11 := ⟨Tryz.f144.name, by decide, Tryz.func144.trans (congrArg some (by kernel_rfl))⟩
  t0 := Tryz.underlying0
  a0 := Tryz.isAgg0
  z0 := Tryz.sizeOf0
  v0 := Tryz.zeroValue0
  t24 := Tryz.underlying89
  a24 := Tryz.isAgg89
  z24 := Tryz.sizeOf89
  v24 := Tryz.zeroValue89
  t26 := Tryz.underlying2
  a26 := Tryz.isAgg2
  z26 := Tryz.sizeOf2
  v26 := Tryz.zeroValue2
  t28 := Tryz.underlying152
  a28 := Tryz.isAgg152
  z28 := Tryz.sizeOf152
  v28 := Tryz.zeroValue152
  i26 := by kernel_rfl }
def Tryz.sortA_ren : Go.Shelf.Ren := ⟨fun | 5 => 119 | 8 => 146 | 7 => 145 | 19 => 169 | 20 => 170 | 10 => 160 | 11 => 161 | 12 => 162 | 13 => 163 | 14 => 164 | 15 => 165 | 16 => 166 | 17 => 167 | 18 => 168 | 30 => 175 | 31 => 176 | 32 => 177 | 33 => 178 | 34 => 179 | 35 => 132 | 40 => 188 | n => n, fun | 23 => 89 | 25 => 2 | 3 => 3 | 32 => 201 | 22 => 89 | 0 => 0 | 44 => 221 | 46 => 223 | 4 => 4 | 36 => 214 | 35 => 213 | 41 => 218 | 5 => 5 | 9 => 9 | 53 => 227 | 57 => 231 | 63 => 238 | 64 => 239 | n => n, fun | n => n⟩
theorem Tryz.sortA : Go.Proofs.SlLaysM.n5 Tryz.prog Tryz.sortA_ren := {
  mixed := by kernel_rfl
  f5 := ⟨Tryz.f119.name, by decide, Tryz.func119.trans (congrArg some (by kernel_rfl))⟩
  f7 := ⟨Tryz.f145.name, by decide, Tryz.func145.trans (congrArg some (by kernel_rfl))⟩
  f8 := Tryz.func146.trans (congrArg some (by kernel_rfl))
  f10 := ⟨Tryz.f160.name, by decide, Tryz.func160.trans (congrArg some (by kernel_rfl))⟩
  f11 := ⟨Tryz.f161.name, by decide, Tryz.func161.trans (congrArg some (by kernel_rfl))⟩
  f12 := ⟨Tryz.f162.name, by decide, Tryz.func162.trans (congrArg some (by kernel_rfl))⟩
  f13 := ⟨Tryz.f163.name, by decide, Tryz.func163.trans (congrArg some (by kernel_rfl))⟩
  f14 := ⟨Tryz.f164.name, by decide, Tryz.func164.trans (congrArg some (by kernel_rfl))⟩
  f15 := ⟨Tryz.f165.name, by decide, Tryz.func165.trans (congrArg some (by kernel_rfl))⟩
  f16 := ⟨Tryz.f166.name, by decide, Tryz.func166.trans (congrArg some (by kernel_rfl))⟩
  f17 := ⟨Tryz.f167.name, by decide, Tryz.func167.trans (congrArg some (by kernel_rfl))⟩
  f18 := ⟨Tryz.f168.name, by decide, Tryz.func168.trans (congrArg some (by kernel_rfl))⟩
  f19 := Tryz.func169.trans (congrArg some (by kernel_rfl))
  f20 := Tryz.func170.trans (congrArg some (by kernel_rfl))
  f30 := ⟨Tryz.f175.name, by decide, Tryz.func175.trans (congrArg some (by kernel_rfl))⟩
  f31 := Tryz.func176.trans (congrArg some (by kernel_rfl))
  f32 := Tryz.func177.trans (congrArg some (by kernel_rfl))
  f33 := ⟨Tryz.f178.name, by decide, Tryz.func178.trans (congrArg some (by kernel_rfl))⟩
  f34 := ⟨Tryz.f179.name, by decide, Tryz.func179.trans (congrArg some (by kernel_rfl))⟩
  f35 := ⟨Tryz.f132.name, by decide, Tryz.func132.trans (congrArg some (by kernel_rfl))⟩
  f40 := ⟨Tryz.f188.name, by decide, Tryz.func188.trans (congrArg some (by kernel_rfl))⟩
  t0 := Tryz.underlying0
  a0 := Tryz.isAgg0
  z0 := Tryz.sizeOf0
  v0 := Tryz.zeroValue0
  t3 := Tryz.underlying3
  a3 := Tryz.isAgg3
  z3 := Tryz.sizeOf3
  v3 := Tryz.zeroValue3
  t4 := Tryz.underlying4
  a4 := Tryz.isAgg4
  z4 := Tryz.sizeOf4
  v4 := Tryz.zeroValue4
  t5 := Tryz.underlying5
  a5 := Tryz.isAgg5
  z5 := Tryz.sizeOf5
  v5 := Tryz.zeroValue5
  t9 := Tryz.underlying9
  a9 := Tryz.isAgg9
  z9 := Tryz.sizeOf9
  v9 := Tryz.zeroValue9
  t22 := Tryz.underlying89
  a22 := Tryz.isAgg89
  z22 := Tryz.sizeOf89
  v22 := Tryz.zeroValue89
  t23 := Tryz.underlying89
  a23 := Tryz.isAgg89
  z23 := Tryz.sizeOf89
  v23 := Tryz.zeroValue89
  t25 := Tryz.underlying2
  a25 := Tryz.isAgg2
  z25 := Tryz.sizeOf2
  v25 := Tryz.zeroValue2
  t32 := Tryz.underlying201
  a32 := Tryz.isAgg201
  z32 := Tryz.sizeOf201
  v32 := Tryz.zeroValue201
  t35 := Tryz.underlying213
  a35 := Tryz.isAgg213
  z35 := Tryz.sizeOf213
  v35 := Tryz.zeroValue213
  t36 := Tryz.underlying214
  a36 := Tryz.isAgg214
  z36 := Tryz.sizeOf214
  v36 := Tryz.zeroValue214
  t41 := Tryz.underlying218
  a41 := Tryz.isAgg218
  z41 := Tryz.sizeOf218
  v41 := Tryz.zeroValue218
  t44 := Tryz.underlying221
  a44 := Tryz.isAgg221
  z44 := Tryz.sizeOf221
  v44 := Tryz.zeroValue221
  t46 := Tryz.underlying223
  a46 := Tryz.isAgg223
  z46 := Tryz.sizeOf223
  v46 := Tryz.zeroValue223
  t53 := Tryz.underlying227
  a53 := Tryz.isAgg227
  z53 := Tryz.sizeOf227
  v53 := Tryz.zeroValue227
  t57 := Tryz.underlying231
  a57 := Tryz.isAgg231
  z57 := Tryz.sizeOf231
  v57 := Tryz.zeroValue231
  t63 := Tryz.underlying238
  a63 := Tryz.isAgg238
  z63 := Tryz.sizeOf238
  v63 := Tryz.zeroValue238
  t64 := Tryz.underlying239
  a64 := Tryz.isAgg239
  z64 := Tryz.sizeOf239
  v64 := Tryz.zeroValue239 }
end Go.Proofs

/- Contracts of chapter 42: the sorted numbers of a table, out of the shelf. -/
namespace Go.Eng.Tryz
open Go.Proofs Go.RowKit Go.Maps Go.Sort Go.Shelf
set_option linter.unusedSimpArgs false
set_option linter.unusedVariables false

/-- A call that leaves alone all that was there keeps what the engine knows. -/
theorem inv_below {E : Env} {w w' : World} (hi : Inv E w E w) (hb : Below w.heap.size w w') : Inv E w E w' := {
  hi with
  size := hb.size
  keep := fun b h _ => hb.block b h
  os := hb.os
  tape := hb.tape
  output := hb.output
  oblt := fun o b h => Nat.lt_of_lt_of_le (hi.oblt o b h) hb.size
  bxlt := fun s g b h => Nat.lt_of_lt_of_le (hi.bxlt s g b h) hb.size }

theorem later_below {E : Env} {w w' : World} (hb : Below w.heap.size w w') : Later E w E w' :=
  ⟨hb.size, fun _ _ h => h, fun _ _ h => h, fun b h _ => hb.block b h⟩

theorem rkv_int {E : Env} {w : World} {α : Type} {f : α → V} : ∀ {L : List (Int × α)} {es : List MapEntry}, RKV E w (intKV f L) es → es.map (·.key) = L.map fun p => Value.int .i64 p.1
  | [], es, h => by
    have h : es = [] := h
    subst h; rfl
  | (k, a) :: L, es, h => by
    simp only [intKV, List.map_cons, RKV] at h
    obtain ⟨e, r, rfl, h1, _, h3⟩ := h
    simp only [R] at h1
    simp only [List.map_cons, h1]
    rw [rkv_int h3]

theorem stamped_of {es : Array MapEntry} {clock : Nat} {L : List Int} (h : Born es.toList clock) (hk : es.toList.map (·.key) = L.map fun k => Value.int .i64 k) (hn : L.Nodup) : Go.MapKept.Stamped es clock :=
  ⟨h.1, h.2, by rw [hk]; exact List.pairwise_map.2 (hn.imp fun hne e => hne (by cases e; rfl))⟩

def R0 : Value → Option (DataW Unit × List MemPlace) := fun _ => some (.nil, [])

theorem rd_int {P : Program} {k : TypeId} (hu : P.underlying k = some (.int .i64)) {x : MapEntry} {a : Int} (hx : x.key = .int .i64 a) (hw : (Lit.int .i64 a).wf = true) : Go.WideElems.rd P k R0 x = some (.int .i64 a, .nil) := by
  simp [Go.WideElems.rd, hx, keyOf, hu, mapKey, R0, hw]

theorem rgs_int {P : Program} {k : TypeId} (hu : P.underlying k = some (.int .i64)) : ∀ {es : List MapEntry} {L : List Int}, es.map (·.key) = L.map (fun a => Value.int .i64 a) → (∀ a ∈ L, (Lit.int .i64 a).wf = true) → es.map (Go.WideElems.rg P k R0) = L.map fun a => ((Lit.int .i64 a, DataW.nil) : Lit × DataW Unit)
  | [], [], _, _ => rfl
  | [], _ :: _, h, _ => by cases h
  | _ :: _, [], h, _ => by cases h
  | x :: es, a :: L, h, hw => by
    simp only [List.map_cons, List.cons.injEq] at h ⊢
    exact ⟨Go.WideElems.rg_of (rd_int hu h.1 (hw a (by simp))), rgs_int hu h.2 (fun b hb => hw b (by simp [hb]))⟩

theorem owns_int {P : Program} {k : TypeId} (hu : P.underlying k = some (.int .i64)) {w : World} {b clock : Nat} {es : Array MapEntry} {L : List Int} (hh : w.heap[b]? = some (.map es clock)) (hk : es.toList.map (·.key) = L.map fun a => Value.int .i64 a)
    (hborn : Born es.toList clock) (hnd : L.Nodup) (hwf : ∀ a ∈ L, (Lit.int .i64 a).wf = true) (hsz : L.length ≤ maxLen) :
    ∃ D0, w.ownsMap P k R0 b es.size D0 ∧ (intKeys D0).Perm L := by
  have hr := rgs_int hu hk hwf
  have hlen : es.size = L.length := by
    have := congrArg List.length hk
    simpa using this
  refine ⟨_, ⟨es, clock, hh, ⟨by omega, stamped_of hborn hk hnd, fun x hx => ?_⟩, Nat.le_refl _, rfl⟩, ?_⟩
  · have hmem : x.key ∈ es.toList.map (·.key) := List.mem_map.2 ⟨x, hx, rfl⟩
    rw [hk] at hmem
    obtain ⟨a, ha, e⟩ := List.mem_map.1 hmem
    exact ⟨_, rd_int hu e.symm (hwf a ha)⟩
  · rw [hr]
    have hp := (Go.WideShapes.sorted_perm (L.map fun a => ((Lit.int .i64 a, DataW.nil) : Lit × DataW Unit))).map fun p => intOf p.1
    refine List.Perm.trans hp ?_
    simp [intOf, Function.comp_def]

theorem re_il {E : Env} {w : World} {g : Nat} {cur : Array Value} {ty : TypeId} (hg : w.heap[g]? = some (.cells cur ty (0, 0))) {S : List Int} (h : cur.toList.take S.length = S.map encZ) : RE E w (il S) g 0 1 := by
  have key : ∀ (S : List Int) (off : Nat), (∀ i, i < S.length → w.cell? ⟨g, off + i, none⟩ = some (.int .i64 (S.getD i 0))) → RE E w (il S) g off 1 := by
    intro S
    induction S with
    | nil => intro off _; simp [il, RE]
    | cons a S ih =>
      intro off hc
      simp only [il, List.map_cons, RE, RM]
      refine ⟨rfl, ⟨⟨_, by simpa using hc 0 (by simp), by simp [R]⟩, trivial⟩, ih (off + 1) fun i hi => ?_⟩
      have := hc (i + 1) (by simp; omega)
      simpa [Nat.add_assoc, Nat.add_comm 1 i] using this
  refine key S 0 fun i hi => ?_
  have h1 := congrArg (·[i]?) h
  simp only [List.getElem?_take, List.getElem?_map, hi, if_true] at h1
  simp only [World.cell?, hg, Nat.zero_add]
  simp [List.getD_eq_getElem?_getD] at h1 ⊢
  simp [h1, hi, encZ]

theorem sortsA (m : Nat) : AnyZI.SortsIn Tryz.prog Tryz.sortedA_ren Fence.wide m :=
  ⟨fun blk off cap ss W hH hblk hsz => callsIn_wide.2 (AnyM.slices_Sort_int Tryz.sortA blk off cap ss W hH hblk hsz),
   fun p cap W => callsIn_wide.2 (AnyM.slices_Sort_int_none Tryz.sortA p cap W)⟩

theorem sortsKeys (ol : Nat) (L : List (Int × KD)) (hnd : (L.map (·.1)).Nodup) (hwf : ∀ a ∈ L.map (·.1), (Lit.int .i64 a).wf = true) (hlen : L.length * 8 ≤ 140737488355328) :
    SortsKeys ((L.map (·.1)).mergeSort fun x y => decide (x ≤ y)) ol L := by
  intro ok M hok hM
  refine ⟨⟨Tryz.f69, Tryz.func69, by kernel_rfl, by kernel_rfl⟩, fun E w xs hbx hinv hargs hheap hdom => ?_⟩
  obtain ⟨bk, hbk, arr, ty, hcell, hcl⟩ := hheap ok _ hok
  obtain ⟨b, hb, es, clock, hmap, hkv, hborn⟩ := hheap ol _ hM
  simp only [RL, R] at hcl
  obtain ⟨y, ys, harr, ⟨b2, hb2, rfl⟩, rfl⟩ := hcl
  rw [hb] at hb2; cases hb2
  have hxs : xs = #[.func (.func 120) #[] #[.pointer (some ⟨bk, 0, none⟩)]] := by
    simp only [RL, R] at hargs
    obtain ⟨y, ys, h1, ⟨fs, cs, rfl, hf, y2, ys2, h2, ⟨b3, h3, rfl⟩, rfl⟩, rfl⟩ := hargs
    rw [hbk] at h3; cases h3
    have e1 : fs = #[] := by simpa using hf
    have e2 : cs = #[.pointer (some ⟨bk, 0, none⟩)] := by apply Array.ext'; simpa using h2
    apply Array.ext'; simp [h1, e1, e2]
  subst hxs
  have hk := rkv_int hkv
  obtain ⟨D0, hown, hperm⟩ := owns_int (P := Tryz.prog) (k := 2) und2 hmap (by simpa [List.map_map, Function.comp_def] using hk) hborn hnd hwf (by simp [maxLen]; omega)
  have hsz : Maps.size D0 ≤ L.length := by
    have h1 := hown.size_le
    have h2 := congrArg List.length hk
    simp at h2; omega
  have hcell0 : w.cell? ⟨bk, 0, none⟩ = some (.map (some b)) := by
    have : arr = #[.map (some b)] := by apply Array.ext'; simpa using harr
    subst this
    simp [World.cell?, hcell]
  have hseq : SeqGives Fence.wide 2 Tryz.prog 120 #[.pointer (some ⟨bk, 0, none⟩)] encZ (fun ss => ss.Perm (intKeys D0)) (Maps.size D0) w :=
    AnyZI.keys_gives (ρ := Tryz.keysA_ren) { Tryz.keysA with } Fence.wide _ trivial rfl (by omega) bk b es.size D0 w (lt_of_heap hcell) hcell0 hown
  have cS := AnyZI.sorted_in Tryz.sortedA Fence.wide 5 trivial trivial trivial trivial rfl (by omega) (sortsA _) (enters_of Tryz.func119 (by kernel_rfl) rfl) 120 #[.pointer (some ⟨bk, 0, none⟩)] trivial (enters_of Tryz.func120 (by kernel_rfl) rfl) _ _ (by simp [maxLen]; omega) (by omega) w hseq
  change CallsIn _ _ Tryz.prog 69 _ _ _ at cS
  refine (callsIn_wide.1 cS).mono ?_
  rintro e w' ⟨v, ss, rfl, hS, hrow, hnil, hbl⟩
  refine ⟨v, _, M, E, rfl, ⟨rfl, rfl⟩, ?_, ?_, inv_below hinv hbl, hdom⟩
  · have hms : ss.mergeSort (fun x y => decide (x ≤ y)) = (L.map (·.1)).mergeSort fun x y => decide (x ≤ y) := mergeSort_of_perm_i (hS.trans hperm)
    rw [hms] at hrow
    have hl : ((L.map (·.1)).mergeSort fun x y => decide (x ≤ y)).length = ss.length := by rw [← hms]; simp
    generalize ((L.map (·.1)).mergeSort fun x y => decide (x ≤ y)) = S at hrow hl
    rcases hrow.2 with ⟨rfl, hz⟩ | ⟨g, cap, cur, rfl, hbase, hg, r1, r2, r3, r4⟩
    · have : S = [] := List.eq_nil_of_length_eq_zero (by omega)
      subst this
      simp only [il, List.map_nil, R]
      exact ⟨none, 0, rfl, by simp, by simp, .inl trivial⟩
    · simp only [R]
      refine ⟨_, cap, by rw [il_len, hl], by rw [il_len, hl]; exact r1, r2, .inr ⟨g, 0, 1, rfl, lt_of_heap hg, ?_, ?_⟩⟩
      · rintro (⟨o, ho⟩ | ⟨s, g', hs⟩ | hx)
        · have := hinv.oblt o g ho; omega
        · rw [hbx] at hs; cases hs
        · have := hinv.exlt g hx; omega
      · exact re_il hg (by simpa [hl] using r4)
  · exact RH.grow ⟨later_below hbl, fun _ _ _ h => h, fun b h => hbl.block b h⟩ hheap

end Go.Eng.Tryz

/- Contracts of chapter 42: the numbers of an object's versions, of a table as it is kept. -/
namespace Go.Eng.Tryz
open Go.Proofs
set_option linter.unusedSimpArgs false
set_option linter.unusedVariables false

theorem wf_i64 {a : Int} (h0 : 0 ≤ a) (h1 : a < 9223372036854775808) : (Lit.int .i64 a).wf = true := by
  have h2 : IntKind.i64.min = -9223372036854775808 := by decide
  have h3 : IntKind.i64.max = 9223372036854775807 := by decide
  simp [Lit.wf, h2, h3]; omega

/-- The numbers of a table, rising. -/
def keysQ2 (L : List (Int × KD)) : List Int := (L.map (·.1)).mergeSort fun x y => decide (x ≤ y)

theorem lookup_of_nodup {α : Type} {k : Int} : ∀ {L : List (Int × α)}, k ∈ L.map (·.1) → ∃ a, (k, a) ∈ L ∧ L.lookup k = some a
  | [], h => by simp at h
  | (j, b) :: L, h => by
    by_cases e : k = j
    · subst e; exact ⟨b, by simp, by simp [List.lookup]⟩
    · simp only [List.map_cons, List.mem_cons, e, false_or] at h
      obtain ⟨a, h1, h2⟩ := lookup_of_nodup h
      have e' : (k == j) = false := by simpa using e
      exact ⟨a, by simp [h1], by simp [List.lookup, e', h2]⟩

theorem idsK (ot ol on : Nat) (next : Int) (L : List (Int × KD)) (N : List (B × Int × Int)) (obj : B) (M : Heap) (h : TabAt M ot ol on next L N) (hnd : (L.map (·.1)).Nodup) (hwf : ∀ a ∈ L.map (·.1), 0 ≤ a ∧ a < 9223372036854775808) (hlen : L.length * 8 ≤ 140737488355328) :
    Pure Tryz.prog 79 [.ptr ot 0, .str obj] M (.lst (il (idsQ L obj (keysQ2 L)))) :=
  s79 (keysQ2 L) ot ol on next L N obj M h (sortsKeys ol L hnd (fun a ha => wf_i64 (hwf a ha).1 (hwf a ha).2) hlen) (fun id hid => lookup_of_nodup (by simpa [keysQ2] using hid)) (by simpa [keysQ2] using hlen)

end Go.Eng.Tryz

/- Chapter 42: a table as it is kept, in plain words; what turns on the heap. -/
namespace Go.Eng.Tryz
open Go.Proofs
set_option linter.unusedSimpArgs false
set_option linter.unusedVariables false

def modA {α : Type} (k : Int) (f : α → α) (l : List (Int × α)) : List (Int × α) := l.map fun p => if p.1 == k then (p.1, f p.2) else p

theorem modA_keys {α : Type} (k : Int) (f : α → α) (l : List (Int × α)) : (modA k f l).map (·.1) = l.map (·.1) := by
  simp only [modA, List.map_map]
  apply List.map_congr_left
  intro p _
  simp only [Function.comp]
  split <;> rfl

theorem lookup_mem {α : Type} {k : Int} {a : α} : ∀ {l : List (Int × α)}, l.lookup k = some a → (k, a) ∈ l
  | [], h => by simp at h
  | (j, b) :: l, h => by
    simp only [List.lookup] at h
    split at h
    · rename_i e; cases h; simp at e; subst e; simp
    · exact List.mem_cons_of_mem _ (lookup_mem h)

theorem nodup_eq {α : Type} {l : List (Int × α)} (h : (l.map (·.1)).Nodup) {k : Int} {a b : α} (ha : (k, a) ∈ l) (hb : (k, b) ∈ l) : a = b := by
  induction l with
  | nil => cases ha
  | cons p l ih =>
    simp only [List.map_cons, List.nodup_cons] at h
    have hin : ∀ c, (k, c) ∈ l → k ∈ l.map (·.1) := fun c hc => List.mem_map.2 ⟨(k, c), hc, rfl⟩
    rcases List.mem_cons.1 ha with ha1 | ha1 <;> rcases List.mem_cons.1 hb with hb1 | hb1
    · rw [← ha1] at hb1; cases hb1; rfl
    · rw [← ha1] at h; exact (h.1 (hin _ hb1)).elim
    · rw [← hb1] at h; exact (h.1 (hin _ ha1)).elim
    · exact ih h.2 ha1 hb1

theorem mem_modA {α : Type} {k : Int} {f : α → α} {l : List (Int × α)} {p : Int × α} (h : p ∈ modA k f l) : (p ∈ l ∧ p.1 ≠ k) ∨ ∃ a, (k, a) ∈ l ∧ p = (k, f a) := by
  simp only [modA, List.mem_map] at h
  obtain ⟨q, hq, rfl⟩ := h
  split
  · rename_i e
    have e : q.1 = k := by simpa using e
    right
    exact ⟨q.2, by rw [← e]; exact hq, by rw [← e]⟩
  · rename_i e
    exact .inl ⟨hq, by simpa using e⟩

theorem putA_new {α : Type} {k : Int} {a : α} : ∀ {l : List (Int × α)}, k ∉ l.map (·.1) → putA k a l = l ++ [(k, a)]
  | [], _ => rfl
  | (j, b) :: l, h => by
    simp only [List.map_cons, List.mem_cons, not_or] at h
    have e : (k == j) = false := by simpa using h.1
    simp [putA, e, putA_new h.2]

theorem lookup_none {α : Type} {k : Int} : ∀ {l : List (Int × α)}, k ∉ l.map (·.1) → l.lookup k = none
  | [], _ => rfl
  | (j, b) :: l, h => by
    simp only [List.map_cons, List.mem_cons, not_or] at h
    have e : (k == j) = false := by simpa using h.1
    simp [List.lookup, e, lookup_none h.2]

/-- What a table is: the next number, the versions, the newest moments. -/
structure TS where
  (next : Int) (L : List (Int × EntD × V)) (N : List (B × Int × Int))

structure TS.Ok (c : Nat) (t : TS) : Prop where
  nd : (t.L.map (·.1)).Nodup
  idk : ∀ p ∈ t.L, p.2.1.id = p.1
  rng : ∀ p ∈ t.L, 1 ≤ p.1 ∧ p.1 < t.next
  lo : 1 ≤ t.next
  hi : t.next ≤ 1099511627776 + c
  len : t.L.length ≤ c
  right : ∀ p ∈ t.L, metaQ p.2.1.m = true

def er (L : List (Int × KD)) : List (Int × EntD × V) := L.map fun p => (p.1, p.2.e, p.2.has)

theorem er_keys (L : List (Int × KD)) : (er L).map (·.1) = L.map (·.1) := by simp [er, List.map_map, Function.comp_def]
theorem er_lookup (k : Int) : ∀ (L : List (Int × KD)), (er L).lookup k = (L.lookup k).map fun a => (a.e, a.has)
  | [] => rfl
  | (j, b) :: L => by
    have ih := er_lookup k L
    simp only [er, List.map_cons, List.lookup] at ih ⊢
    split <;> simp_all
theorem er_mod (k : Int) (f : EntD × V → EntD × V) (L : List (Int × KD)) : er (modA k (fun a => ⟨a.o, (f (a.e, a.has)).1, (f (a.e, a.has)).2⟩) L) = modA k f (er L) := by
  simp only [er, modA, List.map_map]
  apply List.map_congr_left
  intro p _
  simp only [Function.comp]
  split <;> rfl

/-- A table on the heap, and what it is. -/
structure TabK (M : Heap) (ot ol on : Nat) (L : List (Int × KD)) (t : TS) : Prop where
  tab : TabAt M ot ol on t.next L t.N
  er : er L = t.L
  ne : ol ≠ on

/-- The objects of a table. -/
def tabO (ot ol on : Nat) (L : List (Int × KD)) (o : Nat) : Prop := o = ot ∨ o = ol ∨ o = on ∨ ∃ p ∈ L, p.2.o = o

/-- One step of a table: other objects stay; new ones were free. -/
structure TStep (M M' : Heap) (ot ol on : Nat) (L L' : List (Int × KD)) : Prop where
  keep : ∀ o x, M o = some x → ¬ tabO ot ol on L o → M' o = some x
  fresh : ∀ p ∈ L', tabO ot ol on L p.2.o ∨ M p.2.o = none

/-- A table that was made behind a heap. -/
structure TFree (M0 M : Heap) (ot ol on : Nat) (L : List (Int × KD)) : Prop where
  keep : Keeps M0 M
  free : ∀ o, tabO ot ol on L o → M0 o = none

theorem TStep.refl (M : Heap) (ot ol on : Nat) (L : List (Int × KD)) : TStep M M ot ol on L L := ⟨fun _ _ h _ => h, fun p hp => .inl (.inr (.inr (.inr ⟨p, hp, rfl⟩)))⟩

theorem TFree.step {M0 M M' : Heap} {ot ol on : Nat} {L L' : List (Int × KD)} (h : TFree M0 M ot ol on L) (k : TStep M M' ot ol on L L') : TFree M0 M' ot ol on L' where
  keep := fun o x hx => k.keep o x (h.keep o x hx) (fun ho => by rw [h.free o ho] at hx; cases hx)
  free := fun o ho => by
    have hM : ∀ o, M o = none → M0 o = none := by
      intro o hn
      cases hm : M0 o with
      | none => rfl
      | some x => rw [h.keep o x hm] at hn; cases hn
    rcases ho with rfl | rfl | rfl | ⟨p, hp, rfl⟩
    · exact h.free _ (.inl rfl)
    · exact h.free _ (.inr (.inl rfl))
    · exact h.free _ (.inr (.inr (.inl rfl)))
    · rcases k.fresh p hp with h1 | h1
      · exact h.free _ h1
      · exact hM _ h1

section
variable {M M' : Heap} {ot ol on : Nat} {L : List (Int × KD)} {t : TS} {c : Nat}

theorem TabK.nd (h : TabK M ot ol on L t) (hk : t.Ok c) : (L.map (·.1)).Nodup := by rw [← er_keys, h.er]; exact hk.nd
theorem TabK.mem (h : TabK M ot ol on L t) {p : Int × KD} (hp : p ∈ L) : (p.1, p.2.e, p.2.has) ∈ t.L := by
  rw [← h.er]; exact List.mem_map.2 ⟨p, hp, rfl⟩

/-- Two versions lie apart. -/
theorem TabK.apart (h : TabK M ot ol on L t) (hk : t.Ok c) {p q : Int × KD} (hp : p ∈ L) (hq : q ∈ L) (ho : p.2.o = q.2.o) : p = q := by
  have h1 := h.tab.hK p hp
  have h2 := h.tab.hK q hq
  rw [ho, h2] at h1
  simp only [knownL, Option.some.injEq, HObj.cells.injEq, List.cons.injEq, V.int.injEq, true_and] at h1
  have e1 := hk.idk _ (h.mem hp)
  have e2 := hk.idk _ (h.mem hq)
  simp only at e1 e2
  have e : p.1 = q.1 := by rw [← e1, ← e2]; exact h1.1.symm
  obtain ⟨k, a⟩ := p
  obtain ⟨j, b⟩ := q
  simp only at e
  subst e
  rw [nodup_eq (h.nd hk) hp hq]

theorem TabK.off (h : TabK M ot ol on L t) {p : Int × KD} (hp : p ∈ L) : p.2.o ≠ ot ∧ p.2.o ≠ ol ∧ p.2.o ≠ on := by
  have h1 := h.tab.hK p hp
  refine ⟨fun e => ?_, fun e => ?_, fun e => ?_⟩
  · rw [e, h.tab.hT] at h1; simp [knownL] at h1
  · rw [e, h.tab.hL] at h1; simp at h1
  · rw [e, h.tab.hN] at h1; simp at h1
theorem TabK.ots (h : TabK M ot ol on L t) : ot ≠ ol ∧ ot ≠ on := by
  refine ⟨fun e => ?_, fun e => ?_⟩
  · have := h.tab.hT; rw [e, h.tab.hL] at this; simp at this
  · have := h.tab.hT; rw [e, h.tab.hN] at this; simp at this

/-- A version is another one. -/
theorem TabK.upd (h : TabK M ot ol on L t) (hk : t.Ok c) {id : Int} {a : KD} (hl : L.lookup id = some a) (f : EntD × V → EntD × V) :
    TabK (updH M a.o (.cells (knownL (f (a.e, a.has)).1 (f (a.e, a.has)).2))) ot ol on (modA id (fun a => ⟨a.o, (f (a.e, a.has)).1, (f (a.e, a.has)).2⟩) L) { t with L := modA id f t.L } := by
  have hm := lookup_mem hl
  obtain ⟨n1, n2, n3⟩ := h.off hm
  simp only at n1 n2 n3
  refine ⟨⟨?_, ?_, ?_, ?_⟩, ?_, h.ne⟩
  · simp only [updH, if_neg (Ne.symm n1)]; exact h.tab.hT
  · simp only [updH, if_neg (Ne.symm n3)]; exact h.tab.hN
  · simp only [updH, if_neg (Ne.symm n2)]
    rw [h.tab.hL]
    congr 2
    simp only [intKV, modA, List.map_map]
    apply List.map_congr_left
    intro p _
    simp only [Function.comp]
    split <;> rfl
  · intro p hp
    rcases mem_modA hp with ⟨hp, hne⟩ | ⟨b, hb, rfl⟩
    · have ho : p.2.o ≠ a.o := fun e => hne (by rw [h.apart hk hp hm e])
      simp only [updH, if_neg ho]
      exact h.tab.hK p hp
    · have : b = a := nodup_eq (h.nd hk) hb hm
      subst this
      simp [updH]
  · rw [er_mod, h.er]

theorem TabK.updN (h : TabK M ot ol on L t) (N : List (B × Int × Int)) : TabK (updH M on (.map (strKV nV N))) ot ol on L { t with N := N } := by
  refine ⟨⟨?_, ?_, ?_, ?_⟩, h.er, h.ne⟩
  · simp only [updH, if_neg h.ots.2]; exact h.tab.hT
  · simp [updH]
  · simp only [updH, if_neg h.ne]; exact h.tab.hL
  · intro p hp
    simp only [updH, if_neg (h.off hp).2.2]
    exact h.tab.hK p hp

theorem TabK.add (h : TabK M ot ol on L t) {N : Nat} (hN : M N = none) (e : EntD) (has : V) (hn : t.next ∉ t.L.map (·.1)) (nx : Int) :
    TabK (updH (updH (updH M ot (.cells [.map ol, .map on, .int .i64 nx])) N (.cells (knownL e has))) ol (.map (intKV kV (putA t.next ⟨N, e, has⟩ L)))) ot ol on (L ++ [(t.next, ⟨N, e, has⟩)]) { t with next := nx, L := t.L ++ [(t.next, e, has)] } := by
  have e1 : N ≠ ot := by rintro rfl; rw [h.tab.hT] at hN; cases hN
  have e2 : N ≠ ol := by rintro rfl; rw [h.tab.hL] at hN; cases hN
  have e3 : N ≠ on := by rintro rfl; rw [h.tab.hN] at hN; cases hN
  refine ⟨⟨?_, ?_, ?_, ?_⟩, ?_, h.ne⟩
  · simp [updH, h.ots.1, e1.symm]
  · simp only [updH, if_neg h.ne.symm, if_neg e3.symm, if_neg h.ots.2.symm]; exact h.tab.hN
  · simp only [updH, if_true]
    rw [putA_new (by rw [← er_keys, h.er]; exact hn)]
  · intro p hp
    rcases List.mem_append.1 hp with hp1 | hp
    · obtain ⟨n1, n2, n3⟩ := h.off hp1
      have n4 : p.2.o ≠ N := by intro e; rw [← e, h.tab.hK p hp1] at hN; cases hN
      simp only [updH, if_neg n1, if_neg n2, if_neg n4]
      exact h.tab.hK p hp1
    · simp only [List.mem_singleton] at hp
      subst hp
      simp [updH, e2]
  · simp [Go.Eng.Tryz.er, ← h.er]
end

/-! ### Land -/
def landHit (m : MetaD) (e : EntD) : Bool := joinsQ e.m && strong2 e.m.t m.t e.m.w m.w
def sayQ (e : EntD) (tick mom gen : Int) : EntD := if mom ≥ e.moment then { e with said := tick, moment := mom, gen := gen } else e
def landE (m : MetaD) (e : EntD) : EntD := if followsQ e.m m then { e with m := m } else e
def keysS (S : List Int) : List Int := S.mergeSort fun x y => decide (x ≤ y)
def TS.ids (t : TS) (obj : B) : List Int := (keysS (t.L.map (·.1))).filter fun id => match t.L.lookup id with
  | some a => a.1.obj == obj
  | none => false
def askQ (a b c : Int) : Bool := cnt a && (cnt b && cnt c)
def TS.hit (t : TS) (m : MetaD) (id : Int) : Bool := match t.L.lookup id with
  | some a => landHit m a.1
  | none => false
def TS.land (t : TS) (obj : B) (m : MetaD) (age tick mom gen : Int) : TS × Int × Bool :=
  if objectQ obj && (metaQ m && (cnt age && askQ tick mom gen)) then
    match (t.ids obj).find? (t.hit m) with
    | some id => (⟨t.next, modA id (fun a => (sayQ (landE m a.1) (saidQ tick age) mom gen, a.2)) t.L, takeQ t.N obj id mom⟩, id, false)
    | none => (⟨t.next + 1, t.L ++ [(t.next, ⟨t.next, obj, m, saidQ tick age, mom, gen, false⟩, .nils)], takeQ t.N obj t.next mom⟩, t.next, true)
  else (t, 0, false)

theorem ids_eq {M : Heap} {ot ol on : Nat} {L : List (Int × KD)} {t : TS} (h : TabK M ot ol on L t) (obj : B) : idsQ L obj (keysQ2 L) = t.ids obj := by
  simp only [idsQ, TS.ids, keysQ2, keysS, ← h.er, er_keys, er_lookup]
  congr 1
  funext id
  cases L.lookup id <;> rfl

theorem TS.Ok.next_new {c : Nat} {t : TS} (h : t.Ok c) : t.next ∉ t.L.map (·.1) := by
  intro hm
  obtain ⟨p, hp, e⟩ := List.mem_map.1 hm
  have := (h.rng p hp).2
  omega

theorem sayQ_id (e : EntD) (a b c : Int) : (sayQ e a b c).id = e.id ∧ (sayQ e a b c).m = e.m ∧ (sayQ e a b c).obj = e.obj := by
  unfold sayQ; split <;> exact ⟨rfl, rfl, rfl⟩
theorem landE_id (m : MetaD) (e : EntD) : (landE m e).id = e.id ∧ (landE m e).obj = e.obj ∧ (landE m e).moment = e.moment := by
  unfold landE; split <;> exact ⟨rfl, rfl, rfl⟩

theorem TS.Ok.mod {c : Nat} {t : TS} (h : t.Ok c) (id : Int) (f : EntD × V → EntD × V) (N : List (B × Int × Int)) (h1 : ∀ a, (id, a) ∈ t.L → (f a).1.id = a.1.id) (h2 : ∀ a, (id, a) ∈ t.L → metaQ (f a).1.m = true) : TS.Ok c ⟨t.next, modA id f t.L, N⟩ where
  nd := by simp only [modA_keys]; exact h.nd
  idk := fun p hp => by
    rcases mem_modA hp with ⟨hp, _⟩ | ⟨a, ha, rfl⟩
    · exact h.idk p hp
    · simp only [h1 a ha]; exact h.idk _ ha
  rng := fun p hp => by
    rcases mem_modA hp with ⟨hp, _⟩ | ⟨a, ha, rfl⟩
    · exact h.rng p hp
    · exact h.rng (id, a) ha
  lo := h.lo
  hi := h.hi
  len := by simp only [modA, List.length_map]; exact h.len
  right := fun p hp => by
    rcases mem_modA hp with ⟨hp, _⟩ | ⟨a, ha, rfl⟩
    · exact h.right p hp
    · exact h2 a ha

theorem TS.Ok.mono {c d : Nat} {t : TS} (h : t.Ok c) (hd : c ≤ d) : t.Ok d :=
  ⟨h.nd, h.idk, h.rng, h.lo, by have := h.hi; omega, Nat.le_trans h.len hd, h.right⟩

theorem TS.Ok.land {c : Nat} {t : TS} (h : t.Ok c) (obj : B) (m : MetaD) (age tick mom gen : Int) : (t.land obj m age tick mom gen).1.Ok (c + 1) := by
  unfold TS.land
  split
  · rename_i hg
    have hm : metaQ m = true := by simp only [Bool.and_eq_true] at hg; exact hg.2.1
    split
    · refine (h.mod _ _ _ (fun a ha => ?_) (fun a ha => ?_)).mono (Nat.le_succ c)
      · simp only [(sayQ_id _ _ _ _).1, (landE_id _ _).1]
      · simp only [(sayQ_id _ _ _ _).2.1]
        unfold landE
        split
        · exact hm
        · exact h.right _ ha
    · have hn := h.next_new
      have hhi := h.hi
      have hlo := h.lo
      refine ⟨?_, ?_, ?_, ?_, ?_, ?_, ?_⟩
      · simp only [List.map_append, List.map_cons, List.map_nil]
        rw [List.nodup_append]
        exact ⟨h.nd, by simp, fun a ha b hb => by simp at hb; subst hb; rintro rfl; exact hn ha⟩
      · intro p hp
        rcases List.mem_append.1 hp with hp | hp
        · exact h.idk p hp
        · simp only [List.mem_singleton] at hp; subst hp; rfl
      · intro p hp
        rcases List.mem_append.1 hp with hp | hp
        · have := h.rng p hp; exact ⟨this.1, by simp only; omega⟩
        · simp only [List.mem_singleton] at hp; subst hp; exact ⟨hlo, by simp only; omega⟩
      · simp only; omega
      · simp only; omega
      · simp only [List.length_append, List.length_cons, List.length_nil]; have := h.len; omega
      · intro p hp
        rcases List.mem_append.1 hp with hp | hp
        · exact h.right p hp
        · simp only [List.mem_singleton] at hp; subst hp; exact hm
  · exact h.mono (Nat.le_succ c)
end Go.Eng.Tryz

/- Contracts of chapter 42: Load of no notes. -/
namespace Go.Eng.Tryz
open Go.Proofs
attribute [local go_sem] oss_nil_eq Int.toNat_natCast maxLen Nat.zero_le run step opv slotV opvs dstLt evalQ constV isA setD upd_app guardB List.getD_cons_zero List.getD_cons_succ List.getD_nil V.tag V.cells decide_true decide_false Bool.false_eq_true if_false if_true ne_eq Nat.one_ne_zero not_false_eq_true keyKind cellOk List.forall_mem_cons List.not_mem_nil false_implies true_and and_true implies_true forall_const bump addrAdd loadA loadV part opV binV eqlV eqOk pickV unV convV boundV fillV storeTo splice List.getElem?_cons_zero List.getElem?_cons_succ List.take_succ_cons List.take_zero List.drop_succ_cons List.drop_zero List.length_cons List.length_nil List.cons_append List.nil_append List.append_nil List.getElem_toArray List.getElem?_toArray List.size_toArray and_self eqV_tupl eqV_tupr fbt tbf beq_self_eq_true Bool.not_false Bool.not_true cond_true cond_false newVarW updH_self updH_updH isFuncFn runT stepT stepC isCallV callOf callV escL memN runW stepW stepCW runD stepD safeB slots ownS stepOwn reads runM stepM emptyH softEq V.soft softs readSl chunks partsV delKV slice0V stepE runE
set_option linter.unusedSimpArgs false
set_option linter.unusedVariables false

theorem s11_none (next : Int) (h0 : 1 ≤ next) (h1 : next ≤ 1099511627776) (M : Heap) : Spec Tryz.prog 11 [.lst [], .int .i64 next] M fun r M' => ∃ ot ol on, r = .tup [.ptr ot 0, .int .i64 0] ∧ TabK M' ot ol on [] ⟨next, [], []⟩ ∧ TFree M M' ot ol on [] := by
  refine Spec.strip (fun _ => false) ok11 (by simp) ?_
  unfold c11
  refine wps_seq_k fun K1 hK1 => wps_reg ?_; simp only [go_sem, Nat.reduceLeDiff, Nat.reducePow, Nat.reduceSub, Nat.reduceLT, Nat.reduceEqDiff, Nat.reduceAdd, Nat.reduceMul, ↓reduceIte, reduceCtorEq]; (first | (refine hK1 _ ?_; clear hK1 K1) | (refine ⟨?_, hK1 _ ?_⟩ <;> clear hK1 K1; first | (· (simp; done)) | (· (simp +contextual; done)) | (· (simp +contextual; omega)) | (· grind) | skip))
  refine wps_seq_k fun K2 hK2 => ?_
  refine wps_seq_k fun K1 hK1 => wps_reg ?_; simp only [go_sem, Nat.reduceLeDiff, Nat.reducePow, Nat.reduceSub, Nat.reduceLT, Nat.reduceEqDiff, Nat.reduceAdd, Nat.reduceMul, ↓reduceIte, reduceCtorEq, und2]; (first | (refine hK1 _ ?_; clear hK1 K1) | (refine ⟨?_, hK1 _ ?_⟩ <;> clear hK1 K1; first | (· (simp; done)) | (· (simp +contextual; done)) | (· (simp +contextual; omega)) | (· grind) | skip))
  refine wps_cond (by simp only [go_sem, Nat.reduceLeDiff, Nat.reducePow, Nat.reduceSub, Nat.reduceLT, Nat.reduceEqDiff, Nat.reduceAdd, Nat.reduceMul, ↓reduceIte, reduceCtorEq]; rfl) (by simp) (fun hb => ?_) (fun hb => ?_)
  · simp at hb; omega
  refine hK2 _ ?_; clear hK2 K2
  refine wps_seq_k fun K1 hK1 => wps_reg ?_; simp only [go_sem, Nat.reduceLeDiff, Nat.reducePow, Nat.reduceSub, Nat.reduceLT, Nat.reduceEqDiff, Nat.reduceAdd, Nat.reduceMul, ↓reduceIte, reduceCtorEq]; (first | (with_reducible refine oss_obl ?_ ?_; first | (· (simp; done)) | (· (simp +contextual; done)) | (· (simp +contextual; omega)) | (· grind) | skip) | skip)
  refine oss_call rfl (by simp only [go_sem, Nat.reduceLeDiff, Nat.reducePow, Nat.reduceSub, Nat.reduceLT, Nat.reduceEqDiff, Nat.reduceAdd, Nat.reduceMul, ↓reduceIte, reduceCtorEq]; rfl) (by simp) (s38 next M) ?_; rintro _ _ ⟨ol, on, ot, q1, q2, q3, q4, q5, q6, rfl, rfl⟩
  refine oss_run ?_; simp only [go_sem, Nat.reduceLeDiff, Nat.reducePow, Nat.reduceSub, Nat.reduceLT, Nat.reduceEqDiff, Nat.reduceAdd, Nat.reduceMul, ↓reduceIte, reduceCtorEq]; (first | (refine hK1 _ ?_; clear hK1 K1) | (refine ⟨?_, hK1 _ ?_⟩ <;> clear hK1 K1; first | (· (simp; done)) | (· (simp +contextual; done)) | (· (simp +contextual; omega)) | (· grind) | skip))
  refine wps_seq_k fun K2 hK2 => ?_
  refine wps_seq_k fun K1 hK1 => wps_reg ?_; simp only [go_sem, Nat.reduceLeDiff, Nat.reducePow, Nat.reduceSub, Nat.reduceLT, Nat.reduceEqDiff, Nat.reduceAdd, Nat.reduceMul, ↓reduceIte, reduceCtorEq, und51]; (first | (refine hK1 _ ?_; clear hK1 K1) | (refine ⟨?_, hK1 _ ?_⟩ <;> clear hK1 K1; first | (· (simp; done)) | (· (simp +contextual; done)) | (· (simp +contextual; omega)) | (· grind) | skip))
  refine wps_block (wps_rounds 1 ?_)
  rw [loopW_succ]
  refine wps_seq_k fun K1 hK1 => wps_reg ?_; simp only [go_sem, Nat.reduceLeDiff, Nat.reducePow, Nat.reduceSub, Nat.reduceLT, Nat.reduceEqDiff, Nat.reduceAdd, Nat.reduceMul, ↓reduceIte, reduceCtorEq]; (first | (refine hK1 _ ?_; clear hK1 K1) | (refine ⟨?_, hK1 _ ?_⟩ <;> clear hK1 K1; first | (· (simp; done)) | (· (simp +contextual; done)) | (· (simp +contextual; omega)) | (· grind) | skip))
  refine wps_seq_k fun K3 hK3 => ?_
  refine wps_cond (by simp only [go_sem, Nat.reduceLeDiff, Nat.reducePow, Nat.reduceSub, Nat.reduceLT, Nat.reduceEqDiff, Nat.reduceAdd, Nat.reduceMul, ↓reduceIte, reduceCtorEq]; rfl) (by simp) (fun hb => ?_) (fun hb => ?_)
  · simp at hb
  refine hK2 _ ?_; clear hK2
  refine wps_seq_k fun K1 hK1 => wps_reg ?_; simp only [go_sem, Nat.reduceLeDiff, Nat.reducePow, Nat.reduceSub, Nat.reduceLT, Nat.reduceEqDiff, Nat.reduceAdd, Nat.reduceMul, ↓reduceIte, reduceCtorEq]; (first | (refine hK1 _ ?_; clear hK1 K1) | (refine ⟨?_, hK1 _ ?_⟩ <;> clear hK1 K1; first | (· (simp; done)) | (· (simp +contextual; done)) | (· (simp +contextual; omega)) | (· grind) | skip))
  simp only [wps, endQ, resV, resVs, resV1, go_sem, Nat.reduceLeDiff, Nat.reducePow, Nat.reduceSub, Nat.reduceLT, Nat.reduceEqDiff, Nat.reduceAdd, Nat.reduceMul, ↓reduceIte, reduceCtorEq]
  refine ⟨ot, ol, on, rfl, ⟨⟨by simp [updH], by simp [updH, q6, strKV], by simp [updH, q4, q5, intKV], by simp⟩, rfl, q4⟩, ?_, ?_⟩
  · intro o x hx
    have e1 : o ≠ ol := by rintro rfl; rw [q1] at hx; cases hx
    have e2 : o ≠ on := by rintro rfl; rw [q2] at hx; cases hx
    have e3 : o ≠ ot := by rintro rfl; rw [q3] at hx; cases hx
    simp [updH, e1, e2, e3, hx]
  · rintro o (rfl | rfl | rfl | ⟨p, hp, _⟩)
    · exact q3
    · exact q1
    · exact q2
    · cases hp

end Go.Eng.Tryz

/- Contracts of chapter 42: Land. -/
namespace Go.Eng.Tryz
open Go.Proofs
attribute [local go_sem] oss_nil_eq Int.toNat_natCast maxLen Nat.zero_le run step opv slotV opvs dstLt evalQ constV isA setD upd_app guardB List.getD_cons_zero List.getD_cons_succ List.getD_nil V.tag V.cells decide_true decide_false Bool.false_eq_true if_false if_true ne_eq Nat.one_ne_zero not_false_eq_true keyKind cellOk List.forall_mem_cons List.not_mem_nil false_implies true_and and_true implies_true forall_const bump addrAdd loadA loadV part opV binV eqlV eqOk pickV unV convV boundV fillV storeTo splice List.getElem?_cons_zero List.getElem?_cons_succ List.take_succ_cons List.take_zero List.drop_succ_cons List.drop_zero List.length_cons List.length_nil List.cons_append List.nil_append List.append_nil List.getElem_toArray List.getElem?_toArray List.size_toArray and_self eqV_tupl eqV_tupr fbt tbf beq_self_eq_true Bool.not_false Bool.not_true cond_true cond_false newVarW updH_self updH_updH isFuncFn runT stepT stepC isCallV callOf callV escL memN runW stepW stepCW runD stepD safeB slots ownS stepOwn reads runM stepM emptyH softEq V.soft softs readSl chunks partsV delKV slice0V stepE runE
set_option linter.unusedSimpArgs false
set_option linter.unusedVariables false

def tFollows : List V → Option (Prop × V)
  | [.agg l, .agg k] => match deMeta l, deMeta k with
    | some m, some n => some (True, .bool (followsQ m n))
    | _, _ => none
  | _ => none
def tSaid : List V → Option (Prop × V)
  | [.int .i64 a, .int .i64 b] => some (True, .int .i64 (saidQ a b))
  | _ => none
def tabLd : Tab := fun _ id vs => match id with
  | 74 => tHead vs
  | 75 => tRight vs
  | 76 => tCnt vs
  | 77 => tAsk vs
  | 78 => tSaid vs
  | 80 => tJoins vs
  | 81 => tStrong vs
  | 82 => tFollows vs
  | 40 => tCopied vs
  | _ => none
theorem tabLd_ok : TabOk Tryz.prog tabLd := by
  intro M id vs g r h hg
  unfold tabLd at h
  split at h
  · unfold tHead at h
    split at h <;> cases h
    exact s74 _ _
  · unfold tRight at h
    split at h <;> try (cases h; done)
    split at h <;> cases h
    rename_i hm
    rw [deMeta_eq hm]
    exact s75 _ _
  · unfold tCnt at h
    split at h <;> cases h
    exact s76 _ _
  · unfold tAsk at h
    split at h <;> cases h
    exact s77 _ _ _ _
  · unfold tSaid at h
    split at h <;> cases h
    exact s78 _ _ _
  · unfold tJoins at h
    split at h <;> try (cases h; done)
    split at h <;> cases h
    rename_i hm
    rw [deMeta_eq hm]
    exact s80 _ _
  · unfold tStrong at h
    split at h <;> cases h
    exact s81 _ _ _ _ _
  · unfold tFollows at h
    split at h <;> try (cases h; done)
    split at h <;> cases h
    rename_i hm hn
    rw [deMeta_eq hm, deMeta_eq hn]
    exact s82 _ _ _
  · unfold tCopied at h
    split at h <;> try (cases h; done)
    split at h <;> cases h
    rename_i hm
    rw [deMeta_eq hm]
    exact s40 _ hg _
  · cases h

theorem sayK (o : Nat) (tick a b c : Int) (e : EntD) (has : V) (M : Heap) (hM : M o = some (.cells (knownL e has))) :
    Spec Tryz.prog 83 [.ptr o 0, .int .i64 tick, .agg [.int .i64 a, .int .i64 b, .int .i64 c]] M fun r M' => r = .tup [] ∧ M' = updH M o (.cells (knownL (sayQ e tick b c) has)) :=
  (s83 o tick a b c e has M hM).mono fun r M' ⟨h1, h2⟩ => ⟨h1, by
    rw [h2]; unfold sayQ
    split
    · rfl
    · exact (updH_same hM).symm⟩
theorem takeK (ot ol on : Nat) (next : Int) (N : List (B × Int × Int)) (obj : B) (id a b c : Int) (M : Heap) (hT : M ot = some (.cells [.map ol, .map on, .int .i64 next])) (hN : M on = some (.map (strKV nV N))) :
    Spec Tryz.prog 84 [.ptr ot 0, .str obj, .int .i64 id, .agg [.int .i64 a, .int .i64 b, .int .i64 c]] M fun r M' => r = .tup [] ∧ M' = updH M on (.map (strKV nV (takeQ N obj id b))) :=
  (s84 ot ol on next N obj id a b c M hT hN).mono fun r M' ⟨h1, h2⟩ => ⟨h1, by
    rcases h2 with h2 | ⟨h2, h3⟩
    · exact h2
    · rw [h2, h3]; exact (updH_same hN).symm⟩

theorem find_here {S : List Int} {p : Int → Bool} {k : Nat} {id : Int} (h0 : (S.take k).find? p = none) (h1 : S[k]? = some id) (h2 : p id = true) : S.find? p = some id := by
  have hk : k < S.length := by
    rcases Nat.lt_or_ge k S.length with h | h
    · exact h
    · rw [List.getElem?_eq_none h] at h1; cases h1
  have e : S.find? p = ((S.take k) ++ S.drop k).find? p := by rw [List.take_append_drop]
  rw [e, List.find?_append, h0, List.drop_eq_getElem_cons hk]
  rw [List.getElem?_eq_getElem hk] at h1
  simp only [Option.some.injEq] at h1
  rw [h1, List.find?_cons, h2]
  rfl

theorem TStep.upd {M : Heap} {ot ol on : Nat} {L : List (Int × KD)} {id : Int} {a : KD} (hm : (id, a) ∈ L) (x y : HObj) (g : KD → KD) (hg : ∀ b, (g b).o = b.o) : TStep M (updH (updH M a.o x) on y) ot ol on L (modA id g L) where
  keep := fun o z hz hn => by
    have h1 : o ≠ on := fun e => hn (.inr (.inr (.inl e)))
    have h2 : o ≠ a.o := fun e => hn (.inr (.inr (.inr ⟨_, hm, e.symm⟩)))
    simp only [updH, if_neg h1, if_neg h2]; exact hz
  fresh := fun p hp => by
    left
    rcases mem_modA hp with ⟨hp, _⟩ | ⟨b, hb, rfl⟩
    · exact .inr (.inr (.inr ⟨p, hp, rfl⟩))
    · exact .inr (.inr (.inr ⟨_, hb, (hg b).symm⟩))

theorem metaQ_keys {m : MetaD} (h : metaQ m = true) : m.keys.length * 16 ≤ 140737488355328 := by
  simp only [metaQ, keysQ, Bool.and_eq_true, decide_eq_true_eq] at h
  have := h.2.2.2.2.2.2.2.2.1.1
  omega

abbrev replyV (r0 : Int) (m : MetaD) (ra rb age : Int) : V := .agg [.int .i64 r0, .str m.t, .bool m.w, .int .i64 m.mod, .int .i64 m.len, .int .i64 m.have_, .int .i64 m.fresh, .int .i64 m.while_, .int .i64 m.err, .lst (sl m.keys), .str m.ten, .bool m.keep, .int .i64 ra, .int .i64 rb, .int .i64 age]

theorem s27 (ot ol on : Nat) (L : List (Int × KD)) (t : TS) (obj : B) (r0 : Int) (m : MetaD) (ra rb age a b c : Int) (M : Heap) {cc : Nat} (h : TabK M ot ol on L t) (hk : t.Ok cc) (hcc : cc ≤ 1000) :
    Spec Tryz.prog 27 [.ptr ot 0, .str obj, replyV r0 m ra rb age, .agg [.int .i64 a, .int .i64 b, .int .i64 c]] M fun r M' =>
      ∃ L', TabK M' ot ol on L' (t.land obj m age a b c).1 ∧ r = .tup [.int .i64 (t.land obj m age a b c).2.1, .bool (t.land obj m age a b c).2.2] ∧ TStep M M' ot ol on L L' := by
  refine Spec.strip (escL [132]) ok27 (by simp) ?_
  obtain ⟨mt, mw, mm, ml, mh, mf, mwh, mer, mk, mten, mkeep⟩ := m
  unfold c27
  have hg0 : ∀ A B' C D : Bool, objectQ obj = A → metaQ ⟨mt, mw, mm, ml, mh, mf, mwh, mer, mk, mten, mkeep⟩ = B' → cnt age = C → askQ a b c = D → (A && (B' && (C && D))) = false → t.land obj ⟨mt, mw, mm, ml, mh, mf, mwh, mer, mk, mten, mkeep⟩ age a b c = (t, 0, false) := by
    intro A B' C D h1 h2 h3 h4 h5
    unfold TS.land
    rw [h1, h2, h3, h4, h5]
    rfl
  have hg1 : ∀ A B' C D : Bool, objectQ obj = A → metaQ ⟨mt, mw, mm, ml, mh, mf, mwh, mer, mk, mten, mkeep⟩ = B' → cnt age = C → askQ a b c = D → (A && (B' && (C && D))) = true → metaQ ⟨mt, mw, mm, ml, mh, mf, mwh, mer, mk, mten, mkeep⟩ = true ∧ t.land obj ⟨mt, mw, mm, ml, mh, mf, mwh, mer, mk, mten, mkeep⟩ age a b c = match (t.ids obj).find? (t.hit ⟨mt, mw, mm, ml, mh, mf, mwh, mer, mk, mten, mkeep⟩) with
      | some id => (⟨t.next, modA id (fun x => (sayQ (landE ⟨mt, mw, mm, ml, mh, mf, mwh, mer, mk, mten, mkeep⟩ x.1) (saidQ a age) b c, x.2)) t.L, takeQ t.N obj id b⟩, id, false)
      | none => (⟨t.next + 1, t.L ++ [(t.next, ⟨t.next, obj, ⟨mt, mw, mm, ml, mh, mf, mwh, mer, mk, mten, mkeep⟩, saidQ a age, b, c, false⟩, .nils)], takeQ t.N obj t.next b⟩, t.next, true) := by
    intro A B' C D h1 h2 h3 h4 h5
    have hB : B' = true := by simp only [Bool.and_eq_true] at h5; exact h5.2.1
    refine ⟨by rw [h2, hB], ?_⟩
    unfold TS.land
    rw [h1, h2, h3, h4, h5]
    rfl
  have hA : ∃ A, objectQ obj = A := ⟨_, rfl⟩
  have hB : ∃ A, metaQ ⟨mt, mw, mm, ml, mh, mf, mwh, mer, mk, mten, mkeep⟩ = A := ⟨_, rfl⟩
  have hC : ∃ A, cnt age = A := ⟨_, rfl⟩
  have hD : ∃ A, askQ a b c = A := ⟨_, rfl⟩
  obtain ⟨A, hA⟩ := hA
  obtain ⟨B', hB⟩ := hB
  obtain ⟨C, hC⟩ := hC
  obtain ⟨D, hD⟩ := hD
  have hD' : (cnt a && (cnt b && cnt c)) = D := hD
  refine wps_seq_k fun K1 hK1 => wps_regT tabLd tabLd_ok ?_; simp only [go_sem, Nat.reduceLeDiff, Nat.reducePow, Nat.reduceSub, Nat.reduceLT, Nat.reduceEqDiff, Nat.reduceAdd, Nat.reduceMul, ↓reduceIte, reduceCtorEq, tabLd, tHead, tRight, tCnt, tAsk, tSaid, tJoins, tStrong, tFollows, tCopied, deMeta_c]; (first | (refine hK1 _ ?_; clear hK1 K1) | (refine ⟨?_, hK1 _ ?_⟩ <;> clear hK1 K1; first | (· (simp; done)) | (· (simp +contextual; done)) | (· (simp +contextual; omega)) | (· grind) | skip))
  refine wps_seq_k fun K2 hK2 => ?_
  refine wps_seq_k fun K1 hK1 => wps_regT tabLd tabLd_ok ?_; simp only [go_sem, Nat.reduceLeDiff, Nat.reducePow, Nat.reduceSub, Nat.reduceLT, Nat.reduceEqDiff, Nat.reduceAdd, Nat.reduceMul, ↓reduceIte, reduceCtorEq, tabLd, tHead, tRight, tCnt, tAsk, tSaid, tJoins, tStrong, tFollows, tCopied, deMeta_c, eq25c, fi43_1, fi43_3, ti39, ti2, ti74, hA, hB, hC, hD']; (first | (refine hK1 _ ?_; clear hK1 K1) | (refine ⟨?_, hK1 _ ?_⟩ <;> clear hK1 K1; first | (· (simp; done)) | (· (simp +contextual; done)) | (· (simp +contextual; omega)) | (· grind) | skip))
  refine wps_cond (by simp only [go_sem, Nat.reduceLeDiff, Nat.reducePow, Nat.reduceSub, Nat.reduceLT, Nat.reduceEqDiff, Nat.reduceAdd, Nat.reduceMul, ↓reduceIte, reduceCtorEq, tabLd, tHead, tRight, tCnt, tAsk, tSaid, tJoins, tStrong, tFollows, tCopied, deMeta_c]; rfl) (by simp) (fun hb => ?_) (fun hb => ?_)
  · refine wps_seq_k fun K1 hK1 => wps_regT tabLd tabLd_ok ?_; simp only [go_sem, Nat.reduceLeDiff, Nat.reducePow, Nat.reduceSub, Nat.reduceLT, Nat.reduceEqDiff, Nat.reduceAdd, Nat.reduceMul, ↓reduceIte, reduceCtorEq, tabLd, tHead, tRight, tCnt, tAsk, tSaid, tJoins, tStrong, tFollows, tCopied, deMeta_c]; (first | (refine hK1 _ ?_; clear hK1 K1) | (refine ⟨?_, hK1 _ ?_⟩ <;> clear hK1 K1; first | (· (simp; done)) | (· (simp +contextual; done)) | (· (simp +contextual; omega)) | (· grind) | skip))
    simp only [wps, endQ, resV, resVs, resV1, go_sem, Nat.reduceLeDiff, Nat.reducePow, Nat.reduceSub, Nat.reduceLT, Nat.reduceEqDiff, Nat.reduceAdd, Nat.reduceMul, ↓reduceIte, reduceCtorEq, tabLd, tHead, tRight, tCnt, tAsk, tSaid, tJoins, tStrong, tFollows, tCopied, deMeta_c]
    rw [hg0 A B' C D hA hB hC hD (by cases A <;> cases B' <;> cases C <;> cases D <;> simp at hb ⊢)]
    exact ⟨L, h, rfl, .refl _ _ _ _ _⟩
  refine hK2 _ ?_; clear hK2 K2
  obtain ⟨hm, hland⟩ := hg1 A B' C D hA hB hC hD (by cases A <;> cases B' <;> cases C <;> cases D <;> simp at hb ⊢)
  obtain ⟨S, hS⟩ : ∃ S, t.ids obj = S := ⟨_, rfl⟩
  obtain ⟨FD, hFD⟩ : ∃ x, S.find? (t.hit ⟨mt, mw, mm, ml, mh, mf, mwh, mer, mk, mten, mkeep⟩) = x := ⟨_, rfl⟩
  rw [hland, hS, hFD]
  clear hg0 hg1 hland hb
  refine wps_seq_k fun K1 hK1 => wps_regT tabLd tabLd_ok ?_; simp only [go_sem, Nat.reduceLeDiff, Nat.reducePow, Nat.reduceSub, Nat.reduceLT, Nat.reduceEqDiff, Nat.reduceAdd, Nat.reduceMul, ↓reduceIte, reduceCtorEq, tabLd, tHead, tRight, tCnt, tAsk, tSaid, tJoins, tStrong, tFollows, tCopied, deMeta_c, fi43_3, fi74_0, ti2]; (first | (refine hK1 _ ?_; clear hK1 K1) | (refine ⟨?_, hK1 _ ?_⟩ <;> clear hK1 K1; first | (· (simp; done)) | (· (simp +contextual; done)) | (· (simp +contextual; omega)) | (· grind) | skip))
  refine wps_seq_k fun K3 hK3 => ?_
  refine wps_seq_k fun K1 hK1 => wps_regT tabLd tabLd_ok ?_; simp only [go_sem, Nat.reduceLeDiff, Nat.reducePow, Nat.reduceSub, Nat.reduceLT, Nat.reduceEqDiff, Nat.reduceAdd, Nat.reduceMul, ↓reduceIte, reduceCtorEq, tabLd, tHead, tRight, tCnt, tAsk, tSaid, tJoins, tStrong, tFollows, tCopied, deMeta_c]; (first | (with_reducible refine oss_obl ?_ ?_; first | (· (simp; done)) | (· (simp +contextual; done)) | (· (simp +contextual; omega)) | (· grind) | skip) | skip)
  have hnd := h.nd hk
  have hr' : ∀ x ∈ L.map (·.1), 0 ≤ x ∧ x < 9223372036854775808 := by
    intro x hx
    obtain ⟨p, hp, rfl⟩ := List.mem_map.1 hx
    have := hk.rng _ (h.mem hp)
    have := hk.hi
    simp only at *
    omega
  have hlen : L.length ≤ cc := by have := hk.len; rw [← h.er] at this; simpa [er] using this
  refine oss_call rfl (by simp only [go_sem, Nat.reduceLeDiff, Nat.reducePow, Nat.reduceSub, Nat.reduceLT, Nat.reduceEqDiff, Nat.reduceAdd, Nat.reduceMul, ↓reduceIte, reduceCtorEq, tabLd, tHead, tRight, tCnt, tAsk, tSaid, tJoins, tStrong, tFollows, tCopied, deMeta_c]; rfl) (by simp) (idsK ot ol on t.next L t.N obj M h.tab hnd hr' (by omega)) ?_; rintro _ M ⟨rfl, rfl⟩
  rw [ids_eq h obj, hS]
  have hSin : ∀ id ∈ S, ∃ x, (id, x) ∈ L ∧ L.lookup id = some x := by
    intro id hid
    rw [← hS] at hid
    have h1 := (List.mem_filter.1 hid).1
    refine lookup_of_nodup ?_
    rw [← er_keys, h.er]
    simpa [keysS] using h1
  have hSlen : S.length ≤ cc := by
    rw [← hS]
    refine Nat.le_trans (List.length_filter_le _ _) ?_
    have := hk.len
    simpa [keysS] using this
  refine oss_runT tabLd tabLd_ok ?_; simp only [go_sem, Nat.reduceLeDiff, Nat.reducePow, Nat.reduceSub, Nat.reduceLT, Nat.reduceEqDiff, Nat.reduceAdd, Nat.reduceMul, ↓reduceIte, reduceCtorEq, tabLd, tHead, tRight, tCnt, tAsk, tSaid, tJoins, tStrong, tFollows, tCopied, deMeta_c, und89, il_len]; (first | (refine hK1 _ ?_; clear hK1 K1) | (refine ⟨?_, hK1 _ ?_⟩ <;> clear hK1 K1; first | (· (simp; done)) | (· (simp +contextual; done)) | (· (simp +contextual; omega)) | (· grind) | skip))
  refine wps_block (wps_count 48 S.length (fun k st => (S.take k).find? (t.hit ⟨mt, mw, mm, ml, mh, mf, mwh, mer, mk, mten, mkeep⟩) = none ∧ st.M = M ∧ st.fr 0 = .ptr ot 0 ∧ st.fr 1 = .str obj ∧ st.fr 6 = .box 0 [.int .i64 r0, .str mt, .bool mw, .int .i64 mm, .int .i64 ml, .int .i64 mh, .int .i64 mf, .int .i64 mwh, .int .i64 mer, .lst (sl mk), .str mten, .bool mkeep, .int .i64 ra, .int .i64 rb, .int .i64 age] ∧ st.fr 7 = .box 0 [.int .i64 a, .int .i64 b, .int .i64 c] ∧ st.fr 10 = .int .i64 (saidQ a age) ∧ st.fr 46 = .lst (il S) ∧ st.fr 47 = .int .i64 S.length) ?_ ?_)
  · exact ⟨0, by simp, by simp only [go_sem, Nat.reduceLeDiff, Nat.reducePow, Nat.reduceSub, Nat.reduceLT, Nat.reduceEqDiff, Nat.reduceAdd, Nat.reduceMul, ↓reduceIte, reduceCtorEq, tabLd, tHead, tRight, tCnt, tAsk, tSaid, tJoins, tStrong, tFollows, tCopied, deMeta_c]; rfl, by simp, by simp only [go_sem, Nat.reduceLeDiff, Nat.reducePow, Nat.reduceSub, Nat.reduceLT, Nat.reduceEqDiff, Nat.reduceAdd, Nat.reduceMul, ↓reduceIte, reduceCtorEq, tabLd, tHead, tRight, tCnt, tAsk, tSaid, tJoins, tStrong, tFollows, tCopied, deMeta_c], by simp only [go_sem, Nat.reduceLeDiff, Nat.reducePow, Nat.reduceSub, Nat.reduceLT, Nat.reduceEqDiff, Nat.reduceAdd, Nat.reduceMul, ↓reduceIte, reduceCtorEq, tabLd, tHead, tRight, tCnt, tAsk, tSaid, tJoins, tStrong, tFollows, tCopied, deMeta_c], by simp only [go_sem, Nat.reduceLeDiff, Nat.reducePow, Nat.reduceSub, Nat.reduceLT, Nat.reduceEqDiff, Nat.reduceAdd, Nat.reduceMul, ↓reduceIte, reduceCtorEq, tabLd, tHead, tRight, tCnt, tAsk, tSaid, tJoins, tStrong, tFollows, tCopied, deMeta_c], by simp only [go_sem, Nat.reduceLeDiff, Nat.reducePow, Nat.reduceSub, Nat.reduceLT, Nat.reduceEqDiff, Nat.reduceAdd, Nat.reduceMul, ↓reduceIte, reduceCtorEq, tabLd, tHead, tRight, tCnt, tAsk, tSaid, tJoins, tStrong, tFollows, tCopied, deMeta_c], by simp only [go_sem, Nat.reduceLeDiff, Nat.reducePow, Nat.reduceSub, Nat.reduceLT, Nat.reduceEqDiff, Nat.reduceAdd, Nat.reduceMul, ↓reduceIte, reduceCtorEq, tabLd, tHead, tRight, tCnt, tAsk, tSaid, tJoins, tStrong, tFollows, tCopied, deMeta_c], by simp only [go_sem, Nat.reduceLeDiff, Nat.reducePow, Nat.reduceSub, Nat.reduceLT, Nat.reduceEqDiff, Nat.reduceAdd, Nat.reduceMul, ↓reduceIte, reduceCtorEq, tabLd, tHead, tRight, tCnt, tAsk, tSaid, tJoins, tStrong, tFollows, tCopied, deMeta_c], by simp only [go_sem, Nat.reduceLeDiff, Nat.reducePow, Nat.reduceSub, Nat.reduceLT, Nat.reduceEqDiff, Nat.reduceAdd, Nat.reduceMul, ↓reduceIte, reduceCtorEq, tabLd, tHead, tRight, tCnt, tAsk, tSaid, tJoins, tStrong, tFollows, tCopied, deMeta_c], by simp only [go_sem, Nat.reduceLeDiff, Nat.reducePow, Nat.reduceSub, Nat.reduceLT, Nat.reduceEqDiff, Nat.reduceAdd, Nat.reduceMul, ↓reduceIte, reduceCtorEq, tabLd, tHead, tRight, tCnt, tAsk, tSaid, tJoins, tStrong, tFollows, tCopied, deMeta_c]⟩
  · rintro k fr M2 gen hk2 hi ⟨hno, hM2, h0, h1, h6, h7, h10, h46, h47⟩
    simp only at hM2 h0 h1 h6 h7 h10 h46 h47 hi
    subst hM2
    refine wps_seq_k fun K1 hK1 => wps_regT tabLd tabLd_ok ?_; simp only [go_sem, Nat.reduceLeDiff, Nat.reducePow, Nat.reduceSub, Nat.reduceLT, Nat.reduceEqDiff, Nat.reduceAdd, Nat.reduceMul, ↓reduceIte, reduceCtorEq, tabLd, tHead, tRight, tCnt, tAsk, tSaid, tJoins, tStrong, tFollows, tCopied, deMeta_c, hi, h47]; (first | (refine hK1 _ ?_; clear hK1 K1) | (refine ⟨?_, hK1 _ ?_⟩ <;> clear hK1 K1; first | (· (simp; done)) | (· (simp +contextual; done)) | (· (simp +contextual; omega)) | (· grind) | skip))
    refine wps_seq_k fun K4 hK4 => ?_
    refine wps_cond (by simp only [go_sem, Nat.reduceLeDiff, Nat.reducePow, Nat.reduceSub, Nat.reduceLT, Nat.reduceEqDiff, Nat.reduceAdd, Nat.reduceMul, ↓reduceIte, reduceCtorEq, tabLd, tHead, tRight, tCnt, tAsk, tSaid, tJoins, tStrong, tFollows, tCopied, deMeta_c]; rfl) (by simp) (fun hb => ?_) (fun hb => ?_)
    · refine hK4 _ ?_; clear hK4 K4
      simp only [decide_eq_true_eq] at hb
      have hk' : k < S.length := by omega
      have hg := il_get hk'
      obtain ⟨id, hid⟩ : ∃ id, S.getD k 0 = id := ⟨_, rfl⟩
      rw [hid] at hg
      have hidS : S[k]? = some id := by rw [List.getD_eq_getElem?_getD, List.getElem?_eq_getElem hk'] at hid; rw [List.getElem?_eq_getElem hk']; simpa using hid
      obtain ⟨x, hx, hlx⟩ := hSin id (List.mem_of_getElem? hidS)
      have hhit : t.hit ⟨mt, mw, mm, ml, mh, mf, mwh, mer, mk, mten, mkeep⟩ id = landHit ⟨mt, mw, mm, ml, mh, mf, mwh, mer, mk, mten, mkeep⟩ x.e := by
        simp only [TS.hit, ← h.er, er_lookup, hlx, Option.map_some]
      have htk : S.take (k + 1) = S.take k ++ [id] := by
        rw [List.take_add_one, hidS]; rfl
      have hT := h.tab.hT
      have hLm := h.tab.hL
      have hlk : ∀ ok, lookupV Tryz.prog M2 104 (.map ol) (.int .i64 id) ok = _ := fun ok => look_int_some und104 und2 hLm hlx
      have hka := h.tab.hK _ hx
      have hupd := h.upd hk hlx
      have hoff := h.off hx
      have hxr : metaQ x.e.m = true := hk.right _ (h.mem hx)
      obtain ⟨xo, ⟨eid, eobj, ⟨et, ew, emod, elen, ehave, efresh, ewhile, eerr, ekeys, eten, ekeep⟩, esaid, emom, egen, eturned⟩, has⟩ := x
      simp only [knownL] at hka
      refine wps_seq_k fun K5 hK5 => ?_
      refine wps_block ?_
      refine wps_seq_k fun K1 hK1 => wps_regT tabLd tabLd_ok ?_; simp only [go_sem, Nat.reduceLeDiff, Nat.reducePow, Nat.reduceSub, Nat.reduceLT, Nat.reduceEqDiff, Nat.reduceAdd, Nat.reduceMul, ↓reduceIte, reduceCtorEq, tabLd, tHead, tRight, tCnt, tAsk, tSaid, tJoins, tStrong, tFollows, tCopied, deMeta_c, ti2, und89, h46, hi, hg, il_len]; (first | (refine hK1 _ ?_; clear hK1 K1) | (refine ⟨?_, hK1 _ ?_⟩ <;> clear hK1 K1; first | (· (simp; done)) | (· (simp +contextual; done)) | (· (simp +contextual; omega)) | (· grind) | skip))
      refine wps_seq_k fun K1 hK1 => wps_regT tabLd tabLd_ok ?_; simp only [go_sem, Nat.reduceLeDiff, Nat.reducePow, Nat.reduceSub, Nat.reduceLT, Nat.reduceEqDiff, Nat.reduceAdd, Nat.reduceMul, ↓reduceIte, reduceCtorEq, tabLd, tHead, tRight, tCnt, tAsk, tSaid, tJoins, tStrong, tFollows, tCopied, deMeta_c, fi107_0, ti104, und104, und2, h0, hT, hlk]; (first | (refine hK1 _ ?_; clear hK1 K1) | (refine ⟨?_, hK1 _ ?_⟩ <;> clear hK1 K1; first | (· (simp; done)) | (· (simp +contextual; done)) | (· (simp +contextual; omega)) | (· grind) | skip))
      refine wps_seq_k fun K6 hK6 => ?_
      refine wps_seq_k fun K1 hK1 => wps_drawD tabLd tabLd_ok (by kernel_rfl) rfl (by kernel_rfl) (by simp only [go_sem, Nat.reduceLeDiff, Nat.reducePow, Nat.reduceSub, Nat.reduceLT, Nat.reduceEqDiff, Nat.reduceAdd, Nat.reduceMul, ↓reduceIte, reduceCtorEq, tabLd, tHead, tRight, tCnt, tAsk, tSaid, tJoins, tStrong, tFollows, tCopied, deMeta_c, fi110_0, fi39_0, fi43_1, fi57_2, ti36, ti39, hka, h6]; rfl) ?_; (first | (refine hK1 _ ?_; clear hK1 K1) | (refine ⟨?_, hK1 _ ?_⟩ <;> clear hK1 K1; first | (· (simp; done)) | (· (simp +contextual; done)) | (· (simp +contextual; omega)) | (· grind) | skip))
      obtain ⟨J, hJ⟩ : ∃ J, joinsQ ⟨et, ew, emod, elen, ehave, efresh, ewhile, eerr, ekeys, eten, ekeep⟩ = J := ⟨_, rfl⟩
      obtain ⟨G, hG⟩ : ∃ G, strong2 et mt ew mw = G := ⟨_, rfl⟩
      have hhit' : t.hit ⟨mt, mw, mm, ml, mh, mf, mwh, mer, mk, mten, mkeep⟩ id = (J && G) := by rw [hhit, ← hJ, ← hG]; rfl
      rw [hJ, hG]
      refine wps_cond (by simp only [go_sem, Nat.reduceLeDiff, Nat.reducePow, Nat.reduceSub, Nat.reduceLT, Nat.reduceEqDiff, Nat.reduceAdd, Nat.reduceMul, ↓reduceIte, reduceCtorEq, tabLd, tHead, tRight, tCnt, tAsk, tSaid, tJoins, tStrong, tFollows, tCopied, deMeta_c]; rfl) (by simp) (fun hb => ?_) (fun hb => ?_)
      · refine hK5 _ ?_
        refine wps_regT tabLd tabLd_ok ?_; simp only [go_sem, Nat.reduceLeDiff, Nat.reducePow, Nat.reduceSub, Nat.reduceLT, Nat.reduceEqDiff, Nat.reduceAdd, Nat.reduceMul, ↓reduceIte, reduceCtorEq, tabLd, tHead, tRight, tCnt, tAsk, tSaid, tJoins, tStrong, tFollows, tCopied, deMeta_c, hi]
        refine ⟨hk', by rw [IntWalk.i64_in _ (by omega)], ?_, h0, h1, h6, h7, h10, h46, h47⟩
        rw [htk, List.find?_append, hno]
        have : (J && G) = false := by cases J <;> cases G <;> simp at hb ⊢
        simp [hhit', this]
      · refine hK6 _ ?_; clear hK6 K6
        have hJG : (J && G) = true := by cases J <;> cases G <;> simp at hb ⊢
        have hfind := find_here hno hidS (by rw [hhit', hJG])
        rw [hFD] at hfind
        subst hfind
        clear hb hhit hhit' hno
        refine wps_seq_k fun K7 hK7 => ?_
        refine wps_seq_k fun K1 hK1 => wps_drawD tabLd tabLd_ok (by kernel_rfl) rfl (by kernel_rfl) (by simp only [go_sem, Nat.reduceLeDiff, Nat.reducePow, Nat.reduceSub, Nat.reduceLT, Nat.reduceEqDiff, Nat.reduceAdd, Nat.reduceMul, ↓reduceIte, reduceCtorEq, tabLd, tHead, tRight, tCnt, tAsk, tSaid, tJoins, tStrong, tFollows, tCopied, deMeta_c, fi110_0, fi43_1, fi57_2, ti39, hka, h6]; rfl) ?_; (first | (refine hK1 _ ?_; clear hK1 K1) | (refine ⟨?_, hK1 _ ?_⟩ <;> clear hK1 K1; first | (· (simp; done)) | (· (simp +contextual; done)) | (· (simp +contextual; omega)) | (· grind) | skip))
        obtain ⟨F, hF⟩ : ∃ F, followsQ ⟨et, ew, emod, elen, ehave, efresh, ewhile, eerr, ekeys, eten, ekeep⟩ ⟨mt, mw, mm, ml, mh, mf, mwh, mer, mk, mten, mkeep⟩ = F := ⟨_, rfl⟩
        rw [hF]
        have hland : ∀ e0 : EntD, e0 = ⟨eid, eobj, ⟨et, ew, emod, elen, ehave, efresh, ewhile, eerr, ekeys, eten, ekeep⟩, esaid, emom, egen, eturned⟩ → landE ⟨mt, mw, mm, ml, mh, mf, mwh, mer, mk, mten, mkeep⟩ e0 = if F then { e0 with m := ⟨mt, mw, mm, ml, mh, mf, mwh, mer, mk, mten, mkeep⟩ } else e0 := by
          rintro e0 rfl
          unfold landE
          rw [hF]
        have hcopy := metaQ_keys hm
        simp only at hcopy
        refine wps_cond (by simp only [go_sem, Nat.reduceLeDiff, Nat.reducePow, Nat.reduceSub, Nat.reduceLT, Nat.reduceEqDiff, Nat.reduceAdd, Nat.reduceMul, ↓reduceIte, reduceCtorEq, tabLd, tHead, tRight, tCnt, tAsk, tSaid, tJoins, tStrong, tFollows, tCopied, deMeta_c]; rfl) (by simp) (fun hb => ?_) (fun hb => ?_)
        · subst hb
          refine wps_regT tabLd tabLd_ok ?_; simp only [go_sem, Nat.reduceLeDiff, Nat.reducePow, Nat.reduceSub, Nat.reduceLT, Nat.reduceEqDiff, Nat.reduceAdd, Nat.reduceMul, ↓reduceIte, reduceCtorEq, tabLd, tHead, tRight, tCnt, tAsk, tSaid, tJoins, tStrong, tFollows, tCopied, deMeta_c, fi43_1, ti39, fi110_0, fi57_2, hka, h6]; (first | (with_reducible refine oss_obl ?_ ?_; first | (· (simp; done)) | (· (simp +contextual; done)) | (· (simp +contextual; omega)) | (· grind) | skip) | skip)
          refine ⟨by simp [hcopy], hK7 _ ?_⟩; clear hK7
          have hM1 : ∀ x, updH M2 xo (.cells x) xo = some (.cells x) := fun x => by simp [updH]
          refine wps_seq_k fun K1 hK1 => wps_regT tabLd tabLd_ok ?_; simp only [go_sem, Nat.reduceLeDiff, Nat.reducePow, Nat.reduceSub, Nat.reduceLT, Nat.reduceEqDiff, Nat.reduceAdd, Nat.reduceMul, ↓reduceIte, reduceCtorEq, tabLd, tHead, tRight, tCnt, tAsk, tSaid, tJoins, tStrong, tFollows, tCopied, deMeta_c, ti74, und103, und2, h7, h10]; (first | (with_reducible refine oss_obl ?_ ?_; first | (· (simp; done)) | (· (simp +contextual; done)) | (· (simp +contextual; omega)) | (· grind) | skip) | skip)
          refine oss_call rfl (by simp only [go_sem, Nat.reduceLeDiff, Nat.reducePow, Nat.reduceSub, Nat.reduceLT, Nat.reduceEqDiff, Nat.reduceAdd, Nat.reduceMul, ↓reduceIte, reduceCtorEq, tabLd, tHead, tRight, tCnt, tAsk, tSaid, tJoins, tStrong, tFollows, tCopied, deMeta_c]; rfl) (by simp) (sayK xo (saidQ a age) a b c ⟨eid, eobj, ⟨mt, mw, mm, ml, mh, mf, mwh, mer, mk, mten, mkeep⟩, esaid, emom, egen, eturned⟩ has _ (hM1 _)) ?_; rintro _ M3 ⟨rfl, hM3⟩
          rw [updH_updH] at hM3
          (first | (refine hK1 _ ?_; clear hK1 K1) | (refine ⟨?_, hK1 _ ?_⟩ <;> clear hK1 K1; first | (· (simp; done)) | (· (simp +contextual; done)) | (· (simp +contextual; omega)) | (· grind) | skip))
          have hT3 : M3 ot = some (.cells [.map ol, .map on, .int .i64 t.next]) := by rw [hM3]; simp only [updH, if_neg (Ne.symm hoff.1)]; exact hT
          have hN3 : M3 on = some (.map (strKV nV t.N)) := by rw [hM3]; simp only [updH, if_neg (Ne.symm hoff.2.2)]; exact h.tab.hN
          refine wps_seq_k fun K1 hK1 => wps_regT tabLd tabLd_ok ?_; simp only [go_sem, Nat.reduceLeDiff, Nat.reducePow, Nat.reduceSub, Nat.reduceLT, Nat.reduceEqDiff, Nat.reduceAdd, Nat.reduceMul, ↓reduceIte, reduceCtorEq, tabLd, tHead, tRight, tCnt, tAsk, tSaid, tJoins, tStrong, tFollows, tCopied, deMeta_c, ti74, h0, h1, h7]; (first | (with_reducible refine oss_obl ?_ ?_; first | (· (simp; done)) | (· (simp +contextual; done)) | (· (simp +contextual; omega)) | (· grind) | skip) | skip)
          refine oss_call rfl (by simp only [go_sem, Nat.reduceLeDiff, Nat.reducePow, Nat.reduceSub, Nat.reduceLT, Nat.reduceEqDiff, Nat.reduceAdd, Nat.reduceMul, ↓reduceIte, reduceCtorEq, tabLd, tHead, tRight, tCnt, tAsk, tSaid, tJoins, tStrong, tFollows, tCopied, deMeta_c]; rfl) (by simp) (takeK ot ol on t.next t.N obj id a b c M3 hT3 hN3) ?_; rintro _ M4 ⟨rfl, hM4⟩
          (first | (refine hK1 _ ?_; clear hK1 K1) | (refine ⟨?_, hK1 _ ?_⟩ <;> clear hK1 K1; first | (· (simp; done)) | (· (simp +contextual; done)) | (· (simp +contextual; omega)) | (· grind) | skip))
          refine wps_seq_k fun K1 hK1 => wps_regT tabLd tabLd_ok ?_; simp only [go_sem, Nat.reduceLeDiff, Nat.reducePow, Nat.reduceSub, Nat.reduceLT, Nat.reduceEqDiff, Nat.reduceAdd, Nat.reduceMul, ↓reduceIte, reduceCtorEq, tabLd, tHead, tRight, tCnt, tAsk, tSaid, tJoins, tStrong, tFollows, tCopied, deMeta_c]; (first | (refine hK1 _ ?_; clear hK1 K1) | (refine ⟨?_, hK1 _ ?_⟩ <;> clear hK1 K1; first | (· (simp; done)) | (· (simp +contextual; done)) | (· (simp +contextual; omega)) | (· grind) | skip))
          simp only [wps, endQ, resV, resVs, resV1, go_sem, Nat.reduceLeDiff, Nat.reducePow, Nat.reduceSub, Nat.reduceLT, Nat.reduceEqDiff, Nat.reduceAdd, Nat.reduceMul, ↓reduceIte, reduceCtorEq, tabLd, tHead, tRight, tCnt, tAsk, tSaid, tJoins, tStrong, tFollows, tCopied, deMeta_c]
          have hfin := (hupd (fun x => (sayQ (landE ⟨mt, mw, mm, ml, mh, mf, mwh, mer, mk, mten, mkeep⟩ x.1) (saidQ a age) b c, x.2))).updN (takeQ t.N obj id b)
          simp only [hland _ rfl, if_true] at hfin
          rw [hM4, hM3]
          exact ⟨_, hfin, TStep.upd hx _ _ _ (fun _ => rfl)⟩
        · subst hb
          refine hK7 _ ?_; clear hK7
          refine wps_seq_k fun K1 hK1 => wps_regT tabLd tabLd_ok ?_; simp only [go_sem, Nat.reduceLeDiff, Nat.reducePow, Nat.reduceSub, Nat.reduceLT, Nat.reduceEqDiff, Nat.reduceAdd, Nat.reduceMul, ↓reduceIte, reduceCtorEq, tabLd, tHead, tRight, tCnt, tAsk, tSaid, tJoins, tStrong, tFollows, tCopied, deMeta_c, ti74, und103, und2, h7, h10]; (first | (with_reducible refine oss_obl ?_ ?_; first | (· (simp; done)) | (· (simp +contextual; done)) | (· (simp +contextual; omega)) | (· grind) | skip) | skip)
          refine oss_call rfl (by simp only [go_sem, Nat.reduceLeDiff, Nat.reducePow, Nat.reduceSub, Nat.reduceLT, Nat.reduceEqDiff, Nat.reduceAdd, Nat.reduceMul, ↓reduceIte, reduceCtorEq, tabLd, tHead, tRight, tCnt, tAsk, tSaid, tJoins, tStrong, tFollows, tCopied, deMeta_c]; rfl) (by simp) (sayK xo (saidQ a age) a b c ⟨eid, eobj, ⟨et, ew, emod, elen, ehave, efresh, ewhile, eerr, ekeys, eten, ekeep⟩, esaid, emom, egen, eturned⟩ has _ hka) ?_; rintro _ M3 ⟨rfl, hM3⟩
          (first | (refine hK1 _ ?_; clear hK1 K1) | (refine ⟨?_, hK1 _ ?_⟩ <;> clear hK1 K1; first | (· (simp; done)) | (· (simp +contextual; done)) | (· (simp +contextual; omega)) | (· grind) | skip))
          have hT3 : M3 ot = some (.cells [.map ol, .map on, .int .i64 t.next]) := by rw [hM3]; simp only [updH, if_neg (Ne.symm hoff.1)]; exact hT
          have hN3 : M3 on = some (.map (strKV nV t.N)) := by rw [hM3]; simp only [updH, if_neg (Ne.symm hoff.2.2)]; exact h.tab.hN
          refine wps_seq_k fun K1 hK1 => wps_regT tabLd tabLd_ok ?_; simp only [go_sem, Nat.reduceLeDiff, Nat.reducePow, Nat.reduceSub, Nat.reduceLT, Nat.reduceEqDiff, Nat.reduceAdd, Nat.reduceMul, ↓reduceIte, reduceCtorEq, tabLd, tHead, tRight, tCnt, tAsk, tSaid, tJoins, tStrong, tFollows, tCopied, deMeta_c, ti74, h0, h1, h7]; (first | (with_reducible refine oss_obl ?_ ?_; first | (· (simp; done)) | (· (simp +contextual; done)) | (· (simp +contextual; omega)) | (· grind) | skip) | skip)
          refine oss_call rfl (by simp only [go_sem, Nat.reduceLeDiff, Nat.reducePow, Nat.reduceSub, Nat.reduceLT, Nat.reduceEqDiff, Nat.reduceAdd, Nat.reduceMul, ↓reduceIte, reduceCtorEq, tabLd, tHead, tRight, tCnt, tAsk, tSaid, tJoins, tStrong, tFollows, tCopied, deMeta_c]; rfl) (by simp) (takeK ot ol on t.next t.N obj id a b c M3 hT3 hN3) ?_; rintro _ M4 ⟨rfl, hM4⟩
          (first | (refine hK1 _ ?_; clear hK1 K1) | (refine ⟨?_, hK1 _ ?_⟩ <;> clear hK1 K1; first | (· (simp; done)) | (· (simp +contextual; done)) | (· (simp +contextual; omega)) | (· grind) | skip))
          refine wps_seq_k fun K1 hK1 => wps_regT tabLd tabLd_ok ?_; simp only [go_sem, Nat.reduceLeDiff, Nat.reducePow, Nat.reduceSub, Nat.reduceLT, Nat.reduceEqDiff, Nat.reduceAdd, Nat.reduceMul, ↓reduceIte, reduceCtorEq, tabLd, tHead, tRight, tCnt, tAsk, tSaid, tJoins, tStrong, tFollows, tCopied, deMeta_c]; (first | (refine hK1 _ ?_; clear hK1 K1) | (refine ⟨?_, hK1 _ ?_⟩ <;> clear hK1 K1; first | (· (simp; done)) | (· (simp +contextual; done)) | (· (simp +contextual; omega)) | (· grind) | skip))
          simp only [wps, endQ, resV, resVs, resV1, go_sem, Nat.reduceLeDiff, Nat.reducePow, Nat.reduceSub, Nat.reduceLT, Nat.reduceEqDiff, Nat.reduceAdd, Nat.reduceMul, ↓reduceIte, reduceCtorEq, tabLd, tHead, tRight, tCnt, tAsk, tSaid, tJoins, tStrong, tFollows, tCopied, deMeta_c]
          have hfin := (hupd (fun x => (sayQ (landE ⟨mt, mw, mm, ml, mh, mf, mwh, mer, mk, mten, mkeep⟩ x.1) (saidQ a age) b c, x.2))).updN (takeQ t.N obj id b)
          simp only [hland _ rfl, Bool.false_eq_true, if_false] at hfin
          rw [hM4, hM3]
          exact ⟨_, hfin, TStep.upd hx _ _ _ (fun _ => rfl)⟩
    · refine hK3 _ ?_
      clear hK4 K4 hK3 K3
      have hkS : k = S.length := by simp at hb; omega
      subst hkS
      rw [List.take_length] at hno
      rw [hFD] at hno
      subst hno
      have hT := h.tab.hT
      have hLm := h.tab.hL
      have hcopy := metaQ_keys hm
      simp only at hcopy
      have hhi := hk.hi
      have hlo := hk.lo
      refine wps_seq_k fun K1 hK1 => wps_regT tabLd tabLd_ok ?_; simp only [go_sem, Nat.reduceLeDiff, Nat.reducePow, Nat.reduceSub, Nat.reduceLT, Nat.reduceEqDiff, Nat.reduceAdd, Nat.reduceMul, ↓reduceIte, reduceCtorEq, tabLd, tHead, tRight, tCnt, tAsk, tSaid, tJoins, tStrong, tFollows, tCopied, deMeta_c, fi107_2, ti2, h0, hT]; (first | (refine hK1 _ ?_; clear hK1 K1) | (refine ⟨?_, hK1 _ ?_⟩ <;> clear hK1 K1; first | (· (simp; done)) | (· (simp +contextual; done)) | (· (simp +contextual; omega)) | (· grind) | skip))
      refine wps_seq_k fun K1 hK1 => wps_regT tabLd tabLd_ok ?_; simp only [go_sem, Nat.reduceLeDiff, Nat.reducePow, Nat.reduceSub, Nat.reduceLT, Nat.reduceEqDiff, Nat.reduceAdd, Nat.reduceMul, ↓reduceIte, reduceCtorEq, tabLd, tHead, tRight, tCnt, tAsk, tSaid, tJoins, tStrong, tFollows, tCopied, deMeta_c, fi107_2, ti2, und2, h0, hT]; (first | (refine hK1 _ ?_; clear hK1 K1) | (refine ⟨?_, hK1 _ ?_⟩ <;> clear hK1 K1; first | (· (simp; done)) | (· (simp +contextual; done)) | (· (simp +contextual; omega)) | (· grind) | skip))
      have hnx : IntKind.i64.wrap (t.next + 1) = t.next + 1 := IntWalk.i64_in _ (by omega)
      rw [hnx]
      obtain ⟨M1, hM1⟩ : ∃ M1, updH M2 ot (.cells [.map ol, .map on, .int .i64 (t.next + 1)]) = M1 := ⟨_, rfl⟩
      rw [hM1]
      have hT1 : M1 ot = some (.cells [.map ol, .map on, .int .i64 (t.next + 1)]) := by rw [← hM1]; simp [updH]
      have hL1 : M1 ol = some (.map (intKV kV L)) := by rw [← hM1]; simp only [updH, if_neg h.ots.1.symm]; exact hLm
      have hN1 : M1 on = some (.map (strKV nV t.N)) := by rw [← hM1]; simp only [updH, if_neg h.ots.2.symm]; exact h.tab.hN
      refine wps_seq_k fun K1 hK1 => wps_drawE tabLd tabLd_ok (by kernel_rfl) rfl (by kernel_rfl) ?_; intro N hN; simp only [] at hN
      have hNol : ol ≠ N := by rintro rfl; rw [hL1] at hN; cases hN
      have hNon : on ≠ N := by rintro rfl; rw [hN1] at hN; cases hN
      have hNot : ot ≠ N := by rintro rfl; rw [hT1] at hN; cases hN
      have hLN : ∀ x, updH M1 N (.cells x) ol = some (.map (intKV kV L)) := fun x => by simp only [updH, if_neg hNol]; exact hL1
      have hs : setKV (.int .i64 t.next) (.ptr N 0) (intKV kV L) = some (intKV kV (putA t.next ⟨N, ⟨t.next, obj, ⟨mt, mw, mm, ml, mh, mf, mwh, mer, mk, mten, mkeep⟩, saidQ a age, b, c, false⟩, .nils⟩ L)) := set_int (f := kV) t.next ⟨N, ⟨t.next, obj, ⟨mt, mw, mm, ml, mh, mf, mwh, mer, mk, mten, mkeep⟩, saidQ a age, b, c, false⟩, .nils⟩ L
      refine ⟨_, _, by simp only [go_sem, Nat.reduceLeDiff, Nat.reducePow, Nat.reduceSub, Nat.reduceLT, Nat.reduceEqDiff, Nat.reduceAdd, Nat.reduceMul, ↓reduceIte, reduceCtorEq, tabLd, tHead, tRight, tCnt, tAsk, tSaid, tJoins, tStrong, tFollows, tCopied, deMeta_c, bs110, bs57, fi107_0, fi110_0, fi43_1, fi57_0, fi57_1, fi57_2, fi57_3, fi57_4, fi57_5, fi74_1, fi74_2, ti104, ti2, ti39, und104, und2, zero103, zero110, zero57, hT1, hL1, hLN, hs, h0, h1, h6, h7, h10]; rfl, ?_, hK1 _ ?_⟩ <;> clear hK1 K1
      · exact ⟨hcopy, hN⟩
      have hN0 : M2 N = none := by rw [← hM1] at hN; simpa only [updH, if_neg hNot.symm] using hN
      have hadd := (h.add hN0 ⟨t.next, obj, ⟨mt, mw, mm, ml, mh, mf, mwh, mer, mk, mten, mkeep⟩, saidQ a age, b, c, false⟩ .nils hk.next_new (t.next + 1))
      rw [hM1] at hadd
      have hfin := hadd.updN (takeQ t.N obj t.next b)
      obtain ⟨M5, hM5⟩ : ∃ M5, updH (updH M1 N (.cells (knownL ⟨t.next, obj, ⟨mt, mw, mm, ml, mh, mf, mwh, mer, mk, mten, mkeep⟩, saidQ a age, b, c, false⟩ .nils))) ol (.map (intKV kV (putA t.next ⟨N, ⟨t.next, obj, ⟨mt, mw, mm, ml, mh, mf, mwh, mer, mk, mten, mkeep⟩, saidQ a age, b, c, false⟩, .nils⟩ L))) = M5 := ⟨_, rfl⟩
      rw [hM5] at hfin hadd
      simp only [knownL] at hM5
      rw [hM5]
      refine wps_seq_k fun K1 hK1 => wps_regT tabLd tabLd_ok ?_; simp only [go_sem, Nat.reduceLeDiff, Nat.reducePow, Nat.reduceSub, Nat.reduceLT, Nat.reduceEqDiff, Nat.reduceAdd, Nat.reduceMul, ↓reduceIte, reduceCtorEq, tabLd, tHead, tRight, tCnt, tAsk, tSaid, tJoins, tStrong, tFollows, tCopied, deMeta_c, ti74, h0, h1, h7]; (first | (with_reducible refine oss_obl ?_ ?_; first | (· (simp; done)) | (· (simp +contextual; done)) | (· (simp +contextual; omega)) | (· grind) | skip) | skip)
      refine oss_call rfl (by simp only [go_sem, Nat.reduceLeDiff, Nat.reducePow, Nat.reduceSub, Nat.reduceLT, Nat.reduceEqDiff, Nat.reduceAdd, Nat.reduceMul, ↓reduceIte, reduceCtorEq, tabLd, tHead, tRight, tCnt, tAsk, tSaid, tJoins, tStrong, tFollows, tCopied, deMeta_c]; rfl) (by simp) (takeK ot ol on (t.next + 1) t.N obj t.next a b c M5 hadd.tab.hT hadd.tab.hN) ?_; rintro _ M6 ⟨rfl, hM6⟩
      (first | (refine hK1 _ ?_; clear hK1 K1) | (refine ⟨?_, hK1 _ ?_⟩ <;> clear hK1 K1; first | (· (simp; done)) | (· (simp +contextual; done)) | (· (simp +contextual; omega)) | (· grind) | skip))
      refine wps_seq_k fun K1 hK1 => wps_regT tabLd tabLd_ok ?_; simp only [go_sem, Nat.reduceLeDiff, Nat.reducePow, Nat.reduceSub, Nat.reduceLT, Nat.reduceEqDiff, Nat.reduceAdd, Nat.reduceMul, ↓reduceIte, reduceCtorEq, tabLd, tHead, tRight, tCnt, tAsk, tSaid, tJoins, tStrong, tFollows, tCopied, deMeta_c]; (first | (refine hK1 _ ?_; clear hK1 K1) | (refine ⟨?_, hK1 _ ?_⟩ <;> clear hK1 K1; first | (· (simp; done)) | (· (simp +contextual; done)) | (· (simp +contextual; omega)) | (· grind) | skip))
      simp only [wps, endQ, resV, resVs, resV1, go_sem, Nat.reduceLeDiff, Nat.reducePow, Nat.reduceSub, Nat.reduceLT, Nat.reduceEqDiff, Nat.reduceAdd, Nat.reduceMul, ↓reduceIte, reduceCtorEq, tabLd, tHead, tRight, tCnt, tAsk, tSaid, tJoins, tStrong, tFollows, tCopied, deMeta_c]
      rw [hM6]
      refine ⟨_, hfin, ?_, ?_⟩
      · intro o z hz hn
        have n1 : o ≠ ot := fun e => hn (.inl e)
        have n2 : o ≠ ol := fun e => hn (.inr (.inl e))
        have n3 : o ≠ on := fun e => hn (.inr (.inr (.inl e)))
        have n4 : o ≠ N := by rintro rfl; rw [hN0] at hz; cases hz
        rw [← hM5, ← hM1]
        simp only [updH, if_neg n1, if_neg n2, if_neg n3, if_neg n4]
        exact hz
      · intro p hp
        rcases List.mem_append.1 hp with hp | hp
        · exact .inl (.inr (.inr (.inr ⟨p, hp, rfl⟩)))
        · simp only [List.mem_singleton] at hp
          subst hp
          exact .inr hN0
end Go.Eng.Tryz

/- Contracts of chapter 42: Last, Get, and the example. -/
namespace Go.Eng.Tryz
open Go.Proofs
set_option linter.unusedSimpArgs false
set_option linter.unusedVariables false

def TS.last (t : TS) (obj : B) : Int × Bool := if (t.L.lookup (newQ t.N obj).2).isSome then ((newQ t.N obj).2, true) else (0, false)
def TS.get (t : TS) (id : Int) : V := match t.L.lookup id with
  | some a => .tup [.agg (entL { a.1 with turned := !((newQ t.N a.1.obj).2 == a.1.id) }), .bool true]
  | none => .tup [zeroE, .bool false]

theorem lastK (ot ol on : Nat) (L : List (Int × KD)) (t : TS) (obj : B) (M : Heap) (h : TabK M ot ol on L t) :
    Pure Tryz.prog 25 [.ptr ot 0, .str obj] M (.tup [.int .i64 (t.last obj).1, .bool (t.last obj).2]) := by
  have := s25 ot ol on t.next t.N kV L (fun a => ⟨a.o, 0, rfl⟩) obj M h.tab.hT h.tab.hN h.tab.hL
  refine this.mono fun r M' ⟨h1, h2⟩ => ⟨?_, h2⟩
  rw [h1]
  unfold TS.last
  rw [← h.er, er_lookup]
  cases L.lookup (newQ t.N obj).2 <;> rfl

theorem getK (ot ol on : Nat) (L : List (Int × KD)) (t : TS) (id : Int) (M : Heap) (h : TabK M ot ol on L t) {c : Nat} (hk : t.Ok c) :
    Pure Tryz.prog 20 [.ptr ot 0, .int .i64 id] M (t.get id) := by
  unfold TS.get
  rw [← h.er, er_lookup]
  cases hl : L.lookup id with
  | none => exact s20_none ot ol on t.next id L M h.tab.hT h.tab.hL hl
  | some a =>
    have hx := lookup_mem hl
    exact s20_some ot ol on a.o t.next id t.N L a.e a.has M h.tab.hT h.tab.hN h.tab.hL hl (h.tab.hK _ hx) (metaQ_keys (hk.right _ (h.mem hx)))

theorem keysS_sorted {S : List Int} (h : S.Pairwise (· ≤ ·)) : keysS S = S := by
  unfold keysS
  exact List.mergeSort_of_pairwise (h.imp fun hab => by simpa using hab)

def mv (n : UInt8) : MetaD := ⟨[118, n], false, -1, 4, 4, 9, 0, 0, [], [], true⟩
def ts0 : TS := ⟨1, [], []⟩
def ts1 : TS := ⟨2, [(1, ⟨1, [47, 111], mv 49, 0, 5, 0, false⟩, .nils)], [([47, 111], (5, 1))]⟩
def ts2 : TS := ⟨3, [(1, ⟨1, [47, 111], mv 49, 0, 5, 0, false⟩, .nils), (2, ⟨2, [47, 111], mv 50, 0, 9, 0, false⟩, .nils)], [([47, 111], (9, 2))]⟩
def ts3 : TS := ⟨3, [(1, ⟨1, [47, 111], mv 49, 0, 7, 0, false⟩, .nils), (2, ⟨2, [47, 111], mv 50, 0, 9, 0, false⟩, .nils)], [([47, 111], (9, 2))]⟩

theorem ts0_ok : ts0.Ok 0 := ⟨by simp [ts0], by simp [ts0], by simp [ts0], by simp [ts0], by simp [ts0], by simp [ts0], by simp [ts0]⟩
theorem land1 : ts0.land [47, 111] (mv 49) 0 0 5 0 = (ts1, 1, true) := by
  unfold TS.land
  rw [if_pos (by decide +kernel)]
  have : ts0.ids [47, 111] = [] := by
    unfold TS.ids
    rw [keysS_sorted (by simp [ts0])]
    rfl
  rw [this]
  rfl
theorem land2 : ts1.land [47, 111] (mv 50) 0 0 9 0 = (ts2, 2, true) := by
  unfold TS.land
  rw [if_pos (by decide +kernel)]
  have : ts1.ids [47, 111] = [1] := by
    unfold TS.ids
    rw [keysS_sorted (by simp [ts1])]
    rfl
  rw [this]
  rfl
theorem land3 : ts2.land [47, 111] (mv 49) 0 0 7 0 = (ts3, 1, false) := by
  unfold TS.land
  rw [if_pos (by decide +kernel)]
  have : ts2.ids [47, 111] = [1, 2] := by
    unfold TS.ids
    rw [keysS_sorted (by simp [ts2])]
    rfl
  rw [this]
  have h1 : [1, 2].find? (ts2.hit (mv 49)) = some 1 := by rfl
  rw [h1]
  have h2 : followsQ (mv 49) (mv 49) = true := by decide +kernel
  simp only [ts2, ts3, modA, List.map_cons, List.map_nil, landE, h2]
  rfl
end Go.Eng.Tryz

/- Contracts of chapter 42: the example. -/
namespace Go.Eng.Tryz
open Go.Proofs
attribute [local go_sem] oss_nil_eq Int.toNat_natCast maxLen Nat.zero_le run step opv slotV opvs dstLt evalQ constV isA setD upd_app guardB List.getD_cons_zero List.getD_cons_succ List.getD_nil V.tag V.cells decide_true decide_false Bool.false_eq_true if_false if_true ne_eq Nat.one_ne_zero not_false_eq_true keyKind cellOk List.forall_mem_cons List.not_mem_nil false_implies true_and and_true implies_true forall_const bump addrAdd loadA loadV part opV binV eqlV eqOk pickV unV convV boundV fillV storeTo splice List.getElem?_cons_zero List.getElem?_cons_succ List.take_succ_cons List.take_zero List.drop_succ_cons List.drop_zero List.length_cons List.length_nil List.cons_append List.nil_append List.append_nil List.getElem_toArray List.getElem?_toArray List.size_toArray and_self eqV_tupl eqV_tupr fbt tbf beq_self_eq_true Bool.not_false Bool.not_true cond_true cond_false newVarW updH_self updH_updH isFuncFn runT stepT stepC isCallV callOf callV escL memN runW stepW stepCW runD stepD safeB slots ownS stepOwn reads runM stepM emptyH softEq V.soft softs readSl chunks partsV delKV slice0V stepE runE
set_option linter.unusedSimpArgs false
set_option linter.unusedVariables false

def tMeta42 : List V → Option (Prop × V)
  | [.str t] => some (True, .agg [.str t, .bool false, .int .i64 (-1), .int .i64 4, .int .i64 4, .int .i64 9, .int .i64 0, .int .i64 0, .nils, .str [], .bool true])
  | _ => none
def tabW : Tab := fun _ id vs => match id with
  | 36 => tMeta42 vs
  | _ => none
theorem tabW_ok : TabOk Tryz.prog tabW := by
  intro M id vs g r h hg
  unfold tabW at h
  split at h
  · unfold tMeta42 at h
    split at h <;> cases h
    exact s36 _ _
  · cases h

theorem s9 (M : Heap) : Pure Tryz.prog 9 [] M (.bool true) := by
  refine Spec.forget (Spec.strip (fun _ => false) ok9 (by simp) ?_) (by simp [refsOk])
  unfold c9
  refine wps_seq_k fun K1 hK1 => wps_regT tabW tabW_ok ?_; simp only [go_sem, Nat.reduceLeDiff, Nat.reducePow, Nat.reduceSub, Nat.reduceLT, Nat.reduceEqDiff, Nat.reduceAdd, Nat.reduceMul, ↓reduceIte, reduceCtorEq, tabW, tMeta42]; (first | (refine hK1 _ ?_; clear hK1 K1) | (refine ⟨?_, hK1 _ ?_⟩ <;> clear hK1 K1; first | (· (simp; done)) | (· (simp +contextual; done)) | (· (simp +contextual; omega)) | (· grind) | skip))
  refine wps_seq_k fun K1 hK1 => wps_regT tabW tabW_ok ?_; simp only [go_sem, Nat.reduceLeDiff, Nat.reducePow, Nat.reduceSub, Nat.reduceLT, Nat.reduceEqDiff, Nat.reduceAdd, Nat.reduceMul, ↓reduceIte, reduceCtorEq, tabW, tMeta42]; (first | (with_reducible refine oss_obl ?_ ?_; first | (· (simp; done)) | (· (simp +contextual; done)) | (· (simp +contextual; omega)) | (· grind) | skip) | skip)
  refine oss_call rfl (by simp only [go_sem, Nat.reduceLeDiff, Nat.reducePow, Nat.reduceSub, Nat.reduceLT, Nat.reduceEqDiff, Nat.reduceAdd, Nat.reduceMul, ↓reduceIte, reduceCtorEq, tabW, tMeta42]; rfl) (by simp) (s11_none 1 (by omega) (by omega) M) ?_; rintro _ M1 ⟨ot, ol, on, rfl, hT0, hF0⟩
  refine oss_runT tabW tabW_ok ?_; simp only [go_sem, Nat.reduceLeDiff, Nat.reducePow, Nat.reduceSub, Nat.reduceLT, Nat.reduceEqDiff, Nat.reduceAdd, Nat.reduceMul, ↓reduceIte, reduceCtorEq, tabW, tMeta42]; (first | (refine hK1 _ ?_; clear hK1 K1) | (refine ⟨?_, hK1 _ ?_⟩ <;> clear hK1 K1; first | (· (simp; done)) | (· (simp +contextual; done)) | (· (simp +contextual; omega)) | (· grind) | skip))
  refine wps_seq_k fun K2 hK2 => ?_
  refine wps_seq_k fun K1 hK1 => wps_regT tabW tabW_ok ?_; simp only [go_sem, Nat.reduceLeDiff, Nat.reducePow, Nat.reduceSub, Nat.reduceLT, Nat.reduceEqDiff, Nat.reduceAdd, Nat.reduceMul, ↓reduceIte, reduceCtorEq, tabW, tMeta42, eq25c]; (first | (refine hK1 _ ?_; clear hK1 K1) | (refine ⟨?_, hK1 _ ?_⟩ <;> clear hK1 K1; first | (· (simp; done)) | (· (simp +contextual; done)) | (· (simp +contextual; omega)) | (· grind) | skip))
  refine wps_cond (by simp only [go_sem, Nat.reduceLeDiff, Nat.reducePow, Nat.reduceSub, Nat.reduceLT, Nat.reduceEqDiff, Nat.reduceAdd, Nat.reduceMul, ↓reduceIte, reduceCtorEq, tabW, tMeta42]; rfl) (by simp) (fun hb => ?_) (fun hb => ?_)
  · simp at hb
  refine hK2 _ ?_; clear hK2 K2
  refine wps_seq_k fun K1 hK1 => wps_regT tabW tabW_ok ?_; simp only [go_sem, Nat.reduceLeDiff, Nat.reducePow, Nat.reduceSub, Nat.reduceLT, Nat.reduceEqDiff, Nat.reduceAdd, Nat.reduceMul, ↓reduceIte, reduceCtorEq, tabW, tMeta42, bs43, bs74, fi43_0, fi43_1, fi74_1, zero43, zero74]; (first | (with_reducible refine oss_obl ?_ ?_; first | (· (simp; done)) | (· (simp +contextual; done)) | (· (simp +contextual; omega)) | (· grind) | skip) | skip)
  refine oss_call rfl (by simp only [go_sem, Nat.reduceLeDiff, Nat.reducePow, Nat.reduceSub, Nat.reduceLT, Nat.reduceEqDiff, Nat.reduceAdd, Nat.reduceMul, ↓reduceIte, reduceCtorEq, tabW, tMeta42]; rfl) (by simp) (s27 ot ol on [] ts0 [47, 111] 200 (mv 49) 0 0 0 0 5 0 M1 hT0 ts0_ok (by omega)) ?_; rintro _ M2 ⟨L1, hT1, rfl, hS1⟩
  have hF1 := hF0.step hS1
  rw [land1] at hT1 ⊢
  refine oss_runT tabW tabW_ok ?_; simp only [go_sem, Nat.reduceLeDiff, Nat.reducePow, Nat.reduceSub, Nat.reduceLT, Nat.reduceEqDiff, Nat.reduceAdd, Nat.reduceMul, ↓reduceIte, reduceCtorEq, tabW, tMeta42]; (first | (refine hK1 _ ?_; clear hK1 K1) | (refine ⟨?_, hK1 _ ?_⟩ <;> clear hK1 K1; first | (· (simp; done)) | (· (simp +contextual; done)) | (· (simp +contextual; omega)) | (· grind) | skip))
  refine wps_seq_k fun K1 hK1 => wps_regT tabW tabW_ok ?_; simp only [go_sem, Nat.reduceLeDiff, Nat.reducePow, Nat.reduceSub, Nat.reduceLT, Nat.reduceEqDiff, Nat.reduceAdd, Nat.reduceMul, ↓reduceIte, reduceCtorEq, tabW, tMeta42, bs43, bs74, fi43_0, fi43_1, fi74_1, zero43, zero74]; (first | (with_reducible refine oss_obl ?_ ?_; first | (· (simp; done)) | (· (simp +contextual; done)) | (· (simp +contextual; omega)) | (· grind) | skip) | skip)
  have hk1 := ts0_ok.land [47, 111] (mv 49) 0 0 5 0
  rw [land1] at hk1
  refine oss_call rfl (by simp only [go_sem, Nat.reduceLeDiff, Nat.reducePow, Nat.reduceSub, Nat.reduceLT, Nat.reduceEqDiff, Nat.reduceAdd, Nat.reduceMul, ↓reduceIte, reduceCtorEq, tabW, tMeta42]; rfl) (by simp) (s27 ot ol on L1 ts1 [47, 111] 200 (mv 50) 0 0 0 0 9 0 M2 hT1 hk1 (by omega)) ?_; rintro _ M3 ⟨L2, hT2, rfl, hS2⟩
  have hF2 := hF1.step hS2
  have hk2 := hk1.land [47, 111] (mv 50) 0 0 9 0
  rw [land2] at hT2 hk2 ⊢
  refine oss_runT tabW tabW_ok ?_; simp only [go_sem, Nat.reduceLeDiff, Nat.reducePow, Nat.reduceSub, Nat.reduceLT, Nat.reduceEqDiff, Nat.reduceAdd, Nat.reduceMul, ↓reduceIte, reduceCtorEq, tabW, tMeta42]; (first | (refine hK1 _ ?_; clear hK1 K1) | (refine ⟨?_, hK1 _ ?_⟩ <;> clear hK1 K1; first | (· (simp; done)) | (· (simp +contextual; done)) | (· (simp +contextual; omega)) | (· grind) | skip))
  refine wps_seq_k fun K1 hK1 => wps_regT tabW tabW_ok ?_; simp only [go_sem, Nat.reduceLeDiff, Nat.reducePow, Nat.reduceSub, Nat.reduceLT, Nat.reduceEqDiff, Nat.reduceAdd, Nat.reduceMul, ↓reduceIte, reduceCtorEq, tabW, tMeta42, bs43, bs74, fi43_0, fi43_1, fi74_1, zero43, zero74]; (first | (with_reducible refine oss_obl ?_ ?_; first | (· (simp; done)) | (· (simp +contextual; done)) | (· (simp +contextual; omega)) | (· grind) | skip) | skip)
  refine oss_call rfl (by simp only [go_sem, Nat.reduceLeDiff, Nat.reducePow, Nat.reduceSub, Nat.reduceLT, Nat.reduceEqDiff, Nat.reduceAdd, Nat.reduceMul, ↓reduceIte, reduceCtorEq, tabW, tMeta42]; rfl) (by simp) (s27 ot ol on L2 ts2 [47, 111] 200 (mv 49) 0 0 0 0 7 0 M3 hT2 hk2 (by omega)) ?_; rintro _ M4 ⟨L3, hT3, rfl, hS3⟩
  have hF3 := hF2.step hS3
  have hk3 := hk2.land [47, 111] (mv 49) 0 0 7 0
  rw [land3] at hT3 hk3 ⊢
  refine oss_runT tabW tabW_ok ?_; simp only [go_sem, Nat.reduceLeDiff, Nat.reducePow, Nat.reduceSub, Nat.reduceLT, Nat.reduceEqDiff, Nat.reduceAdd, Nat.reduceMul, ↓reduceIte, reduceCtorEq, tabW, tMeta42]; (first | (refine hK1 _ ?_; clear hK1 K1) | (refine ⟨?_, hK1 _ ?_⟩ <;> clear hK1 K1; first | (· (simp; done)) | (· (simp +contextual; done)) | (· (simp +contextual; omega)) | (· grind) | skip))
  refine wps_seq_k fun K1 hK1 => wps_regT tabW tabW_ok ?_; simp only [go_sem, Nat.reduceLeDiff, Nat.reducePow, Nat.reduceSub, Nat.reduceLT, Nat.reduceEqDiff, Nat.reduceAdd, Nat.reduceMul, ↓reduceIte, reduceCtorEq, tabW, tMeta42]; (first | (with_reducible refine oss_obl ?_ ?_; first | (· (simp; done)) | (· (simp +contextual; done)) | (· (simp +contextual; omega)) | (· grind) | skip) | skip)
  refine oss_call rfl (by simp only [go_sem, Nat.reduceLeDiff, Nat.reducePow, Nat.reduceSub, Nat.reduceLT, Nat.reduceEqDiff, Nat.reduceAdd, Nat.reduceMul, ↓reduceIte, reduceCtorEq, tabW, tMeta42]; rfl) (by simp) (lastK ot ol on L3 ts3 [47, 111] M4 hT3) ?_; rintro _ _ ⟨rfl, rfl⟩
  rw [show ts3.last [47, 111] = (2, true) from rfl]
  refine oss_runT tabW tabW_ok ?_; simp only [go_sem, Nat.reduceLeDiff, Nat.reducePow, Nat.reduceSub, Nat.reduceLT, Nat.reduceEqDiff, Nat.reduceAdd, Nat.reduceMul, ↓reduceIte, reduceCtorEq, tabW, tMeta42]; (first | (refine hK1 _ ?_; clear hK1 K1) | (refine ⟨?_, hK1 _ ?_⟩ <;> clear hK1 K1; first | (· (simp; done)) | (· (simp +contextual; done)) | (· (simp +contextual; omega)) | (· grind) | skip))
  refine wps_seq_k fun K1 hK1 => wps_regT tabW tabW_ok ?_; simp only [go_sem, Nat.reduceLeDiff, Nat.reducePow, Nat.reduceSub, Nat.reduceLT, Nat.reduceEqDiff, Nat.reduceAdd, Nat.reduceMul, ↓reduceIte, reduceCtorEq, tabW, tMeta42]; (first | (with_reducible refine oss_obl ?_ ?_; first | (· (simp; done)) | (· (simp +contextual; done)) | (· (simp +contextual; omega)) | (· grind) | skip) | skip)
  refine oss_call rfl (by simp only [go_sem, Nat.reduceLeDiff, Nat.reducePow, Nat.reduceSub, Nat.reduceLT, Nat.reduceEqDiff, Nat.reduceAdd, Nat.reduceMul, ↓reduceIte, reduceCtorEq, tabW, tMeta42]; rfl) (by simp) (getK ot ol on L3 ts3 1 _ hT3 hk3) ?_; rintro _ _ ⟨rfl, rfl⟩
  rw [show ts3.get 1 = .tup [.agg (entL ⟨1, [47, 111], mv 49, 0, 7, 0, true⟩), .bool true] from rfl]
  simp only [entL]
  refine oss_runT tabW tabW_ok ?_; simp only [go_sem, Nat.reduceLeDiff, Nat.reducePow, Nat.reduceSub, Nat.reduceLT, Nat.reduceEqDiff, Nat.reduceAdd, Nat.reduceMul, ↓reduceIte, reduceCtorEq, tabW, tMeta42, ti57, zero57]; (first | (refine hK1 _ ?_; clear hK1 K1) | (refine ⟨?_, hK1 _ ?_⟩ <;> clear hK1 K1; first | (· (simp; done)) | (· (simp +contextual; done)) | (· (simp +contextual; omega)) | (· grind) | skip))
  refine wps_seq_k fun K1 hK1 => wps_regT tabW tabW_ok ?_; simp only [go_sem, Nat.reduceLeDiff, Nat.reducePow, Nat.reduceSub, Nat.reduceLT, Nat.reduceEqDiff, Nat.reduceAdd, Nat.reduceMul, ↓reduceIte, reduceCtorEq, tabW, tMeta42, fi57_4, fi57_6, ti2, ti4]; (first | (refine hK1 _ ?_; clear hK1 K1) | (refine ⟨?_, hK1 _ ?_⟩ <;> clear hK1 K1; first | (· (simp; done)) | (· (simp +contextual; done)) | (· (simp +contextual; omega)) | (· grind) | skip))
  simp only [wps, endQ, resV, resVs, resV1, go_sem, Nat.reduceLeDiff, Nat.reducePow, Nat.reduceSub, Nat.reduceLT, Nat.reduceEqDiff, Nat.reduceAdd, Nat.reduceMul, ↓reduceIte, reduceCtorEq, tabW, tMeta42]
  exact hF3.keep
end Go.Eng.Tryz
