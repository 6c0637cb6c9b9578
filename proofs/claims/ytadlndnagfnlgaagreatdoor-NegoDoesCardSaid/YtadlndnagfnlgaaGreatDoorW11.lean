/- strings.Fields at this dump (laid by the kit's tools lay-shelf.mjs and lay-plain.mjs), and turned to the state of owned blocks. -/
import Derived.Shelf.Strings.Fields
import Derived.Test.YtadlndnagfnlgaaGreatDoorProg
import Derived.Test.YtadlndnagfnlgaaGreatDoorW10
namespace Go.Proofs
open Go.Shelf
def Tryz.lays157_ren : Go.Shelf.Ren := ⟨fun | 157 => 213 | 229 => 240 | 199 => 241 | 261 => 245 | 311 => 246 | 312 => 247 | n => n, fun | 9 => 9 | 31 => 257 | 3 => 3 | 5 => 5 | 4 => 4 | 119 => 271 | 0 => 0 | 40 => 273 | 152 => 275 | 21 => 21 | 154 => 277 | 51 => 27 | 141 => 279 | 196 => 283 | 193 => 280 | 198 => 285 | 49 => 55 | 194 => 281 | 201 => 288 | 226 => 290 | 46 => 211 | 227 => 291 | n => n, fun | 0 => 0 | 6 => 1 | n => n⟩
theorem Tryz.lays157 : Go.Proofs.Lays.n157 Tryz.prog Tryz.lays157_ren := {
  mixed := by kernel_rfl
  f157 := Tryz.func213.trans (congrArg some (by kernel_rfl))
  f199 := Tryz.func241.trans (congrArg some (by kernel_rfl))
  f229 := Tryz.func240.trans (congrArg some (by kernel_rfl))
  f261 := Tryz.func245.trans (congrArg some (by kernel_rfl))
  f311 := Tryz.func246.trans (congrArg some (by kernel_rfl))
  f312 := Tryz.func247.trans (congrArg some (by kernel_rfl))
  t0 := Tryz.underlying0
  a0 := Tryz.isAgg0
  z0 := Tryz.sizeOf0
  v0 := Tryz.zeroValue0
  t3 := Tryz.underlying3
  a3 := Tryz.isAgg3
  z3 := Tryz.sizeOf3
  v3 := Tryz.zeroValue3
  t4 := Tryz.underlying4
  a4 := Tryz.isAgg4
  z4 := Tryz.sizeOf4
  v4 := Tryz.zeroValue4
  t5 := Tryz.underlying5
  a5 := Tryz.isAgg5
  z5 := Tryz.sizeOf5
  v5 := Tryz.zeroValue5
  t9 := Tryz.underlying9
  a9 := Tryz.isAgg9
  z9 := Tryz.sizeOf9
  v9 := Tryz.zeroValue9
  t21 := Tryz.underlying21
  a21 := Tryz.isAgg21
  z21 := Tryz.sizeOf21
  v21 := Tryz.zeroValue21
  t31 := Tryz.underlying257
  a31 := Tryz.isAgg257
  z31 := Tryz.sizeOf257
  v31 := Tryz.zeroValue257
  t40 := Tryz.underlying273
  a40 := Tryz.isAgg273
  z40 := Tryz.sizeOf273
  v40 := Tryz.zeroValue273
  t46 := Tryz.underlying211
  a46 := Tryz.isAgg211
  z46 := Tryz.sizeOf211
  v46 := Tryz.zeroValue211
  t49 := Tryz.underlying55
  a49 := Tryz.isAgg55
  z49 := Tryz.sizeOf55
  v49 := Tryz.zeroValue55
  t51 := Tryz.underlying27
  a51 := Tryz.isAgg27
  z51 := Tryz.sizeOf27
  v51 := Tryz.zeroValue27
  t119 := Tryz.underlying271
  a119 := Tryz.isAgg271
  z119 := Tryz.sizeOf271
  t141 := Tryz.underlying279
  a141 := Tryz.isAgg279
  z141 := Tryz.sizeOf279
  v141 := Tryz.zeroValue279
  t152 := Tryz.underlying275
  a152 := Tryz.isAgg275
  z152 := Tryz.sizeOf275
  v152 := Tryz.zeroValue275
  t154 := Tryz.underlying277
  a154 := Tryz.isAgg277
  z154 := Tryz.sizeOf277
  v154 := Tryz.zeroValue277
  t193 := Tryz.underlying280
  a193 := Tryz.isAgg280
  z193 := Tryz.sizeOf280
  v193 := Tryz.zeroValue280
  t194 := Tryz.underlying281
  a194 := Tryz.isAgg281
  z194 := Tryz.sizeOf281
  v194 := Tryz.zeroValue281
  t196 := Tryz.underlying283
  a196 := Tryz.isAgg283
  z196 := Tryz.sizeOf283
  v196 := Tryz.zeroValue283
  t198 := Tryz.underlying285
  a198 := Tryz.isAgg285
  z198 := Tryz.sizeOf285
  v198 := Tryz.zeroValue285
  t201 := Tryz.underlying288
  a201 := Tryz.isAgg288
  z201 := Tryz.sizeOf288
  v201 := Tryz.zeroValue288
  t226 := Tryz.underlying290
  a226 := Tryz.isAgg290
  z226 := Tryz.sizeOf290
  v226 := Tryz.zeroValue290
  t227 := Tryz.underlying291
  a227 := Tryz.isAgg291
  z227 := Tryz.sizeOf291
  v227 := Tryz.zeroValue291
  g0 := by kernel_rfl
  g6 := by kernel_rfl }
open Go.RowKit Go.Lib in
theorem Tryz.strings_Fields (s : ByteArray) (w : World) (hs : s.size < 4294967281) (hascii : ∀ (j : Nat) b, s.data.toList[j]? = some b → b.toNat < 128) (htab : Lib.TabIs Tryz.prog w "strings.asciiSpace" .u8 Lib.asciiSpaceTab) :
    Calls Tryz.prog 213 #[.string s] w fun e w' =>
      e = .returned (.slice (some ⟨w.heap.size, 0, none⟩) (Lib.fields s.data.toList).length (Lib.fields s.data.toList).length) ∧ w' = w.alloc (.cells ((Lib.fields s.data.toList).map fun l => Value.string ⟨l.toArray⟩).toArray 9) := Any.strings_Fields Tryz.lays157 (by kernel_rfl) (by kernel_rfl) s w hs hascii htab
namespace YtadlndnagfnlgaaGreatDoor.W
open Go
def Hc (c : World) : Prop := Lib.TabIs Tryz.prog c "strings.asciiSpace" .u8 Lib.asciiSpaceTab
theorem var_same {P : Program} {c w : World} {nm : String} {cs : Array Value} (hs : ∀ (k : Nat) (o : Obj), c.heap[k]? = some o → w.heap[k]? = some o) (h : c.var? P nm = some cs) : w.var? P nm = some cs := by
  unfold World.var? at h ⊢
  cases hg : P.globalNamed nm with
  | none => simp [hg] at h
  | some g =>
    simp only [hg, Option.bind_some] at h ⊢
    cases hc : c.heap[g]? with
    | none => simp [hc] at h
    | some o => rw [hs g o hc]; rw [hc] at h; exact h
def flds (s : ByteArray) : Option (List ByteArray) := if s.size < 4294967281 ∧ (s.data.toList.all fun b => decide (b.toNat < 128)) = true ∧ (Lib.fields s.data.toList).length ≤ 1000000 then some ((Lib.fields s.data.toList).map fun l => ⟨l.toArray⟩) else none
theorem rowRd_strs {G : qk} : ∀ (l : List ByteArray), zN Kd.str G (l.map Value.string) l
  | [] => rfl
  | x :: l => ⟨[.string x], _, rfl, rfl, rowRd_strs l⟩
theorem flds_ok {c : World} (hc : Hc c) {G : qk} {w : World} {σ : List Ent} {s : ByteArray} (H : St c G w σ) {r : List ByteArray} (hF : flds s = some r) :
    Calls Tryz.prog 213 ([.string s] : List Value).toArray w (zu fun v w' => ∃ (G' : qk) (A' : Option Addr) (c' : Nat), GLe G G' ∧ tup [(.slice A' r.length c')] = v ∧ St c G' w' σ ∧ SlR Kd.str G' A' c' r) := by
  unfold flds at hF
  split at hF
  · rename_i hb
    cases hF
    have htab : Lib.TabIs Tryz.prog w "strings.asciiSpace" .u8 Lib.asciiSpaceTab := var_same (fun k o hk => H.ag.at_ k o (H.base k o hk)) hc
    have hasc : ∀ (j : Nat) b, s.data.toList[j]? = some b → b.toNat < 128 := fun j b hj => by
      have := List.all_eq_true.1 hb.2.1 b (List.mem_of_getElem? hj)
      simpa using this
    refine (Tryz.strings_Fields s w hb.1 hasc htab).mono ?_
    rintro e w' ⟨rfl, rfl⟩
    generalize hl : Lib.fields s.data.toList = l
    have hrow := rowRd_strs (G := G) (l.map fun x => (⟨x.toArray⟩ : ByteArray))
    have hlen := zN.len hrow
    rw [List.map_map] at hrow hlen
    have hS : St c G (w.alloc (.cells (l.map fun x => Value.string ⟨x.toArray⟩).toArray 9)) (.row Kd.str (some w.heap.size) (some ⟨w.heap.size, 0, none⟩) l.length 9 (l.map fun x => (⟨x.toArray⟩ : ByteArray)) :: σ) := by
      refine H.add (World.grownBy_alloc w _ none) ⟨(fun k hk => by cases hk; exact H.ag.fresh (Nat.le_refl _)), .inr ⟨w.heap.size, _, rfl, rfl, by simp, ?_, heap_alloc_new w _, ?_, ?_⟩⟩ (fun k hk => by cases hk; exact Nat.le_refl _)
      · have := hb.2.2
        rw [hl] at this
        simp only [maxLen]
        omega
      · simp [Kd.str, Kd.det]
      · show zN Kd.str G _ _
        rw [List.take_of_length_le (by simp [Kd.str, Kd.det])]
        exact hrow
    obtain ⟨G', hg, hS', hs⟩ := hS.stay (i := 0) rfl (fun e => by cases e)
    exact ⟨G', _, _, hg, by simp [tup], hS', hs⟩
  · cases hF
end YtadlndnagfnlgaaGreatDoor.W
end Go.Proofs
