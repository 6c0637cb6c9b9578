/- strings.Fields at this dump (laid by the kit's tools lay-shelf.mjs and lay-plain.mjs), and turned to the state of owned blocks. -/
import Derived.Shelf.Strings.Fields
import Derived.Test.YtadlndnagfnlgaaDoorProg
import Derived.Test.YtadlndnagfnlgaaDoorW10
namespace Go.Proofs
open Go.Shelf
def Tryd.lays157_ren : Go.Shelf.Ren := ⟨fun | 157 => 84 | 229 => 93 | 199 => 94 | 261 => 98 | 311 => 103 | 312 => 104 | n => n, fun | 9 => 9 | 31 => 121 | 3 => 3 | 5 => 5 | 4 => 4 | 119 => 138 | 0 => 0 | 40 => 140 | 152 => 144 | 21 => 21 | 154 => 146 | 51 => 24 | 141 => 148 | 196 => 152 | 193 => 149 | 198 => 154 | 49 => 69 | 194 => 150 | 201 => 157 | 226 => 159 | 46 => 98 | 227 => 160 | n => n, fun | 0 => 0 | 6 => 1 | n => n⟩
theorem Tryd.lays157 : Go.Proofs.Lays.n157 Tryd.prog Tryd.lays157_ren := {
  mixed := by kernel_rfl
  f157 := Tryd.func84.trans (congrArg some (by kernel_rfl))
  f199 := Tryd.func94.trans (congrArg some (by kernel_rfl))
  f229 := Tryd.func93.trans (congrArg some (by kernel_rfl))
  f261 := Tryd.func98.trans (congrArg some (by kernel_rfl))
  f311 := Tryd.func103.trans (congrArg some (by kernel_rfl))
  f312 := Tryd.func104.trans (congrArg some (by kernel_rfl))
  t0 := Tryd.underlying0
  a0 := Tryd.isAgg0
  z0 := Tryd.sizeOf0
  v0 := Tryd.zeroValue0
  t3 := Tryd.underlying3
  a3 := Tryd.isAgg3
  z3 := Tryd.sizeOf3
  v3 := Tryd.zeroValue3
  t4 := Tryd.underlying4
  a4 := Tryd.isAgg4
  z4 := Tryd.sizeOf4
  v4 := Tryd.zeroValue4
  t5 := Tryd.underlying5
  a5 := Tryd.isAgg5
  z5 := Tryd.sizeOf5
  v5 := Tryd.zeroValue5
  t9 := Tryd.underlying9
  a9 := Tryd.isAgg9
  z9 := Tryd.sizeOf9
  v9 := Tryd.zeroValue9
  t21 := Tryd.underlying21
  a21 := Tryd.isAgg21
  z21 := Tryd.sizeOf21
  v21 := Tryd.zeroValue21
  t31 := Tryd.underlying121
  a31 := Tryd.isAgg121
  z31 := Tryd.sizeOf121
  v31 := Tryd.zeroValue121
  t40 := Tryd.underlying140
  a40 := Tryd.isAgg140
  z40 := Tryd.sizeOf140
  v40 := Tryd.zeroValue140
  t46 := Tryd.underlying98
  a46 := Tryd.isAgg98
  z46 := Tryd.sizeOf98
  v46 := Tryd.zeroValue98
  t49 := Tryd.underlying69
  a49 := Tryd.isAgg69
  z49 := Tryd.sizeOf69
  v49 := Tryd.zeroValue69
  t51 := Tryd.underlying24
  a51 := Tryd.isAgg24
  z51 := Tryd.sizeOf24
  v51 := Tryd.zeroValue24
  t119 := Tryd.underlying138
  a119 := Tryd.isAgg138
  z119 := Tryd.sizeOf138
  t141 := Tryd.underlying148
  a141 := Tryd.isAgg148
  z141 := Tryd.sizeOf148
  v141 := Tryd.zeroValue148
  t152 := Tryd.underlying144
  a152 := Tryd.isAgg144
  z152 := Tryd.sizeOf144
  v152 := Tryd.zeroValue144
  t154 := Tryd.underlying146
  a154 := Tryd.isAgg146
  z154 := Tryd.sizeOf146
  v154 := Tryd.zeroValue146
  t193 := Tryd.underlying149
  a193 := Tryd.isAgg149
  z193 := Tryd.sizeOf149
  v193 := Tryd.zeroValue149
  t194 := Tryd.underlying150
  a194 := Tryd.isAgg150
  z194 := Tryd.sizeOf150
  v194 := Tryd.zeroValue150
  t196 := Tryd.underlying152
  a196 := Tryd.isAgg152
  z196 := Tryd.sizeOf152
  v196 := Tryd.zeroValue152
  t198 := Tryd.underlying154
  a198 := Tryd.isAgg154
  z198 := Tryd.sizeOf154
  v198 := Tryd.zeroValue154
  t201 := Tryd.underlying157
  a201 := Tryd.isAgg157
  z201 := Tryd.sizeOf157
  v201 := Tryd.zeroValue157
  t226 := Tryd.underlying159
  a226 := Tryd.isAgg159
  z226 := Tryd.sizeOf159
  v226 := Tryd.zeroValue159
  t227 := Tryd.underlying160
  a227 := Tryd.isAgg160
  z227 := Tryd.sizeOf160
  v227 := Tryd.zeroValue160
  g0 := by kernel_rfl
  g6 := by kernel_rfl }
open Go.RowKit Go.Lib in
/-- strings.Fields, the table by 'Lib.TabIs' (as strings.TrimSpace's contract). 'hg': the table's number, by its name: at a dump 'by kernel_rfl'. (LAID: no walk: one application.) -/
theorem Tryd.strings_Fields (s : ByteArray) (w : World) (hs : s.size < 4294967281) (hascii : ∀ (j : Nat) b, s.data.toList[j]? = some b → b.toNat < 128) (htab : Lib.TabIs Tryd.prog w "strings.asciiSpace" .u8 Lib.asciiSpaceTab) :
    Calls Tryd.prog 84 #[.string s] w fun e w' =>
      e = .returned (.slice (some ⟨w.heap.size, 0, none⟩) (Lib.fields s.data.toList).length (Lib.fields s.data.toList).length) ∧ w' = w.alloc (.cells ((Lib.fields s.data.toList).map fun l => Value.string ⟨l.toArray⟩).toArray 9) := Any.strings_Fields Tryd.lays157 (by kernel_rfl) (by kernel_rfl) s w hs hascii htab
set_option linter.unusedSimpArgs false
set_option linter.unusedVariables false
namespace YtadlndnagfnlgaaDoor.W
open Go
def Hc (c : World) : Prop := Lib.TabIs Tryd.prog c "strings.asciiSpace" .u8 Lib.asciiSpaceTab
theorem var_same {P : Program} {c w : World} {nm : String} {cs : Array Value} (hs : ∀ (k : Nat) (o : Obj), c.heap[k]? = some o → w.heap[k]? = some o) (h : c.var? P nm = some cs) : w.var? P nm = some cs := by
  unfold World.var? at h ⊢
  cases hg : P.globalNamed nm with
  | none => simp [hg] at h
  | some g =>
    simp only [hg, Option.bind_some] at h ⊢
    cases hc : c.heap[g]? with
    | none => simp [hc] at h
    | some o => rw [hs g o hc]; rw [hc] at h; exact h
def flds (s : ByteArray) : Option (List ByteArray) := if s.size < 4294967281 ∧ (s.data.toList.all fun b => decide (b.toNat < 128)) = true ∧ (Lib.fields s.data.toList).length ≤ 1000000 then some ((Lib.fields s.data.toList).map fun l => ⟨l.toArray⟩) else none
theorem rowRd_strs {G : Ghost} : ∀ (l : List ByteArray), rowRd Kd.str G (l.map Value.string) l
  | [] => rfl
  | x :: l => ⟨[.string x], _, rfl, rfl, rowRd_strs l⟩
theorem flds_ok {c : World} (hc : Hc c) {G : Ghost} {w : World} {σ : List Ent} {s : ByteArray} (H : St c G w σ) {r : List ByteArray} (hF : flds s = some r) :
    Calls Tryd.prog 84 ([.string s] : List Value).toArray w (Ends fun v w' => ∃ (G' : Ghost) (A' : Option Addr) (c' : Nat), GLe G G' ∧ tup [(.slice A' r.length c')] = v ∧ St c G' w' σ ∧ SlR Kd.str G' A' c' r) := by
  unfold flds at hF
  split at hF
  · rename_i hb
    cases hF
    have htab : Lib.TabIs Tryd.prog w "strings.asciiSpace" .u8 Lib.asciiSpaceTab := var_same (fun k o hk => H.ag.at_ k o (H.base k o hk)) hc
    have hasc : ∀ (j : Nat) b, s.data.toList[j]? = some b → b.toNat < 128 := fun j b hj => by
      have := List.all_eq_true.1 hb.2.1 b (List.mem_of_getElem? hj)
      simpa using this
    refine (Tryd.strings_Fields s w hb.1 hasc htab).mono ?_
    rintro e w' ⟨rfl, rfl⟩
    generalize hl : Lib.fields s.data.toList = l
    have hrow := rowRd_strs (G := G) (l.map fun x => (⟨x.toArray⟩ : ByteArray))
    have hlen := rowRd.len hrow
    rw [List.map_map] at hrow hlen
    have hS : St c G (w.alloc (.cells (l.map fun x => Value.string ⟨x.toArray⟩).toArray 9)) (.row Kd.str (some w.heap.size) (some ⟨w.heap.size, 0, none⟩) l.length 9 (l.map fun x => (⟨x.toArray⟩ : ByteArray)) :: σ) := by
      refine H.add (World.grownBy_alloc w _ none) ⟨(fun k hk => by cases hk; exact H.ag.fresh (Nat.le_refl _)), .inr ⟨w.heap.size, _, rfl, rfl, by simp, ?_, heap_alloc_new w _, ?_, ?_⟩⟩ (fun k hk => by cases hk; exact Nat.le_refl _)
      · have := hb.2.2
        rw [hl] at this
        simp only [maxLen]
        omega
      · simp [Kd.str, Kd.det]
      · show rowRd Kd.str G _ _
        rw [List.take_of_length_le (by simp [Kd.str, Kd.det])]
        exact hrow
    obtain ⟨G', hg, hS', hs⟩ := hS.stay (i := 0) rfl (fun e => by cases e)
    exact ⟨G', _, _, hg, by simp [tup], hS', hs⟩
  · cases hF
end YtadlndnagfnlgaaDoor.W
end Go.Proofs
