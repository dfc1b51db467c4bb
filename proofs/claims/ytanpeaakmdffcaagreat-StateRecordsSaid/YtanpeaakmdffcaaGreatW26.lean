/- What functions of this program compute, a part: see the main text. No conditions. -/
import Derived.Test.YtanpeaakmdffcaaGreatW12
import Derived.Test.YtanpeaakmdffcaaGreatW10
import Derived.Lib.Builder
import Derived.Lib.AppendStr
import Derived.Lib.UnsafeStr
import Derived.WalkKit
import Derived.Laws.Externs
import Derived.Shelf.RegionOpenPlain
import Derived.Test.YtanpeaakmdffcaaGreatW25
set_option linter.all false
set_option maxRecDepth 100000
namespace Go.Proofs
open Go.Shelf Go.RowKit

theorem Tryz.infoB : ∃ j, Tryz.prog.info? 142 = some j ∧ j.size = 2 := by
  have h : (Tryz.prog.info? 142).map (·.size) = some 2 := by kernel_rfl
  exact Option.map_eq_some_iff.1 h

set_option maxHeartbeats 1000000 in
theorem Tryz.cc_used (b : Nat) (w : World) (h0 : w.cell? ⟨b, 0, none⟩ = some (.pointer (some ⟨b, 0, none⟩))) :
    Calls Tryz.prog 166 #[.pointer (some ⟨b, 0, none⟩)] w fun e w' => e = .returned (.tuple #[]) ∧ w' = w := by
  obtain ⟨j, hj, _⟩ := Tryz.infoB
  go_enter Tryz.func166, Tryz.ntmps166
  go_wp2
  rw [Lib.run_neq_ptr_same w _ Tryz.underlying140 hj]
  go_wp2
  go_end0
  exact ⟨rfl, rfl⟩

set_option maxHeartbeats 1000000 in
theorem Tryz.cc_fresh (b : Nat) (w : World) (h0 : w.cell? ⟨b, 0, none⟩ = some (.pointer none)) (hsh : w.shape? b = some (142, 2)) (hfz : w.frozen? ⟨b, 0, none⟩ = false) :
    Calls Tryz.prog 166 #[.pointer (some ⟨b, 0, none⟩)] w fun e w' => e = .returned (.tuple #[]) ∧ w' = w.setCell ⟨b, 0, none⟩ (.pointer (some ⟨b, 0, none⟩)) := by
  obtain ⟨j, hj, hjs⟩ := Tryz.infoB
  have hlies : liesAt Tryz.prog Tryz.prog.depth 142 (2 / Tryz.prog.cellsOf 142) 0 142 1 = true := by kernel_rfl
  go_enter Tryz.func166, Tryz.ntmps166
  go_wp2
  rw [Lib.run_to_unsafe w ⟨b, 0, none⟩ Tryz.underlying140 Tryz.underlying198 hj (by rw [hjs]; decide) hsh (Nat.zero_lt_succ 1)]
  simp only [Result.andThen]
  rw [Oper.upon_value]
  go_wp2
  rw [run_callFunc_extern Tryz.func198 (by kernel_rfl) (by kernel_rfl) (by kernel_rfl) (e := Extern.AbiNoEscape.same) (by kernel_rfl)]
  rw [Lib.run_noEscape]
  simp only [Result.andThen]
  rw [Oper.upon_value]
  go_wp2
  rw [Lib.run_from_unsafe w ⟨b, 0, none⟩ Tryz.underlying198 Tryz.underlying140 hj hsh hlies]
  simp only [Result.andThen]
  rw [Oper.upon_value]
  go_wp2
  go_end0
  exact ⟨rfl, rfl⟩

theorem wpList_app {P : Program} {w : World} {ops : Array Oper} {rest : List Oper} {o : Oper} {a : Act} {Q : Exit → Act → World → Prop} (hgd : o.guard = none) (sl x : Operand) (t u : TypeId)
    (ho : o.op = .call { callee := .builtin .append, args := #[sl, x], argTypes := #[t, u] }) (v y v' : Value) (w2 : World) (hs : a.eval sl = v) (hx : a.eval x = y)
    (hr : (Builtin.append_ #[t, u] o.type #[v, y]).run P w = .ok v' w2) (h : wpList P ops Q rest (a.put o.dst v') w2) : wpList P ops Q (o :: rest) a w := by
  refine wpList_plain hgd fun K hK => ?_
  unfold Oper.wp execOp
  simp only [ho, resolve, invoke, builtin, Sem.run_bind, Sem.run_pure, Result.andThen_ok, List.map_toArray, List.map_cons, List.map_nil, hs, hx, hr]
  exact hK _ _ h

set_option maxHeartbeats 2000000 in
theorem Tryz.ws_core (b : Nat) (s : ByteArray) (w w1 w2 : World) (v : Value) (a' : Option Addr) (n' c' : Nat) (hcc : Calls Tryz.prog 166 #[.pointer (some ⟨b, 0, none⟩)] w fun e w' => e = .returned (.tuple #[]) ∧ w' = w1)
    (c1 : w1.cell? ⟨b, 1, none⟩ = some v) (hrun : (Builtin.append_ #[83, 9] 83 #[v, .string s]).run Tryz.prog w1 = .ok (.slice a' n' c') w2) (d1 : w2.cell? ⟨b, 1, none⟩ = some v) (f1 : w2.frozen? ⟨b, 1, none⟩ = false) :
    Calls Tryz.prog 119 #[.pointer (some ⟨b, 0, none⟩), .string s] w fun e w' => e = .returned (.tuple #[.int .i64 s.size, .nilIface]) ∧ w' = w2.setCell ⟨b, 1, none⟩ (.slice a' n' c') := by
  go_enter Tryz.func119, Tryz.ntmps119
  go_wp2_with (go_at_call 166; refine hcc.mono ?_)
  rintro e w' ⟨rfl, rfl⟩
  go_wp2_with (at_builtin; refine wpList_app rfl _ _ 83 9 rfl v (.string s) (.slice a' n' c') w2 rfl rfl hrun ?_)
  go_ret2
  exact ⟨rfl, rfl⟩

set_option maxHeartbeats 2000000 in
theorem Tryz.str_core (b g cap : Nat) (l : List UInt8) (h0 : l ≠ []) (w : World) (c1 : w.drew.cell? ⟨b, 1, none⟩ = some (.slice (some ⟨g, 0, none⟩) l.length cap)) (cells : Nat) (hsh : w.drew.shape? g = some (5, cells)) (hle : l.length ≤ cells) (hlc : l.length ≤ cap)
    (h63 : l.length ≤ 9223372036854775807) (hcell : ∀ j x, l[j]? = some x → w.drew.cell? ((⟨g, 0, none⟩ : Addr).add j) = some (.int .u8 x.toNat)) :
    Calls Tryz.prog 123 #[.pointer (some ⟨b, 0, none⟩)] w fun e w' => e = .returned (.string ⟨l.toArray⟩) ∧ w' = w.drew.freeze ⟨g, 0, none⟩ l.length := by
  have hl0 : l.length ≠ 0 := by simpa using h0
  have hc0 : cap ≠ 0 := by omega
  have mixed : Tryz.prog.follows .mixedOrders = true := by kernel_rfl
  have hSD : (Builtin.unsafeSliceData_ #[83] 178 #[.slice (some ⟨g, 0, none⟩) l.length cap]).run Tryz.prog w.drew = .ok (.pointer (some ⟨g, 0, none⟩)) w.drew :=
    Lib.run_unsafeSliceData_row _ _ _ _ _ _ hc0
  have hUS : (Builtin.unsafeString_ #[178, 3] 9 #[.pointer (some ⟨g, 0, none⟩), .int .i64 l.length]).run Tryz.prog w.drew = .ok (.string ⟨l.toArray⟩) (w.drew.freeze ⟨g, 0, none⟩ l.length) :=
    Lib.run_unsafeString_row w.drew 178 3 9 5 Tryz.underlying178 (by kernel_rfl) g cells hsh l h0 hle h63 hcell
  go_enter Tryz.func123, Tryz.ntmps123
  go_wp2
  go_region_o
  all_goals (go_wp2; go_ret; exact ⟨rfl, rfl⟩)
end Go.Proofs
namespace Go.Am
open Go

def u8A (l : List UInt8) : List AV := l.map fun x => .int .u8 (x.toNat : Int)
theorem u8A_app (a b : List UInt8) : u8A (a ++ b) = u8A a ++ u8A b := by simp [u8A]
theorem u8A_len (a : List UInt8) : (u8A a).length = a.length := by simp [u8A]
theorem relBase {g : Gh} {σ : Sh} {w : World} (hs : ShRel g σ w) : Rel ⟨g, σ, w, 0⟩ g (fun _ => none) [] [] σ #[] w :=
  ⟨rfl, fun s v h => by simp [Env.get] at h, fun k cs hk => by simp [Boxes.get] at hk, fun k _ _ _ _ hk => by simp [Boxes.get] at hk, hs, Gh.le.refl g, Nums.refl _ _, FrameC.refl _ _ _, Old.refl _ _⟩
theorem postOf {g g' : Gh} {σ σ' : Sh} {w w' : World} {blk : Nat → Option Nat} {E : Env} {L : Boxes} {tmps : Array Value} (h : Rel ⟨g, σ, w, 0⟩ g' blk E L σ' tmps w') : Post g σ w g' σ' w' := ⟨h.sh, h.ext, h.nums, h.frame, h.old⟩

theorem heap_setCell_at {w : World} {b i : Nat} {vals : Array Value} {T : TypeId} {fr : Nat × Nat} (h : w.heap[b]? = some (.cells vals T fr)) (v : Value) : (w.setCell ⟨b, i, none⟩ v).heap[b]? = some (.cells (vals.setIfInBounds i v) T fr) := by
  simp [World.setCell, Array.getElem?_modify, h]
theorem heap_setCell_ne (w : World) (b i : Nat) (v : Value) (k : Nat) (h : k ≠ b) : (w.setCell ⟨b, i, none⟩ v).heap[k]? = w.heap[k]? := RowKit.Below.heap_setCell w ⟨b, i, none⟩ v k h
theorem infoU8 : ∃ i z, Go.Proofs.Tryz.prog.info? 5 = some i ∧ i.size = 1 ∧ i.bytes = 1 ∧ i.zero = some z ∧ z = .int .u8 0 := by
  have h : (Go.Proofs.Tryz.prog.info? 5).map (fun i => (i.size, i.bytes, i.zero)) = some (1, 1, some (.int .u8 0)) := by kernel_rfl
  obtain ⟨i, h1, h2⟩ := Option.map_eq_some_iff.1 h
  simp only [Prod.mk.injEq] at h2
  exact ⟨i, _, h1, h2.1, h2.2.1, h2.2.2, rfl⟩
theorem zeroCells_u8 (n : Nat) : (Builtin.zeroCells (Value.int .u8 0).cells n) = Array.replicate n (.int .u8 0) := by
  refine Array.ext (by simp [Builtin.zeroCells, Value.cells]) fun i h1 h2 => ?_
  simp [Builtin.zeroCells, Value.cells, Nat.mod_one]
def bufA (l : List UInt8) (z : Nat) : List AV := u8A l ++ List.replicate z (.int .u8 0)
def bufV (l : List UInt8) (z : Nat) : List Value := (bufA l z).map sval
theorem bufA_len (l : List UInt8) (z : Nat) : (bufA l z).length = l.length + z := by simp [bufA, u8A]
theorem bufA_kd (l : List UInt8) (z : Nat) : ∀ a ∈ bufA l z, a.kd = some (.int .u8) := by
  intro a ha
  simp only [bufA, u8A, List.mem_append, List.mem_map, List.mem_replicate] at ha
  rcases ha with ⟨x, _, rfl⟩ | ⟨_, rfl⟩ <;> rfl
theorem vr_sval {g : Gh} {a : AV} {k : Kd} (h : a.kd = some k) : VR g a (sval a) := by
  cases a <;> first | (cases h; done) | exact .int _ _ | exact .str _ | exact .bool _
theorem bufV_eq (l : List UInt8) (z : Nat) : bufV l z = Lib.strCells ⟨l.toArray⟩ ++ List.replicate z (Value.int .u8 0) := by
  simp only [bufV, bufA, List.map_append, List.map_replicate, u8A, List.map_map, Lib.strCells]
  rfl
theorem bytes_is {g : Gh} {l : List UInt8} {z : Nat} : (Ob.bld 5 (bufA l z)).is g (some (.cells (bufV l z).toArray 5)) := by
  refine ⟨_, rfl, by simp [bufV], fun i hi => ?_⟩
  have e2 : (bufV l z).toArray.getD i undef = sval ((bufA l z).getD i default) := by
    rw [Array.getD_eq_getD_getElem?]; simp [bufV, List.getD, hi]
  rw [e2]
  refine vr_sval (bufA_kd l z _ ?_)
  rw [getD_eq _ _ _ hi]
  exact List.getElem_mem hi
theorem bytes_of {g : Gh} {l : List UInt8} {z : Nat} {cur : Array Value} (h : cur.size = (bufA l z).length) (hv : ∀ i, i < (bufA l z).length → VR g ((bufA l z).getD i default) (cur.getD i undef)) : cur = (bufV l z).toArray := by
  refine Array.ext (by rw [h]; simp [bufV]) fun i h1 h2 => ?_
  have hi : i < (bufA l z).length := by rw [← h]; exact h1
  have h3 := VR_sval (hv i hi) (bufA_kd l z _ (by rw [getD_eq _ _ _ hi]; exact List.getElem_mem hi))
  rw [Array.getD_eq_getD_getElem?] at h3
  simp only [Array.getElem?_eq_getElem h1, Option.getD_some] at h3
  rw [h3]
  simp [bufV, List.getD, hi]

/-- What a builder holds that was made behind σ₀; what σ₀ has is as it was. -/
structure BldOn (σ₀ σ : Sh) (id : Nat) (l : List UInt8) : Prop where
  keep : ∀ i o, σ₀.ob i = some o → σ.ob i = some o
  live : σ.live = σ₀.live
  idn : σ₀.ob id = none
  is : (l = [] ∧ σ.ob id = some (.bld 142 [.nilp, .nils0])) ∨
    ∃ i2 cap z, i2 ≠ id ∧ l ≠ [] ∧ l.length + z ≤ maxLen ∧ cap = l.length + z ∧ σ₀.ob i2 = none ∧ σ.ob id = some (.bld 142 [.ptr id 0, .bsl i2 l.length cap]) ∧ σ.ob i2 = some (.bld 5 (bufA l z))
theorem strCells_app (a b : List UInt8) : Lib.strCells ⟨(a ++ b).toArray⟩ = Lib.strCells ⟨a.toArray⟩ ++ Lib.strCells ⟨b.toArray⟩ := by simp [Lib.strCells]
theorem strCells_len (a : List UInt8) : (Lib.strCells ⟨a.toArray⟩).length = a.length := by simp [Lib.strCells]
theorem bufV_room (l s : List UInt8) (z : Nat) (h : s.length ≤ z) : (bufV l z).toArray.toList.take l.length ++ Lib.strCells ⟨s.toArray⟩ ++ (bufV l z).toArray.toList.drop (l.length + s.length) = bufV (l ++ s) (z - s.length) := by
  rw [bufV_eq, bufV_eq, strCells_app]
  simp only
  rw [List.take_append_of_le_length (by rw [strCells_len]; exact Nat.le_refl _), List.take_of_length_le (by rw [strCells_len]; exact Nat.le_refl _), List.drop_append, strCells_len, List.drop_of_length_le (by rw [strCells_len]; omega)]
  simp
theorem two_vals {vals : Array Value} (h : vals.size = 2) : vals = #[vals.getD 0 undef, vals.getD 1 undef] := by
  refine Array.ext (by simp [h]) fun i h1 h2 => ?_
  match i, h1 with
  | 0, _ => simp [Array.getD, h]
  | 1, _ => simp [Array.getD, h]
  | i + 2, h1 => omega

theorem bld_at {g : Gh} {σ : Sh} {w : World} (hs : ShRel g σ w) {id T : Nat} {cs : List AV} (h : σ.ob id = some (.bld T cs)) : ∃ b vals, g.sh id = some b ∧ w.heap[b]? = some (.cells vals T (0, 0)) ∧ vals.size = cs.length ∧ ∀ i, i < cs.length → VR g (cs.getD i default) (vals.getD i undef) := by
  obtain ⟨b, h1, ⟨vals, h2, h3, h4⟩, _⟩ := hs.obs id _ h
  exact ⟨b, vals, h1, h2, h3, h4⟩

theorem Sh.setOb_ob (σ : Sh) (n : Nat) (o : Ob) (i : Nat) : (σ.setOb n o).ob i = if i = n then some o else σ.ob i := rfl

theorem c119 (σ₀ σ : Sh) (id : Nat) (l s : List UInt8) (hs0 : s ≠ []) (hlen : l.length + s.length ≤ 1099511627776) (hb : BldOn σ₀ σ id l) :
    ACalls Go.Proofs.Tryz.prog 119 [.ptr id 0, .str s] σ (fun r σ' => r = .tuple [.int .i64 s.length, .nili] ∧ BldOn σ₀ σ' id (l ++ s)) where
  ent := Go.Proofs.Tryz.call119
  run g w vs hsh ha := by
    obtain ⟨i5, z5, hi, hz1, hz2, hz3, rfl⟩ := infoU8
    have hpos : 0 < s.length := List.length_pos_iff.2 hs0
    have hsz : (ByteArray.mk s.toArray).size = s.length := by simp [ByteArray.size]
    have hvs : vs = #[vs.getD 0 undef, vs.getD 1 undef] := two_vals (by simpa using ha.1)
    have hv0 : VR g (.ptr id 0) (vs.getD 0 undef) := by have := ha.2 0 (by simp); simpa [List.getD, Array.getD_eq_getD_getElem?] using this
    have hv1 : VR g (.str s) (vs.getD 1 undef) := by have := ha.2 1 (by simp); simpa [List.getD, Array.getD_eq_getD_getElem?] using this
    generalize vs.getD 0 undef = x0 at hv0 hvs
    generalize vs.getD 1 undef = x1 at hv1 hvs
    cases hv1
    cases hv0 with
    | ptr _ _ b hgb =>
    subst hvs
    have h0 := relBase hsh
    rcases hb.is with ⟨rfl, hob⟩ | ⟨i2, cap, z, hne, hl0, hmax, rfl, hi20, hob, hob2⟩
    · -- fresh
      obtain ⟨b', vals, e1, e2, e3, e4⟩ := bld_at hsh hob
      obtain rfl : b' = b := by rw [e1] at hgb; exact Option.some.inj hgb
      have hv := two_vals (vals := vals) (by simpa using e3)
      have hp0 := e4 0 (by simp)
      have hp1 := e4 1 (by simp)
      simp only [List.getD, List.getElem?_cons_zero, List.getElem?_cons_succ, Option.getD_some] at hp0 hp1
      generalize vals.getD 0 undef = y0 at hp0 hv
      generalize vals.getD 1 undef = y1 at hp1 hv
      cases hp0; cases hp1; subst hv
      have a0 : w.cell? ⟨b', 0, none⟩ = some (.pointer none) := by rw [Lib.cell_of_heap e2]; rfl
      have hshape : w.shape? b' = some (142, 2) := by simp [World.shape?, e2]
      have hfz : w.frozen? ⟨b', 0, none⟩ = false := by simp [World.frozen?, e2]
      have hcc := Go.Proofs.Tryz.cc_fresh b' w a0 hshape hfz
      generalize hw1 : w.setCell ⟨b', 0, none⟩ (.pointer (some ⟨b', 0, none⟩)) = w1 at hcc
      have k1 : w1.heap[b']? = some (.cells #[.pointer (some ⟨b', 0, none⟩), .slice none 0 0] 142 (0, 0)) := by rw [← hw1, heap_setCell_at e2]; rfl
      have r1 := h0.setSh (w' := w1) (o := .bld 142 [.ptr id 0, .nils0]) hob e1 (by rw [← hw1]; simp [World.setCell]) (by rw [← hw1]; rfl) (by rw [← hw1]; rfl) (by rw [← hw1]; rfl) (fun k hk => by rw [← hw1]; exact heap_setCell_ne w b' 0 _ k hk)
        ⟨_, k1, rfl, fun i hi => by
          match i, hi with
          | 0, _ => exact .ptr id 0 b' e1
          | 1, _ => exact .nils0
          | i + 2, hi => exact absurd hi (by simp)⟩
      have hrun := run_append_nil_string (P := Go.Proofs.Tryz.prog) (w := w1) 83 9 83 5 i5 (.int .u8 0) Go.Proofs.Tryz.underlying83 Go.Proofs.Tryz.underlying9 hi hz3 ⟨s.toArray⟩ (by rw [hsz]; exact hpos) (by rw [hsz]; simp at hlen; omega) (by rw [hsz, hz2]; simp at hlen; omega)
      rw [hsz] at hrun
      have hge := grownCap_ge w1 s.length 0 5
      have hcm := grownCap_le_maxLen w1 s.length 0 5 (by unfold maxLen; simp at hlen; omega)
      generalize grownCap w1 s.length 0 5 = cap at hrun hge hcm
      have ecells : ((ByteArray.mk s.toArray).data.map (fun b => Value.int .u8 b.toNat) ++ Builtin.zeroCells (Value.int .u8 0).cells (cap - s.length)) = (bufV s (cap - s.length)).toArray := by
        rw [zeroCells_u8, bufV_eq]; simp [Lib.strCells]
      rw [ecells] at hrun
      generalize hcells : (bufV s (cap - s.length)).toArray = cells at hrun
      obtain ⟨r2, f2⟩ := r1.drew.reserve 1 r1.sh.dom
      have hfree := f2 0 (by omega)
      have r3 := r2.newSh hfree (.cells cells 5) (.bld 5 (bufA s (cap - s.length))) (by rw [← hcells]; exact bytes_is)
      have hblt : b' < w1.heap.size := lt_of_some k1
      have k2 : (w1.drew.alloc (.cells cells 5)).heap[b']? = some (.cells #[.pointer (some ⟨b', 0, none⟩), .slice none 0 0] 142 (0, 0)) := by rw [heap_alloc_old w1.drew _ hblt]; exact k1
      have hnum : g.nt + 0 ≠ id := fun e => by have := hfree.ob; rw [e, setOb_same] at this; cases this
      have hid3 : ((σ.setOb id (.bld 142 [.ptr id 0, .nils0])).setOb (g.nt + 0) (.bld 5 (bufA s (cap - s.length)))).ob id = some (.bld 142 [.ptr id 0, .nils0]) := by
        rw [Sh.setOb_ob, if_neg (fun e => hnum e.symm), setOb_same]
      have hg3 : ({ g with nt := g.nt + 1 }.setSh (g.nt + 0) w1.drew.heap.size).sh id = some b' := by
        simp only [Gh.setSh]; rw [if_neg (fun e => hnum e.symm)]; exact e1
      have k3 := heap_setCell_at (i := 1) k2 (.slice (some ⟨w1.heap.size, 0, none⟩) s.length cap)
      have r4 := r3.setSh (w' := (w1.drew.alloc (.cells cells 5)).setCell ⟨b', 1, none⟩ (.slice (some ⟨w1.heap.size, 0, none⟩) s.length cap)) (o := .bld 142 [.ptr id 0, .bsl (g.nt + 0) s.length cap]) hid3 hg3 (by simp [World.setCell]) rfl rfl rfl (fun k hk => heap_setCell_ne _ b' 1 _ k hk)
        ⟨_, k3, rfl, fun i hi => by
          match i, hi with
          | 0, _ => exact .ptr id 0 b' hg3
          | 1, _ => exact .bsl _ _ _ _ (by simp [Gh.setSh])
          | i + 2, hi => exact absurd hi (by simp)⟩
      have hcore := Go.Proofs.Tryz.ws_core b' ⟨s.toArray⟩ w w1 _ (.slice none 0 0) _ _ _ hcc (by rw [Lib.cell_of_heap k1]; rfl) hrun (by rw [Lib.cell_of_heap k2]; rfl) (by simp [World.frozen?, k2])
      refine hcore.mono ?_
      rintro e w' ⟨rfl, rfl⟩
      have hn0 : σ₀.ob (g.nt + 0) = none := by
        cases hh : σ₀.ob (g.nt + 0) with
        | none => rfl
        | some o =>
          have h1 := hb.keep _ _ hh
          have h2 := hfree.ob
          rw [Sh.setOb_ob, if_neg hnum, h1] at h2
          cases h2
      refine ⟨.tuple [.int .i64 s.length, .nili], _, _, _, rfl, ?_, postOf r4, rfl, ⟨?_, hb.live, hb.idn, .inr ⟨g.nt + 0, cap, cap - s.length, hnum, ?_, ?_, ?_, hn0, ?_, ?_⟩⟩⟩
      · rw [hsz]
        exact .tuple _ _ rfl fun i hi => by
          match i, hi with
          | 0, _ => exact .int _ _
          | 1, _ => exact .nili
          | i + 2, hi => exact absurd hi (by simp)
      · intro i o ho
        have hi1 : i ≠ id := fun e => by rw [e, hb.idn] at ho; cases ho
        have hi2 : i ≠ g.nt + 0 := fun e => by rw [e, hn0] at ho; cases ho
        rw [Sh.setOb_ob, if_neg hi1, Sh.setOb_ob, if_neg hi2, Sh.setOb_ob, if_neg hi1]
        exact hb.keep i o ho
      · simpa using hs0
      · simp; omega
      · simp; omega
      · rw [setOb_same]; simp
      · rw [Sh.setOb_ob, if_neg hnum, setOb_same]; simp
    · -- used
      obtain ⟨b', vals, e1, e2, e3, e4⟩ := bld_at hsh hob
      obtain rfl : b' = b := by rw [e1] at hgb; exact Option.some.inj hgb
      have hv := two_vals (vals := vals) (by simpa using e3)
      have hp0 := e4 0 (by simp)
      have hp1 := e4 1 (by simp)
      simp only [List.getD, List.getElem?_cons_zero, List.getElem?_cons_succ, Option.getD_some] at hp0 hp1
      generalize vals.getD 0 undef = y0 at hp0 hv
      generalize vals.getD 1 undef = y1 at hp1 hv
      cases hp0 with
      | ptr _ _ b0 hb0 =>
      obtain rfl : b0 = b' := by rw [e1] at hb0; exact (Option.some.inj hb0).symm
      cases hp1 with
      | bsl _ _ _ b2 hb2 =>
      subst hv
      obtain ⟨b2', cur, g1, g2, g3, g4⟩ := bld_at hsh hob2
      obtain rfl : b2' = b2 := by rw [g1] at hb2; exact Option.some.inj hb2
      have hbne : b2' ≠ b0 := fun e => hne (hsh.inj _ _ _ _ _ hob2 hob (e ▸ g1) e1)
      have a0 : w.cell? ⟨b0, 0, none⟩ = some (.pointer (some ⟨b0, 0, none⟩)) := by rw [Lib.cell_of_heap e2]; rfl
      have hcc := Go.Proofs.Tryz.cc_used b0 w a0
      have hcur := bytes_of g3 g4
      by_cases hroom : s.length ≤ z
      · have hrun := Lib.run_append_room_string (P := Go.Proofs.Tryz.prog) (w := w) 83 9 83 5 i5 Go.Proofs.Tryz.underlying83 Go.Proofs.Tryz.underlying9 hi hz1 b2' l.length (l.length + z) cur g2 ⟨s.toArray⟩ (by rw [hsz]; omega) (by rw [hsz, g3, bufA_len]; omega)
        rw [hsz, hcur, bufV_room l s z hroom] at hrun
        generalize hw2 : w.setRow b2' (bufV (l ++ s) (z - s.length)).toArray = w2 at hrun
        have k2 : w2.heap[b2']? = some (.cells (bufV (l ++ s) (z - s.length)).toArray 5 (0, 0)) := by rw [← hw2]; exact setRow_at g2 _
        have r2 := h0.setSh (w' := w2) (o := .bld 5 (bufA (l ++ s) (z - s.length))) hob2 g1 (by rw [← hw2]; simp) (by rw [← hw2]; rfl) (by rw [← hw2]; rfl) (by rw [← hw2]; rfl) (fun k hk => by rw [← hw2]; exact setRow_ne _ _ _ _ hk) (by rw [k2]; exact bytes_is)
        have k1 : w2.heap[b0]? = some (.cells #[.pointer (some ⟨b0, 0, none⟩), .slice (some ⟨b2', 0, none⟩) l.length (l.length + z)] 142 (0, 0)) := by rw [← hw2, setRow_ne _ _ _ _ (fun e => hbne e.symm)]; exact e2
        have hid2 : (σ.setOb i2 (.bld 5 (bufA (l ++ s) (z - s.length)))).ob id = some (.bld 142 [.ptr id 0, .bsl i2 l.length (l.length + z)]) := by rw [Sh.setOb_ob, if_neg (fun e => hne e.symm)]; exact hob
        have k3 := heap_setCell_at (i := 1) k1 (.slice (some ⟨b2', 0, none⟩) (l.length + s.length) (l.length + z))
        have r3 := r2.setSh (w' := w2.setCell ⟨b0, 1, none⟩ (.slice (some ⟨b2', 0, none⟩) (l.length + s.length) (l.length + z))) (o := .bld 142 [.ptr id 0, .bsl i2 (l.length + s.length) (l.length + z)]) hid2 e1 (by simp [World.setCell]) rfl rfl rfl (fun k hk => heap_setCell_ne _ b0 1 _ k hk)
          ⟨_, k3, rfl, fun i hi => by
            match i, hi with
            | 0, _ => exact .ptr id 0 b0 e1
            | 1, _ => exact .bsl _ _ _ _ g1
            | i + 2, hi => exact absurd hi (by simp)⟩
        have hcore := Go.Proofs.Tryz.ws_core b0 ⟨s.toArray⟩ w w _ (.slice (some ⟨b2', 0, none⟩) l.length (l.length + z)) _ _ _ hcc (by rw [Lib.cell_of_heap e2]; rfl) hrun (by rw [Lib.cell_of_heap k1]; rfl) (by simp [World.frozen?, k1])
        refine hcore.mono ?_
        rintro e w' ⟨rfl, rfl⟩
        refine ⟨.tuple [.int .i64 s.length, .nili], _, _, _, rfl, ?_, postOf r3, rfl, ⟨?_, hb.live, hb.idn, .inr ⟨i2, l.length + z, z - s.length, hne, by simp [hl0], ?_, ?_, hi20, ?_, ?_⟩⟩⟩
        · rw [hsz]
          exact .tuple _ _ rfl fun i hi => by
            match i, hi with
            | 0, _ => exact .int _ _
            | 1, _ => exact .nili
            | i + 2, hi => exact absurd hi (by simp)
        · intro i o ho
          have hi1 : i ≠ id := fun e => by rw [e, hb.idn] at ho; cases ho
          have hi2 : i ≠ i2 := fun e => by rw [e, hi20] at ho; cases ho
          rw [Sh.setOb_ob, if_neg hi1, Sh.setOb_ob, if_neg hi2]
          exact hb.keep i o ho
        · simp; omega
        · simp; omega
        · rw [setOb_same]; simp
        · rw [Sh.setOb_ob, if_neg hne, setOb_same]
      · have hl1 : (Lib.strCells ⟨l.toArray⟩).length = l.length * i5.size := by rw [strCells_len, hz1, Nat.mul_one]
        have holds : ∀ j v, (Lib.strCells ⟨l.toArray⟩)[j]? = some v → w.cell? ((⟨b2', 0, none⟩ : Addr).add j) = some v := fun j v hj => by
          rw [Addr.add_lit, cell_of_row w b2' _ cur 5 (0, 0) g2, hcur, bufV_eq]
          simp only [Nat.zero_add, List.getElem?_toArray]
          rw [List.getElem?_append_left (List.getElem?_eq_some_iff.1 hj).1]
          exact hj
        have hrun := Lib.run_append_grow_string (P := Go.Proofs.Tryz.prog) (w := w) 83 9 83 5 i5 (.int .u8 0) Go.Proofs.Tryz.underlying83 Go.Proofs.Tryz.underlying9 hi hz3 ⟨b2', 0, none⟩ l.length (l.length + z) _ hl1 holds ⟨s.toArray⟩ (by rw [hsz]; omega) (by rw [hsz]; omega) (by rw [hsz]; exact growslice_fits (by omega) (by rw [hz2]; omega))
        rw [hsz] at hrun
        have hge := grownCap_ge w (l.length + s.length) (l.length + z) 5
        have hcm := grownCap_le_maxLen w (l.length + s.length) (l.length + z) 5 (by unfold maxLen; omega)
        generalize grownCap w (l.length + s.length) (l.length + z) 5 = cap at hrun hge hcm
        have ecells : ((Lib.strCells ⟨l.toArray⟩).toArray ++ (Lib.strCells ⟨s.toArray⟩).toArray ++ Builtin.zeroCells (Value.int .u8 0).cells (cap - (l.length + s.length))) = (bufV (l ++ s) (cap - (l.length + s.length))).toArray := by
          rw [zeroCells_u8, bufV_eq, strCells_app]; simp
        rw [ecells] at hrun
        generalize hcells : (bufV (l ++ s) (cap - (l.length + s.length))).toArray = cells at hrun
        obtain ⟨r2, f2⟩ := h0.drew.reserve 1 h0.sh.dom
        have hfree := f2 0 (by omega)
        have r3 := r2.newSh hfree (.cells cells 5) (.bld 5 (bufA (l ++ s) (cap - (l.length + s.length)))) (by rw [← hcells]; exact bytes_is)
        have hblt : b0 < w.heap.size := lt_of_some e2
        have k2 : (w.drew.alloc (.cells cells 5)).heap[b0]? = some (.cells #[.pointer (some ⟨b0, 0, none⟩), .slice (some ⟨b2', 0, none⟩) l.length (l.length + z)] 142 (0, 0)) := by rw [heap_alloc_old w.drew _ hblt]; exact e2
        have hnum : g.nt + 0 ≠ id := fun e => by have := hfree.ob; rw [e, hob] at this; cases this
        have hid3 : (σ.setOb (g.nt + 0) (.bld 5 (bufA (l ++ s) (cap - (l.length + s.length))))).ob id = some (.bld 142 [.ptr id 0, .bsl i2 l.length (l.length + z)]) := by
          rw [Sh.setOb_ob, if_neg (fun e => hnum e.symm)]; exact hob
        have hg3 : ({ g with nt := g.nt + 1 }.setSh (g.nt + 0) w.drew.heap.size).sh id = some b0 := by
          simp only [Gh.setSh]; rw [if_neg (fun e => hnum e.symm)]; exact e1
        have k3 := heap_setCell_at (i := 1) k2 (.slice (some ⟨w.heap.size, 0, none⟩) (l.length + s.length) cap)
        have r4 := r3.setSh (w' := (w.drew.alloc (.cells cells 5)).setCell ⟨b0, 1, none⟩ (.slice (some ⟨w.heap.size, 0, none⟩) (l.length + s.length) cap)) (o := .bld 142 [.ptr id 0, .bsl (g.nt + 0) (l.length + s.length) cap]) hid3 hg3 (by simp [World.setCell]) rfl rfl rfl (fun k hk => heap_setCell_ne _ b0 1 _ k hk)
          ⟨_, k3, rfl, fun i hi => by
            match i, hi with
            | 0, _ => exact .ptr id 0 b0 hg3
            | 1, _ => exact .bsl _ _ _ _ (by simp [Gh.setSh])
            | i + 2, hi => exact absurd hi (by simp)⟩
        have hcore := Go.Proofs.Tryz.ws_core b0 ⟨s.toArray⟩ w w _ (.slice (some ⟨b2', 0, none⟩) l.length (l.length + z)) _ _ _ hcc (by rw [Lib.cell_of_heap e2]; rfl) hrun (by rw [Lib.cell_of_heap k2]; rfl) (by simp [World.frozen?, k2])
        refine hcore.mono ?_
        rintro e w' ⟨rfl, rfl⟩
        have hn0 : σ₀.ob (g.nt + 0) = none := by
          cases hh : σ₀.ob (g.nt + 0) with
          | none => rfl
          | some o =>
            have h1 := hb.keep _ _ hh
            have h2 := hfree.ob
            rw [h1] at h2
            cases h2
        refine ⟨.tuple [.int .i64 s.length, .nili], _, _, _, rfl, ?_, postOf r4, rfl, ⟨?_, hb.live, hb.idn, .inr ⟨g.nt + 0, cap, cap - (l.length + s.length), hnum, by simp [hl0], ?_, ?_, hn0, ?_, ?_⟩⟩⟩
        · rw [hsz]
          exact .tuple _ _ rfl fun i hi => by
            match i, hi with
            | 0, _ => exact .int _ _
            | 1, _ => exact .nili
            | i + 2, hi => exact absurd hi (by simp)
        · intro i o ho
          have hi1 : i ≠ id := fun e => by rw [e, hb.idn] at ho; cases ho
          have hi2 : i ≠ g.nt + 0 := fun e => by rw [e, hn0] at ho; cases ho
          rw [Sh.setOb_ob, if_neg hi1, Sh.setOb_ob, if_neg hi2]
          exact hb.keep i o ho
        · simp; omega
        · simp; omega
        · rw [setOb_same]; simp
        · rw [Sh.setOb_ob, if_neg hnum, setOb_same]

theorem heap_freeze_at {w : World} {b n : Nat} {vals : Array Value} {T : TypeId} {fr : Nat × Nat} (h : w.heap[b]? = some (.cells vals T fr)) : ∃ fr', (w.freeze ⟨b, 0, none⟩ n).heap[b]? = some (.cells vals T fr') := by
  unfold World.freeze
  split
  · exact ⟨_, h⟩
  · simp [Array.getElem?_modify, h]
theorem heap_freeze_ne (w : World) (b n k : Nat) (h : k ≠ b) : (w.freeze ⟨b, 0, none⟩ n).heap[k]? = w.heap[k]? := by
  unfold World.freeze
  split
  · rfl
  · simp only [Array.getElem?_modify]
    rw [if_neg (fun e => h e.symm)]
theorem freeze_size (w : World) (b n : Nat) : (w.freeze ⟨b, 0, none⟩ n).heap.size = w.heap.size := by
  unfold World.freeze
  split <;> simp
theorem freeze_os (w : World) (b n : Nat) : (w.freeze ⟨b, 0, none⟩ n).os = w.os ∧ (w.freeze ⟨b, 0, none⟩ n).tape = w.tape ∧ (w.freeze ⟨b, 0, none⟩ n).output = w.output := by
  unfold World.freeze
  split <;> exact ⟨rfl, rfl, rfl⟩

theorem c123 (σ₀ σ : Sh) (id : Nat) (l : List UInt8) (hl0 : l ≠ []) (hb : BldOn σ₀ σ id l) :
    ACalls Go.Proofs.Tryz.prog 123 [.ptr id 0] σ (fun r σ' => r = .str l ∧ (∀ i o, σ₀.ob i = some o → σ'.ob i = some o) ∧ σ'.live = σ₀.live) where
  ent := Go.Proofs.Tryz.call123
  run g w vs hsh ha := by
    rcases hb.is with ⟨h1, _⟩ | ⟨i2, cap, z, hne, _, hmax, rfl, hi20, hob, hob2⟩
    · exact absurd h1 hl0
    have hvs : vs = #[vs.getD 0 undef] := by
      refine Array.ext (by simpa using ha.1) fun i h1 h2 => ?_
      match i, h1 with
      | 0, h1 => simp [Array.getD, h1]
      | i + 1, h1 => have := ha.1; simp at this; omega
    have hv0 : VR g (.ptr id 0) (vs.getD 0 undef) := by have := ha.2 0 (by simp); simpa [List.getD, Array.getD_eq_getD_getElem?] using this
    generalize vs.getD 0 undef = x0 at hv0 hvs
    cases hv0 with
    | ptr _ _ b hgb =>
    subst hvs
    have h0 := relBase hsh
    obtain ⟨b', vals, e1, e2, e3, e4⟩ := bld_at hsh hob
    obtain rfl : b' = b := by rw [e1] at hgb; exact Option.some.inj hgb
    have hv := two_vals (vals := vals) (by simpa using e3)
    have hp0 := e4 0 (by simp)
    have hp1 := e4 1 (by simp)
    simp only [List.getD, List.getElem?_cons_zero, List.getElem?_cons_succ, Option.getD_some] at hp0 hp1
    generalize vals.getD 0 undef = y0 at hp0 hv
    generalize vals.getD 1 undef = y1 at hp1 hv
    cases hp1 with
    | bsl _ _ _ b2 hb2 =>
    subst hv
    obtain ⟨b2', cur, g1, g2, g3, g4⟩ := bld_at hsh hob2
    obtain rfl : b2' = b2 := by rw [g1] at hb2; exact Option.some.inj hb2
    have hcur := bytes_of g3 g4
    rw [bufA_len] at g3
    have hcore := Go.Proofs.Tryz.str_core b' b2' (l.length + z) l hl0 w (by show w.cell? _ = _; rw [Lib.cell_of_heap e2]; rfl) (l.length + z) (by show w.shape? b2' = _; simp [World.shape?, g2, g3]) (by omega) (by omega) (by unfold maxLen at hmax; omega) (fun j x hj => by
      show w.cell? _ = _
      rw [Addr.add_lit, cell_of_row w b2' _ cur 5 (0, 0) g2, hcur, bufV_eq]
      simp only [Nat.zero_add, List.getElem?_toArray]
      rw [List.getElem?_append_left (by rw [strCells_len]; exact (List.getElem?_eq_some_iff.1 hj).1)]
      simp [Lib.strCells, hj])
    refine hcore.mono ?_
    rintro e w' ⟨rfl, rfl⟩
    have h1 := h0.drew.forget (σ' := σ.delOb i2) (fun i o hi => by
      simp only [Sh.delOb] at hi
      split at hi
      · cases hi
      · exact hi) (fun _ ht => ht)
    have hwr : Wr g σ b2' := .inl ⟨i2, _, hob2, g1⟩
    have hin : ∀ i o, (σ.delOb i2).ob i = some o → σ.ob i = some o ∧ i ≠ i2 := fun i o hi => by
      simp only [Sh.delOb] at hi
      split at hi
      · cases hi
      · rename_i hne; exact ⟨hi, hne⟩
    obtain ⟨_, q1, _, hnv⟩ := hsh.obs i2 _ hob2
    have hnv' : g.vec b2' = none := by
      obtain ⟨b3, q1, _, q3⟩ := hsh.obs i2 _ hob2
      obtain rfl : b3 = b2' := by rw [g1] at q1; exact (Option.some.inj q1).symm
      exact q3
    have h2 : Rel ⟨g, σ, w, 0⟩ g (fun _ => none) [] [] (σ.delOb i2) #[] (w.drew.freeze ⟨b2', 0, none⟩ l.length) := by
      refine h0.drew.step (Gh.le.refl g) (h1.sh.heap fun k hk => heap_freeze_ne _ _ _ _ fun e => ?_) ⟨(freeze_os _ _ _).1, (freeze_os _ _ _).2.1, (freeze_os _ _ _).2.2, by rw [freeze_size]; exact Nat.le_refl _, fun k hk hn => ⟨heap_freeze_ne _ _ _ _ fun e => hn (e ▸ hwr), rfl⟩, fun k _ hw => ?_⟩ (Nums.refl _ _) ⟨fun t ht => .inl ht, fun i hi _ => ?_⟩
      · subst e
        rcases hk with hk | ⟨i, o, hi, hs⟩
        · exact hk hnv'
        · obtain ⟨p1, p2⟩ := hin i o hi
          exact p2 (hsh.inj _ _ _ _ _ p1 hob2 hs g1)
      · rcases hw with ⟨i, o, hi, hs⟩ | ht
        · exact .inl ⟨i, o, (hin i o hi).1, hs⟩
        · exact .inr ht
      · simp only [Sh.delOb]
        split
        · rfl
        · exact hi
    refine ⟨.str l, σ.delOb i2, g, _, rfl, .str l, postOf h2, rfl, fun i o ho => ?_, hb.live⟩
    have hi2 : i ≠ i2 := fun e => by rw [e, hi20] at ho; cases ho
    simp only [Sh.delOb]
    rw [if_neg hi2]
    exact hb.keep i o ho

/-- A new builder. -/
theorem awp_newbld {B : Base} {Q : Exit → Env → Boxes → Sh → Prop} {E : Env} {L : Boxes} {σ : Sh} {rid k : Nat} {ty : TypeId} {pos : String} {aft : Array Edge} {y : Code} (hk : k < B.n)
    (h : ∀ num, B.g.nt ≤ num → σ.ob num = none → awp Go.Proofs.Tryz.prog B y Q ((k, .ptr num 0) :: E) L (σ.setOb num (.bld 142 [.nilp, .nils0]))) :
    awp Go.Proofs.Tryz.prog B (.seq (.region rid [(⟨some k, .alloc 142, ty, pos, aft, none⟩ : Oper)].toArray false) y) Q E L σ := by
  refine awp_seq ?_
  intro g blk tmps w hr
  refine wp_region_lit ?_
  obtain ⟨h1, h2⟩ := hr.reserve 1 hr.sh.dom
  have hf := h2 0 (by omega)
  have hinfo : (Go.Proofs.Tryz.prog.info? 142).map (·.zero) = some (some (.agg #[.pointer none, .slice none 0 0])) := by kernel_rfl
  obtain ⟨i, hi, hz⟩ := Option.map_eq_some_iff.1 hinfo
  have hex : (execOp (Act.eval ⟨tmps, []⟩) ⟨some k, .alloc 142, ty, pos, aft, none⟩).run Go.Proofs.Tryz.prog w = .ok (.value (.pointer (some ⟨w.heap.size, 0, none⟩))) (w.alloc (.cells #[.pointer none, .slice none 0 0] 142)) := by
    unfold execOp
    simp [Instr.alloc, zeroValue, typeInfo, hi, hz, newVar, newRow, Value.cells]
  unfold wpList
  rw [if_pos (by simp [Region.wanted])]
  left
  unfold Oper.wp
  rw [hex]
  simp only [Oper.upon]
  rw [put_defers]
  have r1 := h1.newSh hf (.cells #[.pointer none, .slice none 0 0] 142) (.bld 142 [.nilp, .nils0]) ⟨_, rfl, rfl, fun i hi => by
    match i, hi with
    | 0, _ => exact .nilp
    | 1, _ => exact .nils0
    | i + 2, hi => exact absurd hi (by simp)⟩
  have r2 := r1.putE_some (d := some k) (v := .ptr (g.nt + 0) 0) (fun k' hk' => by cases hk'; exact hk) (VR.ptr (g.nt + 0) 0 w.heap.size (by simp [Gh.setSh]))
  exact ⟨rfl, _, blk, _, _, _, r2, h (g.nt + 0) hr.ext.nt hf.ob⟩
end Go.Am
namespace Go.Am
open Go
open Nat renaming reduceEqDiff → za, reduceAdd → zb, reduceMul → zc, reducePow → zd, reduceLeDiff → ze, reduceSub → zf, reduceBEq → zg, reduceBNe → zh, reduceDiv → zi, reduceMod → zj
open Int renaming reduceLT → zk, reduceLE → zl, reduceEq → zm, reduceNe → zn, reduceToNat → zo

theorem numI_ne (n : Int) : numI n ≠ [] := by
  intro h
  have := numTail_ge n.toNat [UInt8.ofNat (n.toNat % 128)]
  unfold numI num at h
  rw [h] at this
  simp at this
set_option maxHeartbeats 4000000 in
theorem c56 (b : Bag) (t0 t1 t2 : Tag) (hb : Bag63 b) (hT : (bagB b).length ≤ 1099511627776) : PCalls Go.Proofs.Tryz.prog 56 [bagV b t0 t1 t2] (.str (bagB b)) := by
  have hT2 : (ctxB b.ctx).length + (numI b.live.length).length + (b.live.flatMap mBytes).length ≤ 1099511627776 := by simpa only [bagB, List.length_append] using hT
  have hl0 := hb.l0
  refine pcalls_of_awp Go.Proofs.Tryz.func56 rfl (by decide) (Nat.le_of_ble_eq_true rfl) ?_
  intro B σ hB ho hob
  refine awp_region_k (fun _ => false) (by rw [hB]; rfl) fun K hK base hbase hfr => ?_
  refine tr_run ?_
  simp (disch := omega) only [go_sem, ↓reduceIte, za, zb, zc, zd, ze, zf, zg, zh, zi, zj, zk, zl, zm, zn, zo, dec_t, dec_f, ltI, leI, leN, le63, le40, le0, wrap64_id, wrapu64_id, wrap8_id]
  refine tr_nil (hK _ _ _ ?_)
  clear hK K hbase hfr base
  refine awp_newbld (by rw [hB]; decide) fun id hid hidn => ?_
  have hbo : BldOn σ (σ.setOb id (.bld 142 [.nilp, .nils0])) id [] := ⟨fun i o ho => by rw [Sh.setOb_ob, if_neg (fun e => by rw [e, hidn] at ho; cases ho)]; exact ho, rfl, hidn, .inl ⟨rfl, setOb_same _ _ _⟩⟩
  refine awp_drawn_n 8 (fun f => f == 54 || f == 119 || f == 120) (fun _ => false) (by rfl) (by rfl) (by kernel_rfl) (by kernel_rfl) (by kernel_rfl) (by rw [hB]; rfl) fun K hK base hbase hfr => ?_
  refine trd_run ?_
  simp (disch := omega) only [go_sem, ↓reduceIte, za, zb, zc, zd, ze, zf, zg, zh, zi, zj, zk, zl, zm, zn, zo, dec_t, dec_f, ltI, leI, leN, le63, le40, le0, wrap64_id, wrapu64_id, wrap8_id]
  refine trd_pc (by kernel_rfl) (by rfl) (by simp only [go_sem, ↓reduceIte, za, zb, zc, zd, ze, zf, zg, zh, zi, zj, zk, zl, zm, zn, zo] <;> rfl) (c120 b.ctx t1 t2 hb.base hb.cloud hb.l1 hb.l2 (by omega)) ?_
  simp (disch := omega) only [go_sem, ↓reduceIte, za, zb, zc, zd, ze, zf, zg, zh, zi, zj, zk, zl, zm, zn, zo, dec_t, dec_f, ltI, leI, leN, le63, le40, le0, wrap64_id, wrapu64_id, wrap8_id]
  refine trd_pc (by kernel_rfl) (by rfl) (by simp only [go_sem, ↓reduceIte, za, zb, zc, zd, ze, zf, zg, zh, zi, zj, zk, zl, zm, zn, zo] <;> rfl) (c54 _ (by unfold I63; omega)) ?_
  simp (disch := omega) only [go_sem, ↓reduceIte, za, zb, zc, zd, ze, zf, zg, zh, zi, zj, zk, zl, zm, zn, zo, dec_t, dec_f, ltI, leI, leN, le63, le40, le0, wrap64_id, wrapu64_id, wrap8_id]
  refine trd_nil (tr_run ?_)
  simp (disch := omega) only [go_sem, ↓reduceIte, za, zb, zc, zd, ze, zf, zg, zh, zi, zj, zk, zl, zm, zn, zo, dec_t, dec_f, ltI, leI, leN, le63, le40, le0, wrap64_id, wrapu64_id, wrap8_id]
  refine tr_acall (c119 σ _ id [] (ctxB b.ctx ++ numI b.live.length) (by simp [numI_ne]) (by simp only [List.length_nil, List.length_append]; omega) hbo) (by rfl) (by simp only [go_sem, ↓reduceIte, za, zb, zc, zd, ze, zf, zg, zh, zi, zj, zk, zl, zm, zn, zo] <;> rfl) ?_
  rintro _ σ' ⟨rfl, hbo⟩
  simp (disch := omega) only [go_sem, ↓reduceIte, za, zb, zc, zd, ze, zf, zg, zh, zi, zj, zk, zl, zm, zn, zo, dec_t, dec_f, ltI, leI, leN, le63, le40, le0, wrap64_id, wrapu64_id, wrap8_id]
  refine tr_nil (hK _ _ _ ?_)
  clear hK K hbase hfr base
  refine awp_seq ?_
  refine awp_region_k (fun _ => false) (by rw [hB]; rfl) fun K hK base hbase hfr => ?_
  refine tr_run ?_
  simp (disch := omega) only [go_sem, ↓reduceIte, za, zb, zc, zd, ze, zf, zg, zh, zi, zj, zk, zl, zm, zn, zo, dec_t, dec_f, ltI, leI, leN, le63, le40, le0, wrap64_id, wrapu64_id, wrap8_id]
  refine tr_nil (hK _ _ _ ?_)
  clear hK K hbase hfr base
  refine awp_block ?_
  refine awp_loop_w (α := Nat × List UInt8 × Sh) (fun x => x.2.1 ++ (b.live.drop x.1).flatMap mBytes = bagB b ∧ BldOn σ x.2.2 id x.2.1) (fun x => [(3, .ptr id 0), (16, .list (b.live.map msgV) t0), (17, .int .i64 b.live.length), (18, .int .i64 x.1)]) (fun x => []) (fun x => x.2.2) (fun x => b.live.length - x.1) (0, ctxB b.ctx ++ numI b.live.length, σ') ?_ ?_ (Boxes.subW_nil _) (Sh.sub_refl _) ?_
  · exact ⟨rfl, by simpa using hbo⟩
  · exact Env.subW_one rfl <| Env.subW_one rfl <| Env.subW_one rfl <| Env.subW_one rfl <| Env.subW_nil _
  clear hbo hidn hid
  rintro ⟨i, s, σs⟩ ⟨h0, hbo⟩
  try dsimp only at h0 hbo
  refine awp_region_k (fun _ => false) (by rw [hB]; rfl) fun K hK base hbase hfr => ?_
  refine tr_run ?_
  simp (disch := omega) only [go_sem, ↓reduceIte, za, zb, zc, zd, ze, zf, zg, zh, zi, zj, zk, zl, zm, zn, zo, dec_t, dec_f, ltI, leI, leN, le63, le40, le0, wrap64_id, wrapu64_id, wrap8_id]
  refine tr_nil (hK _ _ _ ?_)
  clear hK K hbase hfr base
  refine awp_seq ?_
  refine awp_cond (rfl) (fun h1 => ?_) (fun h1 => ?_)
  · try simp only [yb, yc, yd, ye, yf, yg, yh, yi, yj, yk, yl, ym, yn, yo] at h1
    obtain ⟨x, hx, hm, hi⟩ := get_of_lt h1
    have hs := acc_step hx h0
    have hs2 := hs.2
    simp only [mBytes, List.length_append] at hs2
    refine awp_skip ?_
    refine then_n ?_
    refine awp_seq ?_
    refine awp_block ?_
    refine awp_region_k (fun _ => false) (by rw [hB]; rfl) fun K hK base hbase hfr => ?_
    refine tr_run ?_
    simp (disch := omega) only [go_sem, ↓reduceIte, za, zb, zc, zd, ze, zf, zg, zh, zi, zj, zk, zl, zm, zn, zo, hx, dec_t, dec_f, ltI, leI, leN, le63, le40, le0, wrap64_id, wrapu64_id, wrap8_id]
    refine tr_nil (hK _ _ _ ?_)
    clear hK K hbase hfr base
    refine awp_drawn_ne 15 (fun f => f == 54 || f == 119 || f == 121 || f == 122) (fun _ => false) (by rfl) (by rfl) (by kernel_rfl) (by kernel_rfl) (by kernel_rfl) (by rw [hB]; rfl) fun K hK base hbase hfr => ?_
    refine trd_run ?_
    simp (disch := omega) only [go_sem, ↓reduceIte, za, zb, zc, zd, ze, zf, zg, zh, zi, zj, zk, zl, zm, zn, zo, dec_t, dec_f, ltI, leI, leN, le63, le40, le0, wrap64_id, wrapu64_id, wrap8_id]
    refine trd_pc (by kernel_rfl) (by rfl) (by simp only [go_sem, ↓reduceIte, za, zb, zc, zd, ze, zf, zg, zh, zi, zj, zk, zl, zm, zn, zo] <;> rfl) (c121 _ (hb.live _ hm).d) ?_
    simp (disch := omega) only [go_sem, ↓reduceIte, za, zb, zc, zd, ze, zf, zg, zh, zi, zj, zk, zl, zm, zn, zo, dec_t, dec_f, ltI, leI, leN, le63, le40, le0, wrap64_id, wrapu64_id, wrap8_id]
    refine trd_pc (by kernel_rfl) (by rfl) (by simp only [go_sem, ↓reduceIte, za, zb, zc, zd, ze, zf, zg, zh, zi, zj, zk, zl, zm, zn, zo] <;> rfl) (c122 _ (by have := (hb.live _ hm).q; omega)) ?_
    simp (disch := omega) only [go_sem, ↓reduceIte, za, zb, zc, zd, ze, zf, zg, zh, zi, zj, zk, zl, zm, zn, zo, dec_t, dec_f, ltI, leI, leN, le63, le40, le0, wrap64_id, wrapu64_id, wrap8_id]
    refine trd_pc (by kernel_rfl) (by rfl) (by simp only [go_sem, ↓reduceIte, za, zb, zc, zd, ze, zf, zg, zh, zi, zj, zk, zl, zm, zn, zo] <;> rfl) (c122 _ (by have := (hb.live _ hm).b; omega)) ?_
    simp (disch := omega) only [go_sem, ↓reduceIte, za, zb, zc, zd, ze, zf, zg, zh, zi, zj, zk, zl, zm, zn, zo, dec_t, dec_f, ltI, leI, leN, le63, le40, le0, wrap64_id, wrapu64_id, wrap8_id]
    refine trd_pc (by kernel_rfl) (by rfl) (by simp only [go_sem, ↓reduceIte, za, zb, zc, zd, ze, zf, zg, zh, zi, zj, zk, zl, zm, zn, zo] <;> rfl) (c54 _ (hb.live _ hm).c) ?_
    simp (disch := omega) only [go_sem, ↓reduceIte, za, zb, zc, zd, ze, zf, zg, zh, zi, zj, zk, zl, zm, zn, zo, dec_t, dec_f, ltI, leI, leN, le63, le40, le0, wrap64_id, wrapu64_id, wrap8_id]
    refine trd_nil (tr_run ?_)
    simp (disch := omega) only [go_sem, ↓reduceIte, za, zb, zc, zd, ze, zf, zg, zh, zi, zj, zk, zl, zm, zn, zo, dec_t, dec_f, ltI, leI, leN, le63, le40, le0, wrap64_id, wrapu64_id, wrap8_id]
    refine tr_acall (c119 σ _ id s (dBytes x.d ++ text x.q ++ text x.b ++ numI x.c) (by simp [numI_ne]) (by simp only [List.length_append]; omega) hbo) (by rfl) (by simp only [go_sem, ↓reduceIte, za, zb, zc, zd, ze, zf, zg, zh, zi, zj, zk, zl, zm, zn, zo] <;> rfl) ?_
    rintro _ σ'' ⟨rfl, hbo2⟩
    simp (disch := omega) only [go_sem, ↓reduceIte, za, zb, zc, zd, ze, zf, zg, zh, zi, zj, zk, zl, zm, zn, zo, dec_t, dec_f, ltI, leI, leN, le63, le40, le0, wrap64_id, wrapu64_id, wrap8_id]
    refine tr_nil (hK _ _ _ ?_)
    clear hK K hbase hfr base
    refine block_n ?_
    refine then_n ?_
    refine awp_region_e (fun _ => false) (by rw [hB]; rfl) fun K hK base hbase hfr => ?_
    refine tr_run ?_
    simp (disch := omega) only [go_sem, ↓reduceIte, za, zb, zc, zd, ze, zf, zg, zh, zi, zj, zk, zl, zm, zn, zo, dec_t, dec_f, ltI, leI, leN, le63, le40, le0, wrap64_id, wrapu64_id, wrap8_id]
    refine tr_nil (hK _ _ _ ?_)
    clear hK K hbase hfr base
    refine then_n ⟨(i + 1, s ++ (dBytes x.d ++ text x.q ++ text x.b ++ numI x.c), σ''), ?_, ?_, ?_, ?_, Sh.sub_refl _⟩
    · refine ⟨?_, hbo2⟩
      have := hs.1
      simpa only [mBytes, List.append_assoc] using this
    · show b.live.length - (i + 1) < b.live.length - i; omega
    · exact Env.subW_one rfl <| Env.subW_one rfl <| Env.subW_one rfl <| Env.subW_one rfl <| Env.subW_nil _
    · exact Boxes.subW_nil _
  · try simp only [yb, yc, yd, ye, yf, yg, yh, yi, yj, yk, yl, ym, yn, yo] at h1
    refine awp_exit ?_
    refine then_x ?_
    refine then_x ?_
    refine block_x ?_
    refine then_n ?_
    have hfin : bagB b = s := acc_end (by omega) h0
    refine awp_region_k (fun _ => false) (by rw [hB]; rfl) fun K hK base hbase hfr => ?_
    refine tr_run ?_
    simp (disch := omega) only [go_sem, ↓reduceIte, za, zb, zc, zd, ze, zf, zg, zh, zi, zj, zk, zl, zm, zn, zo, dec_t, dec_f, ltI, leI, leN, le63, le40, le0, wrap64_id, wrapu64_id, wrap8_id]
    refine tr_acall (c123 σ _ id (bagB b) (by simp [bagB, numI_ne]) (by rw [hfin]; exact hbo)) (by rfl) (by simp only [go_sem, ↓reduceIte, za, zb, zc, zd, ze, zf, zg, zh, zi, zj, zk, zl, zm, zn, zo] <;> rfl) ?_
    rintro _ σ'' ⟨rfl, hkeep, hlive⟩
    simp (disch := omega) only [go_sem, ↓reduceIte, za, zb, zc, zd, ze, zf, zg, zh, zi, zj, zk, zl, zm, zn, zo, dec_t, dec_f, ltI, leI, leN, le63, le40, le0, wrap64_id, wrapu64_id, wrap8_id]
    refine tr_nil (hK _ _ _ ?_)
    clear hK K hbase hfr base
    refine awp_ret ?_
    exact ⟨_, rfl, VW.refl _, hkeep, fun t ht => by rw [hlive]; exact ht⟩
set_option maxHeartbeats 4000000 in
theorem c21 (n : Int) (hn : I63 n) (b : Bag) (t0 t1 t2 : Tag) (hb : Bag63 b) (hT : (bagB b).length ≤ 1099511627776) : PCalls Go.Proofs.Tryz.prog 21 [.int .i64 n, bagV b t0 t1 t2] (.str (66 :: (numI n ++ bagB b))) := by
  have h1 := numI_le hn
  refine pcalls_of_awp Go.Proofs.Tryz.func21 rfl (by decide) (Nat.le_of_ble_eq_true rfl) ?_
  intro B σ hB ho hob
  refine awp_region_k (fun _ => false) (by rw [hB]; rfl) fun K hK base hbase hfr => ?_
  refine tr_run ?_
  simp (disch := omega) only [go_sem, ↓reduceIte, za, zb, zc, zd, ze, zf, zg, zh, zi, zj, zk, zl, zm, zn, zo, dec_t, dec_f, ltI, leI, leN, le63, le40, le0, wrap64_id, wrapu64_id, wrap8_id]
  refine tr_nil (hK _ _ _ ?_)
  clear hK K hbase hfr base
  refine awp_drawn_k (fun f => f == 54 || f == 56) (fun _ => false) (by kernel_rfl) (by decide) (by rw [hB]; rfl) fun K hK base hbase hfr => ?_
  refine trd_run ?_
  simp (disch := omega) only [go_sem, ↓reduceIte, za, zb, zc, zd, ze, zf, zg, zh, zi, zj, zk, zl, zm, zn, zo, dec_t, dec_f, ltI, leI, leN, le63, le40, le0, wrap64_id, wrapu64_id, wrap8_id]
  refine trd_pc (by kernel_rfl) (by rfl) (by simp only [go_sem, ↓reduceIte, za, zb, zc, zd, ze, zf, zg, zh, zi, zj, zk, zl, zm, zn, zo] <;> rfl) (c54 _ hn) ?_
  simp (disch := omega) only [go_sem, ↓reduceIte, za, zb, zc, zd, ze, zf, zg, zh, zi, zj, zk, zl, zm, zn, zo, dec_t, dec_f, ltI, leI, leN, le63, le40, le0, wrap64_id, wrapu64_id, wrap8_id]
  refine trd_pc (by kernel_rfl) (by rfl) (by simp only [go_sem, ↓reduceIte, za, zb, zc, zd, ze, zf, zg, zh, zi, zj, zk, zl, zm, zn, zo] <;> rfl) (c56 b t0 t1 t2 hb hT) ?_
  simp (disch := omega) only [go_sem, ↓reduceIte, za, zb, zc, zd, ze, zf, zg, zh, zi, zj, zk, zl, zm, zn, zo, dec_t, dec_f, ltI, leI, leN, le63, le40, le0, wrap64_id, wrapu64_id, wrap8_id]
  refine trd_nil (hK _ _ _ ?_)
  clear hK K hbase hfr base
  refine awp_ret ?_
  refine ⟨_, rfl, ?_, fun _ _ h => h, fun _ h => h⟩
  exact VW.refl _
end Go.Am
