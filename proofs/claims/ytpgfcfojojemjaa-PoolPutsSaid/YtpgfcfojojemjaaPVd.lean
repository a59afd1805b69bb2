/- Types as the steps want them; constants; a variable read. -/
import Derived.Test.YtpgfcfojojemjaaPVc
namespace Go.PV
set_option linter.unusedVariables false

inductive TD where
  | bool | int (k : IntKind) | str | ptr (e : TypeId) | slice (e : TypeId) | arr (n : Nat) (e : TypeId) | struct (fs : List (Nat × TypeId)) | func | other
/-- what the steps ask of a type: its kind, its cells, its bytes, its zero value's cells -/
structure TI where
  d : TD
  sz : Nat
  bytes : Nat
  z : Option (List V)

def tdOf : TypeDesc → TD
  | .bool => .bool
  | .int k => .int k
  | .string => .str
  | .pointer e => .ptr e
  | .slice e => .slice e
  | .array n e => .arr n e
  | .struct fs => .struct (fs.toList.map fun f => (f.offset,f.type))
  | .func _ _ _ => .func
  | _ => .other

/-- a constant of one cell -/
def absC : Value → Option V
  | .bool b => some (.bool b)
  | .int k n => some (.int k n)
  | .string s => some (.str s.data.toList)
  | .pointer none => some .nilp
  | .slice none 0 0 => some .nils
  | .nilFunc => some .nilf
  | _ => none
def absL : List Value → Option (List V)
  | [] => some []
  | v :: r => match absC v,absL r with
    | some x,some xs => some (x :: xs)
    | _,_ => none
def absV : Value → Option V
  | .agg cs => (absL cs.toList).map .agg
  | .tuple cs => if cs.size = 0 then some (.tup []) else none
  | v => absC v

def ti (P : Program) (t : TypeId) : Option TI :=
  match P.info? t,P.underlying t with
  | some i,some d => some { d := tdOf d,sz := i.size,bytes := i.bytes,z := i.zero.bind fun v => absL v.cells.toList }
  | _,_ => none

def TD.agg : TD → Bool
  | .arr _ _ | .struct _ => true
  | _ => false

theorem absC_rep {v : Value} {x : V} (h : absC v = some x) (w : World) (G : Gh) : Rep w G v x ∧ x.isCell = true ∧ x.cleanC = true := by
  unfold absC at h
  split at h <;> first
    | (simp at h; done)
    | (obtain rfl := Option.some.inj h; exact ⟨by constructor,rfl,rfl⟩)

theorem absL_rep : ∀ {vs : List Value} {xs : List V}, absL vs = some xs → ∀ (w : World) (G : Gh), vs.length = xs.length ∧
    ∀ k y,xs[k]? = some y → Rep w G (vs.getD k undef) y ∧ y.isCell = true ∧ y.cleanC = true
  | [],xs,h,w,G => by
    obtain rfl := Option.some.inj h
    exact ⟨rfl,fun k y hk => by simp at hk⟩
  | v :: r,xs,h,w,G => by
    simp only [absL] at h
    split at h
    · rename_i x xs' hx hxs
      obtain rfl := Option.some.inj h
      obtain ⟨hl,hr⟩ := absL_rep hxs w G
      refine ⟨by simp [hl],fun k y hk => ?_⟩
      cases k with
      | zero => obtain rfl : x = y := by simpa using hk
                exact absC_rep hx w G
      | succ k => exact hr k y (by simpa using hk)
    · simp at h

theorem absV_rep {v : Value} {x : V} (h : absV v = some x) (w : World) (G : Gh) : Rep w G v x := by
  unfold absV at h
  split at h
  · rename_i cs
    cases hl : absL cs.toList with
    | none => simp [hl] at h
    | some xs =>
      simp only [hl,Option.map_some,Option.some.injEq] at h
      subst h
      obtain ⟨h1,h2⟩ := absL_rep hl w G
      exact .agg cs xs (by simpa using h1) (fun k y hk => by have := (h2 k y hk).1; simpa [List.getD] using this)
  · rename_i cs
    split at h
    · rename_i h0
      obtain rfl := Option.some.inj h
      exact .tup cs [] (by simpa using h0) (fun k y hk => by simp at hk)
    · simp at h
  · exact (absC_rep h w G).1

section
variable {P : Program} {t : TypeId} {i : TI}
theorem ti_spec (h : ti P t = some i) : ∃ info d, P.info? t = some info ∧ P.underlying t = some d ∧ i = { d := tdOf d, sz := info.size, bytes := info.bytes, z := info.zero.bind fun v => absL v.cells.toList } := by
  unfold ti at h
  split at h
  · rename_i info d h1 h2
    exact ⟨info,d,h1,h2,(Option.some.inj h).symm⟩
  · simp at h
theorem run_und {d : TypeDesc} (h : P.underlying t = some d) (w : World) : (underlying t).run P w = .ok d w := by
  unfold underlying; simp [h]
theorem run_info {info : TypeInfo} (h : P.info? t = some info) (w : World) : (typeInfo t).run P w = .ok info w := by
  unfold typeInfo; simp [h]
theorem run_size {info : TypeInfo} (h : P.info? t = some info) (w : World) : (sizeOf t).run P w = .ok info.size w := by
  unfold sizeOf; simp [run_info h]
theorem tdOf_agg (d : TypeDesc) : (tdOf d).agg = (match d with | .struct _ | .array _ _ => true | _ => false) := by
  cases d <;> rfl
theorem run_agg {d : TypeDesc} (h : P.underlying t = some d) (w : World) : (isAgg t).run P w = .ok (tdOf d).agg w := by
  unfold isAgg; simp only [Sem.run_bind,run_und h,Result.andThen_ok,tdOf_agg]
  cases d <;> rfl
end

theorem add_mk (b o k : Nat) : (⟨b, o, none⟩ : Addr).add k = ⟨b, o + k, none⟩ := by
  unfold Addr.add; split <;> simp_all

/-- cells that are there and represented -/
def memAt (w : World) (G : Gh) (B o : Nat) (cs : List V) : Prop := ∀ (k : Nat) y, cs[k]? = some y → ∃ v, w.cell? ⟨B, o + k, none⟩ = some v ∧ Rep w G v y

theorem memAt.drop {w : World} {G : Gh} {B o : Nat} {cs : List V} (h : memAt w G B o cs) (n : Nat) : memAt w G B (o + n) (cs.drop n) := by
  intro k y hk
  rw [List.getElem?_drop] at hk
  obtain ⟨v,hv,hr⟩ := h (n + k) y hk
  exact ⟨v,by rw [Nat.add_assoc]; exact hv,hr⟩
theorem memAt.take {w : World} {G : Gh} {B o : Nat} {cs : List V} (h : memAt w G B o cs) (n : Nat) : memAt w G B o (cs.take n) := by
  intro k y hk
  rw [List.getElem?_take] at hk
  split at hk
  · exact h k y hk
  · simp at hk

/-- cells read one by one -/
theorem run_cells {P : Program} {w : World} {G : Gh} {B o : Nat} {cs : List V} (h : memAt w G B o cs) :
    ∃ vs : Array Value,(loadCells ⟨B,o,none⟩ cs.length).run P w = .ok vs w ∧ vs.size = cs.length ∧ ∀ k y,cs[k]? = some y → Rep w G (vs.getD k undef) y := by
  have hl := run_loadCells (P := P) w ⟨B,o,none⟩ cs.length (fun j => (w.cell? ⟨B,o + j,none⟩).getD undef) (fun j hj => by
    obtain ⟨v,hv,_⟩ := h j cs[j] (List.getElem?_eq_getElem hj)
    rw [add_mk,hv]; rfl)
  refine ⟨_,hl,by simp,fun k y hk => ?_⟩
  obtain ⟨v,hv,hr⟩ := h k y hk
  have hk' : k < cs.length := (List.getElem?_eq_some_iff.1 hk).1
  simp [hk',hv,hr]

def loadV (i : TI) (cs : List V) : Option V :=
  if i.d.agg then (if i.sz ≤ cs.length then some (.agg (cs.take i.sz)) else none) else cs.head?

theorem run_loadV {P : Program} {t : TypeId} {i : TI} (ht : ti P t = some i) {w : World} {G : Gh} {B o : Nat} {cs : List V} (h : memAt w G B o cs) {x : V} (hx : loadV i cs = some x) :
    ∃ v,(loadVar t ⟨B,o,none⟩).run P w = .ok v w ∧ Rep w G v x := by
  obtain ⟨info,d,h1,h2,rfl⟩ := ti_spec ht
  unfold loadV at hx
  unfold loadVar
  simp only [Sem.run_bind,run_agg h2,Result.andThen_ok]
  simp only at hx
  split at hx
  · rename_i ha
    split at hx
    · rename_i hs
      obtain rfl := Option.some.inj hx
      obtain ⟨vs,hv1,hv2,hv3⟩ := run_cells (P := P) (h.take info.size)
      rw [List.length_take,Nat.min_eq_left hs] at hv1 hv2
      simp only [ha,if_true,Sem.run_bind,run_size h1,Result.andThen_ok,hv1,Sem.run_pure]
      exact ⟨_,rfl, .agg vs _ (by rw [hv2]; simp; omega) hv3⟩
    · simp at hx
  · rename_i ha
    simp only [ha]
    cases cs with
    | nil => simp at hx
    | cons y ys =>
      obtain rfl : y = x := by simpa using hx
      obtain ⟨v,hv,hr⟩ := h 0 y rfl
      rw [Nat.add_zero] at hv
      refine ⟨v, ?_,hr⟩
      simp [hv]
end Go.PV
