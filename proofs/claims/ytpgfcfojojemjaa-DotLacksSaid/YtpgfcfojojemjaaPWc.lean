/- From a law's arguments to a contract's, and from what the contract tells to the row. -/
import Derived.Test.YtpgfcfojojemjaaPWb
import Derived.WalkKit
import Derived.ProofKit
import Derived.OpenShut
import Derived.ShutString
import Derived.ChangeOld
import Derived.Below
import Derived.SizedLaws
import Derived.Carry
import Derived.Deep.Slices
namespace Go.PV
open Go.ChangeShapes Go.WideShapes Go.RowKit
set_option linter.unusedVariables false
set_option linter.unusedSimpArgs false

/-- all cells that are there last -/
def G0 (W : World) : Gh := ⟨fun b o => ∃ arr e fr, W.heap[b]? = some (.cells arr e fr) ∧ o < arr.size, 0, id, 0, fun _ => 0, fun _ _ => none⟩

section
variable {P : Program} {W : World}

theorem calls_end {f : FuncId} {xs : List V} {args : Array Value} (c : VC P f xs [] (fun r _ => r = .bool true)) (hr : LR W (G0 W) args.toList xs) (ht : ownOf xs [] = []) :
    Calls P f args W fun e w' => e = .returned (.bool true) ∧ Below W.heap.size W w' := by
  have hnW : ∀ b o, ¬ Wr (G0 W) b o := by
    rintro b o (⟨i, hi, _⟩ | ⟨id, n, T, hT, _⟩)
    · exact absurd hi (Nat.not_lt_zero _)
    · cases hT
  refine (c.2 W (G0 W) args hr ⟨rfl, fun b cs h => by simp at h, fun b b' h => absurd h (Nat.not_lt_zero _), fun b o h => absurd h (Nat.not_lt_zero _)⟩
    ⟨fun id n h => (by rw [ht] at h; simp at h), fun id n T h => (by cases h), fun id n T h => (by cases h), fun id n T k h => (by cases h), fun id n T b k h => (by cases h), fun id n T id' n' T' k h => (by cases h)⟩ (fun b o h => h)).mono ?_
  rintro e w' ⟨v, G', r, h', rfl, rfl, hrep, _, _, _, hs, _⟩
  cases hrep
  exact ⟨rfl, hs.os, hs.tape, hs.output, hs.size, fun k hk => hs.same k hk (fun o => hnW k o)⟩

variable {H : Type} {enc : TypeId × Value → H}
/-- whatever reads as of the type is represented -/
def ShC (enc : TypeId × Value → H) (P : Program) (W : World) (t : TypeId) {α : Type} (emb : α → List V) (ok : α → Prop) : Prop :=
  ∀ fuel cs x, DataW.trod enc P W 0 (fun _ => true) true fuel t cs = some x → ∃ a, ok a ∧ LR W (G0 W) cs (emb a)

theorem LR.one {w : World} {G : Gh} {v : Value} {x : V} (h : Rep w G v x) : LR w G [v] [x] :=
  ⟨rfl, fun k y hk => by
    cases k with
    | zero => obtain rfl : x = y := by simpa using hk
              exact h
    | succ k => simp at hk⟩

theorem ShC.int {t : TypeId} {k : IntKind} (hu : P.underlying t = some (.int k)) : ShC enc P W t (fun n : Int => [.int k n]) (fun n => (Lit.int k n).wf = true) := by
  intro fuel cs x h
  cases fuel with
  | zero => simp [DataW.trod] at h
  | succ fuel =>
    match cs, h with
    | [], h => simp [DataW.trod, hu] at h
    | [v], h =>
      cases v <;> simp [DataW.trod, hu] at h
      rename_i k' n
      obtain ⟨⟨rfl, hw⟩, _⟩ := h
      exact ⟨n, hw, LR.one (.int _ _)⟩
    | _ :: _ :: _, h => simp [DataW.trod, hu] at h

theorem mapM_some {α β : Type} {f : α → Option β} : ∀ {l : List α} {r : List β}, l.mapM f = some r → ∀ x ∈ l, ∃ y, f x = some y
  | [], _, _, x, hx => by simp at hx
  | a :: l, r, h, x, hx => by
    rw [List.mapM_cons] at h
    cases hf : f a with
    | none => rw [hf] at h; cases h
    | some y =>
      rw [hf] at h
      cases hl : l.mapM f with
      | none => rw [hl] at h; cases h
      | some ys =>
        rcases List.mem_cons.1 hx with rfl | hx
        · exact ⟨y, hf⟩
        · exact mapM_some hl x hx

theorem chunks {α : Type} {emb : α → List V} {ok : α → Prop} {sz : Nat} {w : World} {G : Gh} : ∀ (n : Nat) (cs : List Value), cs.length = n * sz → (∀ i, i < n → ∃ a, ok a ∧ LR w G ((cs.drop (i * sz)).take sz) (emb a)) →
    ∃ l : List α, l.length = n ∧ (∀ a ∈ l, ok a) ∧ LR w G cs (l.flatMap emb)
  | 0, cs, hl, _ => by
    obtain rfl : cs = [] := List.eq_nil_of_length_eq_zero (by simpa using hl)
    exact ⟨[], rfl, by simp, rfl, fun k y h => by simp at h⟩
  | n + 1, cs, hl, h => by
    obtain ⟨a, ha, hr⟩ := h 0 (Nat.succ_pos _)
    simp only [Nat.zero_mul, List.drop_zero] at hr
    obtain ⟨l, h1, h2, h3⟩ := chunks (emb := emb) (ok := ok) (sz := sz) (w := w) (G := G) n (cs.drop sz) (by rw [List.length_drop, hl, Nat.succ_mul]; omega) (fun i hi => by
      have := h (i + 1) (by omega)
      rwa [Nat.succ_mul, Nat.add_comm, ← List.drop_drop] at this)
    refine ⟨a :: l, by simp [h1], fun b hb => ?_, ?_⟩
    · rcases List.mem_cons.1 hb with rfl | hb
      · exact ha
      · exact h2 b hb
    · have := hr.append h3
      rwa [List.take_append_drop] at this

theorem ShC.arr {t e : TypeId} {n : Nat} {α : Type} {emb : α → List V} {ok : α → Prop} (he : ShC enc P W e emb ok) (hu : P.underlying t = some (.array n e)) (hc : P.cellsOf t = n * P.cellsOf e) :
    ShC enc P W t (fun l : List α => l.flatMap emb) (fun l => l.length = n ∧ ∀ a ∈ l, ok a) := by
  intro fuel cs x h
  cases fuel with
  | zero => simp [DataW.trod] at h
  | succ fuel =>
    rw [DataW.trod.eq_def] at h
    simp only [hu] at h
    split at h
    · rename_i hl
      rw [Option.map_eq_some_iff] at h
      obtain ⟨xs, hxs, _⟩ := h
      have hs := mapM_some hxs
      obtain ⟨l, h1, h2, h3⟩ := chunks (emb := emb) (ok := ok) n cs (by rw [hl, hc]) (fun i hi => by
        obtain ⟨y, hy⟩ := hs i (by simpa using hi)
        exact he _ _ _ hy)
      exact ⟨l, ⟨h1, h2⟩, h3⟩
    · cases h

/-- a struct's fields from the cell 'o' on -/
def ShF (enc : TypeId × Value → H) (P : Program) (W : World) (fs : List Field) (o sz : Nat) {α : Type} (emb : α → List V) (ok : α → Prop) : Prop :=
  ∀ fuel (cs : List Value), o + sz = cs.length → (∀ f ∈ fs, ∃ x, DataW.trod enc P W 0 (fun _ => true) true fuel f.type ((cs.drop f.offset).take (P.cellsOf f.type)) = some x) → ∃ a, ok a ∧ LR W (G0 W) (cs.drop o) (emb a)
theorem ShF.nil (o : Nat) : ShF enc P W [] o 0 (fun _ : Unit => []) (fun _ => True) := fun fuel cs hl _ => ⟨(), trivial, by
  rw [List.drop_eq_nil_of_le (by omega)]
  exact ⟨rfl, fun k y h => by simp at h⟩⟩
theorem ShF.cons {f : Field} {fs : List Field} {o c sz : Nat} {α β : Type} {emb : α → List V} {ok : α → Prop} {emb' : β → List V} {ok' : β → Prop} (hf : ShC enc P W f.type emb ok) (ho : f.offset = o) (hc : P.cellsOf f.type = c)
    (hr : ShF enc P W fs (o + c) sz emb' ok') : ShF enc P W (f :: fs) o (c + sz) (fun q : α × β => emb q.1 ++ emb' q.2) (fun q => ok q.1 ∧ ok' q.2) := by
  intro fuel cs hl h
  obtain ⟨x, hx⟩ := h f (by simp)
  obtain ⟨a, ha, h1⟩ := hf _ _ _ hx
  obtain ⟨b, hb, h2⟩ := hr fuel cs (by omega) (fun g hg => h g (by simp [hg]))
  refine ⟨(a, b), ⟨ha, hb⟩, ?_⟩
  subst ho hc
  have := h1.append h2
  rwa [← List.drop_drop, List.take_append_drop] at this
theorem ShC.struct {t : TypeId} {fs : Array Field} {sz : Nat} {α : Type} {emb : α → List V} {ok : α → Prop} (hu : P.underlying t = some (.struct fs)) (hc : P.cellsOf t = sz) (hf : ShF enc P W fs.toList 0 sz emb ok) : ShC enc P W t emb ok := by
  intro fuel cs x h
  cases fuel with
  | zero => simp [DataW.trod] at h
  | succ fuel =>
    rw [DataW.trod.eq_def] at h
    simp only [hu] at h
    split at h
    · rename_i hl
      rw [Option.map_eq_some_iff] at h
      obtain ⟨xs, hxs, _⟩ := h
      have := hf fuel cs (by rw [hl, hc]; simp) (mapM_some hxs)
      simpa using this
    · cases h
theorem ShC.map {t : TypeId} {α β : Type} {emb : α → List V} {ok : α → Prop} {emb' : β → List V} {ok' : β → Prop} (h : ShC enc P W t emb ok) (g : α → β) (h1 : ∀ a, ok a → emb a = emb' (g a) ∧ ok' (g a)) : ShC enc P W t emb' ok' := by
  intro fuel cs x hx
  obtain ⟨a, ha, hr⟩ := h fuel cs x hx
  exact ⟨g a, (h1 a ha).2, (h1 a ha).1 ▸ hr⟩

/-- an argument that is a struct or an array -/
theorem arg_agg {t : TypeId} {v : Value} {d : DataW H} {ps : List MemPlace} {base : Nat} {α : Type} {emb : α → List V} {ok : α → Prop} (hs : ShC enc P W t emb ok) (hu : (∃ fs, P.underlying t = some (.struct fs)) ∨ ∃ n e, P.underlying t = some (.array n e))
    (hv : Value.okWide P W .any base t v) (hd : DataW.Trod enc P W 0 (fun _ => true) true t v d ps) : ∃ a, ok a ∧ Rep W (G0 W) v (.agg (emb a)) := by
  obtain ⟨fuel, hf⟩ := hd
  obtain ⟨a, ha, hr⟩ := hs _ _ _ hf
  have : ∃ cs, v = .agg cs := by
    unfold Value.okWide at hv
    rcases hu with ⟨fs, hu⟩ | ⟨n, e, hu⟩
    · rw [hu] at hv; obtain ⟨cs, rfl, _⟩ := hv; exact ⟨cs, rfl⟩
    · rw [hu] at hv; obtain ⟨cs, rfl, _⟩ := hv; exact ⟨cs, rfl⟩
  obtain ⟨cs, rfl⟩ := this
  refine ⟨a, ha, ?_⟩
  have h2 := hr.agg
  simpa [Value.cells] using h2
end
end Go.PV
