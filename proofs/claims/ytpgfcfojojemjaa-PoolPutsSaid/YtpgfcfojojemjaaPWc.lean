/- From a law's arguments to a contract's, and from what the contract tells to the row. -/
import Derived.Test.YtpgfcfojojemjaaPWb
import Derived.WalkKit
import Derived.ProofKit
import Derived.OpenShut
import Derived.ShutString
import Derived.ChangeOld
import Derived.Below
import Derived.SizedLaws
import Derived.Carry
import Derived.Deep.Slices
namespace Go.PV
open Go.ChangeShapes Go.WideShapes Go.RowKit
set_option linter.unusedVariables false
set_option linter.unusedSimpArgs false

/-- all cells that are there last -/
def G0 (W : World) : Gh := ⟨fun b o => ∃ arr e fr, W.heap[b]? = some (.cells arr e fr) ∧ o < arr.size, 0, id, 0, fun _ => 0, fun _ _ => none⟩

section
variable {P : Program} {W : World}

theorem calls_end {f : FuncId} {xs : List V} {args : Array Value} (c : VC P f xs [] (fun r _ => r = .bool true)) (hr : LR W (G0 W) args.toList xs) (ht : ownOf xs [] = []) :
    Calls P f args W fun e w' => e = .returned (.bool true) ∧ Below W.heap.size W w' := by
  have hnW : ∀ b o, ¬ Wr (G0 W) b o := by
    rintro b o (⟨i,hi,_⟩ | ⟨id,n,T,hT,_⟩)
    · exact absurd hi (Nat.not_lt_zero _)
    · cases hT
  refine (c.2 W (G0 W) args hr ⟨rfl,fun b cs h => by simp at h,fun b b' h => absurd h (Nat.not_lt_zero _),fun b o h => absurd h (Nat.not_lt_zero _)⟩
    ⟨fun id n h => (by rw [ht] at h; simp at h),fun id n T h => (by cases h),fun id n T h => (by cases h),fun id n T k h => (by cases h),fun id n T b k h => (by cases h),fun id n T id' n' T' k h => (by cases h)⟩ (fun b o h => h)).mono ?_
  rintro e w' ⟨v,G',r,h',rfl,rfl,hrep,_,_,_,hs,_⟩
  cases hrep
  exact ⟨rfl,hs.os,hs.tape,hs.output,hs.size,fun k hk => hs.same k hk (fun o => hnW k o)⟩

variable {H : Type} {enc : TypeId × Value → H}
/-- whatever reads as of the type is represented -/
def ShC (enc : TypeId × Value → H) (P : Program) (W : World) (t : TypeId) {α : Type} (emb : α → List V) (ok : α → Prop) : Prop :=
  ∀ fuel cs x,DataW.trod enc P W 0 (fun _ => true) true fuel t cs = some x → ∃ a,ok a ∧ LR W (G0 W) cs (emb a)

theorem LR.one {w : World} {G : Gh} {v : Value} {x : V} (h : Rep w G v x) : LR w G [v] [x] :=
  ⟨rfl,fun k y hk => by
    cases k with
    | zero => obtain rfl : x = y := by simpa using hk
              exact h
    | succ k => simp at hk⟩

theorem ShC.int {t : TypeId} {k : IntKind} (hu : P.underlying t = some (.int k)) : ShC enc P W t (fun n : Int => [.int k n]) (fun n => (Lit.int k n).wf = true) := by
  intro fuel cs x h
  cases fuel with
  | zero => simp [DataW.trod] at h
  | succ fuel =>
    match cs,h with
    | [],h => simp [DataW.trod,hu] at h
    | [v],h =>
      cases v <;> simp [DataW.trod,hu] at h
      rename_i k' n
      obtain ⟨⟨rfl,hw⟩,_⟩ := h
      exact ⟨n,hw,LR.one (.int _ _)⟩
    | _ :: _ :: _,h => simp [DataW.trod,hu] at h

theorem mapM_some {α β : Type} {f : α → Option β} : ∀ {l : List α} {r : List β}, l.mapM f = some r → ∀ x ∈ l, ∃ y, f x = some y
  | [],_,_,x,hx => by simp at hx
  | a :: l,r,h,x,hx => by
    rw [List.mapM_cons] at h
    cases hf : f a with
    | none => rw [hf] at h; cases h
    | some y =>
      rw [hf] at h
      cases hl : l.mapM f with
      | none => rw [hl] at h; cases h
      | some ys =>
        rcases List.mem_cons.1 hx with rfl | hx
        · exact ⟨y,hf⟩
        · exact mapM_some hl x hx

theorem chunks {α : Type} {emb : α → List V} {ok : α → Prop} {sz : Nat} {w : World} {G : Gh} : ∀ (n : Nat) (cs : List Value), cs.length = n * sz → (∀ i, i < n → ∃ a, ok a ∧ LR w G ((cs.drop (i * sz)).take sz) (emb a)) →
    ∃ l : List α,l.length = n ∧ (∀ a ∈ l,ok a) ∧ LR w G cs (l.flatMap emb)
  | 0,cs,hl,_ => by
    obtain rfl : cs = [] := List.eq_nil_of_length_eq_zero (by simpa using hl)
    exact ⟨[],rfl,by simp,rfl,fun k y h => by simp at h⟩
  | n + 1,cs,hl,h => by
    obtain ⟨a,ha,hr⟩ := h 0 (Nat.succ_pos _)
    simp only [Nat.zero_mul,List.drop_zero] at hr
    obtain ⟨l,h1,h2,h3⟩ := chunks (emb := emb) (ok := ok) (sz := sz) (w := w) (G := G) n (cs.drop sz) (by rw [List.length_drop,hl,Nat.succ_mul]; omega) (fun i hi => by
      have := h (i + 1) (by omega)
      rwa [Nat.succ_mul,Nat.add_comm,← List.drop_drop] at this)
    refine ⟨a :: l,by simp [h1],fun b hb => ?_, ?_⟩
    · rcases List.mem_cons.1 hb with rfl | hb
      · exact ha
      · exact h2 b hb
    · have := hr.append h3
      rwa [List.take_append_drop] at this

theorem ShC.arr {t e : TypeId} {n : Nat} {α : Type} {emb : α → List V} {ok : α → Prop} (he : ShC enc P W e emb ok) (hu : P.underlying t = some (.array n e)) (hc : P.cellsOf t = n * P.cellsOf e) :
    ShC enc P W t (fun l : List α => l.flatMap emb) (fun l => l.length = n ∧ ∀ a ∈ l,ok a) := by
  intro fuel cs x h
  cases fuel with
  | zero => simp [DataW.trod] at h
  | succ fuel =>
    rw [DataW.trod.eq_def] at h
    simp only [hu] at h
    split at h
    · rename_i hl
      rw [Option.map_eq_some_iff] at h
      obtain ⟨xs,hxs,_⟩ := h
      have hs := mapM_some hxs
      obtain ⟨l,h1,h2,h3⟩ := chunks (emb := emb) (ok := ok) n cs (by rw [hl,hc]) (fun i hi => by
        obtain ⟨y,hy⟩ := hs i (by simpa using hi)
        exact he _ _ _ hy)
      exact ⟨l,⟨h1,h2⟩,h3⟩
    · cases h

/-- a struct's fields from the cell 'o' on -/
def ShF (enc : TypeId × Value → H) (P : Program) (W : World) (fs : List Field) (o sz : Nat) {α : Type} (emb : α → List V) (ok : α → Prop) : Prop :=
  ∀ fuel (cs : List Value),o + sz = cs.length → (∀ f ∈ fs, ∃ x,DataW.trod enc P W 0 (fun _ => true) true fuel f.type ((cs.drop f.offset).take (P.cellsOf f.type)) = some x) → ∃ a,ok a ∧ LR W (G0 W) (cs.drop o) (emb a)
theorem ShF.nil (o : Nat) : ShF enc P W [] o 0 (fun _ : Unit => []) (fun _ => True) := fun fuel cs hl _ => ⟨(), trivial, by
  rw [List.drop_eq_nil_of_le (by omega)]
  exact ⟨rfl,fun k y h => by simp at h⟩⟩
theorem ShF.cons {f : Field} {fs : List Field} {o c sz : Nat} {α β : Type} {emb : α → List V} {ok : α → Prop} {emb' : β → List V} {ok' : β → Prop} (hf : ShC enc P W f.type emb ok) (ho : f.offset = o) (hc : P.cellsOf f.type = c)
    (hr : ShF enc P W fs (o + c) sz emb' ok') : ShF enc P W (f :: fs) o (c + sz) (fun q : α × β => emb q.1 ++ emb' q.2) (fun q => ok q.1 ∧ ok' q.2) := by
  intro fuel cs hl h
  obtain ⟨x,hx⟩ := h f (by simp)
  obtain ⟨a,ha,h1⟩ := hf _ _ _ hx
  obtain ⟨b,hb,h2⟩ := hr fuel cs (by omega) (fun g hg => h g (by simp [hg]))
  refine ⟨(a,b),⟨ha,hb⟩, ?_⟩
  subst ho hc
  have := h1.append h2
  rwa [← List.drop_drop,List.take_append_drop] at this
theorem ShC.struct {t : TypeId} {fs : Array Field} {sz : Nat} {α : Type} {emb : α → List V} {ok : α → Prop} (hu : P.underlying t = some (.struct fs)) (hc : P.cellsOf t = sz) (hf : ShF enc P W fs.toList 0 sz emb ok) : ShC enc P W t emb ok := by
  intro fuel cs x h
  cases fuel with
  | zero => simp [DataW.trod] at h
  | succ fuel =>
    rw [DataW.trod.eq_def] at h
    simp only [hu] at h
    split at h
    · rename_i hl
      rw [Option.map_eq_some_iff] at h
      obtain ⟨xs,hxs,_⟩ := h
      have := hf fuel cs (by rw [hl,hc]; simp) (mapM_some hxs)
      simpa using this
    · cases h
theorem ShC.map {t : TypeId} {α β : Type} {emb : α → List V} {ok : α → Prop} {emb' : β → List V} {ok' : β → Prop} (h : ShC enc P W t emb ok) (g : α → β) (h1 : ∀ a, ok a → emb a = emb' (g a) ∧ ok' (g a)) : ShC enc P W t emb' ok' := by
  intro fuel cs x hx
  obtain ⟨a,ha,hr⟩ := h fuel cs x hx
  exact ⟨g a,(h1 a ha).2,(h1 a ha).1 ▸ hr⟩

theorem ShC.bool {t : TypeId} (hu : P.underlying t = some .bool) : ShC enc P W t (fun b : Bool => [.bool b]) (fun _ => True) := by
  intro fuel cs x h
  cases fuel with
  | zero => simp [DataW.trod] at h
  | succ fuel =>
    match cs,h with
    | [],h => simp [DataW.trod,hu] at h
    | [v],h =>
      cases v <;> simp [DataW.trod,hu] at h
      rename_i b
      exact ⟨b,trivial,LR.one (.bool _)⟩
    | _ :: _ :: _,h => rw [DataW.trod.eq_def] at h; simp only [hu] at h; cases h
theorem ShC.str {t : TypeId} (hu : P.underlying t = some .string) : ShC enc P W t (fun s : List UInt8 => [.str s]) (fun s => s.length ≤ maxLen) := by
  intro fuel cs x h
  cases fuel with
  | zero => simp [DataW.trod] at h
  | succ fuel =>
    match cs,h with
    | [],h => rw [DataW.trod.eq_def] at h; simp only [hu] at h; cases h
    | [v],h =>
      rw [DataW.trod.eq_def] at h
      simp only [hu] at h
      cases v <;> first | (simp at h; done) | skip
      rename_i s
      simp only at h
      split at h
      · rename_i hs
        exact ⟨s.data.toList,by show s.data.toList.length ≤ maxLen; rw [Array.length_toList]; exact hs,LR.one (.str _)⟩
      · cases h
    | _ :: _ :: _,h => rw [DataW.trod.eq_def] at h; simp only [hu] at h; cases h
theorem cells_at {a : Addr} {n : Nat} {cs : List Value} (h : W.cells? 0 a n = some cs) : cs.length = n ∧ ∀ i, i < n → W.cell? (a.add i) = some (cs.getD i undef) := by
  unfold World.cells? at h
  rw [if_pos (Nat.zero_le _)] at h
  have key : ∀ (l : List Nat) (r : List Value),l.mapM (fun i => W.cell? (a.add i)) = some r → r.length = l.length ∧ ∀ k i,l[k]? = some i → W.cell? (a.add i) = some (r.getD k undef) := by
    intro l
    induction l with
    | nil => intro r hr; obtain rfl : [] = r := Option.some.inj hr; exact ⟨rfl,fun k i hk => by simp at hk⟩
    | cons j l ih =>
      intro r hr
      rw [List.mapM_cons] at hr
      cases hj : W.cell? (a.add j) with
      | none => rw [hj] at hr; cases hr
      | some v =>
        rw [hj] at hr
        cases hl : l.mapM (fun i => W.cell? (a.add i)) with
        | none => rw [hl] at hr; cases hr
        | some r' =>
          rw [hl] at hr
          obtain rfl : v :: r' = r := Option.some.inj hr
          obtain ⟨h1,h2⟩ := ih r' hl
          refine ⟨by simp [h1],fun k i hk => ?_⟩
          cases k with
          | zero => obtain rfl : j = i := by simpa using hk
                    simpa using hj
          | succ k => simpa using h2 k i (by simpa using hk)
  obtain ⟨h1,h2⟩ := key _ _ h
  exact ⟨by simpa using h1,fun i hi => h2 i i (by simp [hi])⟩
theorem ShC.slice {t e : TypeId} {α : Type} {emb : α → List V} {ok : α → Prop} (he : ShC enc P W e emb ok) {sz : Nat} (hu : P.underlying t = some (.slice e)) (hc : P.cellsOf e = sz) (h0 : 0 < sz)
    (mk : α → V) (hmk : ∀ a,ok a → (mk a).cells = emb a ∧ (emb a).length = sz ∧ (mk a).clean = true) :
    ShC enc P W t (fun q : Option (List α) => [match q with | none => .nils | some l => .slice sz (l.map mk) false none]) (fun q => ∀ l,q = some l → l.length ≤ maxLen ∧ ∀ a ∈ l,ok a) := by
  intro fuel cs x h
  rcases Go.Deep.open_slice hu h with ⟨rfl,rfl⟩ | ⟨a,len,cap,m,n,D,Pl,rfl,_,hle,hm,hmm,_,hel⟩
  · exact ⟨none,And.intro (fun l h => nomatch h) (LR.one .nils)⟩
  · simp only [if_true] at hmm
    subst hmm hc
    obtain ⟨B,o,sp⟩ := a
    have hsp : sp = none ∨ m = 0 := by
      cases hm0 : m with
      | zero => exact .inr rfl
      | succ k =>
        obtain ⟨cs',h1,_⟩ := hel 0 (by omega)
        have h2 := (cells_at h1).2 0 h0
        have hs : ∀ a : Addr,a.add 0 = a := fun a => by unfold Addr.add; rw [if_pos rfl]
        rw [Nat.zero_mul,hs,hs] at h2
        unfold World.cell? at h2
        refine .inl ?_
        cases sp with
        | none => rfl
        | some q =>
          exfalso
          split at h2
          · simp at h2
          · cases h2
    have hadd : ∀ o i,(⟨B,o,none⟩ : Addr).add i = ⟨B,o + i,none⟩ := fun o i => by
      unfold Addr.add; split
      · rename_i h; subst h; rfl
      · rfl
    have hch : ∀ i,i < m → ∃ (cs' : List Value) (a : α),ok a ∧ LR W (G0 W) cs' (emb a) ∧ cs'.length = P.cellsOf e ∧ ∀ k,k < P.cellsOf e → W.cell? ⟨B,o + (i * P.cellsOf e + k),none⟩ = some (cs'.getD k undef) := fun i hi => by
      obtain ⟨cs',h1,h2⟩ := hel i hi
      obtain rfl : sp = none := hsp.resolve_right (by omega)
      obtain ⟨a,ha,hr⟩ := he _ _ _ h2
      obtain ⟨h3,h4⟩ := cells_at h1
      refine ⟨cs',a,ha,hr,h3,fun k hk => ?_⟩
      have := h4 k hk
      rw [hadd,hadd] at this
      rw [← this,Nat.add_assoc]
    have key : ∀ j,j ≤ m → ∃ (l : List α) (vs : Nat → Value),l.length = j ∧ (∀ a ∈ l,ok a) ∧ (flat (l.map mk)).length = j * P.cellsOf e ∧ ∀ k y,(flat (l.map mk))[k]? = some y → W.cell? ⟨B,o + k,none⟩ = some (vs k) ∧ Rep W (G0 W) (vs k) y := by
      intro j
      induction j with
      | zero => exact fun _ => ⟨[],fun _ => undef,rfl,by simp,by simp [flat],fun k y hk => by simp [flat] at hk⟩
      | succ j ih =>
        intro hj
        obtain ⟨l,vs,h1,h2,h3,h4⟩ := ih (by omega)
        obtain ⟨cs',a,ha,hr,hcl,hcell⟩ := hch j (by omega)
        obtain ⟨m1,m2,m3⟩ := hmk a ha
        refine ⟨l ++ [a],fun k => if k < j * P.cellsOf e then vs k else cs'.getD (k - j * P.cellsOf e) undef,by simp [h1],fun b hb => ?_, ?_,fun k y hk => ?_⟩
        · rcases List.mem_append.1 hb with hb | hb
          · exact h2 b hb
          · obtain rfl := List.mem_singleton.1 hb
            exact ha
        · rw [List.map_append,flat_append,List.length_append,h3]
          simp only [List.map_cons,List.map_nil,flat_cons,flat_nil,List.append_nil,m1,m2,Nat.succ_mul]
        · rw [List.map_append,flat_append] at hk
          simp only [List.map_cons,List.map_nil,flat_cons,flat_nil,List.append_nil,m1] at hk
          rcases Nat.lt_or_ge k (j * P.cellsOf e) with hlt | hge
          · rw [List.getElem?_append_left (by rw [h3]; exact hlt)] at hk
            simp only [if_pos hlt]
            exact h4 k y hk
          · rw [List.getElem?_append_right (by rw [h3]; exact hge),h3] at hk
            simp only [if_neg (Nat.not_lt.2 hge)]
            have hkl := (List.getElem?_eq_some_iff.1 hk).1
            have := hcell (k - j * P.cellsOf e) (by omega)
            rw [show j * P.cellsOf e + (k - j * P.cellsOf e) = k from by omega] at this
            exact ⟨this,hr.rep _ _ hk⟩
    obtain ⟨l,vs,h1,h2,h3,h4⟩ := key len hle
    refine ⟨some l,fun l' hl' => by obtain rfl := Option.some.inj hl'; exact ⟨by omega,h2⟩,LR.one ?_⟩
    have hrep : Rep W (G0 W) (.slice (some ⟨B,o,sp⟩) (l.map mk).length m) (.slice (P.cellsOf e) (l.map mk) false none) := by
      refine .slice B o _ _ false none m vs (by simpa [h1] using hle) (fun h => by cases h) h0 (fun y hy => ?_) (fun k y hk => ⟨?_,(h4 k y hk).1⟩) (fun k y hk => (h4 k y hk).2) (fun id h => by cases h) sp hsp
      · obtain ⟨a,ha,rfl⟩ := List.mem_map.1 hy
        obtain ⟨m1,m2,m3⟩ := hmk a (h2 a ha)
        exact ⟨by rw [m1,m2],m3⟩
      · have := (h4 k y hk).1
        unfold World.cell? at this
        split at this
        · rename_i c e' fr hb
          simp only [Option.isSome_none,Bool.false_eq_true,if_false] at this
          exact ⟨c,e',fr,hb,(Array.getElem?_eq_some_iff.1 this).1⟩
        · cases this
    rw [List.length_map,h1] at hrep
    exact hrep

/-- an argument that is a struct or an array -/
theorem arg_agg {t : TypeId} {v : Value} {d : DataW H} {ps : List MemPlace} {base : Nat} {α : Type} {emb : α → List V} {ok : α → Prop} (hs : ShC enc P W t emb ok) (hu : (∃ fs, P.underlying t = some (.struct fs)) ∨ ∃ n e, P.underlying t = some (.array n e))
    (hv : Value.okWide P W .any base t v) (hd : DataW.Trod enc P W 0 (fun _ => true) true t v d ps) : ∃ a,ok a ∧ Rep W (G0 W) v (.agg (emb a)) := by
  obtain ⟨fuel,hf⟩ := hd
  have : ∃ cs,v = .agg cs ∧ Row.okWide P W .any base t cs := by
    unfold Value.okWide at hv
    rcases hu with ⟨fs,hu⟩ | ⟨n,e,hu⟩
    · rw [hu] at hv; obtain ⟨cs,rfl,_,h⟩ := hv; exact ⟨cs,rfl,h⟩
    · rw [hu] at hv; obtain ⟨cs,rfl,_,h⟩ := hv; exact ⟨cs,rfl,h⟩
  obtain ⟨cs,rfl,ts,_,_,hrow⟩ := this
  obtain ⟨a,ha,hr⟩ := hs _ _ _ hf
  refine ⟨a,ha, ?_⟩
  have h2 := hr.agg
  simpa [Value.cells] using h2
end
end Go.PV
