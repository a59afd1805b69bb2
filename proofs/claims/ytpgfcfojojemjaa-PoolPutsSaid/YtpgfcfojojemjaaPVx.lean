/- Regions in which an order is drawn: one operation ahead of another. -/
import Derived.Test.YtpgfcfojojemjaaPVw
namespace Go.PV
set_option linter.unusedVariables false
set_option linter.unusedSimpArgs false

def Lim.of : Lim → List Nat
  | .blocks W => W
  | _ => []

section
variable {P : Program} {W : List Nat} {N0 : Nat} {ops : Array Oper} {lim : Lim}

theorem limOf_ne (fl : Nat) (W : List Nat) (n : Nat) : limOf fl W n ≠ .free := by
  unfold limOf; split
  · simp
  · split <;> simp

theorem Keeps.heapEq {W : List Nat} {s : St} {h : List (List V)} {ow : List (Nat × Nat)} {nx : Nat} (hl : s.heap.length ≤ h.length) (hb : ∀ b, b < s.heap.length → b ∉ W → h[b]? = s.heap[b]?) : Keeps W s { s with heap := h, own := ow, next := nx } := ⟨rfl, hl, hb⟩

theorem WFn.keeps {s : St} {f : FuncId} {xs : List V} {K : V → St → Prop} (hl : lim ≠ .free) (h : WFn P lim f xs K s) : WFn P lim f xs (fun v s' => K v s' ∧ Keeps lim.of s s') s := by
  cases h with
  | pure r c hp hr hK => exact .pure r c hp hr ⟨hK, .refl _ _⟩
  | some_ R h _ _ _ => exact absurd h hl
  | lend ys r hlim c hy hr hK => exact .lend ys r hlim c hy hr ⟨hK, .refl _ _⟩
  | gen R hlim e c hK =>
    rcases hlim with h | ⟨⟨W,rfl,hW⟩,hex,hle⟩
    · exact absurd h hl
    · exact .gen R (.inr ⟨⟨W,rfl,hW⟩,hex,hle⟩) e c (fun r h' ow' n' hR => ⟨hK r h' ow' n' hR,Keeps.heapEq (hle r h' ow' n' hR) (fun b hb hbW => absurd (hW b hb) hbW)⟩)
  | ref ρ args' hl' R c hf hn hh hown hlim hne hK =>
    refine .ref ρ args' hl' R c hf hn hh hown hlim hne (fun r h' n' hR hn' hle => ⟨hK r h' n' hR hn' hle,Keeps.heapEq ?_ (fun b hb hbW => ?_)⟩)
    · simp [heapAfter,setAll_length]
    · have hρ : b ∉ ρ := fun hb' => by
        cases lim with
        | free => exact hl rfl
        | blocks W => exact hbW (hlim b hb')
        | only => exact hlim
      simp only [heapAfter]
      rw [List.getElem?_append_left (by rw [setAll_length]; exact hb),setAll_out _ _ _ _ hρ]

theorem loudV_keeps {s : St} {op : Op} {v : V} {h : List (List V)} {ow : List (Nat × Nat)} {nx : Nat} (hm : memOk lim W N0 s op) (hl : lim ≠ .free) (hv : loudV P s op = some (v, h, ow, nx)) : Keeps lim.of s { s with heap := h, own := ow, next := nx } := by
  refine Keeps.heapEq ?_ (fun b hb hbW => ?_)
  all_goals
    cases op <;> simp only [loudV] at hv <;> try (cases hv; done)
  case refine_1.alloc t =>
    split at hv <;> try (cases hv; done)
    split at hv <;> simp at hv
    obtain ⟨_,rfl,_,_⟩ := hv; simp
  case refine_2.alloc t =>
    split at hv <;> try (cases hv; done)
    split at hv <;> simp at hv
    obtain ⟨_,rfl,_,_⟩ := hv; rw [List.getElem?_append_left hb]
  case refine_1.box t x =>
    split at hv <;> try (cases hv; done)
    split at hv <;> simp at hv
    obtain ⟨_,rfl,_,_⟩ := hv; simp
  case refine_2.box t x =>
    split at hv <;> try (cases hv; done)
    split at hv <;> simp at hv
    obtain ⟨_,rfl,_,_⟩ := hv; rw [List.getElem?_append_left hb]
  case refine_1.store t a x =>
    split at hv <;> try (cases hv; done)
    split at hv <;> try (cases hv; done)
    split at hv <;> simp at hv
    obtain ⟨_,rfl,_,_⟩ := hv; simp
  case refine_2.store t a x =>
    split at hv <;> try (cases hv; done)
    rename_i i b' o v' hi ha hx
    split at hv <;> try (cases hv; done)
    split at hv <;> simp at hv
    obtain ⟨_,rfl,_,_⟩ := hv
    simp only [memOk,ha] at hm
    have hne : b' ≠ b := fun e => by
      subst e
      cases lim with
      | free => exact hl rfl
      | blocks W' => exact hbW (hm _ (by simp))
      | only => exact hm
    exact List.getElem?_set_ne hne
  case refine_1.makeSlice t a x =>
    repeat' (split at hv <;> try (cases hv; done))
    all_goals (simp at hv; obtain ⟨_,rfl,_,_⟩ := hv; simp)
  case refine_2.makeSlice t a x =>
    repeat' (split at hv <;> try (cases hv; done))
    all_goals (simp at hv; obtain ⟨_,rfl,_,_⟩ := hv; rfl)
  case refine_1.call c =>
    obtain ⟨callee,args,ts⟩ := c
    cases callee <;> try (cases hv; done)
    rename_i b
    cases b <;> try (cases hv; done)
    simp only at hv
    repeat' (split at hv <;> try (cases hv; done))
    all_goals (simp at hv; obtain ⟨_,rfl,_,_⟩ := hv; simp)
  case refine_2.call c =>
    obtain ⟨callee,args,ts⟩ := c
    cases callee <;> try (cases hv; done)
    rename_i b
    cases b <;> try (cases hv; done)
    simp only at hv
    repeat' (split at hv <;> try (cases hv; done))
    all_goals (simp at hv; obtain ⟨_,rfl,_,_⟩ := hv; rfl)

theorem WRun.keeps {s : St} {op : Op} {K : V → St → Prop} (hl : lim ≠ .free) (hm : memOk lim W N0 s op) (h : WRun P lim op K s) : WRun P lim op (fun v s' => K v s' ∧ Keeps lim.of s s') s := by
  unfold WRun at *
  split
  · rename_i v hv; simp only [hv] at h; exact ⟨h, .refl _ _⟩
  · rename_i hv
    simp only [hv] at h
    split
    · rename_i hlv; simp only [hlv] at h; exact ⟨h,loudV_keeps hm hl hlv⟩
    · rename_i hlv
      simp only [hlv] at h
      cases op <;> first | exact h.elim | skip
      rename_i c
      obtain ⟨callee,args,ts⟩ := c
      cases callee <;> first | exact h.elim | skip
      obtain ⟨fid,caps,xs,h1,h2,h3⟩ := h
      exact ⟨fid,caps,xs,h1,h2,h3.keeps hl⟩

theorem WFn.const {s : St} {f : FuncId} {xs : List V} {p : Prop} (hl : lim ≠ .free) (h : WFn P lim f xs (fun _ _ => p) s) : p := by
  cases h with
  | pure r c hp hr hK => exact hK
  | some_ R h _ _ _ => exact absurd h hl
  | lend ys r hlim c hy hr hK => exact hK
  | gen R hlim e c hK =>
    rcases hlim with h | ⟨_,⟨r,h',ow',n',hR⟩,_⟩
    · exact absurd h hl
    · exact hK r h' ow' n' hR
  | ref ρ args' hl' R c hf hn hh hown hlim hne hK =>
    obtain ⟨r,h',hR,hle⟩ := hne hl
    exact hK r h' s.next hR (Nat.le_refl _) hle
theorem WRun.const {s : St} {op : Op} {p : Prop} (hl : lim ≠ .free) (h : WRun P lim op (fun _ _ => p) s) : p := by
  unfold WRun at h
  split at h
  · exact h
  · rename_i hv
    split at h
    · exact h
    · rename_i hlv
      clear hv hlv
      cases op <;> first | exact h.elim | skip
      rename_i c
      obtain ⟨callee,args,ts⟩ := c
      cases callee <;> first | exact h.elim | skip
      obtain ⟨fid,caps,xs,h1,h2,h3⟩ := h
      exact h3.const hl

/-! ## with the guard -/
/-- whether the operation is wanted -/
def wantV (ops : Array Oper) (o : Oper) (s : St) : Option Bool :=
  match o.guard with
  | none => some true
  | some (j,want) => match (ops[j]?).bind (·.dst) with
    | none => none
    | some d => match s.slots[d]? with
      | some (.bool b) => some (b == want)
      | some (.tup []) => some false
      | _ => none
def DRun1 (P : Program) (W : List Nat) (N0 : Nat) (ops : Array Oper) (o : Oper) (fl : Nat) (K : V → St → Prop) (s : St) : Prop :=
  (wantV ops o s = some true ∧ memOk (limOf fl W s.heap.length) W N0 s o.op ∧ WRun P (limOf fl W s.heap.length) o.op K s) ∨ (wantV ops o s = some false ∧ K (.tup []) s)

theorem DRun_iff {o : Oper} {fl : Nat} {K : V → St → Prop} {s : St} : DRun P W N0 ops o fl K s ↔ DRun1 P W N0 ops o fl K s := by
  unfold DRun DRun1 wantV
  cases hg : o.guard with
  | none => simp
  | some q =>
    obtain ⟨j,want⟩ := q
    simp only
    cases hd : (ops[j]?).bind (·.dst) with
    | none => simp
    | some d =>
      simp only
      split
      · rename_i b hb
        by_cases hw : b = want
        · subst hw; simp [hb]
        · simp [hw,hb]
      · rename_i hb; simp [hb]
      · rename_i h1 h2
        have : (match s.slots[d]? with
          | some (V.bool b_1) => some (b_1 == want)
          | some (V.tup []) => some false
          | x => none) = none := by
          split
          · rename_i b hb; exact absurd hb (h1 b)
          · rename_i hb; exact absurd hb h2
          · rfl
        simp [this]

theorem wantV_put {o : Oper} {s : St} {dst : Option Tmp} {u : V} (hd : ∀ d, dst = some d → d ∉ o.looksAt ops) : wantV ops o (s.put dst u) = wantV ops o s := by
  cases dst with
  | none => rfl
  | some d =>
    unfold wantV
    cases hg : o.guard with
    | none => rfl
    | some gw =>
      obtain ⟨g,want⟩ := gw
      simp only
      cases ht : (ops[g]?).bind (·.dst) with
      | none => rfl
      | some t =>
        have hne : d ≠ t := fun e => hd d rfl (by subst e; simp [Oper.looksAt,hg,ht])
        simp only [St.put]
        rw [List.getElem?_set_ne hne]
theorem wantV_slots {o : Oper} {s s' : St} (h : s'.slots = s.slots) : wantV ops o s' = wantV ops o s := by
  unfold wantV; rw [h]

theorem memOk_put {o : Oper} {s : St} {dst : Option Tmp} {u : V} (hd : ∀ d, dst = some d → d ∉ o.looksAt ops) : memOk lim W N0 (s.put dst u) o.op ↔ memOk lim W N0 s o.op := by
  have he := ev_op (s := s) (u := u) hd
  obtain ⟨odst,op,ty,pos,after,guard⟩ := o
  simp only at he ⊢
  cases op <;> try exact Iff.rfl
  case load t a => simp only [memOk,he a (by simp [Op.operands])]
  case store t a x => simp only [memOk,he a (by simp [Op.operands])]

theorem DRun1.mono {o : Oper} {fl : Nat} {K K' : V → St → Prop} {s : St} (h : DRun1 P W N0 ops o fl K s) (hk : ∀ v s', K v s' → K' v s') : DRun1 P W N0 ops o fl K' s := by
  rcases h with ⟨h1,h2,h3⟩ | ⟨h1,h2⟩
  · exact .inl ⟨h1,h2,h3.mono hk⟩
  · exact .inr ⟨h1,hk _ _ h2⟩
theorem DRun1.keeps {o : Oper} {fl : Nat} {K : V → St → Prop} {s : St} (h : DRun1 P W N0 ops o fl K s) : DRun1 P W N0 ops o fl (fun v s' => K v s' ∧ Keeps (limOf fl W s.heap.length).of s s') s := by
  rcases h with ⟨h1,h2,h3⟩ | ⟨h1,h2⟩
  · exact .inl ⟨h1,h2,h3.keeps (limOf_ne _ _ _) h2⟩
  · exact .inr ⟨h1,h2, .refl _ _⟩
theorem DRun1.const {o : Oper} {fl : Nat} {p : Prop} {s : St} (h : DRun1 P W N0 ops o fl (fun _ _ => p) s) : p := by
  rcases h with ⟨h1,h2,h3⟩ | ⟨h1,h2⟩
  · exact h3.const (limOf_ne _ _ _)
  · exact h2
theorem DRun1.put_iff {s : St} {o : Oper} {fl : Nat} {dst : Option Tmp} {u : V} (hd : ∀ d, dst = some d → d ∉ o.looksAt ops) {K : V → St → Prop} :
    DRun1 P W N0 ops o fl K (s.put dst u) ↔ DRun1 P W N0 ops o fl (fun v s' => K v (s'.put dst u)) s := by
  unfold DRun1
  rw [wantV_put hd,(put_slots s dst u).1,memOk_put hd,WRun.put_iff hd]

/-! ## quiet operations -/
/-- it comes to v, and turns nothing -/
def Yl (P : Program) (W : List Nat) (N0 : Nat) (ops : Array Oper) (o : Oper) (v : V) (s : St) : Prop :=
  (wantV ops o s = some true ∧ opV P s o.op = some v ∧ (∀ lim,memOk lim W N0 s o.op)) ∨ (wantV ops o s = some false ∧ v = .tup [])

theorem Yl.run {o : Oper} {fl : Nat} {v : V} {s : St} (h : Yl P W N0 ops o v s) {K : V → St → Prop} (hk : K v s) : DRun1 P W N0 ops o fl K s := by
  rcases h with ⟨h1,h2,h3⟩ | ⟨h1,rfl⟩
  · refine .inl ⟨h1,h3 _, ?_⟩
    unfold WRun; rw [h2]; exact hk
  · exact .inr ⟨h1,hk⟩

theorem quiet_loud {o : Oper} {s : St} (hk : kindOf o.op = .Q ∨ kindOf o.op = .L) {K : V → St → Prop} (hv : opV P s o.op = none) : ¬ WRun P lim o.op K s := by
  intro h
  unfold WRun at h
  rw [hv] at h
  simp only at h
  obtain ⟨odst,op,ty,pos,after,guard⟩ := o
  simp only at *
  cases op <;> first | exact h.elim | (simp [kindOf] at hk; done) | skip
  rename_i c
  obtain ⟨callee,args,ts⟩ := c
  cases callee <;> first | exact h.elim | (simp [kindOf] at hk; done) | skip
  rename_i b
  cases b <;> first | exact h.elim | (simp [kindOf] at hk; done)

theorem DRun1.quiet {o : Oper} {fl : Nat} {K : V → St → Prop} {s : St} (hk : kindOf o.op = .Q ∨ kindOf o.op = .L) (h : DRun1 P W N0 ops o fl K s) : ∃ v, K v s ∧ Yl P W N0 ops o v s := by
  rcases h with ⟨h1,h2,h3⟩ | ⟨h1,h2⟩
  · cases hv : opV P s o.op with
    | none => exact absurd h3 (quiet_loud hk hv)
    | some v =>
      have h3' : K v s := by unfold WRun at h3; rw [hv] at h3; exact h3
      refine ⟨v,h3', .inl ⟨h1,hv,fun lim => ?_⟩⟩
      obtain ⟨odst,op,ty,pos,after,guard⟩ := o
      simp only at *
      cases op <;> simp [kindOf] at hk <;> first | trivial | exact h2
  · exact ⟨_,h2, .inr ⟨h1,rfl⟩⟩

theorem Yl.put {o : Oper} {v : V} {s : St} {dst : Option Tmp} {u : V} (hd : ∀ d, dst = some d → d ∉ o.looksAt ops) : Yl P W N0 ops o v (s.put dst u) ↔ Yl P W N0 ops o v s := by
  unfold Yl
  rw [wantV_put hd,opV_put hd]
  simp only [memOk_put hd]

/-- quiet before and behind what keeps the blocks that it looks at -/
theorem Yl.keep {o : Oper} {v : V} {s s' : St} {W' : List Nat} (hW : kindOf o.op = .Q ∨ ∀ b ∈ W', b ∈ W) (hN : N0 ≤ s.heap.length) (k : Keeps W' s s') : Yl P W N0 ops o v s' ↔ Yl P W N0 ops o v s := by
  have hev : ∀ x,ev s' x = ev s x := fun x => by cases x <;> simp only [ev,k.slots]
  have hmem : ∀ lim,memOk lim W N0 s' o.op ↔ memOk lim W N0 s o.op := fun lim => by
    cases o.op <;> simp only [memOk,hev]
  unfold Yl
  rw [wantV_slots k.slots]
  simp only [hmem]
  constructor <;> rintro (⟨h1,h2,h3⟩ | h)
  · refine .inl ⟨h1, ?_,h3⟩
    rw [← h2]
    refine opV_congr (fun x _ => (hev x).symm) (fun t a p ho hp => ?_)
    rcases hW with hW | hW
    · rw [ho] at hW; simp [kindOf] at hW
    · have := h3 .only
      rw [ho] at this
      cases p with
      | ptr b off =>
        simp only [memOk,hp] at this
        simp only [cellsOf,k.heap b (by omega) (fun hb => this.1 (hW b hb))]
      | _ => rfl
  · exact .inr h
  · refine .inl ⟨h1, ?_,h3⟩
    rw [← h2]
    refine opV_congr (fun x _ => hev x) (fun t a p ho hp => ?_)
    rcases hW with hW | hW
    · rw [ho] at hW; simp [kindOf] at hW
    · have := h3 .only
      rw [ho] at this
      rw [hev] at hp
      cases p with
      | ptr b off =>
        simp only [memOk,hp] at this
        simp only [cellsOf,k.heap b (by omega) (fun hb => this.1 (hW b hb))]
      | _ => rfl
  · exact .inr h

theorem wild_of {o : Oper} {fl n : Nat} (h : wild o fl = false) (hne : kindOf o.op = .C ∨ kindOf o.op = .S) : ∀ b ∈ (limOf fl W n).of, b ∈ W := by
  intro b hb
  have hfl : fl ≠ 0 := by
    intro e; subst e
    rcases hne with hne | hne <;> simp [wild,hne] at h
  unfold limOf at hb
  rw [if_neg hfl] at hb
  split at hb
  · exact hb
  · simp [Lim.of] at hb
end
end Go.PV
