/- Regions in which an order is drawn: the text's order is enough. -/
import Derived.Test.YtpgfcfojojemjaaPVx
namespace Go.PV
set_option linter.unusedVariables false
set_option linter.unusedSimpArgs false

section
variable {P : Program} {W : List Nat} {N0 : Nat} {ops : Array Oper}

theorem Keeps.mono {W W' : List Nat} {s s' : St} (k : Keeps W s s') (h : ∀ b ∈ W, b ∈ W') : Keeps W' s s' := ⟨k.slots, k.le, fun b hb hW => k.heap b hb fun hb' => hW (h b hb')⟩

theorem DRun1.keeps0 {o : Oper} {fl : Nat} {K : V → St → Prop} {s : St} (hk : ¬ (kindOf o.op = .C ∨ kindOf o.op = .S)) (h : DRun1 P W N0 ops o fl K s) : DRun1 P W N0 ops o fl (fun v s' => K v s' ∧ Keeps [] s s') s := by
  rcases h with ⟨h1,h2,h3⟩ | ⟨h1,h2⟩
  · refine .inl ⟨h1,h2, ?_⟩
    have hm : memOk .only W N0 s o.op := by
      generalize o.op = op at *
      cases op <;> simp [kindOf] at hk <;> first | trivial | exact h2
    clear h2
    unfold WRun at *
    split
    · rename_i v hv; simp only [hv] at h3; exact ⟨h3, .refl _ _⟩
    · rename_i hv
      simp only [hv] at h3
      split
      · rename_i hlv; simp only [hlv] at h3; exact ⟨h3,loudV_keeps hm (by simp) hlv⟩
      · rename_i hlv
        simp only [hlv] at h3
        clear hv hlv hm
        generalize o.op = op at *
        cases op <;> first | exact h3.elim | skip
        rename_i c
        obtain ⟨callee,args,ts⟩ := c
        cases callee <;> first | exact h3.elim | skip
        exact absurd (.inl rfl) hk
  · exact .inr ⟨h1,h2, .refl _ _⟩
theorem DRun1.keepsW {o : Oper} {fl : Nat} {K : V → St → Prop} {s : St} (hw : wild o fl = false) (h : DRun1 P W N0 ops o fl K s) : DRun1 P W N0 ops o fl (fun v s' => K v s' ∧ Keeps W s s') s := by
  by_cases hk : kindOf o.op = .C ∨ kindOf o.op = .S
  · exact h.keeps.mono fun v s' hv => ⟨hv.1,hv.2.mono (wild_of hw hk)⟩
  · exact (h.keeps0 hk).mono fun v s' hv => ⟨hv.1,hv.2.mono (by simp)⟩

theorem DRun1.isC {o : Oper} {fl : Nat} {K : V → St → Prop} {s : St} (hc : kindOf o.op = .C) (hf : 2 ≤ fl) (h : DRun1 P W N0 ops o fl K s) : ∃ v, K v s ∧ ∀ s' : St, s'.slots = s.slots → ∀ K' : V → St → Prop, K' v s' → DRun1 P W N0 ops o fl K' s' := by
  rcases h with ⟨h1,h2,h3⟩ | ⟨h1,h2⟩
  · have hlim : ∀ n,limOf fl W n = .only := fun n => by unfold limOf; rw [if_neg (by omega),if_neg (by omega)]
    rw [hlim] at h3
    obtain ⟨odst,op,ty,pos,after,guard⟩ := o
    simp only at hc h3
    cases op <;> first | (simp [kindOf] at hc; done) | skip
    rename_i c
    obtain ⟨callee,args,ts⟩ := c
    cases callee <;> first | (simp [kindOf] at hc; done) | skip
    · rename_i f
      have hev : ∀ s' : St,s'.slots = s.slots → ∀ x,ev s' x = ev s x := fun s' hs x => by cases x <;> simp only [ev,hs]
      obtain ⟨fid,caps,xs,e1,e2,e3⟩ := h3
      cases e3 with
      | pure r c hp hr hK =>
        refine ⟨r.bare,hK,fun s' hs' K' hK' => .inl ⟨by rw [wantV_slots hs']; exact h1,trivial, ?_⟩⟩
        rw [hlim]
        exact ⟨fid,caps,xs,by rw [hev s' hs']; exact e1,by rw [evL_congr (s' := s) (fun x _ => hev s' hs' x)]; exact e2, .pure r c hp hr hK'⟩
      | some_ R h _ _ _ => cases h
      | lend ys r hlim c hy hr hK => exact absurd rfl hlim
      | gen R hlim e c hK =>
        rcases hlim with h | ⟨⟨W,h,_⟩,_⟩
        · cases h
        · cases h
      | ref ρ args' hl' R c hf hn hh hown hlim' hne hK => exact hlim'.elim
    · rename_i b
      cases b <;> (simp [kindOf] at hc)
  · exact ⟨_,h2,fun s' hs' K' hK' => .inr ⟨by rw [wantV_slots hs']; exact h1,hK'⟩⟩
theorem DRun1.isA {o : Oper} {fl : Nat} {K : V → St → Prop} {s : St} (ha : kindOf o.op = .A) (h : DRun1 P W N0 ops o fl K s) : ∃ v s1, K v s1 ∧ s1.slots = s.slots ∧ ∀ K' : V → St → Prop, K' v s1 → DRun1 P W N0 ops o fl K' s := by
  rcases h with ⟨h1,h2,h3⟩ | ⟨h1,h2⟩
  · obtain ⟨odst,op,ty,pos,after,guard⟩ := o
    simp only at ha h3
    cases op <;> first | (simp [kindOf] at ha; done) | skip
    · unfold WRun at h3
      simp only [opV] at h3
      cases hl : loudV P s (.alloc _) with
      | none => rw [hl] at h3; exact h3.elim
      | some q =>
        obtain ⟨v,h,ow,nx⟩ := q
        rw [hl] at h3
        refine ⟨v,_,h3,rfl,fun K' hK' => .inl ⟨h1,trivial, ?_⟩⟩
        unfold WRun
        simp only [opV,hl]
        exact hK'
    · rename_i c
      obtain ⟨callee,args,ts⟩ := c
      cases callee <;> first | (simp [kindOf] at ha; done) | skip
      rename_i b
      cases b <;> (simp [kindOf] at ha)
  · exact ⟨_,s,h2,rfl,fun K' hK' => .inr ⟨h1,hK'⟩⟩

theorem swapCA {x o : Oper} {fx fo : Nat} (hc : kindOf x.op = .C) (hf : 2 ≤ fx) (ha : kindOf o.op = .A)
    (a1 : ∀ d,x.dst = some d → d ∉ o.looksAt ops) (a2 : ∀ d,x.dst = some d → o.dst ≠ some d) (a3 : ∀ d,o.dst = some d → d ∉ x.looksAt ops) {M : St → Prop} {s : St}
    (h : DRun1 P W N0 ops x fx (fun v s' => DRun1 P W N0 ops o fo (fun u s'' => M (s''.put o.dst u)) (s'.put x.dst v)) s) :
    DRun1 P W N0 ops o fo (fun u s' => DRun1 P W N0 ops x fx (fun v s'' => M (s''.put x.dst v)) (s'.put o.dst u)) s := by
  obtain ⟨v,h1,hx⟩ := h.isC hc hf
  rw [DRun1.put_iff a1] at h1
  obtain ⟨u,s1,hm,hs1,ho⟩ := h1.isA ha
  refine ho _ ?_
  rw [DRun1.put_iff a3]
  refine hx s1 hs1 _ ?_
  rw [← put_comm s1 v u a2]
  exact hm

theorem swap {x o : Oper} {fx fo : Nat} (hs : swapOk ops x fx o fo = true) {M : St → Prop} {s : St} (hN : N0 ≤ s.heap.length)
    (h : DRun1 P W N0 ops x fx (fun v s' => DRun1 P W N0 ops o fo (fun u s'' => M (s''.put o.dst u)) (s'.put x.dst v)) s) :
    DRun1 P W N0 ops o fo (fun u s' => DRun1 P W N0 ops x fx (fun v s'' => M (s''.put x.dst v)) (s'.put o.dst u)) s := by
  simp only [swapOk,Bool.and_eq_true] at hs
  obtain ⟨hap,hk⟩ := hs
  obtain ⟨a1,a2,a3⟩ := Oper.apart_spec hap
  have a2' : ∀ d,o.dst = some d → x.dst ≠ some d := fun d hd hx => a2 d hx hd
  -- x is quiet
  have L1 : (kindOf x.op = .Q ∨ (kindOf x.op = .L ∧ wild o fo = false)) → DRun1 P W N0 ops o fo (fun u s' => DRun1 P W N0 ops x fx (fun v s'' => M (s''.put x.dst v)) (s'.put o.dst u)) s := fun hx => by
    obtain ⟨v,h1,hy⟩ := h.quiet (hx.imp id And.left)
    rw [DRun1.put_iff a1] at h1
    have fin : ∀ u s' W',(kindOf x.op = .Q ∨ ∀ b ∈ W',b ∈ W) → M ((s'.put x.dst v).put o.dst u) → Keeps W' s s' → DRun1 P W N0 ops x fx (fun v s'' => M (s''.put x.dst v)) (s'.put o.dst u) := fun u s' W' hW hm k => by
      rw [put_comm s' v u a2] at hm
      refine Yl.run ?_ hm
      rw [Yl.put a3]
      exact (Yl.keep hW hN k).2 hy
    rcases hx with hx | ⟨hx,hw⟩
    · exact h1.keeps.mono fun u s' hu => fin u s' _ (.inl hx) hu.1 hu.2
    · exact (h1.keepsW hw).mono fun u s' hu => fin u s' W (.inr fun _ h => h) hu.1 hu.2
  -- o is quiet
  have L2 : (kindOf o.op = .Q ∨ (kindOf o.op = .L ∧ wild x fx = false)) → DRun1 P W N0 ops o fo (fun u s' => DRun1 P W N0 ops x fx (fun v s'' => M (s''.put x.dst v)) (s'.put o.dst u)) s := fun ho => by
    have h2 : DRun1 P W N0 ops x fx (fun v s' => ∃ u,M ((s'.put x.dst v).put o.dst u) ∧ Yl P W N0 ops o u s) s := by
      have fin : ∀ v s' W',(kindOf o.op = .Q ∨ ∀ b ∈ W',b ∈ W) → DRun1 P W N0 ops o fo (fun u s'' => M (s''.put o.dst u)) (s'.put x.dst v) → Keeps W' s s' → ∃ u,M ((s'.put x.dst v).put o.dst u) ∧ Yl P W N0 ops o u s := fun v s' W' hW hd k => by
        obtain ⟨u,hm,hy⟩ := hd.quiet (ho.imp id And.left)
        rw [Yl.put a1] at hy
        exact ⟨u,hm,(Yl.keep hW hN k).1 hy⟩
      rcases ho with ho' | ⟨ho',hw⟩
      · exact h.keeps.mono fun u s' hu => fin u s' _ (.inl ho') hu.1 hu.2
      · exact (h.keepsW hw).mono fun u s' hu => fin u s' W (.inr fun _ h => h) hu.1 hu.2
    obtain ⟨u,hy⟩ : ∃ u,Yl P W N0 ops o u s := (h2.mono (K' := fun _ _ => ∃ u,Yl P W N0 ops o u s) (fun v s' ⟨u,_,hy⟩ => ⟨u,hy⟩)).const
    refine Yl.run hy ?_
    rw [DRun1.put_iff a3]
    refine h2.mono (fun v s' hv => ?_)
    obtain ⟨u',hm,hy'⟩ := hv
    have huu : u' = u := by
      rcases hy with ⟨h1,h2,_⟩ | ⟨h1,rfl⟩ <;> rcases hy' with ⟨h1',h2',_⟩ | ⟨h1',rfl⟩
      · rw [h2] at h2'; exact (Option.some.inj h2').symm
      · rw [h1] at h1'; cases h1'
      · rw [h1] at h1'; cases h1'
      · rfl
    subst huu
    rw [put_comm s' v u' a2] at hm
    exact hm
  -- the kinds
  unfold kindsOk at hk
  split at hk
  · rename_i hq
    rcases hq with hq | hq
    · exact L1 (.inl hq)
    · exact L2 (.inl hq)
  · split at hk
    · rename_i hl; exact L1 (.inr ⟨hl,by simpa using hk⟩)
    · split at hk
      · rename_i hl; exact L2 (.inr ⟨hl,by simpa using hk⟩)
      · simp only [Bool.and_eq_true,beq_iff_eq,decide_eq_true_eq] at hk
        obtain ⟨⟨hc,hf⟩,ha⟩ := hk
        exact swapCA hc hf ha a1 a2 a3 h
end
end Go.PV
