/- Code over abstract states: weakest preconditions; a function's contract out of its body. -/
import Derived.Test.YtpgfcfojojemjaaPVt
import Derived.Scope
namespace Go.PV
set_option linter.unusedVariables false
set_option linter.unusedSimpArgs false

/-- from state s the code ends as K says -/
def WC (P : Program) (c : Code) (K : Exit → St → Prop) (s : St) : Prop :=
  ∀ (w0 : World) (G0 : Gh) (a : Act) (w : World) (Q : Exit → Act → World → Prop),CInv w0 G0 s a w → (∀ e s' a' w',K e s' → CInv w0 G0 s' a' w' → Q e a' w') → c.wp P Q a w

/-- behind a first part -/
def Exit.after (next : St → Prop) (K : Exit → St → Prop) : Exit → St → Prop
  | .normal,s => next s
  | e,s => K e s

section
variable {P : Program} {K K' : Exit → St → Prop} {s : St}

theorem WC.mono {c : Code} (h : WC P c K s) (hk : ∀ e s, K e s → K' e s) : WC P c K' s :=
  fun w0 G0 a w Q hc hQ => h w0 G0 a w Q hc (fun e s' a' w' hK => hQ e s' a' w' (hk e s' hK))
theorem WC_skip (h : K .normal s) : WC P .skip K s := fun w0 G0 a w Q hc hQ => wp_skip (hQ _ _ _ _ h hc)
theorem WC_label {l : Nat} (h : K .normal s) : WC P (.label l) K s := fun w0 G0 a w Q hc hQ => wp_label (hQ _ _ _ _ h hc)
theorem WC_exit {id : Nat} (h : K (.exit id) s) : WC P (.exit id) K s := fun w0 G0 a w Q hc hQ => wp_exit (hQ _ _ _ _ h hc)
theorem WC_goto {l : Nat} (h : K (.goto l) s) : WC P (.goto l) K s := fun w0 G0 a w Q hc hQ => wp_goto (hQ _ _ _ _ h hc)
theorem WC_ret (h : K .ret s) : WC P .ret K s := fun w0 G0 a w Q hc hQ => wp_ret (hQ _ _ _ _ h hc)
theorem WC_seq {x y : Code} (h : WC P x (Exit.after (WC P y K) K) s) : WC P (.seq x y) K s := by
  intro w0 G0 a w Q hc hQ
  refine wp_seq (h w0 G0 a w _ hc (fun e s' a' w' hK hc' => ?_))
  cases e with
  | normal => exact hK w0 G0 a' w' Q hc' hQ
  | _ => exact hQ _ _ _ _ hK hc'
/-- as WC_seq, what follows under a name -/
theorem WC_seq_k {x y : Code} (h : ∀ N : St → Prop, (∀ s, WC P y K s → N s) → WC P x (Exit.after N K) s) : WC P (.seq x y) K s :=
  WC_seq (h _ fun _ h => h)
theorem WC_region {id : Nat} {ops : Array Oper} (h : WOps P ops ops.toList (K .normal) s) : WC P (.region id ops false) K s :=
  fun w0 G0 a w Q hc hQ => wRegion_sound h hc (fun s' a' w' hK hc' => hQ _ _ _ _ hK hc')
theorem WC_cond {c : Operand} {x y : Code} {b : Bool} (hb : ev s c = some (.bool b)) (ht : b = true → WC P x K s) (hf : b = false → WC P y K s) : WC P (.cond c x y) K s := by
  intro w0 G0 a w Q hc hQ
  have he : a.eval c = .bool b := by
    obtain ⟨G,hs,I,hd⟩ := hc
    have := ev_rep hs hb
    generalize a.eval c = v at this
    cases this; rfl
  exact wp_cond_split he (fun h => ht h w0 G0 a w Q hc hQ) (fun h => hf h w0 G0 a w Q hc hQ)
/-- out of a block -/
def Exit.out (id : Nat) (K : Exit → St → Prop) : Exit → St → Prop
  | .exit id',s => if id' = id then K .normal s else K (.exit id') s
  | e,s => K e s
theorem WC_block {id : Nat} {c : Code} (h : WC P c (Exit.out id K) s) : WC P (.block id c) K s := by
  intro w0 G0 a w Q hc hQ
  refine wp_block (h w0 G0 a w _ hc (fun e s' a' w' hK hc' => ?_))
  cases e with
  | exit id' =>
    simp only [Exit.out,Exit.inBlock] at hK ⊢
    split
    · rename_i he; rw [if_pos he] at hK; exact hQ _ _ _ _ hK hc'
    · rename_i he; rw [if_neg he] at hK; exact hQ _ _ _ _ hK hc'
  | _ => exact hQ _ _ _ _ hK hc'

theorem wp_loop_g {σ : Type} {c : Code} {Q : Exit → Act → World → Prop} (I : σ → Act → World → Prop) (μ : σ → Nat) {t : σ} {a : Act} {w : World} (h₀ : I t a w)
    (round : ∀ t a w,I t a w → c.wp P (Exit.then (fun a' w' => ∃ t',I t' a' w' ∧ μ t' < μ t) Q) a w) : (Code.loop c).wp P Q a w := by
  intro b k cs
  have key : ∀ n t a w, μ t = n → I t a w →
      ∃ e a' w',Q e a' w' ∧ Arrives P (lone (b.at a (.code c :: .inLoop c :: k)) cs w) b k cs e a' w' := by
    intro n
    induction n using Nat.strongRecOn with
    | _ n ih =>
      intro t a w hn hI
      obtain ⟨e,a₁,w₁,hq,harr⟩ := round t a w hI b (.inLoop c :: k) cs
      cases e with
      | normal =>
        obtain ⟨t₁,hI₁,hlt⟩ := hq
        obtain ⟨e₂,a₂,w₂,hq₂,harr₂⟩ := ih (μ t₁) (hn ▸ hlt) t₁ a₁ w₁ rfl hI₁
        exact ⟨e₂,a₂,w₂,hq₂, .of_steps (Steps.trans harr (.one step_inLoop)) harr₂⟩
      | exit id => exact ⟨_,a₁,w₁,hq, .pass (x := .inLoop c) rfl (fun _ _ => .inl (by simp)) harr⟩
      | goto l => exact ⟨_,a₁,w₁,hq, .pass (x := .inLoop c) rfl (fun _ _ => .inl (by simp)) harr⟩
      | ret => exact ⟨_,a₁,w₁,hq, .pass (x := .inLoop c) rfl (fun _ _ => .inl (by simp)) harr⟩
      | panic ch => exact ⟨_,a₁,w₁,hq, .pass (x := .inLoop c) rfl (fun _ _ => .inl (by simp)) harr⟩
      | outgrown => exact ⟨_,a₁,w₁,hq, .pass (x := .inLoop c) rfl (fun _ _ => .inl (by simp)) harr⟩
  obtain ⟨e,a',w',hq,harr⟩ := key _ t a w rfl h₀
  exact ⟨e,a',w',hq, .of_steps (.one step_loop) harr⟩

/-- a loop with a ghost -/
theorem WC_loopG {σ : Type} {c : Code} (I : σ → St → Prop) (μ : σ → Nat) (t0 : σ) (h0 : I t0 s) (round : ∀ t s, I t s → WC P c (Exit.after (fun s' => ∃ t', I t' s' ∧ μ t' < μ t) K) s) : WC P (.loop c) K s := by
  intro w0 G0 a w Q hc hQ
  refine wp_loop_g (σ := σ) (fun t a w => ∃ s,I t s ∧ CInv w0 G0 s a w) μ (t := t0) ⟨s,h0,hc⟩ (fun t a w hI => ?_)
  obtain ⟨s1,hI,hc1⟩ := hI
  refine round t s1 hI w0 G0 a w _ hc1 (fun e s' a' w' hK hc' => ?_)
  cases e with
  | normal => obtain ⟨t',ht,hlt⟩ := hK; exact ⟨t',⟨s',ht,hc'⟩,hlt⟩
  | _ => exact hQ _ _ _ _ hK hc'

/-- by a goto to a label -/
def Exit.at (J : Nat → St → Prop) (K : Exit → St → Prop) : Exit → St → Prop
  | .goto l,s => J l s
  | e,s => K e s

theorem wp_scope_g {σ : Type} {c : Code} {Q : Exit → Act → World → Prop} (J : Nat → σ → Act → World → Prop) (μ : Nat → σ → Nat) {a : Act} {w : World}
    (first : c.wp P (fun e a w => match e with | .goto l => ∃ t,J l t a w | e => Q e a w) a w)
    (pass : ∀ l t a w,J l t a w → ∃ rest,findLabel c l = some rest ∧ rest.wp P (fun e a' w' => match e with | .goto l' => ∃ t',J l' t' a' w' ∧ μ l' t' < μ l t | e => Q e a' w') a w) :
    (Code.scope c).wp P Q a w := by
  intro b k cs
  have key : ∀ n l t a w rest, μ l t = n → J l t a w → findLabel c l = some rest → ∃ e a' w',Q e a' w' ∧ Arrives P (lone (b.at a (.code rest :: .inScope c :: k)) cs w) b k cs e a' w' := by
    intro n
    induction n using Nat.strongRecOn with
    | _ n ih =>
      intro l t a w rest hn hJ hf
      obtain ⟨rest',hf',hp⟩ := pass l t a w hJ
      rw [hf] at hf'
      obtain rfl := Option.some.inj hf'
      obtain ⟨e,a₁,w₁,hq,harr⟩ := hp b (.inScope c :: k) cs
      cases e with
      | normal => exact ⟨.normal,a₁,w₁,hq,Steps.trans harr (.one step_inScope)⟩
      | exit id => exact ⟨.exit id,a₁,w₁,hq,fun k' hk => harr k' (by simp [exitTo,hk])⟩
      | goto l' =>
        obtain ⟨t',hJ',hlt⟩ := hq
        obtain ⟨r2,hf2,_⟩ := pass l' t' a₁ w₁ hJ'
        obtain ⟨e₂,a₂,w₂,hq₂,harr₂⟩ := ih _ (hn ▸ hlt) l' t' a₁ w₁ r2 rfl hJ' hf2
        exact ⟨e₂,a₂,w₂,hq₂, .of_steps (harr _ (by simp [gotoIn,hf2])) harr₂⟩
      | ret => exact ⟨_,a₁,w₁,hq,harr⟩
      | panic ch => exact ⟨_,a₁,w₁,hq,harr⟩
      | outgrown => exact ⟨_,a₁,w₁,hq,harr⟩
  obtain ⟨e,a₁,w₁,hq,harr⟩ := first b (.inScope c :: k) cs
  cases e with
  | normal => exact ⟨.normal,a₁,w₁,hq, .head step_scope (Steps.trans harr (.one step_inScope))⟩
  | exit id => exact ⟨.exit id,a₁,w₁,hq,fun k' hk => .head step_scope (harr k' (by simp [exitTo,hk]))⟩
  | goto l' =>
    obtain ⟨t',hJ'⟩ := hq
    obtain ⟨r2,hf2,_⟩ := pass l' t' a₁ w₁ hJ'
    obtain ⟨e₂,a₂,w₂,hq₂,harr₂⟩ := key _ l' t' a₁ w₁ r2 rfl hJ' hf2
    exact ⟨e₂,a₂,w₂,hq₂, .of_steps (.head step_scope (harr _ (by simp [gotoIn,hf2]))) harr₂⟩
  | ret => exact ⟨_,a₁,w₁,hq, .of_steps (.one step_scope) harr⟩
  | panic ch => exact ⟨_,a₁,w₁,hq, .of_steps (.one step_scope) harr⟩
  | outgrown => exact ⟨_,a₁,w₁,hq, .of_steps (.one step_scope) harr⟩

/-- a scope with labels: what holds at each goto, and a measure that each pass lowers -/
theorem WC_scope {σ : Type} {c : Code} (J : Nat → σ → St → Prop) (μ : Nat → σ → Nat) (first : WC P c (Exit.at (fun l s' => ∃ t, J l t s') K) s)
    (pass : ∀ l t s,J l t s → ∃ rest,findLabel c l = some rest ∧ WC P rest (Exit.at (fun l' s' => ∃ t',J l' t' s' ∧ μ l' t' < μ l t) K) s) : WC P (.scope c) K s := by
  intro w0 G0 a w Q hc hQ
  refine wp_scope_g (σ := σ) (fun l t a w => ∃ s,J l t s ∧ CInv w0 G0 s a w) μ (first w0 G0 a w _ hc (fun e s' a' w' hK hc' => ?_)) (fun l t a w hJ => ?_)
  · cases e with
    | goto l => obtain ⟨t,ht⟩ := hK; exact ⟨t,s',ht,hc'⟩
    | _ => exact hQ _ _ _ _ hK hc'
  · obtain ⟨s1,hJ,hc1⟩ := hJ
    obtain ⟨rest,hf,hp⟩ := pass l t s1 hJ
    refine ⟨rest,hf,hp w0 G0 a w _ hc1 (fun e s' a' w' hK hc' => ?_)⟩
    cases e with
    | goto l' => obtain ⟨t',ht,hlt⟩ := hK; exact ⟨t',⟨s',ht,hc'⟩,hlt⟩
    | _ => exact hQ _ _ _ _ hK hc'

/-! ## slots that nobody reads any more -/
end
end Go.PV
