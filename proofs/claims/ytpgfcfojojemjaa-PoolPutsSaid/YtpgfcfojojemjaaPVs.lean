/- A call that is handed blocks and tokens: what the caller has behind it. -/
import Derived.Test.YtpgfcfojojemjaaPVr
namespace Go.PV
set_option linter.unusedVariables false
set_option linter.unusedSimpArgs false
section
variable {P : Program} {w w' : World} {G G' : Gh}

/-- the ghost that the callee begins with -/
def Gh.callee (G : Gh) (ρ : List Nat) (given : List (Nat × Nat)) : Gh :=
  { G with nb := ρ.length,mu := fun i => G.mu (ρ.getD i 0),tk := fun id n => if given.contains (id,n) then G.tk id n else none }
/-- the ghost that the caller goes on with -/
def Gh.behind (G G1 : Gh) (n : Nat) (given : List (Nat × Nat)) : Gh :=
  { S := G1.S,nb := G.nb + (G1.nb - n),mu := fun b => if b < G.nb then G.mu b else G1.mu (b - G.nb + n),nx := G1.nx,
    mx := fun id => if (G.nx ≤ id) ∨ given.any (fun g => g.1 == id) then G1.mx id else G.mx id,
    tk := fun id m => match G1.tk id m with
      | some T => some T
      | none => if given.any (fun g => g.1 == id) then none else G.tk id m }

theorem call_ref {w0 : World} {G0 : Gh} {heap own next} (I : Inv w0 G0 heap own next w G) {f : FuncId} {xs args' : List V} {hl : List (List V)} {ρ : List Nat} {R : V → List (List V) → Prop}
    (c : VC P f args' hl R) {cargs : Array Value} (hx : LR w G cargs.toList xs) (hf : xs.length = args'.length ∧ ∀ (k : Nat) x x',xs[k]? = some x → args'[k]? = some x' → Fits ρ x x')
    (hn : ρ.Nodup) (hlt : ∀ b ∈ ρ,b < heap.length) (hll : hl.length = ρ.length)
    (hh : ∀ (i b : Nat) (cs' : List V), ρ[i]? = some b → hl[i]? = some cs' → ∃ cs : List V,heap[b]? = some cs ∧ cs.length = cs'.length ∧ ∀ (k : Nat) x x',cs[k]? = some x → cs'[k]? = some x' → FitsC ρ x x')
    (hown : ∀ q ∈ ownOf args' hl,q ∈ own) :
    Calls P f cargs w fun e w' => ∃ v G' r h' next',e = .returned v ∧ R r h' ∧ next ≤ next' ∧ ρ.length ≤ h'.length ∧ Rep w' G' v (ren (rhoAfter heap.length ρ h'.length) r) ∧
      Inv w0 G0 (heapAfter heap ρ h') (ownAfter own (ownOf args' hl) (ownOf [r] h')) next' w' G' ∧ Mono w G w' G' := by
  obtain ⟨given,hgiven⟩ : ∃ given,given = ownOf args' hl := ⟨_,rfl⟩
  rw [← hgiven] at hown ⊢
  have hnb := I.heap.nb
  have hρ : ∀ i b, ρ[i]? = some b → b < G.nb := fun i b h => by rw [hnb]; exact hlt b (List.mem_of_getElem? h)
  have hgetD : ∀ i b, ρ[i]? = some b → ρ.getD i 0 = b := fun i b h => by simp [List.getD,h]
  have hback : Back ρ w G (G.callee ρ given) := by
    refine ⟨fun _ _ h => h,fun i b hb _ => ⟨(List.getElem?_eq_some_iff.1 hb).1,by simp only [Gh.callee,hgetD i b hb]⟩,Nat.le_refl _,fun _ _ => Nat.le_refl _,fun id n T _ _ h => ?_⟩
    simp only [Gh.callee] at h
    split at h
    · exact h
    · simp at h
  have hctk : ∀ id n T,(G.callee ρ given).tk id n = some T → (id,n) ∈ given ∧ G.tk id n = some T := fun id n T h => by
    simp only [Gh.callee] at h
    split at h
    · rename_i hc; exact ⟨by simpa using hc,h⟩
    · simp at h
  have hcmu : ∀ i,i < ρ.length → ∃ b, ρ[i]? = some b ∧ (G.callee ρ given).mu i = G.mu b ∧ b < G.nb := fun i hi => by
    have hb := List.getElem?_eq_getElem hi
    exact ⟨ρ[i],hb,by simp only [Gh.callee,hgetD i _ hb],hρ i _ hb⟩
  -- what the callee needs
  have h1 : LR w (G.callee ρ given) cargs.toList args' := by
    refine ⟨by rw [hx.len,hf.1],fun k y hk => ?_⟩
    have hkl := (List.getElem?_eq_some_iff.1 hk).1
    rw [← hf.1] at hkl
    obtain ⟨hok,hfit⟩ := hf.2 k xs[k] y (List.getElem?_eq_getElem hkl) hk
    have hr := hx.rep k _ (List.getElem?_eq_getElem hkl)
    rcases hfit with hfit | hfit
    · exact Rep.back1 hback hok (by rw [hfit]; exact hr)
    · exact Rep.back1 hback hok (by rw [hfit]; exact hr.bare1)
  have h2 : HeapOk w (G.callee ρ given) hl := by
    refine ⟨hll.symm,fun i cs' hi => ?_,fun i j hi hj hm => ?_,fun i o hi h => ?_⟩
    · have hil := (List.getElem?_eq_some_iff.1 hi).1
      obtain ⟨b,hb,hmu,hbn⟩ := hcmu i (by omega)
      obtain ⟨cs,hcs,hlen,hfit⟩ := hh i b cs' hb hi
      obtain ⟨arr,e,ha,has,hrr⟩ := I.heap.blk b cs hcs
      refine ⟨arr,e,by rw [hmu]; exact ha,by omega,fun k y hk => ?_⟩
      have hkl := (List.getElem?_eq_some_iff.1 hk).1
      rw [← hlen] at hkl
      obtain ⟨hok,hcell,hfit'⟩ := hfit k cs[k] y (List.getElem?_eq_getElem hkl) hk
      have hr := (hrr k _ (List.getElem?_eq_getElem hkl)).2
      refine ⟨hcell, ?_⟩
      rcases hfit' with hfit' | hfit'
      · exact Rep.backC hback hok (by rw [hfit']; exact hr)
      · exact Rep.backC hback hok (by rw [hfit']; exact hr.bareC)
    · have hi' : i < ρ.length := hi
      have hj' : j < ρ.length := hj
      obtain ⟨b,hb,hmu,hbn⟩ := hcmu i hi'
      obtain ⟨b',hb',hmu',hbn'⟩ := hcmu j hj'
      rw [hmu,hmu'] at hm
      obtain rfl := I.heap.inj b b' hbn hbn' hm
      exact (List.getElem?_inj hi' hn).1 (by rw [hb,hb'])
    · obtain ⟨b,hb,hmu,hbn⟩ := hcmu i hi
      rw [hmu] at h
      exact I.heap.notS b o hbn h
  have h3 : OwnOk w (G.callee ρ given) (ownOf args' hl) := by
    rw [← hgiven]
    refine ⟨fun id n h => ?_,fun id n T h => I.own.ok id n T (hctk id n T h).2,fun id n T h => I.own.there id n T (hctk id n T h).2,fun id n T k h => I.own.notS id n T k (hctk id n T h).2,fun id n T i k h hk hi => ?_,
      fun id n T id' n' T' k h h' => I.own.apart id n T id' n' T' k (hctk id n T h).2 (hctk id' n' T' h').2⟩
    · obtain ⟨T,hT⟩ := I.own.mem id n (hown _ h)
      exact ⟨T,by simp only [Gh.callee]; rw [if_pos (by simpa using h)]; exact hT⟩
    · obtain ⟨b,hb,hmu,hbn⟩ := hcmu i hi
      rw [hmu]
      exact I.own.notMu id n T b k (hctk id n T h).2 hk hbn
  refine (c.2 w (G.callee ρ given) cargs h1 h2 h3 I.sok).mono ?_
  rintro e w' ⟨v,G1,r,h',he,hRr,hr,hh1,ho1,hs1,hsi,hm⟩
  -- what the callee has done
  have hn1 : G1.nb = h'.length := hh1.nb
  have hnle : ρ.length ≤ h'.length := by rw [← hn1]; exact hm.nb
  have hgid : ∀ id,given.any (fun g => g.1 == id) = true → ∃ n T,(id,n) ∈ given ∧ G.tk id n = some T := fun id h => by
    obtain ⟨⟨i,n⟩,hg,hi⟩ := List.any_eq_true.1 h
    obtain rfl : i = id := by simpa using hi
    obtain ⟨T,hT⟩ := I.own.mem i n (hown _ hg)
    exact ⟨n,T,hg,hT⟩
  have hgn : ∀ id n n',(id,n) ∈ given → ∀ T,G.tk id n' = some T → n' = n := fun id n n' h T hT => by
    obtain ⟨T',hT'⟩ := I.own.mem id n (hown _ h)
    rw [(I.own.ok id n' T hT).2.2.2.1,(I.own.ok id n T' hT').2.2.2.1]
  have h1id : ∀ id n T,G1.tk id n = some T → given.any (fun g => g.1 == id) = true ∨ G.nx ≤ id := fun id n T h => by
    rcases hsi.tkId id n T h with ⟨n0,T0,h0⟩ | h0
    · exact .inl (List.any_eq_true.2 ⟨(id,n0),(hctk id n0 T0 h0).1,by simp⟩)
    · exact .inr h0
  have hkept : ∀ id n T,G.tk id n = some T → given.any (fun g => g.1 == id) = false → ∀ k,T.has k → (∀ o,Wr (G.callee ρ given) T.blk o → o ≠ k ∨ False) ∧ ¬ Wr (G.callee ρ given) T.blk k := fun id n T hT hg k hk => by
    have : ¬ Wr (G.callee ρ given) T.blk k := by
      rintro (⟨i,hi,hmi⟩ | ⟨id',n',T',hT',hb',hk'⟩)
      · obtain ⟨b,hb,hmu,hbn⟩ := hcmu i hi
        rw [hmu] at hmi
        exact I.own.notMu id n T b k hT hk hbn hmi
      · obtain ⟨hg',hT''⟩ := hctk id' n' T' hT'
        have := I.own.apart id n T id' n' T' k hT hT'' hb'.symm hk hk'
        subst this
        have : given.any (fun g => g.1 == id) = true := List.any_eq_true.2 ⟨(id,n'),hg',by simp⟩
        rw [hg] at this; simp at this
    exact ⟨fun o ho => .inl (fun e => this (e ▸ ho)),this⟩
  have hwr0 : ∀ b o,Wr (G.callee ρ given) b o → Wr G0 b o ∨ w0.heap.size ≤ b := by
    rintro b o (⟨i,hi,hmi⟩ | ⟨id',n',T',hT',hb',hk'⟩)
    · obtain ⟨b',hb',hmu,hbn⟩ := hcmu i hi
      rw [hmu] at hmi
      by_cases hb0 : b' < G0.nb
      · exact .inl (.inl ⟨b',hb0,by rw [← I.mono.mu b' hb0]; exact hmi⟩)
      · have := I.since.newMu b' (by omega) hbn
        exact .inr (by omega)
    · have := I.since.newTk id' n' T' o (hctk id' n' T' hT').2 hk'
      rwa [hb'] at this
  obtain ⟨G2,hG2⟩ : ∃ G2,G2 = G.behind G1 ρ.length given := ⟨_,rfl⟩
  have g2nb : G2.nb = G.nb + (G1.nb - ρ.length) := by rw [hG2]; rfl
  have g2old : ∀ b,b < G.nb → G2.mu b = G.mu b := fun b hb => by rw [hG2]; simp only [Gh.behind]; rw [if_pos hb]
  have g2new : ∀ j,G2.mu (G.nb + j) = G1.mu (j + ρ.length) := fun j => by
    rw [hG2]; simp only [Gh.behind]; rw [if_neg (by omega)]; congr 1; omega
  have g2tk1 : ∀ id n T,G1.tk id n = some T → G2.tk id n = some T := fun id n T h => by rw [hG2]; simp only [Gh.behind,h]
  have g2tk : ∀ id n T,G2.tk id n = some T → G1.tk id n = some T ∨ (given.any (fun g => g.1 == id) = false ∧ G.tk id n = some T) := fun id n T h => by
    rw [hG2] at h
    simp only [Gh.behind] at h
    split at h
    · rename_i T1 h1; left; rw [h1]; exact h
    · split at h
      · simp at h
      · rename_i hg; exact .inr ⟨Bool.eq_false_iff.2 hg,h⟩
  have g2S : G2.S = G1.S := by rw [hG2]; rfl
  have g2nx : G2.nx = G1.nx := by rw [hG2]; rfl
  have hnx : G.nx ≤ G1.nx := hm.nx
  have hmx : ∀ id,id < G.nx → G.mx id ≤ G1.mx id := fun id h => hm.mx id h
  have g2mx : ∀ id,G2.mx id = if (G.nx ≤ id) ∨ given.any (fun g => g.1 == id) then G1.mx id else G.mx id := fun id => by rw [hG2]; rfl
  have hmono : Mono w G w' G2 := by
    refine ⟨fun b o h => by rw [g2S]; exact hm.S b o h,by rw [g2nb]; exact Nat.le_add_right _ _,g2old,by rw [g2nx]; exact hnx,fun id h => ?_,fun id n T hid hn' h => ?_⟩
    · rw [g2mx]; split
      · exact hmx id h
      · exact Nat.le_refl _
    · rcases g2tk id n T h with h | h
      · exact (hctk id n T (hm.tk id n T hid hn' h)).2
      · exact h.2
  -- the callee's names and the caller's
  obtain ⟨ρ',hρ'⟩ : ∃ ρ', ρ' = rhoAfter heap.length ρ h'.length := ⟨_,rfl⟩
  have hρ'l : ρ'.length = h'.length := by rw [hρ']; simp [rhoAfter]; omega
  have hρ'old : ∀ i,i < ρ.length → ρ'[i]? = ρ[i]? := fun i hi => by rw [hρ']; simp only [rhoAfter]; rw [List.getElem?_append_left hi]
  have hρ'new : ∀ j, ρ.length + j < h'.length → ρ'[ρ.length + j]? = some (G.nb + j) := fun j hj => by
    rw [hρ']; simp only [rhoAfter]
    rw [List.getElem?_append_right (by omega),List.getElem?_map,List.getElem?_range (by omega)]
    simp [hnb]
  have hthru : Thru ρ' w' G1 w' G2 := by
    refine ⟨fun _ _ h => ⟨by rw [g2S]; exact h,rfl⟩,fun i b hb hi => ?_,by rw [g2nx]; exact Nat.le_refl _,fun id h => ?_,g2tk1⟩
    · by_cases hi' : i < ρ.length
      · rw [hρ'old i hi'] at hb
        have hbn := hρ i b hb
        obtain ⟨b',hb',hmu,_⟩ := hcmu i hi'
        rw [hb] at hb'
        obtain rfl := Option.some.inj hb'
        refine ⟨by rw [g2nb]; omega, ?_⟩
        rw [g2old b hbn,hm.mu i hi',hmu]
      · obtain ⟨j,rfl⟩ : ∃ j,i = ρ.length + j := ⟨i - ρ.length,by omega⟩
        rw [hρ'new j (by omega)] at hb
        obtain rfl := Option.some.inj hb
        refine ⟨by rw [g2nb]; omega, ?_⟩
        rw [g2new j]; congr 1; omega
    · rw [g2mx]; split
      · exact Nat.le_refl _
      · rename_i hc
        rw [not_or] at hc
        have hk := hsi.mxKeep id (by show id < G.nx; omega) (fun n => by
          cases hq : (G.callee ρ given).tk id n with
          | none => rfl
          | some T => exact absurd (List.any_eq_true.2 ⟨(id,n),(hctk id n T hq).1,by simp⟩) hc.2)
        rw [hk]; exact Nat.le_refl _
  have hownC : ∀ (i : Nat) (cs : List V),h'[i]? = some cs → ∀ y ∈ cs,Owned G1 y.tokC := fun i cs hi y hy q hq => by
    exact ho1.mem q.1 q.2 (by
      simp only [ownOf,List.mem_append,List.mem_flatMap]
      exact .inr ⟨cs,List.mem_of_getElem? hi,y,hy,hq⟩)
  have hownR : Owned G1 r.toks := fun q hq => ho1.mem q.1 q.2 (by
      simp only [ownOf,List.mem_append,List.mem_flatMap]
      exact .inl ⟨r,by simp,hq⟩)
  have hcellOk : ∀ (i : Nat) (cs : List V) (k : Nat) (y : V),h'[i]? = some cs → cs[k]? = some y → ∀ v,Rep w' G1 v y → y.isCell = true → (renC ρ' y).isCell = true := by
    intro i cs k y hi hk v hr hy
    cases y <;> first | rfl | (simp [V.isCell] at hy; done) | skip
    rename_i j off
    have hj : j < G1.nb := by cases hr; assumption
    have : ρ'[j]? = some (ρ'[j]'(by omega)) := List.getElem?_eq_getElem (by omega)
    simp only [renC,renP,this]; rfl
  have hheap : HeapOk w' G2 (heapAfter heap ρ h') := by
    have hren : ∀ cs : List V,cs.map (renC (rhoAfter heap.length ρ h'.length)) = cs.map (renC ρ') := fun cs => by rw [hρ']
    have hlen : (heapAfter heap ρ h').length = heap.length + (h'.length - ρ.length) := by simp [heapAfter,setAll_length]
    refine ⟨by rw [g2nb,hlen,hn1,hnb],fun b cs hb => ?_,fun b b' hb hb' hmm => ?_,fun b o hb h => ?_⟩
    · simp only [heapAfter] at hb
      rcases Nat.lt_or_ge b heap.length with hbl | hbl
      · rw [List.getElem?_append_left (by rw [setAll_length]; exact hbl)] at hb
        by_cases hbρ : b ∈ ρ
        · obtain ⟨i,hi,hib⟩ := List.mem_iff_getElem.1 hbρ
          have hib' : ρ[i]? = some b := by rw [List.getElem?_eq_getElem hi,hib]
          have hi' : i < h'.length := by omega
          have hin := setAll_in ρ ((h'.take ρ.length).map fun cs => cs.map (renC (rhoAfter heap.length ρ h'.length))) heap i b (h'[i].map (renC (rhoAfter heap.length ρ h'.length))) hn hib'
            (by rw [List.getElem?_map,List.getElem?_take,if_pos hi,List.getElem?_eq_getElem hi']; rfl) hbl
          rw [hin] at hb
          obtain rfl := Option.some.inj hb
          obtain ⟨arr,e1,ha,has,hrr⟩ := hh1.blk i _ (List.getElem?_eq_getElem hi')
          obtain ⟨b',hb',hmu,_⟩ := hcmu i hi
          rw [hib'] at hb'
          obtain rfl := Option.some.inj hb'
          refine ⟨arr,e1, ?_,by simpa using has,fun k y hk => ?_⟩
          · rw [g2old b (by omega),← hmu,← hm.mu i hi]; exact ha
          · rw [hren,List.getElem?_map,Option.map_eq_some_iff] at hk
            obtain ⟨z,hz,rfl⟩ := hk
            obtain ⟨hzc,hzr⟩ := hrr k z hz
            exact ⟨hcellOk i _ k z (List.getElem?_eq_getElem hi') hz _ hzr hzc,hzr.thruC hthru (hownC i _ (List.getElem?_eq_getElem hi') z (List.mem_of_getElem? hz))⟩
        · rw [setAll_out ρ _ heap b hbρ] at hb
          obtain ⟨arr,e1,ha,has,hrr⟩ := I.heap.blk b cs hb
          have hsame : w'.heap[G.mu b]? = w.heap[G.mu b]? := by
            refine hsi.same _ (some_lt ha) (fun o => ?_)
            rintro (⟨i,hi,hmi⟩ | ⟨id',n',T',hT',hb',hk'⟩)
            · obtain ⟨b',hb',hmu,hbn⟩ := hcmu i hi
              rw [hmu] at hmi
              obtain rfl := I.heap.inj b' b hbn (by omega) hmi
              exact hbρ (List.mem_of_getElem? hb')
            · exact I.own.notMu id' n' T' b o (hctk id' n' T' hT').2 hk' (by omega) hb'.symm
          exact ⟨arr,e1,by rw [g2old b (by omega),hsame]; exact ha,has,fun k y hk => ⟨(hrr k y hk).1,(hrr k y hk).2.mono hmono⟩⟩
      · rw [List.getElem?_append_right (by rw [setAll_length]; exact hbl),setAll_length,List.getElem?_map,List.getElem?_drop,Option.map_eq_some_iff] at hb
        obtain ⟨cs1,hcs1,rfl⟩ := hb
        obtain ⟨arr,e1,ha,has,hrr⟩ := hh1.blk _ cs1 hcs1
        refine ⟨arr,e1, ?_,by simpa using has,fun k y hk => ?_⟩
        · rw [show b = G.nb + (b - heap.length) from by omega,g2new]
          rw [show b - heap.length + ρ.length = ρ.length + (b - heap.length) from by omega]; exact ha
        · rw [hren,List.getElem?_map,Option.map_eq_some_iff] at hk
          obtain ⟨z,hz,rfl⟩ := hk
          obtain ⟨hzc,hzr⟩ := hrr k z hz
          exact ⟨hcellOk _ _ k z hcs1 hz _ hzr hzc,hzr.thruC hthru (hownC _ _ hcs1 z (List.mem_of_getElem? hz))⟩
    · rw [g2nb] at hb hb'
      have hge : ∀ j, ρ.length + j < G1.nb → w.heap.size ≤ G1.mu (ρ.length + j) := fun j hj => hsi.newMu _ (Nat.le_add_right _ _) hj
      rcases Nat.lt_or_ge b G.nb with hbl | hbl <;> rcases Nat.lt_or_ge b' G.nb with hbl' | hbl'
      · rw [g2old b hbl,g2old b' hbl'] at hmm
        exact I.heap.inj b b' hbl hbl' hmm
      · rw [g2old b hbl,show b' = G.nb + (b' - G.nb) from by omega,g2new] at hmm
        have := I.heap.lt (b := b) hbl
        have := hge (b' - G.nb) (by omega)
        rw [Nat.add_comm] at this; omega
      · rw [g2old b' hbl',show b = G.nb + (b - G.nb) from by omega,g2new] at hmm
        have := I.heap.lt (b := b') hbl'
        have := hge (b - G.nb) (by omega)
        rw [Nat.add_comm] at this; omega
      · rw [show b = G.nb + (b - G.nb) from by omega,show b' = G.nb + (b' - G.nb) from by omega,g2new,g2new] at hmm
        have := hh1.inj _ _ (by omega) (by omega) hmm
        omega
    · rw [g2nb] at hb
      rw [g2S] at h
      rcases Nat.lt_or_ge b G.nb with hbl | hbl
      · rw [g2old b hbl] at h
        by_cases hbρ : b ∈ ρ
        · obtain ⟨i,hi,hib⟩ := List.mem_iff_getElem.1 hbρ
          have hib' : ρ[i]? = some b := by rw [List.getElem?_eq_getElem hi,hib]
          obtain ⟨b',hb',hmu,_⟩ := hcmu i hi
          rw [hib'] at hb'
          obtain rfl := Option.some.inj hb'
          rw [← hmu,← hm.mu i hi] at h
          exact hh1.notS i o (by omega) h
        · rcases hsi.newS _ _ h with h | h | h
          · exact I.heap.notS b o hbl h
          · rcases h with ⟨i,hi,hmi⟩ | ⟨id',n',T',hT',hb',hk'⟩
            · obtain ⟨b',hb',hmu,hbn⟩ := hcmu i hi
              rw [hmu] at hmi
              obtain rfl := I.heap.inj b' b hbn hbl hmi
              exact hbρ (List.mem_of_getElem? hb')
            · exact I.own.notMu id' n' T' b o (hctk id' n' T' hT').2 hk' hbl hb'.symm
          · have := I.heap.lt (b := b) hbl; omega
      · rw [show b = G.nb + (b - G.nb) from by omega,g2new] at h
        exact hh1.notS _ o (by omega) h
  have hkS : ∀ id n T,G.tk id n = some T → given.any (fun g => g.1 == id) = false → ∀ k,T.has k → ¬ G1.S T.blk k := fun id n T hT hg k hk h => by
    rcases hsi.newS _ _ h with h | h | h
    · exact I.own.notS id n T k hT hk h
    · exact (hkept id n T hT hg k hk).2 h
    · obtain ⟨arr,e1,fr,ha,_⟩ := I.own.there id n T hT
      have := some_lt ha; omega
  have hcross : ∀ id n T id' n' T' k,G1.tk id n = some T → G.tk id' n' = some T' → given.any (fun g => g.1 == id') = false → T.blk = T'.blk → T.has k → T'.has k → False := by
    intro id n T id' n' T' k hT hT' hg hb hk hk'
    rcases hsi.newTk id n T k hT hk with h | h
    · rw [hb] at h; exact (hkept id' n' T' hT' hg k hk').2 h
    · obtain ⟨arr,e1,fr,ha,_⟩ := I.own.there id' n' T' hT'
      have := some_lt ha
      have h' : w.heap.size ≤ T.blk := h
      omega
  have hown2 : OwnOk w' G2 (ownAfter own given (ownOf [r] h')) := by
    refine ⟨fun id n h => ?_,fun id n T h => ?_,fun id n T h => ?_,fun id n T k h hk => ?_,fun id n T b k h hk hb => ?_,fun id n T id' n' T' k h h' hb hk hk' => ?_⟩
    · rcases List.mem_append.1 h with h | h
      · obtain ⟨T,hT⟩ := ho1.mem id n h
        exact ⟨T,g2tk1 id n T hT⟩
      · obtain ⟨h3,h4⟩ := List.mem_filter.1 h
        obtain ⟨T,hT⟩ := I.own.mem id n h3
        have hg : given.any (fun g => g.1 == id) = false := by rwa [Bool.not_eq_true'] at h4
        cases hq : G1.tk id n with
        | some T1 => exact ⟨T1,g2tk1 id n T1 hq⟩
        | none => exact ⟨T,by rw [hG2]; simp only [Gh.behind,hq,hg]; simpa using hT⟩
    · rcases g2tk id n T h with h | ⟨hg,h⟩
      · obtain ⟨a1,a2,a3,a4,a5⟩ := ho1.ok id n T h
        refine ⟨a1,a2,by rw [g2nx]; exact a3, ?_,a5⟩
        rw [g2mx,if_pos]
        · exact a4
        · rcases h1id id n T h with h | h
          · exact .inr h
          · exact .inl h
      · obtain ⟨a1,a2,a3,a4,a5⟩ := I.own.ok id n T h
        refine ⟨a1,a2,by rw [g2nx]; omega, ?_,a5⟩
        rw [g2mx,if_neg]
        · exact a4
        · rw [hg]; simp; omega
    · rcases g2tk id n T h with h | ⟨hg,h⟩
      · exact ho1.there id n T h
      · obtain ⟨arr,e1,fr,ha,has,hf⟩ := I.own.there id n T h
        obtain ⟨arr',ha',has',_⟩ := hsi.part _ arr e1 fr ha
        exact ⟨arr',e1,fr,ha',by omega,hf⟩
    · rw [g2S]
      rcases g2tk id n T h with h | ⟨hg,h⟩
      · exact ho1.notS id n T k h hk
      · exact hkS id n T h hg k hk
    · rw [g2nb] at hb
      rcases g2tk id n T h with h | ⟨hg,h⟩
      · rcases Nat.lt_or_ge b G.nb with hbl | hbl
        · rw [g2old b hbl]
          by_cases hbρ : b ∈ ρ
          · obtain ⟨i,hi,hib⟩ := List.mem_iff_getElem.1 hbρ
            have hib' : ρ[i]? = some b := by rw [List.getElem?_eq_getElem hi,hib]
            obtain ⟨b',hb',hmu,_⟩ := hcmu i hi
            rw [hib'] at hb'
            obtain rfl := Option.some.inj hb'
            rw [← hmu,← hm.mu i hi]
            exact ho1.notMu id n T i k h hk (by omega)
          · intro he2
            rcases hsi.newTk id n T k h hk with h2 | h2
            · rcases h2 with ⟨i,hi,hmi⟩ | ⟨id',n',T',hT',hb',hk'⟩
              · obtain ⟨b',hb',hmu,hbn⟩ := hcmu i hi
                rw [hmu,← he2] at hmi
                obtain rfl := I.heap.inj b' b hbn hbl hmi
                exact hbρ (List.mem_of_getElem? hb')
              · exact I.own.notMu id' n' T' b k (hctk id' n' T' hT').2 hk' hbl (by rw [he2,hb'])
            · have := I.heap.lt (b := b) hbl
              have h2' : w.heap.size ≤ T.blk := h2
              omega
        · rw [show b = G.nb + (b - G.nb) from by omega,g2new]
          exact ho1.notMu id n T _ k h hk (by omega)
      · rcases Nat.lt_or_ge b G.nb with hbl | hbl
        · rw [g2old b hbl]; exact I.own.notMu id n T b k h hk hbl
        · rw [show b = G.nb + (b - G.nb) from by omega,g2new]
          have := hsi.newMu (b - G.nb + ρ.length) (Nat.le_add_left _ _) (by omega)
          obtain ⟨arr,e1,fr,ha,has,hf⟩ := I.own.there id n T h
          have := some_lt ha
          omega
    · rcases g2tk id n T h with h | ⟨hg,h⟩ <;> rcases g2tk id' n' T' h' with h' | ⟨hg',h'⟩
      · exact ho1.apart id n T id' n' T' k h h' hb hk hk'
      · exact (hcross id n T id' n' T' k h h' hg' hb hk hk').elim
      · exact (hcross id' n' T' id n T k h' h hg hb.symm hk' hk).elim
      · exact I.own.apart id n T id' n' T' k h h' hb hk hk'
  have hsince : Since w0 G0 w' G2 := by
    have s := I.since
    refine ⟨hsi.os.trans s.os,hsi.tape.trans s.tape,hsi.output.trans s.output,Nat.le_trans s.size hsi.size, ?_, ?_, ?_, ?_, ?_, ?_, ?_⟩
    · intro k hk hw
      rw [hsi.same k (Nat.lt_of_lt_of_le hk s.size) (fun o ho => by
        rcases hwr0 k o ho with h | h
        · exact hw o h
        · omega)]
      exact s.same k hk hw
    · intro k arr e1 fr hk
      obtain ⟨a1,h1,h2,h3⟩ := s.part k arr e1 fr hk
      obtain ⟨a2,h4,h5,h6⟩ := hsi.part k a1 e1 fr h1
      refine ⟨a2,h4,h5.trans h2,fun o ho => ?_⟩
      rw [h6 o (fun hw => by
        rcases hwr0 k o hw with h | h
        · exact ho h
        · have := some_lt hk; omega)]
      exact h3 o ho
    · intro b o h
      rw [g2S] at h
      rcases hsi.newS b o h with h | h | h
      · exact s.newS b o h
      · exact .inr (hwr0 b o h)
      · exact .inr (.inr (Nat.le_trans s.size h))
    · intro b hb hb'
      rw [g2nb] at hb'
      rcases Nat.lt_or_ge b G.nb with hbl | hbl
      · rw [g2old b hbl]; exact s.newMu b hb hbl
      · rw [show b = G.nb + (b - G.nb) from by omega,g2new]
        have := hsi.newMu (b - G.nb + ρ.length) (Nat.le_add_left _ _) (by omega)
        exact Nat.le_trans s.size this
    · intro id n T k h hk
      rcases g2tk id n T h with h | ⟨hg,h⟩
      · rcases hsi.newTk id n T k h hk with h | h
        · exact hwr0 _ _ h
        · exact .inr (Nat.le_trans s.size h)
      · exact s.newTk id n T k h hk
    · intro id n T h
      rcases g2tk id n T h with h | ⟨hg,h⟩
      · rcases h1id id n T h with h | h
        · obtain ⟨n1,T1,_,hT1⟩ := hgid id h
          exact s.tkId id n1 T1 hT1
        · exact .inr (Nat.le_trans I.mono.nx h)
      · exact s.tkId id n T h
    · intro id hid hno
      have hidn : id < G.nx := Nat.lt_of_lt_of_le hid I.mono.nx
      rw [g2mx]
      split
      · rename_i hc
        rcases hc with hc | hc
        · omega
        · obtain ⟨n1,T1,_,hT1⟩ := hgid id hc
          rcases s.tkId id n1 T1 hT1 with ⟨n0,T0,h0⟩ | h0
          · rw [hno n0] at h0; simp at h0
          · omega
      · exact s.mxKeep id hid hno
  refine ⟨v,G2,r,h',G1.nx,he,hRr,by rw [← I.nx]; exact hnx,hnle,by rw [← hρ']; exact hr.thru hthru hownR,⟨hheap,hown2, ?_,hsince,I.mono.trans hmono,g2nx⟩,hmono⟩
  intro b o h
  rw [g2S] at h
  exact hs1 b o h
end
end Go.PV
