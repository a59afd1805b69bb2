/- What holds of world, ghost and abstract state together; how each change of the world keeps it. -/
import Derived.Test.YtpgfcfojojemjaaPVa
namespace Go.PV

structure HeapOk (w : World) (G : Gh) (heap : List (List V)) : Prop where
  nb : G.nb = heap.length
  blk : ∀ b cs,heap[b]? = some cs → ∃ arr e,w.heap[G.mu b]? = some (.cells arr e (0,0)) ∧ arr.size = cs.length ∧
    ∀ k y,cs[k]? = some y → y.isCell = true ∧ Rep w G (arr.getD k undef) y
  inj : ∀ b b',b < G.nb → b' < G.nb → G.mu b = G.mu b' → b = b'
  notS : ∀ b o,b < G.nb → ¬ G.S (G.mu b) o

structure OwnOk (w : World) (G : Gh) (own : List (Nat × Nat)) : Prop where
  mem : ∀ id n,(id,n) ∈ own → ∃ T,G.tk id n = some T
  ok : ∀ id n T,G.tk id n = some T → T.len = n ∧ n ≤ T.cap ∧ id < G.nx ∧ n = G.mx id ∧ 0 < T.sz
  there : ∀ id n T,G.tk id n = some T → ∃ arr e fr,w.heap[T.blk]? = some (.cells arr e fr) ∧ T.off + T.cap * T.sz ≤ arr.size ∧ ∀ k,T.has k → ¬ (fr.1 ≤ k ∧ k < fr.2)
  notS : ∀ id n T k,G.tk id n = some T → T.has k → ¬ G.S T.blk k
  notMu : ∀ id n T b k,G.tk id n = some T → T.has k → b < G.nb → G.mu b ≠ T.blk
  apart : ∀ id n T id' n' T' k,G.tk id n = some T → G.tk id' n' = some T' → T.blk = T'.blk → T.has k → T'.has k → id = id'

def SOk (w : World) (G : Gh) : Prop := ∀ b o, G.S b o → ∃ arr e fr, w.heap[b]? = some (.cells arr e fr) ∧ o < arr.size

/-- what a call may write of the memory that is there: the abstract blocks that it is handed, and the tails -/
def Wr (G : Gh) (b o : Nat) : Prop := (∃ i, i < G.nb ∧ G.mu i = b) ∨ ∃ id n T, G.tk id n = some T ∧ T.blk = b ∧ T.has o

structure Since (w0 : World) (G0 : Gh) (w : World) (G : Gh) : Prop where
  os : w.os = w0.os
  tape : w.tape = w0.tape
  output : w.output = w0.output
  size : w0.heap.size ≤ w.heap.size
  same : ∀ k,k < w0.heap.size → (∀ o, ¬ Wr G0 k o) → w.heap[k]? = w0.heap[k]?
  part : ∀ (k : Nat) arr e fr,w0.heap[k]? = some (.cells arr e fr) → ∃ arr',w.heap[k]? = some (.cells arr' e fr) ∧ arr'.size = arr.size ∧ ∀ o : Nat, ¬ Wr G0 k o → arr'[o]? = arr[o]?
  newS : ∀ b o,G.S b o → G0.S b o ∨ Wr G0 b o ∨ w0.heap.size ≤ b
  newMu : ∀ b,G0.nb ≤ b → b < G.nb → w0.heap.size ≤ G.mu b
  newTk : ∀ id n T k,G.tk id n = some T → T.has k → Wr G0 T.blk k ∨ w0.heap.size ≤ T.blk
  tkId : ∀ id n T,G.tk id n = some T → (∃ n0 T0,G0.tk id n0 = some T0) ∨ G0.nx ≤ id
  mxKeep : ∀ id,id < G0.nx → (∀ n,G0.tk id n = none) → G.mx id = G0.mx id

structure Inv (w0 : World) (G0 : Gh) (heap : List (List V)) (own : List (Nat × Nat)) (next : Nat) (w : World) (G : Gh) : Prop where
  heap : HeapOk w G heap
  own : OwnOk w G own
  sok : SOk w G
  since : Since w0 G0 w G
  mono : Mono w0 G0 w G
  nx : G.nx = next

theorem cell_eq {w : World} {b o : Nat} {arr : Array Value} {e : TypeId} {fr : Nat × Nat} (h : w.heap[b]? = some (.cells arr e fr)) : w.cell? ⟨b, o, none⟩ = arr[o]? := by
  simp [World.cell?,h]
theorem cell_heap {w w' : World} {b o : Nat} (h : w'.heap[b]? = w.heap[b]?) : w'.cell? ⟨b, o, none⟩ = w.cell? ⟨b, o, none⟩ := by
  simp [World.cell?,h]

theorem HeapOk.lt {w : World} {G : Gh} {heap : List (List V)} (h : HeapOk w G heap) {b : Nat} (hb : b < G.nb) : G.mu b < w.heap.size := by
  rw [h.nb] at hb
  obtain ⟨arr,e,ha,_⟩ := h.blk b _ (List.getElem?_eq_getElem hb)
  exact (Array.getElem?_eq_some_iff.1 ha).1

/-! ## a world whose heap is the same (a draw) -/
theorem Inv.same {w0 : World} {G0 : Gh} {heap own next} {w w' : World} {G : Gh} (I : Inv w0 G0 heap own next w G)
    (hh : w'.heap = w.heap) (h1 : w'.os = w.os) (h2 : w'.tape = w.tape) (h3 : w'.output = w.output) : Inv w0 G0 heap own next w' G ∧ Mono w G w' G := by
  have m : Mono w G w' G := ⟨fun _ _ h => ⟨h,by simp [World.cell?,hh]⟩,Nat.le_refl _,fun _ _ => rfl,Nat.le_refl _,fun _ _ => Nat.le_refl _,fun _ _ _ _ _ h => h⟩
  refine ⟨⟨⟨I.heap.nb, ?_,I.heap.inj,I.heap.notS⟩,⟨I.own.mem,I.own.ok, ?_,I.own.notS,I.own.notMu,I.own.apart⟩, ?_, ?_,I.mono.trans m,I.nx⟩,m⟩
  · intro b cs hb
    obtain ⟨arr,e,ha,hs,hr⟩ := I.heap.blk b cs hb
    exact ⟨arr,e,by rw [hh]; exact ha,hs,fun k y hk => ⟨(hr k y hk).1,(hr k y hk).2.mono m⟩⟩
  · intro id n T hT; rw [hh]; exact I.own.there id n T hT
  · intro b o h; rw [hh]; exact I.sok b o h
  · have s := I.since
    exact ⟨h1.trans s.os,h2.trans s.tape,h3.trans s.output,by rw [hh]; exact s.size,by rw [hh]; exact s.same,by rw [hh]; exact s.part,s.newS,s.newMu,s.newTk,s.tkId,s.mxKeep⟩

/-! ## a new block -/
theorem heap_push (w : World) (o : Obj) (k : Nat) (h : k < w.heap.size) : (w.alloc o).heap[k]? = w.heap[k]? := by
  show (w.heap.push o)[k]? = _
  rw [Array.getElem?_push,if_neg (by omega)]
theorem heap_push_new (w : World) (o : Obj) : (w.alloc o).heap[w.heap.size]? = some o := by
  show (w.heap.push o)[w.heap.size]? = _
  simp
theorem some_lt {w : World} {k : Nat} {o : Obj} (h : w.heap[k]? = some o) : k < w.heap.size := (Array.getElem?_eq_some_iff.1 h).1

theorem Since.alloc {w0 : World} {G0 : Gh} {w : World} {G : Gh} (s : Since w0 G0 w G) (o : Obj) : Since w0 G0 (w.alloc o) G := by
  refine ⟨s.os,s.tape,s.output,by have := s.size; simp [World.size_alloc]; omega, ?_, ?_,s.newS,s.newMu,s.newTk,s.tkId,s.mxKeep⟩
  · intro k hk hw
    rw [heap_push _ _ _ (Nat.lt_of_lt_of_le hk s.size)]
    exact s.same k hk hw
  · intro k arr e fr hk
    rw [heap_push _ _ _ (Nat.lt_of_lt_of_le (some_lt hk) s.size)]
    exact s.part k arr e fr hk

/-- what holds stays behind a new block of which nothing is said -/
theorem Inv.alloc {w0 : World} {G0 : Gh} {heap own next} {w : World} {G : Gh} (I : Inv w0 G0 heap own next w G) (o : Obj) :
    Inv w0 G0 heap own next (w.alloc o) G ∧ Mono w G (w.alloc o) G := by
  have hS : ∀ b o',G.S b o' → (w.alloc o).heap[b]? = w.heap[b]? := fun b o' h => by
    obtain ⟨arr,e,fr,ha,_⟩ := I.sok b o' h
    exact heap_push _ _ _ (some_lt ha)
  have m : Mono w G (w.alloc o) G := ⟨fun b o' h => ⟨h,cell_heap (hS b o' h)⟩,Nat.le_refl _,fun _ _ => rfl,Nat.le_refl _,fun _ _ => Nat.le_refl _,fun _ _ _ _ _ h => h⟩
  refine ⟨⟨⟨I.heap.nb, ?_,I.heap.inj,I.heap.notS⟩,⟨I.own.mem,I.own.ok, ?_,I.own.notS,I.own.notMu,I.own.apart⟩, ?_,I.since.alloc o,I.mono.trans m,I.nx⟩,m⟩
  · intro b cs hb
    obtain ⟨arr,e,ha,hs,hr⟩ := I.heap.blk b cs hb
    exact ⟨arr,e,by rw [heap_push _ _ _ (some_lt ha)]; exact ha,hs,fun k y hk => ⟨(hr k y hk).1,(hr k y hk).2.mono m⟩⟩
  · intro id n T hT
    obtain ⟨arr,e,fr,ha,hs,hf⟩ := I.own.there id n T hT
    exact ⟨arr,e,fr,by rw [heap_push _ _ _ (some_lt ha)]; exact ha,hs,hf⟩
  · intro b o' h
    rw [hS b o' h]; exact I.sok b o' h

/-- cells of a block that nobody writes become lasting ones -/
def Gh.addS (G : Gh) (B lo hi : Nat) : Gh := { G with S := fun b o => G.S b o ∨ (b = B ∧ lo ≤ o ∧ o < hi) }

theorem Inv.addS {w0 : World} {G0 : Gh} {heap own next} {w : World} {G : Gh} (I : Inv w0 G0 heap own next w G) (B lo hi : Nat)
    (hB : ∃ arr e fr,w.heap[B]? = some (.cells arr e fr) ∧ hi ≤ arr.size)
    (hmu : ∀ b,b < G.nb → G.mu b ≠ B)
    (htk : ∀ id n T k,G.tk id n = some T → T.blk = B → T.has k → ¬ (lo ≤ k ∧ k < hi))
    (hw : ∀ k,lo ≤ k → k < hi → Wr G0 B k ∨ w0.heap.size ≤ B) :
    Inv w0 G0 heap own next w (G.addS B lo hi) ∧ Mono w G w (G.addS B lo hi) := by
  have m : Mono w G w (G.addS B lo hi) := ⟨fun _ _ h => ⟨.inl h,rfl⟩,Nat.le_refl _,fun _ _ => rfl,Nat.le_refl _,fun _ _ => Nat.le_refl _,fun _ _ _ _ _ h => h⟩
  have s := I.since
  refine ⟨⟨⟨I.heap.nb, ?_,I.heap.inj, ?_⟩,⟨I.own.mem,I.own.ok,I.own.there, ?_,I.own.notMu,I.own.apart⟩, ?_,
    ⟨s.os,s.tape,s.output,s.size,s.same,s.part, ?_,s.newMu,s.newTk,s.tkId,s.mxKeep⟩,I.mono.trans m,I.nx⟩,m⟩
  · intro b cs hb
    obtain ⟨arr,e,ha,hs,hr⟩ := I.heap.blk b cs hb
    exact ⟨arr,e,ha,hs,fun k y hk => ⟨(hr k y hk).1,(hr k y hk).2.mono m⟩⟩
  · rintro b o hb (h | ⟨h,_⟩)
    · exact I.heap.notS b o hb h
    · exact hmu b hb h
  · rintro id n T k hT hk (h | ⟨h1,h2,h3⟩)
    · exact I.own.notS id n T k hT hk h
    · exact htk id n T k hT h1 hk ⟨h2,h3⟩
  · rintro b o (h | ⟨rfl,h2,h3⟩)
    · exact I.sok b o h
    · obtain ⟨arr,e,fr,ha,hs⟩ := hB
      exact ⟨arr,e,fr,ha,by omega⟩
  · rintro b o (h | ⟨rfl,h2,h3⟩)
    · exact s.newS b o h
    · exact .inr (hw o h2 h3)

/-- an abstract block more -/
def Gh.addB (G : Gh) (B : Nat) : Gh := { G with nb := G.nb + 1, mu := fun b => if b = G.nb then B else G.mu b }

/-- a new variable: a block of its own, written at will -/
theorem Inv.newVar {w0 : World} {G0 : Gh} {heap own next} {w : World} {G : Gh} (I : Inv w0 G0 heap own next w G) (arr : Array Value) (e : TypeId) (cs : List V)
    (hs : arr.size = cs.length) (hr : ∀ k y,cs[k]? = some y → y.isCell = true ∧ Rep w G (arr.getD k undef) y) :
    Inv w0 G0 (heap ++ [cs]) own next (w.alloc (.cells arr e (0,0))) (G.addB w.heap.size) ∧ Mono w G (w.alloc (.cells arr e (0,0))) (G.addB w.heap.size) := by
  obtain ⟨I1,m1⟩ := I.alloc (.cells arr e (0,0))
  have hB := I1.heap.nb
  have m : Mono (w.alloc (.cells arr e (0,0))) G (w.alloc (.cells arr e (0,0))) (G.addB w.heap.size) :=
    ⟨fun _ _ h => ⟨h,rfl⟩,Nat.le_succ _,fun b hb => by simp [Gh.addB]; omega,Nat.le_refl _,fun _ _ => Nat.le_refl _,fun _ _ _ _ _ h => h⟩
  have mt := m1.trans m
  have s := I1.since
  refine ⟨⟨⟨by simp [Gh.addB,hB], ?_, ?_, ?_⟩,⟨I1.own.mem,I1.own.ok,I1.own.there,I1.own.notS, ?_,I1.own.apart⟩,I1.sok,
    ⟨s.os,s.tape,s.output,s.size,s.same,s.part,s.newS, ?_,s.newTk,s.tkId,s.mxKeep⟩,I1.mono.trans m,I1.nx⟩,mt⟩
  · intro b cs' hb
    rcases Nat.lt_or_ge b heap.length with h | h
    · rw [List.getElem?_append_left h] at hb
      obtain ⟨arr',e',ha,hs',hr'⟩ := I1.heap.blk b cs' hb
      refine ⟨arr',e', ?_,hs',fun k y hk => ⟨(hr' k y hk).1,(hr' k y hk).2.mono m⟩⟩
      simp only [Gh.addB]; rw [if_neg (by omega)]; exact ha
    · rw [List.getElem?_append_right h] at hb
      have h0 : b - heap.length = 0 := by
        rcases Nat.eq_zero_or_pos (b - heap.length) with h0 | h0
        · exact h0
        · simp [List.getElem?_eq_none (l := [cs]) (i := b - heap.length) (by simp; omega)] at hb
      rw [h0] at hb
      obtain rfl : cs = cs' := by simpa using hb
      refine ⟨arr,e, ?_,hs,fun k y hk => ⟨(hr k y hk).1,(hr k y hk).2.mono mt⟩⟩
      simp only [Gh.addB]; rw [if_pos (by omega)]; exact heap_push_new _ _
  · intro b b' hb hb' hm
    simp only [Gh.addB] at hb hb' hm
    split at hm <;> split at hm
    · omega
    · have := I.heap.lt (b := b') (by omega); omega
    · have := I.heap.lt (b := b) (by omega); omega
    · exact I.heap.inj b b' (by omega) (by omega) hm
  · intro b o hb h
    simp only [Gh.addB] at hb h
    split at h
    · obtain ⟨arr,e,fr,ha,_⟩ := I.sok _ _ h
      have := some_lt ha; omega
    · exact I.heap.notS b o (by omega) h
  · intro id n T b k hT hk hb
    simp only [Gh.addB] at hb ⊢
    split
    · obtain ⟨arr,e,fr,ha,_⟩ := I.own.there id n T hT
      have := some_lt ha; omega
    · exact I.own.notMu id n T b k hT hk (by omega)
  · intro b hb hb'
    simp only [Gh.addB] at hb' ⊢
    split
    · exact I.since.size
    · exact I.since.newMu b hb (by omega)

/-! ## a token -/
/-- a new token for a slice of n elements whose tail is T's -/
def Gh.newTk (G : Gh) (n : Nat) (T : Tail) : Gh :=
  { G with nx := G.nx + 1,mx := fun id => if id = G.nx then n else G.mx id,tk := fun id m => if id = G.nx ∧ m = n then some T else G.tk id m }

theorem Inv.newTk {w0 : World} {G0 : Gh} {heap own next} {w : World} {G : Gh} (I : Inv w0 G0 heap own next w G) (n : Nat) (T : Tail)
    (hT : T.len = n ∧ n ≤ T.cap ∧ 0 < T.sz)
    (hth : ∃ arr e fr,w.heap[T.blk]? = some (.cells arr e fr) ∧ T.off + T.cap * T.sz ≤ arr.size ∧ ∀ k,T.has k → ¬ (fr.1 ≤ k ∧ k < fr.2))
    (hS : ∀ k,T.has k → ¬ G.S T.blk k) (hmu : ∀ b k,T.has k → b < G.nb → G.mu b ≠ T.blk)
    (hap : ∀ id m T' k,G.tk id m = some T' → T'.blk = T.blk → T.has k → T'.has k → False)
    (hw : ∀ k,T.has k → Wr G0 T.blk k ∨ w0.heap.size ≤ T.blk) :
    Inv w0 G0 heap ((next,n) :: own) (next + 1) w (G.newTk n T) ∧ Mono w G w (G.newTk n T) := by
  have hnx := I.nx
  have old : ∀ id m T',G.tk id m = some T' → (G.newTk n T).tk id m = some T' := fun id m T' h => by
    have := (I.own.ok id m T' h).2.2.1
    simp only [Gh.newTk]; rw [if_neg (by omega)]; exact h
  have cas : ∀ id m T',(G.newTk n T).tk id m = some T' → (id = G.nx ∧ m = n ∧ T' = T) ∨ (id < G.nx ∧ G.tk id m = some T') := fun id m T' h => by
    simp only [Gh.newTk] at h
    split at h
    · rename_i hc; exact .inl ⟨hc.1,hc.2,by simpa using h.symm⟩
    · exact .inr ⟨(I.own.ok id m T' h).2.2.1,h⟩
  have m : Mono w G w (G.newTk n T) := by
    refine ⟨fun _ _ h => ⟨h,rfl⟩,Nat.le_refl _,fun _ _ => rfl,Nat.le_succ _,fun id h => ?_,fun id m' T' h h' h'' => ?_⟩
    · simp only [Gh.newTk]; rw [if_neg (by omega)]; exact Nat.le_refl _
    · rcases cas id m' T' h'' with ⟨h1,_⟩ | h1
      · omega
      · exact h1.2
  have s := I.since
  refine ⟨⟨⟨I.heap.nb, ?_,I.heap.inj,I.heap.notS⟩,⟨?_, ?_, ?_, ?_, ?_, ?_⟩,I.sok,
    ⟨s.os,s.tape,s.output,s.size,s.same,s.part,s.newS,s.newMu, ?_, ?_, ?_⟩,I.mono.trans m,by simp [Gh.newTk,hnx]⟩,m⟩
  · intro b cs hb
    obtain ⟨arr,e,ha,hs,hr⟩ := I.heap.blk b cs hb
    exact ⟨arr,e,ha,hs,fun k y hk => ⟨(hr k y hk).1,(hr k y hk).2.mono m⟩⟩
  · intro id k hk
    rcases List.mem_cons.1 hk with h | h
    · obtain ⟨rfl,rfl⟩ := Prod.mk.inj h
      exact ⟨T,by simp [Gh.newTk,hnx]⟩
    · obtain ⟨T',hT'⟩ := I.own.mem id k h
      exact ⟨T',old _ _ _ hT'⟩
  · intro id k T' h
    rcases cas id k T' h with ⟨rfl,rfl,rfl⟩ | ⟨h1,h2⟩
    · exact ⟨hT.1,hT.2.1,by simp [Gh.newTk],by simp [Gh.newTk],hT.2.2⟩
    · obtain ⟨a,b,c,d,e⟩ := I.own.ok id k T' h2
      refine ⟨a,b,by simp only [Gh.newTk]; omega, ?_,e⟩
      simp only [Gh.newTk]; rw [if_neg (by omega)]; exact d
  · intro id k T' h
    rcases cas id k T' h with ⟨rfl,rfl,rfl⟩ | ⟨h1,h2⟩
    · exact hth
    · exact I.own.there id k T' h2
  · intro id k T' j h hj
    rcases cas id k T' h with ⟨rfl,rfl,rfl⟩ | ⟨h1,h2⟩
    · exact hS j hj
    · exact I.own.notS id k T' j h2 hj
  · intro id k T' b j h hj hb
    rcases cas id k T' h with ⟨rfl,rfl,rfl⟩ | ⟨h1,h2⟩
    · exact hmu b j hj hb
    · exact I.own.notMu id k T' b j h2 hj hb
  · intro id k T1 id' k' T2 j h h' hb hj hj'
    rcases cas id k T1 h with ⟨rfl,rfl,rfl⟩ | ⟨h1,h2⟩ <;> rcases cas id' k' T2 h' with ⟨rfl,rfl,rfl⟩ | ⟨h1',h2'⟩
    · rfl
    · exact (hap id' k' T2 j h2' hb.symm hj hj').elim
    · exact (hap id k T1 j h2 hb hj' hj).elim
    · exact I.own.apart id k T1 id' k' T2 j h2 h2' hb hj hj'
  · intro id k T' j h hj
    rcases cas id k T' h with ⟨rfl,rfl,rfl⟩ | ⟨h1,h2⟩
    · exact hw j hj
    · exact s.newTk id k T' j h2 hj
  · intro id k T' h
    rcases cas id k T' h with ⟨rfl,rfl,rfl⟩ | ⟨h1,h2⟩
    · exact .inr I.mono.nx
    · exact s.tkId id k T' h2
  · intro id hid hn
    have := I.mono.nx
    simp only [Gh.newTk]; rw [if_neg (by omega)]; exact s.mxKeep id hid hn
end Go.PV
