/- Lemmas of the claim, part 1. No condition. -/
import Derived.Test.YtlfhngoeecjfpaaGreatDoorZe0
set_option linter.unusedVariables false
set_option linter.unusedSimpArgs false
set_option maxRecDepth 100000
set_option maxHeartbeats 4000000
namespace Go.Proofs.YtlfhngoeecjfpaaGreatDoor.Sh
open Go Go.RowKit
inductive Ent where
 | own (b:Nat) (cs:Array Value) (t:TypeId)
 | see (z:Nat) (p:Option Addr) (n c:Nat) (xs:List Value)
 | row (z:Nat) (p:Option Addr) (n c:Nat) (e:TypeId) (xs:List Value)
 | imap (mb:Nat) (E:List E3) (c:Nat)
 | obj (b:Nat) (o:Obj)
 | fact (S:Nat→Prop) (A:World→Prop)
 | ours (S:Nat→Prop) (A:World→Prop)
structure On (S:Nat→Prop) (A:World→Prop) (w:World):Prop where
 holds:A w
 lt:∀ k,S k→k < w.heap.size
 keeps:∀ v v':World,A v→(∀ k,S k→v'.heap[k]? = v.heap[k]?)→A v'
theorem On.ext {S T:Nat→Prop} {A:World→Prop} {w w':World} (h:On S A w) (k:Ext T w w') (hs:∀ i,S i→¬ T i):On S A w' :=
 ⟨h.keeps w w' h.holds fun i hi=>k.block i (h.lt i hi) (hs i hi),fun i hi=>Nat.lt_of_lt_of_le (h.lt i hi) k.size,h.keeps⟩
def Ent.at_ (w:World):Ent→Prop
 | .own b cs t=>Own w b cs t
 | .see z p n c xs=>Sees w z p n c xs
 | .row z p n c e xs=>RowZ w z (.slice p n c) e n xs
 | .imap mb E c=>IMap w mb E c
 | .obj b o=>w.heap[b]? = some o
 | .fact S A=>On S A w
 | .ours S A=>On S A w
def Ent.foot:Ent→Nat→Prop
 | .own b _ _,k=>k=b
 | .see _ p _ _ xs,k=>0 < xs.length∧∃ a,p=some a∧k=a.block
 | .row _ p n c _ _,k=>Blk (.slice p n c) k
 | .imap mb _ _,k=>k=mb
 | .obj b _,k=>k=b
 | .fact S _,k=>S k
 | .ours S _,k=>S k
def Ent.mine:Ent→Nat→Prop
 | .own b _ _,k=>k=b
 | .see _ _ _ _ _,_=>False
 | .row _ p n c _ _,k=>Blk (.slice p n c) k
 | .imap mb _ _,k=>k=mb
 | .obj b _,k=>k=b
 | .fact _ _,_=>False
 | .ours S _,k=>S k
theorem Ent.foot_of_mine {x:Ent} {k:Nat} (h:x.mine k):x.foot k:=by cases x <;> first|exact h|exact h.elim
theorem Sees.ext' {S:Nat→Prop} {w w':World} {z n c:Nat} {p:Option Addr} {xs:List Value} (h:Sees w z p n c xs) (k:Ext S w w') (hs:0 < xs.length→∀ a,p=some a→¬ S a.block):Sees w' z p n c xs :=
 ⟨h.len,h.le,fun j u hj=>let ⟨a,ha,hc⟩:=h.at_ j u hj;⟨a,ha,k.cellAt hc (by
  rw [blockAdd]
  refine hs ?_ a ha
  rcases xs with _|⟨x,xs⟩
  ·simp at hj
  ·simp)⟩⟩
theorem Ent.at_.ext {S:Nat→Prop} {w w':World} {x:Ent} (h:x.at_ w) (k:Ext S w w') (hs:∀ i,x.foot i→¬ S i):x.at_ w':=by
 cases x with
 | own b cs t=>exact Own.ext h k (hs b rfl)
 | see z p n c xs=>exact Sees.ext' h k fun h0 a ha=>hs _ ⟨h0,a,ha,rfl⟩
 | row z p n c e xs=>exact RowZ.ext h k fun g hg=>hs g hg
 | imap mb E c=>exact IMap.ext h k (hs mb rfl)
 | obj b o =>
  have h:w.heap[b]? = some o:=h
  have hb:b < w.heap.size:=by
   by_cases hb:b < w.heap.size
   ·exact hb
   ·rw [Array.getElem?_eq_none (Nat.le_of_not_lt hb)] at h;cases h
  exact (k.block b hb (hs b rfl)).trans h
 | fact S A=>exact On.ext h k fun i hi=>hs i hi
 | ours S A=>exact On.ext h k fun i hi=>hs i hi
theorem Ent.at_.lt {w:World} {x:Ent} (h:x.at_ w) {k:Nat} (hk:x.foot k):k < w.heap.size:=by
 cases x with
 | own b cs t=>subst hk;exact Own.lt h
 | see z p n c xs =>
  obtain ⟨h0,a,ha,rfl⟩:=hk
  have h:Sees w z p n c xs:=h
  have hl:=h.len
  have:0 < n * z:=by omega
  obtain ⟨a',ha',hlt⟩:=h.addr (Nat.pos_of_ne_zero fun e=>by subst e;simp at this) (Nat.pos_of_ne_zero fun e=>by subst e;simp at this)
  rw [ha] at ha';cases ha';exact hlt
 | row z p n c e xs=>exact RowZ.lt h hk
 | imap mb E c=>subst hk;exact IMap.block h
 | obj b o =>
  subst hk
  have h:w.heap[k]? = some o:=h
  by_cases hb:k < w.heap.size
  ·exact hb
  ·rw [Array.getElem?_eq_none (Nat.le_of_not_lt hb)] at h;cases h
 | fact S A=>exact On.lt h k hk
 | ours S A=>exact On.lt h k hk
def Apart (x y:Ent):Prop:=∀ k,(x.mine k→¬ y.foot k)∧(x.foot k→¬ y.mine k)
theorem Apart.symm {x y:Ent} (h:Apart x y):Apart y x:=fun k=>⟨fun a b=>(h k).2 b a,fun a b=>(h k).1 b a⟩
structure Hp (Z:Nat→Prop) (w0 w:World) (L:List Ent):Prop where
 ext:Ext Z w0 w
 all:∀ x∈L,x.at_ w
 apart:L.Pairwise Apart
 may:∀ x∈L,∀ k,x.mine k→Z k∨w0.heap.size≤k
inductive Pos:List Ent→Ent→Ent→List Ent→Prop
 | here {L x y}:Pos (x::L) x y (y::L)
 | there {L M x y z}:Pos L x y M→Pos (z::L) x y (z::M)
theorem Pos.mem {L M:List Ent} {x y:Ent} (h:Pos L x y M):x∈L:=by
 induction h with
 | here=>exact List.mem_cons_self
 | there _ ih=>exact List.mem_cons_of_mem _ ih
theorem Pos.cases' {L M:List Ent} {x y:Ent} (h:Pos L x y M):∀ z∈M,z=y∨z∈L:=by
 induction h with
 | here=>intro z hz;rcases List.mem_cons.1 hz with h|h;exact .inl h;exact .inr (List.mem_cons_of_mem _ h)
 | there _ ih =>
  intro z hz
  rcases List.mem_cons.1 hz with h|h
  ·exact .inr (h ▸ List.mem_cons_self)
  ·rcases ih z h with h|h
   ·exact .inl h
   ·exact .inr (List.mem_cons_of_mem _ h)
theorem Pos.pair {w:World} {L M:List Ent} {x y:Ent} (h:Pos L x y M) (hp:L.Pairwise Apart) (hl:∀ z∈L,∀ k,z.foot k→k < w.heap.size) (hy:∀ k,y.foot k→x.mine k∨w.heap.size≤k) :
  M.Pairwise Apart∧(∀ z∈M,z=y∨(z∈L∧Apart x z)):=by
 have key:∀ z,(∀ k,z.foot k→k < w.heap.size)→Apart x z→Apart y z:=by
  intro z hz ha k
  have hn:y.foot k→¬ z.foot k:=by
   intro h1 h2
   rcases hy k h1 with h|h
   ·exact (ha k).1 h h2
   ·exact absurd (hz k h2) (by omega)
  have hm:y.foot k→¬ z.mine k:=fun h1 h2=>hn h1 (Ent.foot_of_mine h2)
  exact ⟨fun h1=>hn (Ent.foot_of_mine h1),hm⟩
 induction h with
 | @here L x y =>
  rw [List.pairwise_cons] at hp
  refine ⟨List.pairwise_cons.2 ⟨fun z hz=>key z (hl z (List.mem_cons_of_mem _ hz)) (hp.1 z hz),hp.2⟩,fun z hz=>?_⟩
  rcases List.mem_cons.1 hz with h|h
  ·exact .inl h
  ·exact .inr ⟨List.mem_cons_of_mem _ h,hp.1 z h⟩
 | @there L M x y z h ih =>
  rw [List.pairwise_cons] at hp
  obtain ⟨i1,i2⟩:=ih hp.2 (fun z hz=>hl z (List.mem_cons_of_mem _ hz)) hy key
  refine ⟨List.pairwise_cons.2 ⟨fun u hu=>?_,i1⟩,fun u hu=>?_⟩
  ·rcases i2 u hu with h1|⟨h1,h2⟩
   ·subst h1;exact (key z (hl z List.mem_cons_self) (hp.1 x h.mem).symm).symm
   ·exact hp.1 u h1
  ·rcases List.mem_cons.1 hu with h1|h1
   ·subst h1;exact .inr ⟨List.mem_cons_self,(hp.1 x h.mem).symm⟩
   ·rcases i2 u h1 with h2|⟨h2,h3⟩
    ·exact .inl h2
    ·exact .inr ⟨List.mem_cons_of_mem _ h2,h3⟩
section
variable {P:Program} {Z:Nat→Prop} {w0 w:World} {L M:List Ent}
theorem Hp.start (w:World):Hp zan w w []:=⟨Ext.refl w,by simp,List.Pairwise.nil,by simp⟩
theorem Hp.see {w:World} {z n c:Nat} {p:Option Addr} {xs:List Value} (hs:Sees w z p n c xs) (h:Hp Z w0 w L) (ha:∀ x∈L,∀ k,x.mine k→w0.heap.size≤k∧¬ (Ent.see z p n c xs).foot k):Hp Z w0 w (.see z p n c xs::L) :=
 ⟨h.ext,fun x hx=>by rcases List.mem_cons.1 hx with h1|h1;subst h1;exact hs;exact h.all x h1,
  List.pairwise_cons.2 ⟨fun x hx k=>⟨fun h=>h.elim,fun h1 h2=>(ha x hx k h2).2 h1⟩,h.apart⟩,
  fun x hx k hk=>by rcases List.mem_cons.1 hx with h1|h1;subst h1;exact hk.elim;exact h.may x h1 k hk⟩
theorem Hp.bl {w':World} (h:Hp Z w0 w L) (k:Bl w w'):Hp Z w0 w' L :=
 ⟨h.ext.trans (S':=zan) (Ext.of_bl k) fun _ _ h=>h.elim,fun x hx=>(h.all x hx).ext (S:=zan) (Ext.of_bl k) fun _ _ h=>h,h.apart,h.may⟩
theorem Hp.add {w':World} {x:Ent} (h:Hp Z w0 w L) (k:Bl w w') (hx:x.at_ w') (hf:∀ i,x.foot i→w.heap.size≤i):Hp Z w0 w' (x::L):=by
 have h':=h.bl k
 refine ⟨h'.ext,fun y hy=>?_,List.pairwise_cons.2 ⟨fun y hy i=>?_,h.apart⟩,fun y hy i hi=>?_⟩
 ·rcases List.mem_cons.1 hy with h1|h1
  ·subst h1;exact hx
  ·exact h'.all y h1
 ·have:=fun hi=>(h.all y hy).lt (k:=i) hi
  exact ⟨fun h1 h2=>absurd (this h2) (by have:=hf i (Ent.foot_of_mine h1);omega),fun h1 h2=>absurd (this (Ent.foot_of_mine h2)) (by have:=hf i h1;omega)⟩
 ·rcases List.mem_cons.1 hy with h1|h1
  ·subst h1;exact .inr (Nat.le_trans h.ext.size (hf i (Ent.foot_of_mine hi)))
  ·exact h.may y h1 i hi
theorem Hp.turn {w':World} {x y:Ent} (h:Hp Z w0 w L) (hp:Pos L x y M) (k:Ext x.mine w w') (hy:y.at_ w') (hf:∀ i,y.foot i→x.mine i∨w.heap.size≤i):Hp Z w0 w' M:=by
 obtain ⟨p1,p2⟩:=hp.pair (w:=w) h.apart (fun z hz i hi=>(h.all z hz).lt hi) hf
 refine ⟨h.ext.trans k fun i hi hm=>?_,fun z hz=>?_,p1,fun z hz i hi=>?_⟩
 ·rcases h.may x hp.mem i hm with h1|h1
  ·exact h1
  ·omega
 ·rcases p2 z hz with h1|⟨h1,h2⟩
  ·subst h1;exact hy
  ·exact (h.all z h1).ext k fun i hi hm=>(h2 i).1 hm hi
 ·rcases p2 z hz with h1|⟨h1,h2⟩
  ·subst h1
   rcases hf i (Ent.foot_of_mine hi) with h1|h1
   ·exact h.may x hp.mem i h1
   ·exact .inr (Nat.le_trans h.ext.size h1)
  ·exact h.may z h1 i hi
theorem Hp.done (h:Hp zan w0 w L):Bl w0 w:=h.ext.bl fun _ _ h=>h
theorem zci {cs:Array Value} {t:TypeId} {F:World→Prop} (h:Hp Z w0 w L) (k:∀ w',Hp Z w0 w' (.own w.heap.size cs t::L)→Bl w w'→F w'):zaf w (.cells cs t) F :=
 k _ (h.add ((Bl.refl w).alloc _) (Own.new w cs t) fun i hi=>Nat.le_of_eq hi.symm) ((Bl.refl w).alloc _)
theorem drewH {F:World→Prop} (h:Hp Z w0 w L) (k:∀ w',Hp Z w0 w' L→Bl w w'→F w'):zbf w F:=k _ (h.bl (Bl.refl w).drew) (Bl.refl w).drew
theorem ldH {b i:Nat} {cs:Array Value} {t:TypeId} {v:Value} {F:Value→Prop} (h:Hp Z w0 w L) (hm:Pos L (.own b cs t) (.own b cs t) L) (hv:cs[i]? = some v) (k:F v):ldK P w ⟨b,i,none⟩ F :=
 ldO (h.all _ hm.mem) hv k
theorem stH1 {b i:Nat} {cs:Array Value} {t ty:TypeId} {v:Value} {F:World→Prop} (h:Hp Z w0 w L) (hm:Pos L (.own b cs t) (.own b (cs.setIfInBounds i v) t) M) (hi:i < cs.size) (hz:(P.info? ty).map (·.size)=some 1) (h1:v.oneCell'=true) (hc:v.cells=#[v])
  (k:∀ w',Hp Z w0 w' M→Ext (· = b) w w'→F w'):semU P (Instr.storeAt ty (.pointer (some ⟨b,i,none⟩)) v) w F :=
 stO (h.all _ hm.mem) hi hz h1 hc fun w' ho he=>k w' (h.turn hm he (by
  have:cs.set i v=cs.setIfInBounds i v:=by simp [Array.setIfInBounds,hi]
  rw [this] at ho;exact ho) fun i hi=>.inl hi) he
def onesB:List Value→Bool
 | []=>true
 | v::l=>v.oneCell' && onesB l
theorem onesB_all:∀ l:List Value,onesB l=true→∀ x∈l,x.oneCell'=true
 | [],_,x,hx=>by cases hx
 | v::l,h,x,hx=>by
  simp only [onesB,Bool.and_eq_true] at h
  rcases List.mem_cons.1 hx with h1|h1
  ·subst h1;exact h.1
  ·exact onesB_all l h.2 x h1
theorem stHA {b:Nat} {cs vs:Array Value} {t ty:TypeId} {F:World→Prop} (h:Hp Z w0 w L) (hm:Pos L (.own b cs t) (.own b vs t) M) (hz:(P.info? ty).map (·.size)=some vs.size) (hs:cs.size=vs.size) (h1:onesB vs.toList=true)
  (k:∀ w',Hp Z w0 w' M→Ext (· = b) w w'→F w'):semU P (Instr.storeAt ty (.pointer (some ⟨b,0,none⟩)) (.agg vs)) w F :=
 stAll (h.all _ hm.mem) hz hs (by rw [Array.all_eq_true];intro i hi;exact onesB_all _ h1 _ (by simp)) fun w' ho he=>k w' (h.turn hm he ho fun i hi=>.inl hi) he
theorem Hp.sees {z n c:Nat} {p:Option Addr} {xs:List Value} (h:Hp Z w0 w L) (hm:Pos L (.see z p n c xs) (.see z p n c xs) L):Sees w z p n c xs:=h.all _ hm.mem
end
class GetOwn (L:List Ent) (b:Nat) (cs:outParam (Array Value)) (t:outParam TypeId):Prop where
 pos:Pos L (.own b cs t) (.own b cs t) L
instance (priority:=high) getHere {L:List Ent} {b:Nat} {cs:Array Value} {t:TypeId}:GetOwn (.own b cs t::L) b cs t:=⟨.here⟩
instance (priority:=low) getThere {L:List Ent} {x:Ent} {b:Nat} {cs:Array Value} {t:TypeId} [h:GetOwn L b cs t]:GetOwn (x::L) b cs t:=⟨.there h.pos⟩
class SetOwn (L:List Ent) (b:Nat) (vs:Array Value) (cs:outParam (Array Value)) (t:outParam TypeId) (M:outParam (List Ent)):Prop where
 pos:Pos L (.own b cs t) (.own b vs t) M
instance (priority:=high) setHere {L:List Ent} {b:Nat} {cs vs:Array Value} {t:TypeId}:SetOwn (.own b cs t::L) b vs cs t (.own b vs t::L):=⟨.here⟩
instance (priority:=low) setThere {L M:List Ent} {x:Ent} {b:Nat} {cs vs:Array Value} {t:TypeId} [h:SetOwn L b vs cs t M]:SetOwn (x::L) b vs cs t (x::M):=⟨.there h.pos⟩
class NthC (l:List Value) (i:Nat) (v:outParam Value):Prop where
 eq:l[i]? = some v
instance {v:Value} {l:List Value}:NthC (v::l) 0 v:=⟨rfl⟩
instance {v x:Value} {l:List Value} {i:Nat} [h:NthC l i v]:NthC (x::l) (i+1) v:=⟨by simpa using h.eq⟩
class PutC (l:List Value) (i:Nat) (v:Value) (m:outParam (List Value)):Prop where
 eq:m=l.set i v∧i < l.length
instance {v x:Value} {l:List Value}:PutC (x::l) 0 v (v::l):=⟨rfl,by simp⟩
instance {v x:Value} {l m:List Value} {i:Nat} [h:PutC l i v m]:PutC (x::l) (i+1) v (x::m):=⟨by simp [h.eq.1],by simpa using h.eq.2⟩
class LdOwn (L:List Ent) (b i:Nat) (v:outParam Value):Prop where
 ex:∃ cs t,Pos L (.own b cs t) (.own b cs t) L∧cs[i]? = some v
instance (priority:=high) ldHere {L:List Ent} {b i:Nat} {l:List Value} {t:TypeId} {v:Value} [h:NthC l i v]:LdOwn (.own b l.toArray t::L) b i v:=⟨_,_,.here,by simpa using h.eq⟩
instance (priority:=low) ldThere {L:List Ent} {x:Ent} {b i:Nat} {v:Value} [h:LdOwn L b i v]:LdOwn (x::L) b i v:=let ⟨cs,t,p,e⟩:=h.ex;⟨cs,t,.there p,e⟩
class PutOwn (L:List Ent) (b i:Nat) (v:Value) (M:outParam (List Ent)):Prop where
 ex:∃ cs t,i < cs.size∧Pos L (.own b cs t) (.own b (cs.setIfInBounds i v) t) M
instance (priority := high) putHere {L : List Ent} {b i : Nat} {v : Value} {l m : List Value} {t : TypeId} [h : PutC l i v m] : PutOwn (.own b l.toArray t :: L) b i v (.own b m.toArray t :: L) :=
  ⟨l.toArray, t, by simpa using h.eq.2, by have : l.toArray.setIfInBounds i v = m.toArray := by rw [h.eq.1]; simp
                                           rw [this]; exact .here⟩
instance (priority:=low) putThere {L M:List Ent} {x:Ent} {b i:Nat} {v:Value} [h:PutOwn L b i v M]:PutOwn (x::L) b i v (x::M):=let ⟨cs,t,q,p⟩:=h.ex;⟨cs,t,q,.there p⟩
section
variable {P:Program} {Z:Nat→Prop} {w0 w:World} {L M:List Ent}
theorem wLd {b i:Nat} {v:Value} {F:Value→Prop} (h:Hp Z w0 w L) [hm:LdOwn L b i v] (k:F v):ldK P w ⟨b,i,none⟩ F:=let ⟨_,_,p,e⟩:=hm.ex;ldH h p e k
theorem wLdA {b i:Nat} {v:Value} {F:Value→Prop} (h:Hp Z w0 w L) [hm:LdOwn L b i v] (k:F v):ldK P w (Addr.add ⟨b,0,none⟩ i) F:=by rw [addG];exact wLd h k
theorem wStA {b:Nat} {cs vs:Array Value} {t ty:TypeId} {F:World→Prop} (h:Hp Z w0 w L) [hm:SetOwn L b vs cs t M] (hz:(P.info? ty).map (·.size)=some vs.size) (hs:cs.size=vs.size) (h1:onesB vs.toList=true)
  (k:∀ w',Hp Z w0 w' M→Ext (· = b) w w'→F w'):semU P (Instr.storeAt ty (.pointer (some ⟨b,0,none⟩)) (.agg vs)) w F:=stHA h hm.pos hz hs h1 k
theorem wSt1 {b i:Nat} {ty:TypeId} {v:Value} {F:World→Prop} (h:Hp Z w0 w L) [hm:PutOwn L b i v M] (hz:(P.info? ty).map (·.size)=some 1) (h1:v.oneCell'=true) (hc:v.cells=#[v])
  (k:∀ w',Hp Z w0 w' M→Ext (· = b) w w'→F w'):semU P (Instr.storeAt ty (.pointer (some ⟨b,i,none⟩)) v) w F:=let ⟨_,_,q,p⟩:=hm.ex;stH1 h p q hz h1 hc k
theorem wSt1A {b i:Nat} {ty:TypeId} {v:Value} {F:World→Prop} (h:Hp Z w0 w L) [hm:PutOwn L b i v M] (hz:(P.info? ty).map (·.size)=some 1) (h1:v.oneCell'=true) (hc:v.cells=#[v])
  (k:∀ w',Hp Z w0 w' M→Ext (· = b) w w'→F w'):semU P (Instr.storeAt ty (.pointer (some (Addr.add ⟨b,0,none⟩ i))) v) w F:=by rw [addG];exact wSt1 h hz h1 hc k
theorem stoA {b:Nat} {cs vs:Array Value} {t ty:TypeId} {F:World→Prop} (h:Hp Z w0 w L) [hm:SetOwn L b vs cs t M] (k:∀ w',Hp Z w0 w' M→Ext (· = b) w w'→F w')
  (hz:(P.info? ty).map (·.size)=some vs.size:=by with_unfolding_all rfl) (hs:cs.size=vs.size:=by with_unfolding_all rfl) (h1:onesB vs.toList=true:=by with_unfolding_all rfl) :
  semU P (Instr.storeAt ty (.pointer (some ⟨b,0,none⟩)) (.agg vs)) w F:=wStA h hz hs h1 k
end
theorem asI_int (k:IntKind) (n:Int) (F:Int→Prop):asI k (.int k n) F=F n:=by simp [asI]
theorem asA_ptr (a:Addr) (F:Addr→Prop):asA (.pointer (some a)) F=F a:=rfl
theorem ifB_true (T F:Prop):ifB true T F=T:=rfl
theorem kI {k:IntKind} {n:Int} {F:Int→Prop} (h:F n):asI k (.int k n) F:=by rw [asI_int];exact h
theorem kL {p:Option Addr} {n c:Nat} {F:Option Addr→Nat→Nat→Prop} (h:F p n c):asL (.slice p n c) F:=h
theorem kS {s:ByteArray} {F:ByteArray→Prop} (h:F s):asS (.string s) F:=h
theorem kB {b:Bool} {F:Bool→Prop} (h:F b):asB (.bool b) F:=h
theorem kA {a:Addr} {F:Addr→Prop} (h:F a):asA (.pointer (some a)) F:=h
theorem kP {a:Option Addr} {F:Option Addr→Prop} (h:F a):asP (.pointer a) F:=h
theorem kM {a:Option Nat} {F:Option Nat→Prop} (h:F a):asM (.map a) F:=h
theorem kG {l:List Value} {F:List Value→Prop} (h:F l):asG (.agg l.toArray) F:=h
theorem kT {l:List Value} {F:List Value→Prop} (h:F l):asT (.tuple l.toArray) F:=h
theorem kC {x:Value} {l:List Value} {F:Value→List Value→Prop} (h:F x l):asHd (x::l) F:=h
theorem kN {p:Prop} (h:p):zav [] p:=h
theorem kO {α:Type} {a:α} {F:α→Prop} (h:F a):optP (some a) F:=h
class SeeIn (L:List Ent) (p:Option Addr) (n c:Nat) (z:outParam Nat) (xs:outParam (List Value)):Prop where
 pos:Pos L (.see z p n c xs) (.see z p n c xs) L
instance (priority:=high) seeHere {L:List Ent} {p:Option Addr} {n c z:Nat} {xs:List Value}:SeeIn (.see z p n c xs::L) p n c z xs:=⟨.here⟩
instance (priority:=low) seeThere {L:List Ent} {x:Ent} {p:Option Addr} {n c z:Nat} {xs:List Value} [h:SeeIn L p n c z xs]:SeeIn (x::L) p n c z xs:=⟨.there h.pos⟩
def u8s (l:List UInt8):List Value:=l.map fun b=>.int .u8 (b.toNat:Int)
theorem u8s_len (l:List UInt8):(u8s l).length=l.length:=by simp [u8s]
theorem u8s_get {l:List UInt8} {i:Nat} (h:i < l.length):(u8s l)[i]? = some (.int .u8 (l[i].toNat:Int)):=by simp [u8s,h]
theorem Sees.bytes {w:World} {p:Option Addr} {n c:Nat} {l:List UInt8} (h:Sees w 1 p n c (u8s l)):n=l.length:=by have:=h.len;rw [u8s_len] at this;omega
theorem rdB {P:Program} {Z:Nat→Prop} {w0 w:World} {L:List Ent} {t e:TypeId} {p:Option Addr} {n c:Nat} {l:List UInt8} {k:IntKind} {i:Int} {F:Int→World→Prop} (h:Hp Z w0 w L) [hm:SeeIn L p n c 1 (u8s l)]
  (ht:P.underlying t=some (.slice e)) (hz:(P.info? e).map (·.size)=some 1) (h0:0≤i) (h1:i < (n:Int)) (kk:∀ b:UInt8,l[i.toNat]? = some b→F (b.toNat:Int) w) :
  semK P (Instr.indexAt t (.slice p n c) (.int k i)) w fun v1 w1=>asA v1 fun ad=>ldK P w1 ad fun v2=>asI .u8 v2 fun x=>F x w1:=by
 have hs:=h.sees hm.pos
 have hn:=hs.bytes
 have hi:i.toNat < l.length:=by omega
 obtain ⟨a,ha,_⟩:=hs.addr (by omega) (by omega)
 subst ha
 refine ixS ht hz h0 h1 ?_
 show ldK P w (a.add (i.toNat * 1)) _
 rw [Nat.mul_one]
 refine ld (hs.get rfl (u8s_get hi)) ?_
 rw [asI_int]
 exact kk _ (by simp [hi])
class Kk (g:Prop) (h:outParam Prop):Prop where
 imp:h→g
instance {k:IntKind} {n:Int} {F:Int→Prop}:Kk (asI k (.int k n) F) (F n):=⟨kI⟩
instance {p:Option Addr} {n c:Nat} {F:Option Addr→Nat→Nat→Prop}:Kk (asL (.slice p n c) F) (F p n c):=⟨kL⟩
instance {s:ByteArray} {F:ByteArray→Prop}:Kk (asS (.string s) F) (F s):=⟨kS⟩
instance {b:Bool} {F:Bool→Prop}:Kk (asB (.bool b) F) (F b):=⟨kB⟩
instance {a:Addr} {F:Addr→Prop}:Kk (asA (.pointer (some a)) F) (F a):=⟨kA⟩
instance {a:Option Addr} {F:Option Addr→Prop}:Kk (asP (.pointer a) F) (F a):=⟨kP⟩
instance {a:Option Nat} {F:Option Nat→Prop}:Kk (asM (.map a) F) (F a):=⟨kM⟩
instance {l:List Value} {F:List Value→Prop}:Kk (asG (.agg l.toArray) F) (F l):=⟨kG⟩
instance {l:List Value} {F:List Value→Prop}:Kk (asT (.tuple l.toArray) F) (F l):=⟨kT⟩
instance {x:Value} {l:List Value} {F:Value→List Value→Prop}:Kk (asHd (x::l) F) (F x l):=⟨kC⟩
instance {p:Prop}:Kk (zav [] p) p:=⟨kN⟩
instance {α:Type} {a:α} {F:α→Prop}:Kk (optP (some a) F) (F a):=⟨kO⟩
theorem kk_ {g h:Prop} [i:Kk g h] (x:h):g:=i.imp x
class LdAt (L:List Ent) (ad:Addr) (v:outParam Value):Prop where
 ld:∀ {P:Program} {Z:Nat→Prop} {w0 w:World} {F:Value→Prop},Hp Z w0 w L→F v→ldK P w ad F
instance {L:List Ent} {b i:Nat} {v:Value} [LdOwn L b i v]:LdAt L ⟨b,i,none⟩ v:=⟨fun h k=>wLd h k⟩
instance {L:List Ent} {b i:Nat} {v:Value} [LdOwn L b i v]:LdAt L (Addr.add ⟨b,0,none⟩ i) v:=⟨fun h k=>wLdA h k⟩
instance {L:List Ent} {b i j:Nat} {v:Value} [LdOwn L b (i+j) v]:LdAt L (Addr.add (Addr.add ⟨b,0,none⟩ i) j) v:=⟨fun h k=>by rw [addAdd,addG];exact wLd h k⟩
class PutAt (L:List Ent) (ad:Addr) (v:Value) (M:outParam (List Ent)):Prop where
 st:∀ {P:Program} {Z:Nat→Prop} {w0 w:World} {ty:TypeId} {F:World→Prop},Hp Z w0 w L→(P.info? ty).map (·.size)=some 1→v.oneCell'=true→v.cells=#[v]→(∀ w',Hp Z w0 w' M→F w')→semU P (Instr.storeAt ty (.pointer (some ad)) v) w F
instance {L M:List Ent} {b i:Nat} {v:Value} [PutOwn L b i v M]:PutAt L ⟨b,i,none⟩ v M:=⟨fun h hz h1 hc k=>wSt1 h hz h1 hc fun w' h _=>k w' h⟩
instance {L M:List Ent} {b i:Nat} {v:Value} [PutOwn L b i v M]:PutAt L (Addr.add ⟨b,0,none⟩ i) v M:=⟨fun h hz h1 hc k=>wSt1A h hz h1 hc fun w' h _=>k w' h⟩
section
variable {P:Program} {Z:Nat→Prop} {w0 w:World} {L M:List Ent}
theorem ld_ {ad:Addr} {v:Value} {F:Value→Prop} (h:Hp Z w0 w L) [i:LdAt L ad v] (k:F v):ldK P w ad F:=i.ld h k
theorem st_ {ad:Addr} {ty:TypeId} {v:Value} {F:World→Prop} (h:Hp Z w0 w L) [i:PutAt L ad v M] (k:∀ w',Hp Z w0 w' M→F w')
  (hz:(P.info? ty).map (·.size)=some 1:=by with_unfolding_all rfl) (h1:v.oneCell'=true:=by with_unfolding_all rfl) (hc:v.cells=#[v]:=by with_unfolding_all rfl) :
  semU P (Instr.storeAt ty (.pointer (some ad)) v) w F:=i.st h hz h1 hc k
end
inductive Sd (a b c:Prop):Prop where
 | mk:a→b→c→Sd a b c
theorem sd_ {a b c:Prop} (h1:a:=by with_unfolding_all rfl) (h2:b:=by with_unfolding_all rfl) (h3:c:=by with_unfolding_all rfl):Sd a b c:=.mk h1 h2 h3
def AllW (p:World→Prop):Prop:=∀ w,p w
theorem allW {p:World→Prop} (h:∀ w,p w):AllW p:=h
class NxS (Z:Nat→Prop) (w0 w:World) (L:List Ent) (g:Prop) (h:outParam Prop):Prop where
 imp:Hp Z w0 w L→h→g
section
variable {P:Program} {Z:Nat→Prop} {w0 w:World} {L M:List Ent}
instance {ad:Addr} {v:Value} {F:Value→Prop} [LdAt L ad v]:NxS Z w0 w L (ldK P w ad F) (F v):=⟨fun h k=>ld_ h k⟩
instance {cs:Array Value} {t:TypeId} {F:World→Prop}:NxS Z w0 w L (zaf w (.cells cs t) F) (AllW fun w'=>Hp Z w0 w' (.own w.heap.size cs t::L)→F w'):=⟨fun h k=>zci h fun w' h _=>k w' h⟩
instance {F:World→Prop}:NxS Z w0 w L (zbf w F) (AllW fun w'=>Hp Z w0 w' L→F w'):=⟨fun h k=>drewH h fun w' h _=>k w' h⟩
instance (priority:=high) {b:Nat} {cs vs:Array Value} {t ty:TypeId} {F:World→Prop} [SetOwn L b vs cs t M]:NxS Z w0 w L (semU P (Instr.storeAt ty (.pointer (some ⟨b,0,none⟩)) (.agg vs)) w F)
  (Sd ((P.info? ty).map (·.size)=some vs.size) (cs.size=vs.size) (onesB vs.toList=true)∧AllW fun w'=>Hp Z w0 w' M→F w'):=⟨fun h k=>let ⟨⟨h1,h2,h3⟩,k⟩:=k;stoA h (fun w' h _=>k w' h) h1 h2 h3⟩
instance {ad:Addr} {ty:TypeId} {v:Value} {F:World→Prop} [PutAt L ad v M]:NxS Z w0 w L (semU P (Instr.storeAt ty (.pointer (some ad)) v) w F)
  (Sd ((P.info? ty).map (·.size)=some 1) (v.oneCell'=true) (v.cells=#[v])∧AllW fun w'=>Hp Z w0 w' M→F w'):=⟨fun h k=>let ⟨⟨h1,h2,h3⟩,k⟩:=k;st_ h (fun w' h=>k w' h) h1 h2 h3⟩
theorem nx {g h:Prop} (hh:Hp Z w0 w L) [i:NxS Z w0 w L g h] (k:h):g:=i.imp hh k
theorem vr {v:Value}:v=v:=rfl
end
end Go.Proofs.YtlfhngoeecjfpaaGreatDoor.Sh
namespace Go.Proofs.YtlfhngoeecjfpaaGreatDoor.W
open Go Go.Proofs.YtlfhngoeecjfpaaGreatDoor.Sh
noncomputable abbrev PP:Program:=Tryz.prog
abbrev KV:=Value→World→Prop
abbrev OA:=Option Addr
abbrev gI (k:IntKind) (w:World) (a:Addr) (F:Int→Prop):Prop:=ldK PP w a fun v=>asI k v F
abbrev gL (w:World) (a:Addr) (F:OA→Nat→Nat→Prop):Prop:=ldK PP w a fun v=>asL v F
abbrev gB (w:World) (a:Addr) (F:Bool→Prop):Prop:=ldK PP w a fun v=>asB v F
abbrev gP (w:World) (a:Addr) (F:OA→Prop):Prop:=ldK PP w a fun v=>asP v F
abbrev hI (k:IntKind) (l:List Value) (F:Int→List Value→Prop):Prop:=asHd l fun x l=>asI k x fun n=>F n l
abbrev hL (l:List Value) (F:OA→Nat→Nat→List Value→Prop):Prop:=asHd l fun x l=>asL x fun p n c=>F p n c l
abbrev hB (l:List Value) (F:Bool→List Value→Prop):Prop:=asHd l fun x l=>asB x fun n=>F n l
abbrev hS (l:List Value) (F:ByteArray→List Value→Prop):Prop:=asHd l fun x l=>asS x fun n=>F n l
abbrev hP (l:List Value) (F:OA→List Value→Prop):Prop:=asHd l fun x l=>asP x fun n=>F n l
abbrev hG (l:List Value) (F:List Value→List Value→Prop):Prop:=asHd l fun x l=>asG x fun n=>F n l
abbrev sU (t:TypeId) (a:Addr) (v:Value) (w:World) (F:World→Prop):Prop:=semU PP (Instr.storeAt t (.pointer (some a)) v) w F
abbrev CV (f:FuncId) (a:Array Value) (w:World) (K:KV):Prop:=zaj PP f a w K
theorem m0 {α:Type} {a:α} {l:List α}:a∈a::l:=List.mem_cons_self
theorem mS {α:Type} {a b:α} {l:List α} (h:a∈l):a∈b::l:=List.mem_cons_of_mem _ h
theorem zq {p q:Prop} (h:p) (e:p=q:=by kernel_rfl):q:=by
 rw [← e]
 exact h
theorem zt {p:Prop} (h:p):True∧p:=⟨True.intro,h⟩
abbrev sN (a:Ann):Ann:=.seq .no a
abbrev aI (e:Env) (n:Nat) (F:Int→Prop):Prop:=asI .i64 (e n) F
theorem zsi {J:Env→World→Prop} {G:Env→List Deferred→World→Prop} (k:∀ e w,J e w→G e [] w):∀ e ds w,nilD ds (J e w)→G e ds w:=fun e ds w h=>by
 replace h:=zad h
 obtain ⟨rfl,h⟩:=h
 exact k e w h
theorem zmp {G:Env→Prop} {e:Env} {l:List (Nat × Value)} {p:Prop} (hA:AllAt e l) (h:p) (he:p=G (putL e l):=by kernel_rfl):G e:=by
 rw [he,zag hA] at h
 exact h
theorem eI {k:IntKind} {v:Value} {F:Int→Prop} {p:Prop} (h:asI k v F) (g:∀ {n},v = .int k n→F n→p):p:=let ⟨_,a,b⟩:=zaa h;g a b
theorem eB {v:Value} {F:Bool→Prop} {p:Prop} (h:asB v F) (g:∀ {n},v = .bool n→F n→p):p:=let ⟨_,a,b⟩:=zaw h;g a b
theorem eS {v:Value} {F:ByteArray→Prop} {p:Prop} (h:asS v F) (g:∀ {n},v = .string n→F n→p):p:=let ⟨_,a,b⟩:=asS_elim h;g a b
theorem eP {v:Value} {F:OA→Prop} {p:Prop} (h:asP v F) (g:∀ {n},v = .pointer n→F n→p):p:=let ⟨_,a,b⟩:=zai h;g a b
theorem eM {v:Value} {F:Option Nat→Prop} {p:Prop} (h:asM v F) (g:∀ {n},v = .map n→F n→p):p:=let ⟨_,a,b⟩:=asM_elim h;g a b
theorem eA {v:Value} {F:Addr→Prop} {p:Prop} (h:asA v F) (g:∀ {n},v = .pointer (some n)→F n→p):p:=let ⟨_,a,b⟩:=zac h;g a b
theorem eL {v:Value} {F:OA→Nat→Nat→Prop} {p:Prop} (h:asL v F) (g:∀ {x l c},v = .slice x l c→F x l c→p):p:=let ⟨_,_,_,a,b⟩:=zab h;g a b
theorem eN {v:Value} {F:Value→Prop} {p:Prop} (h:asAny v F) (g:∀ {x},v=x→F x→p):p:=let ⟨_,a,b⟩:=zax h;g a b
abbrev i6 (n:Int):Value:=.int .i64 n
abbrev u6 (n:Int):Value:=.int .u64 n
abbrev ma0 (w:World) (b:Addr) (F:Int→Int→Int→Int→OA→Nat→Nat→Int→Prop):Prop:=gI .i64 w b fun a0=>gI .i64 w (Addr.add b 1) fun a1=>gI .u64 w (Addr.add b 2) fun a2=>gI .u64 w (Addr.add b 3) fun a3=>gL w (Addr.add b 4) fun a4p a4l a4c=>gI .i64 w (Addr.add b 5) fun a5=>F a0 a1 a2 a3 a4p a4l a4c a5
abbrev ma1 (w:World) (b:Addr) (F:OA→Nat→Nat→OA→Nat→Nat→OA→Nat→Nat→OA→Nat→Nat→Int→Prop):Prop:=gL w b fun a0p a0l a0c=>gL w (Addr.add b 1) fun a1p a1l a1c=>gL w (Addr.add b 2) fun a2p a2l a2c=>gL w (Addr.add b 3) fun a3p a3l a3c=>gI .i64 w (Addr.add b 4) fun a4=>F a0p a0l a0c a1p a1l a1c a2p a2l a2c a3p a3l a3c a4
abbrev ma2 (w:World) (b:Addr) (F:Int→OA→Nat→Nat→Int→Int→Prop):Prop:=gI .i64 w b fun a0=>gL w (Addr.add b 1) fun a1p a1l a1c=>gI .i64 w (Addr.add b 2) fun a2=>gI .i64 w (Addr.add b 3) fun a3=>F a0 a1p a1l a1c a2 a3
abbrev dT3 (v:Value) (F:Int→Int→Prop):Prop:=asT v fun l0=>hI .i64 l0 fun a0 l1=>hI .i64 l1 fun a1 l2=>zav l2 (F a0 a1)
abbrev dT4 (v:Value) (F:OA→Nat→Nat→Int→Prop):Prop:=asT v fun l0=>hL l0 fun a0p a0l a0c l1=>hI .i64 l1 fun a1 l2=>zav l2 (F a0p a0l a0c a1)
abbrev mb5 (w:World) (b:Nat) (F:OA→Nat→Nat→OA→Nat→Nat→OA→Nat→Nat→OA→Nat→Nat→Int→Prop):Prop:=gL w ⟨b,0,none⟩ fun a0p a0l a0c=>gL w ⟨b,1,none⟩ fun a1p a1l a1c=>gL w ⟨b,2,none⟩ fun a2p a2l a2c=>gL w ⟨b,3,none⟩ fun a3p a3l a3c=>gI .i64 w ⟨b,4,none⟩ fun a4=>F a0p a0l a0c a1p a1l a1c a2p a2l a2c a3p a3l a3c a4
abbrev mb6 (w:World) (b:Nat) (F:Int→OA→Nat→Nat→Int→Int→Prop):Prop:=gI .i64 w ⟨b,0,none⟩ fun a0=>gL w ⟨b,1,none⟩ fun a1p a1l a1c=>gI .i64 w ⟨b,2,none⟩ fun a2=>gI .i64 w ⟨b,3,none⟩ fun a3=>F a0 a1p a1l a1c a2 a3
abbrev ma7 (w:World) (b:Addr) (F:Int→Int→Int→Prop):Prop:=gI .i64 w b fun a0=>gI .i64 w (Addr.add b 1) fun a1=>gI .i64 w (Addr.add b 2) fun a2=>F a0 a1 a2
abbrev mb8 (w:World) (b:Nat) (F:Int→Int→Int→Prop):Prop:=gI .i64 w ⟨b,0,none⟩ fun a0=>gI .i64 w ⟨b,1,none⟩ fun a1=>gI .i64 w ⟨b,2,none⟩ fun a2=>F a0 a1 a2
abbrev dT9 (v:Value) (F:Int→Bool→Prop):Prop:=asT v fun l0=>hI .i64 l0 fun a0 l1=>hB l1 fun a1 l2=>zav l2 (F a0 a1)
abbrev dG10 (v:Value) (F:Int→OA→Nat→Nat→Int→Int→Prop):Prop:=asG v fun l0=>hI .i64 l0 fun a0 l1=>hL l1 fun a1p a1l a1c l2=>hI .i64 l2 fun a2 l3=>hI .i64 l3 fun a3 l4=>zav l4 (F a0 a1p a1l a1c a2 a3)
abbrev dT11 (v:Value) (F:OA→Nat→Nat→OA→Nat→Nat→OA→Nat→Nat→OA→Nat→Nat→Int→Int→OA→Nat→Nat→Int→Int→Prop):Prop:=asT v fun l0=>hG l0 fun q1 l1=>hL q1 fun a0p a0l a0c l2=>hL l2 fun a1p a1l a1c l3=>hL l3 fun a2p a2l a2c l4=>hL l4 fun a3p a3l a3c l5=>hI .i64 l5 fun a4 l6=>zav l6 (hG l1 fun q8 l8=>hI .i64 q8 fun a5 l9=>hL l9 fun a6p a6l a6c l10=>hI .i64 l10 fun a7 l11=>hI .i64 l11 fun a8 l12=>zav l12 (zav l8 (F a0p a0l a0c a1p a1l a1c a2p a2l a2c a3p a3l a3c a4 a5 a6p a6l a6c a7 a8)))
abbrev ma12 (w:World) (b:Addr) (F:Int→Int→OA→Nat→Nat→Int→Prop):Prop:=gI .i64 w b fun a0=>gI .i64 w (Addr.add b 1) fun a1=>gL w (Addr.add b 2) fun a2p a2l a2c=>gI .i64 w (Addr.add b 3) fun a3=>F a0 a1 a2p a2l a2c a3
abbrev mb13 (w:World) (b:Nat) (F:Int→Int→OA→Nat→Nat→Int→Prop):Prop:=gI .i64 w ⟨b,0,none⟩ fun a0=>gI .i64 w ⟨b,1,none⟩ fun a1=>gL w ⟨b,2,none⟩ fun a2p a2l a2c=>gI .i64 w ⟨b,3,none⟩ fun a3=>F a0 a1 a2p a2l a2c a3
abbrev dG14 (v:Value) (F:Int→Int→Bool→Prop):Prop:=asG v fun l0=>hI .u64 l0 fun a0 l1=>hI .u64 l1 fun a1 l2=>hB l2 fun a2 l3=>zav l3 (F a0 a1 a2)
abbrev ma15 (w:World) (b:Addr) (F:Int→Int→Bool→Prop):Prop:=gI .u64 w b fun a0=>gI .u64 w (Addr.add b 1) fun a1=>gB w (Addr.add b 2) fun a2=>F a0 a1 a2
abbrev ma16 (w:World) (b:Addr) (F:Int→Int→Bool→Int→Int→Bool→Prop):Prop:=gI .u64 w b fun a0=>gI .u64 w (Addr.add b 1) fun a1=>gB w (Addr.add b 2) fun a2=>gI .u64 w (Addr.add b 3) fun a3=>gI .u64 w (Addr.add b 4) fun a4=>gB w (Addr.add b 5) fun a5=>F a0 a1 a2 a3 a4 a5
abbrev dG17 (v:Value) (F:Int→Int→Bool→Int→Int→Bool→Prop):Prop:=asG v fun l0=>hI .u64 l0 fun a0 l1=>hI .u64 l1 fun a1 l2=>hB l2 fun a2 l3=>hI .u64 l3 fun a3 l4=>hI .u64 l4 fun a4 l5=>hB l5 fun a5 l6=>zav l6 (F a0 a1 a2 a3 a4 a5)
abbrev mb18 (w:World) (b:Nat) (F:Int→Int→Bool→Prop):Prop:=gI .u64 w ⟨b,0,none⟩ fun a0=>gI .u64 w ⟨b,1,none⟩ fun a1=>gB w ⟨b,2,none⟩ fun a2=>F a0 a1 a2
abbrev dT19 (v:Value) (F:Int→ByteArray→Int→Int→Int→Int→Bool→Bool→Prop):Prop:=asT v fun l0=>hG l0 fun q1 l1=>hI .i64 q1 fun a0 l2=>hS l2 fun a1 l3=>hI .i64 l3 fun a2 l4=>hI .i64 l4 fun a3 l5=>hI .i64 l5 fun a4 l6=>hI .i64 l6 fun a5 l7=>hB l7 fun a6 l8=>zav l8 (hB l1 fun a7 l10=>zav l10 (F a0 a1 a2 a3 a4 a5 a6 a7))
abbrev dG20 (v:Value) (F:Int→ByteArray→Int→Int→Int→Int→Bool→Prop):Prop:=asG v fun l0=>hI .i64 l0 fun a0 l1=>hS l1 fun a1 l2=>hI .i64 l2 fun a2 l3=>hI .i64 l3 fun a3 l4=>hI .i64 l4 fun a4 l5=>hI .i64 l5 fun a5 l6=>hB l6 fun a6 l7=>zav l7 (F a0 a1 a2 a3 a4 a5 a6)
abbrev ma21 (w:World) (b:Addr) (F:Int→ByteArray→Int→Int→Int→Int→Bool→Prop):Prop:=gI .i64 w b fun a0=>ldK PP w (Addr.add b 1) fun v=>asS v fun a1=>gI .i64 w (Addr.add b 2) fun a2=>gI .i64 w (Addr.add b 3) fun a3=>gI .i64 w (Addr.add b 4) fun a4=>gI .i64 w (Addr.add b 5) fun a5=>gB w (Addr.add b 6) fun a6=>F a0 a1 a2 a3 a4 a5 a6
abbrev dT22 (v:Value) (F:Int→Int→OA→Nat→Nat→Int→Int→Prop):Prop:=asT v fun l0=>hG l0 fun q1 l1=>hI .i64 q1 fun a0 l2=>hI .i64 l2 fun a1 l3=>hL l3 fun a2p a2l a2c l4=>hI .i64 l4 fun a3 l5=>zav l5 (hI .i64 l1 fun a4 l7=>zav l7 (F a0 a1 a2p a2l a2c a3 a4))
abbrev dT23 (v:Value) (F:OA→Nat→Nat→Int→Int→Prop):Prop:=asT v fun l0=>hL l0 fun a0p a0l a0c l1=>hI .i64 l1 fun a1 l2=>hI .i64 l2 fun a2 l3=>zav l3 (F a0p a0l a0c a1 a2)
abbrev mb24 (w:World) (b:Nat) (F:Int→ByteArray→Int→Int→Int→Int→Bool→Prop):Prop:=gI .i64 w ⟨b,0,none⟩ fun a0=>ldK PP w ⟨b,1,none⟩ fun v=>asS v fun a1=>gI .i64 w ⟨b,2,none⟩ fun a2=>gI .i64 w ⟨b,3,none⟩ fun a3=>gI .i64 w ⟨b,4,none⟩ fun a4=>gI .i64 w ⟨b,5,none⟩ fun a5=>gB w ⟨b,6,none⟩ fun a6=>F a0 a1 a2 a3 a4 a5 a6
abbrev dT25 (v:Value) (F:OA→Nat→Nat→ByteArray→Prop):Prop:=asT v fun l0=>hL l0 fun a0p a0l a0c l1=>hS l1 fun a1 l2=>zav l2 (F a0p a0l a0c a1)
abbrev dT26 (v:Value) (F:Int→Int→Int→Bool→Prop):Prop:=asT v fun l0=>hG l0 fun q1 l1=>hI .i64 q1 fun a0 l2=>hI .i64 l2 fun a1 l3=>hI .i64 l3 fun a2 l4=>zav l4 (hB l1 fun a3 l6=>zav l6 (F a0 a1 a2 a3))
abbrev dG27 (v:Value) (F:Int→Int→Bool→Prop):Prop:=asG v fun l0=>hI .i64 l0 fun a0 l1=>hI .i64 l1 fun a1 l2=>hB l2 fun a2 l3=>zav l3 (F a0 a1 a2)
abbrev ma28 (w:World) (b:Addr) (F:Int→Int→Bool→Prop):Prop:=gI .i64 w b fun a0=>gI .i64 w (Addr.add b 1) fun a1=>gB w (Addr.add b 2) fun a2=>F a0 a1 a2
abbrev dT29 (v:Value) (F:OA→Nat→Nat→Bool→Prop):Prop:=asT v fun l0=>hL l0 fun a0p a0l a0c l1=>hB l1 fun a1 l2=>zav l2 (F a0p a0l a0c a1)
abbrev dT30 (v:Value) (F:Int→Int→Bool→Bool→Prop):Prop:=asT v fun l0=>hG l0 fun q1 l1=>hI .i64 q1 fun a0 l2=>hI .i64 l2 fun a1 l3=>hB l3 fun a2 l4=>zav l4 (hB l1 fun a3 l6=>zav l6 (F a0 a1 a2 a3))
abbrev dG31 (v:Value) (F:Int→Int→Prop):Prop:=asG v fun l0=>hI .i64 l0 fun a0 l1=>hI .i64 l1 fun a1 l2=>zav l2 (F a0 a1)
abbrev mb32 (w:World) (b:Nat) (F:Int→Int→Prop):Prop:=gI .i64 w ⟨b,0,none⟩ fun a0=>gI .i64 w ⟨b,1,none⟩ fun a1=>F a0 a1
abbrev ma33 (w:World) (b:Addr) (F:Int→Int→Prop):Prop:=gI .i64 w b fun a0=>gI .i64 w (Addr.add b 1) fun a1=>F a0 a1
abbrev dT34 (v:Value) (F:OA→Bool→Prop):Prop:=asT v fun l0=>hP l0 fun a0 l1=>hB l1 fun a1 l2=>zav l2 (F a0 a1)
abbrev dG35 (v:Value) (F:Int→Int→Int→Prop):Prop:=asG v fun l0=>hI .i64 l0 fun a0 l1=>hI .i64 l1 fun a1 l2=>hI .i64 l2 fun a2 l3=>zav l3 (F a0 a1 a2)
abbrev dT36 (v:Value) (F:Int→Int→Bool→Prop):Prop:=asT v fun l0=>hI .i64 l0 fun a0 l1=>hI .i64 l1 fun a1 l2=>hB l2 fun a2 l3=>zav l3 (F a0 a1 a2)
abbrev dT37 (v:Value) (F:Int→Int→Int→Int→Bool→Prop):Prop:=asT v fun l0=>hG l0 fun q1 l1=>hI .u64 q1 fun a0 l2=>hI .u64 l2 fun a1 l3=>hI .i64 l3 fun a2 l4=>hI .i64 l4 fun a3 l5=>zav l5 (hB l1 fun a4 l7=>zav l7 (F a0 a1 a2 a3 a4))
abbrev mb38 (w:World) (b:Nat) (F:Int→Int→Int→Int→Prop):Prop:=gI .u64 w ⟨b,0,none⟩ fun a0=>gI .u64 w ⟨b,1,none⟩ fun a1=>gI .i64 w ⟨b,2,none⟩ fun a2=>gI .i64 w ⟨b,3,none⟩ fun a3=>F a0 a1 a2 a3
abbrev ma39 (w:World) (b:Addr) (F:Int→Int→Int→Int→Prop):Prop:=gI .u64 w b fun a0=>gI .u64 w (Addr.add b 1) fun a1=>gI .i64 w (Addr.add b 2) fun a2=>gI .i64 w (Addr.add b 3) fun a3=>F a0 a1 a2 a3
abbrev dT40 (v:Value) (F:Int→Int→Int→Int→Bool→Bool→Prop):Prop:=asT v fun l0=>hG l0 fun q1 l1=>hI .u64 q1 fun a0 l2=>hI .u64 l2 fun a1 l3=>hI .i64 l3 fun a2 l4=>hI .i64 l4 fun a3 l5=>zav l5 (hB l1 fun a4 l7=>hB l7 fun a5 l8=>zav l8 (F a0 a1 a2 a3 a4 a5))
abbrev ma41 (w:World) (b:Addr) (F:Int→Int→Prop):Prop:=gI .u64 w b fun a0=>gI .u64 w (Addr.add b 1) fun a1=>F a0 a1
abbrev dT42 (v:Value) (F:OA→Int→OA→Nat→Nat→Int→Int→Prop):Prop:=asT v fun l0=>hP l0 fun a0 l1=>hG l1 fun q2 l2=>hI .i64 q2 fun a1 l3=>hL l3 fun a2p a2l a2c l4=>hI .i64 l4 fun a3 l5=>hI .i64 l5 fun a4 l6=>zav l6 (zav l2 (F a0 a1 a2p a2l a2c a3 a4))
abbrev ma43 (w:World) (b:Addr) (F:OA→Nat→Nat→OA→Nat→Nat→Prop):Prop:=gL w b fun a0p a0l a0c=>gL w (Addr.add b 1) fun a1p a1l a1c=>F a0p a0l a0c a1p a1l a1c
def J19_1 (R:KV) (x3:Addr) (x5:Addr) (x15p:OA) (x15l:Nat) (x15c:Nat) (w:World):Prop :=
 zbf w fun w1=>ma0 w1 x3 fun n1 n2 n3 n4 l1p l1l l1c n5=>sU 62 x5 (.agg #[(i6 n1),(i6 n2),(u6 n3),(u6 n4),(.slice l1p l1l l1c),(i6 n5)]) w1 fun w2=>ma0 w2 x5 fun n6 n7 n8 n9 l2p l2l l2c n10=>R (.tuple #[(.slice x15p x15l x15c),(.agg #[(i6 n6),(i6 n7),(u6 n8),(u6 n9),(.slice l2p l2l l2c),(i6 n10)]),(.bool true)]) w2
def L19_2 (R:KV):Nat→Addr→Addr→OA→Nat→Nat→OA→Nat→Nat→OA→Nat→Nat→Int→World→Prop
 | 0=>fun _ _ _ _ _ _ _ _ _ _ _ _ _=>False
 | k+1=>fun x3 x5 x11p x11l x11c x15p x15l x15c x16p x16l x16c x17 w=>ifB (decide ((x17:Int) < (x16l:Nat))) (zbf w fun w1=>gI .i64 w1 x3 fun n1=>semK PP (Instr.indexAt 29 (.slice x16p x16l x16c) (i6 x17)) w1 fun v2 w2=>asA v2 fun ad1=>gI .i64 w1 ad1 fun n2=>gI .u64 w1 (Addr.add x3 2) fun n3=>gI .u64 w1 (Addr.add x3 3) fun n4=>gI .i64 w1 (Addr.add x3 5) fun n5=>semK PP (Builtin.append_ #[60,60] 60 #[(.slice none 0 0),(.slice x11p x11l x11c)]) w1 fun v7 w3=>asL v7 fun l1p l1l l1c=>(gI .i64 w3 x3 fun n6=>((i6 n6):Value)=(i6 n1))∧((gI .i64 w3 ad1 fun n7=>((i6 n7):Value)=(i6 n2))∧((gI .u64 w3 (Addr.add x3 2) fun n8=>((u6 n8):Value)=(u6 n3))∧((gI .u64 w3 (Addr.add x3 3) fun n9=>((u6 n9):Value)=(u6 n4))∧((gI .i64 w3 (Addr.add x3 5) fun n10=>((i6 n10):Value)=(i6 n5))∧(zaf w3 (.cells #[(i6 n1),(i6 n2),(u6 n3),(u6 n4),(.slice l1p l1l l1c),(i6 n5)] 62) fun w4=>semK PP (Builtin.append_ #[63,63] 63 #[(.slice x15p x15l x15c),(.slice (some ⟨w3.heap.size,0,none⟩) 1 1)]) w4 fun v13 w5=>asL v13 fun l2p l2l l2c=>L19_2 R k x3 x5 x11p x11l x11c l2p l2l l2c x16p x16l x16c (IntKind.wrap .i64 (x17+1)) w5)))))) (J19_1 R x3 x5 x15p x15l x15c w)
def F21 (a0:OA) (a1:Int) (w:World) (R:KV):Prop :=
 CV 38 #[(.pointer a0),(i6 a1)] w fun v1 w1=>asB v1 fun b1=>ifB (!b1) (R (.slice none 0 0) w1) (optP a0 fun ad1=>gL w1 (Addr.add (Addr.add ad1 1) 1) fun l1p l1l l1c=>semK PP (Instr.indexAt 25 (.slice l1p l1l l1c) (i6 a1)) w1 fun v3 w2=>asA v3 fun ad2=>gL w2 ad2 fun l2p l2l l2c=>CV 28 #[(.slice l2p l2l l2c)] w2 fun v5 w3=>asL v5 fun l3p l3l l3c=>R (.slice l3p l3l l3c) w3)
def A21 (R:KV):Ann:=.no
theorem sides21 (R:KV):zak PP Tryz.f21 (A21 R) R:=by
 trivial
theorem call21 (a0:OA) (a1:Int) (w:World) (R:KV) (h:F21 a0 a1 w R):zaj PP 21 #[(.pointer a0),(i6 a1)] w R :=
 zah (an:=A21 R) Tryz.func21 rfl (sides21 R) (Eq.mp (by kernel_rfl) h)

def J24_3 (R:KV) (X:List PanicEntry→World→Prop) (x0p:OA) (x0l:Nat) (x0c:Nat) (x4:Addr) (x5:Addr) (x6:Addr) (x9:Int) (x10p:OA) (x10l:Nat) (x10c:Nat) (x12p:OA) (x12l:Nat) (x12c:Nat) (x17:Int) (ds:List Deferred) (w:World):Prop :=
 gI .i64 w (Addr.add x4 4) fun n1=>gI .i64 w (Addr.add x4 4) fun n2=>zbt PP 44 #[(.pointer (some x6)),(.bool (decide (((x0l:Nat):Int)≤(IntKind.wrap .i64 (x17+n1))))),(i6 58),(i6 (IntKind.wrap .i64 (x17+n2)))] w (fun v3 w1=>asT v3 fun t10=>zav t10 (zbt PP 46 #[(.pointer (some x6)),(.pointer (some x4)),(i6 x9)] w1 (fun v4 w3=>asT v4 fun t20=>zav t20 (CV 47 #[(.pointer (some x6)),(.slice x10p x10l x10c)] w3 fun v5 w5=>asL v5 fun l1p l1l l1c=>sU 25 (Addr.add x4 1) (.slice l1p l1l l1c) w5 fun w6=>CV 47 #[(.pointer (some x6)),(.slice x12p x12l x12c)] w6 fun v6 w7=>asL v6 fun l2p l2l l2c=>sU 25 (Addr.add x4 2) (.slice l2p l2l l2c) w7 fun w8=>gI .i64 w8 (Addr.add x6 1) fun n3=>semK PP (Instr.sliceAt 22 (.slice x0p x0l x0c) (some (i6 n3)) none none) w8 fun v8 w9=>asL v8 fun l3p l3l l3c=>CV 28 #[(.slice l3p l3l l3c)] w9 fun v9 w10=>asL v9 fun l4p l4l l4c=>sU 22 (Addr.add x4 3) (.slice l4p l4l l4c) w10 fun w11=>zbf w11 fun w12=>ma1 w12 x4 fun l5p l5l l5c l6p l6l l6c l7p l7l l7c l8p l8l l8c n4=>ma2 w12 x5 fun n5 l9p l9l l9c n6 n7=>sU 27 x4 (.agg #[(.slice l5p l5l l5c),(.slice l6p l6l l6c),(.slice l7p l7l l7c),(.slice l8p l8l l8c),(i6 n4)]) w12 fun w13=>(ma2 w13 x5 fun n8 l10p l10l l10c n9 n10=>((.agg #[(i6 n8),(.slice l10p l10l l10c),(i6 n9),(i6 n10)]):Value)=(.agg #[(i6 n5),(.slice l9p l9l l9c),(i6 n6),(i6 n7)]))∧(sU 31 x5 (.agg #[(i6 n5),(.slice l9p l9l l9c),(i6 n6),(i6 n7)]) w13 fun w14=>zbd PP (finA (fun w15=>ma1 w15 x4 fun l11p l11l l11c l12p l12l l12c l13p l13l l13c l14p l14l l14c n11=>ma2 w15 x5 fun n12 l15p l15l l15c n13 n14=>R (.tuple #[(.agg #[(.slice l11p l11l l11c),(.slice l12p l12l l12c),(.slice l13p l13l l13c),(.slice l14p l14l l14c),(i6 n11)]),(.agg #[(i6 n12),(.slice l15p l15l l15c),(i6 n13),(i6 n14)])]) w15) X) ds .returning w14))) (fun ch2 w4=>zbd PP (finA (fun w16=>ma1 w16 x4 fun l16p l16l l16c l17p l17l l17c l18p l18l l18c l19p l19l l19c n15=>ma2 w16 x5 fun n16 l20p l20l l20c n17 n18=>R (.tuple #[(.agg #[(.slice l16p l16l l16c),(.slice l17p l17l l17c),(.slice l18p l18l l18c),(.slice l19p l19l l19c),(i6 n15)]),(.agg #[(i6 n16),(.slice l20p l20l l20c),(i6 n17),(i6 n18)])]) w16) X) ds (.panicking ch2) w4))) (fun ch1 w2=>zbd PP (finA (fun w17=>ma1 w17 x4 fun l21p l21l l21c l22p l22l l22c l23p l23l l23c l24p l24l l24c n19=>ma2 w17 x5 fun n20 l25p l25l l25c n21 n22=>R (.tuple #[(.agg #[(.slice l21p l21l l21c),(.slice l22p l22l l22c),(.slice l23p l23l l23c),(.slice l24p l24l l24c),(i6 n19)]),(.agg #[(i6 n20),(.slice l25p l25l l25c),(i6 n21),(i6 n22)])]) w17) X) ds (.panicking ch1) w2)
def J24_4 (R:KV) (X:List PanicEntry→World→Prop) (x0p:OA) (x0l:Nat) (x0c:Nat) (x4:Addr) (x5:Addr) (x6:Addr) (x9:Int) (x10p:OA) (x10l:Nat) (x10c:Nat) (x12p:OA) (x12l:Nat) (x12c:Nat) (x17:Int) (x141:Bool) (ds:List Deferred) (w:World):Prop :=
 ifB x141 (zbd PP (finA (fun w1=>ma1 w1 x4 fun l1p l1l l1c l2p l2l l2c l3p l3l l3c l4p l4l l4c n1=>ma2 w1 x5 fun n2 l5p l5l l5c n3 n4=>R (.tuple #[(.agg #[(.slice l1p l1l l1c),(.slice l2p l2l l2c),(.slice l3p l3l l3c),(.slice l4p l4l l4c),(i6 n1)]),(.agg #[(i6 n2),(.slice l5p l5l l5c),(i6 n3),(i6 n4)])]) w1) X) ds (.panicking [{ v:=(.iface 112 (.agg #[(i6 50),(i6 (x0l:Nat))])),recovered:=false }]) w) (J24_3 R X x0p x0l x0c x4 x5 x6 x9 x10p x10l x10c x12p x12l x12c x17 ds w)
def J24_2 (R:KV) (X:List PanicEntry→World→Prop) (x0p:OA) (x0l:Nat) (x0c:Nat) (x1:Bool) (x4:Addr) (x5:Addr) (x6:Addr) (x7:Int) (x9:Int) (x10p:OA) (x10l:Nat) (x10c:Nat) (x11:Int) (x12p:OA) (x12l:Nat) (x12c:Nat) (x13:Int) (ds:List Deferred) (w:World):Prop :=
 zbt PP 43 #[(.pointer (some x6)),(i6 2)] w (fun v1 w1=>dT3 v1 fun n1 n2=>sU 3 (Addr.add x4 4) (i6 n1) w1 fun w3=>zbt PP 42 #[(.pointer (some x6)),(i6 0),(i6 53)] w3 (fun v2 w4=>asT v2 fun t20=>zav t20 (gI .i64 w4 (Addr.add x6 1) fun n3=>ifB (decide (((x0l:Nat):Int) < (IntKind.wrap .i64 ((IntKind.wrap .i64 ((IntKind.wrap .i64 (n3+x7))+x11))+x13)))) (J24_4 R X x0p x0l x0c x4 x5 x6 x9 x10p x10l x10c x12p x12l x12c (IntKind.wrap .i64 ((IntKind.wrap .i64 ((IntKind.wrap .i64 (n3+x7))+x11))+x13)) true ds w4) (ifB (!x1) (gI .i64 w4 (Addr.add x4 4) fun n4=>J24_4 R X x0p x0l x0c x4 x5 x6 x9 x10p x10l x10c x12p x12l x12c (IntKind.wrap .i64 ((IntKind.wrap .i64 ((IntKind.wrap .i64 (n3+x7))+x11))+x13)) (decide (((x0l:Nat):Int) < (IntKind.wrap .i64 ((IntKind.wrap .i64 ((IntKind.wrap .i64 ((IntKind.wrap .i64 (n3+x7))+x11))+x13))+n4)))) ds w4) (J24_4 R X x0p x0l x0c x4 x5 x6 x9 x10p x10l x10c x12p x12l x12c (IntKind.wrap .i64 ((IntKind.wrap .i64 ((IntKind.wrap .i64 (n3+x7))+x11))+x13)) false ds w4)))) (fun ch2 w5=>zbd PP (finA (fun w6=>ma1 w6 x4 fun l1p l1l l1c l2p l2l l2c l3p l3l l3c l4p l4l l4c n5=>ma2 w6 x5 fun n6 l5p l5l l5c n7 n8=>R (.tuple #[(.agg #[(.slice l1p l1l l1c),(.slice l2p l2l l2c),(.slice l3p l3l l3c),(.slice l4p l4l l4c),(i6 n5)]),(.agg #[(i6 n6),(.slice l5p l5l l5c),(i6 n7),(i6 n8)])]) w6) X) ds (.panicking ch2) w5)) (fun ch1 w2=>zbd PP (finA (fun w7=>ma1 w7 x4 fun l6p l6l l6c l7p l7l l7c l8p l8l l8c l9p l9l l9c n9=>ma2 w7 x5 fun n10 l10p l10l l10c n11 n12=>R (.tuple #[(.agg #[(.slice l6p l6l l6c),(.slice l7p l7l l7c),(.slice l8p l8l l8c),(.slice l9p l9l l9c),(i6 n9)]),(.agg #[(i6 n10),(.slice l10p l10l l10c),(i6 n11),(i6 n12)])]) w7) X) ds (.panicking ch1) w2)
def J24_1 (R:KV) (X:List PanicEntry→World→Prop) (x0p:OA) (x0l:Nat) (x0c:Nat) (x1:Bool) (x4:Addr) (x5:Addr) (x6:Addr) (x7:Int) (x9:Int) (x10p:OA) (x10l:Nat) (x10c:Nat) (x11:Int) (x12p:OA) (x12l:Nat) (x12c:Nat) (x13:Int) (x14:Int) (ds:List Deferred) (w:World):Prop :=
 ifB ((x14:Int) == 3) (zbt PP 43 #[(.pointer (some x6)),(i6 2)] w (fun v1 w1=>dT3 v1 fun n1 n2=>ifB (decide ((n1:Int) > 0)) (zbt PP 44 #[(.pointer (some x6)),(.bool (decide ((n1:Int)≤256))),(i6 57),(i6 n2)] w1 (fun v2 w3=>asT v2 fun t20=>zav t20 (zbt PP 45 #[(.pointer (some x6)),(i6 n1),(i6 4)] w3 (fun v3 w5=>dT4 v3 fun l1p l1l l1c n3=>zbt PP 42 #[(.pointer (some x6)),(i6 255),(i6 53)] w5 (fun v4 w7=>asT v4 fun t40=>zav t40 (J24_2 R X x0p x0l x0c x1 x4 x5 x6 x7 x9 x10p x10l x10c x11 l1p l1l l1c n3 ds w7)) (fun ch4 w8=>zbd PP (finA (fun w9=>ma1 w9 x4 fun l2p l2l l2c l3p l3l l3c l4p l4l l4c l5p l5l l5c n4=>ma2 w9 x5 fun n5 l6p l6l l6c n6 n7=>R (.tuple #[(.agg #[(.slice l2p l2l l2c),(.slice l3p l3l l3c),(.slice l4p l4l l4c),(.slice l5p l5l l5c),(i6 n4)]),(.agg #[(i6 n5),(.slice l6p l6l l6c),(i6 n6),(i6 n7)])]) w9) X) ds (.panicking ch4) w8)) (fun ch3 w6=>zbd PP (finA (fun w10=>ma1 w10 x4 fun l7p l7l l7c l8p l8l l8c l9p l9l l9c l10p l10l l10c n8=>ma2 w10 x5 fun n9 l11p l11l l11c n10 n11=>R (.tuple #[(.agg #[(.slice l7p l7l l7c),(.slice l8p l8l l8c),(.slice l9p l9l l9c),(.slice l10p l10l l10c),(i6 n8)]),(.agg #[(i6 n9),(.slice l11p l11l l11c),(i6 n10),(i6 n11)])]) w10) X) ds (.panicking ch3) w6))) (fun ch2 w4=>zbd PP (finA (fun w11=>ma1 w11 x4 fun l12p l12l l12c l13p l13l l13c l14p l14l l14c l15p l15l l15c n12=>ma2 w11 x5 fun n13 l16p l16l l16c n14 n15=>R (.tuple #[(.agg #[(.slice l12p l12l l12c),(.slice l13p l13l l13c),(.slice l14p l14l l14c),(.slice l15p l15l l15c),(i6 n12)]),(.agg #[(i6 n13),(.slice l16p l16l l16c),(i6 n14),(i6 n15)])]) w11) X) ds (.panicking ch2) w4)) (zbt PP 44 #[(.pointer (some x6)),(.bool false),(i6 57),(i6 n2)] w1 (fun v32 w12=>asT v32 fun t50=>zav t50 (zbt PP 45 #[(.pointer (some x6)),(i6 n1),(i6 4)] w12 (fun v33 w14=>dT4 v33 fun l17p l17l l17c n16=>zbt PP 42 #[(.pointer (some x6)),(i6 255),(i6 53)] w14 (fun v34 w16=>asT v34 fun t70=>zav t70 (J24_2 R X x0p x0l x0c x1 x4 x5 x6 x7 x9 x10p x10l x10c x11 l17p l17l l17c n16 ds w16)) (fun ch7 w17=>zbd PP (finA (fun w18=>ma1 w18 x4 fun l18p l18l l18c l19p l19l l19c l20p l20l l20c l21p l21l l21c n17=>ma2 w18 x5 fun n18 l22p l22l l22c n19 n20=>R (.tuple #[(.agg #[(.slice l18p l18l l18c),(.slice l19p l19l l19c),(.slice l20p l20l l20c),(.slice l21p l21l l21c),(i6 n17)]),(.agg #[(i6 n18),(.slice l22p l22l l22c),(i6 n19),(i6 n20)])]) w18) X) ds (.panicking ch7) w17)) (fun ch6 w15=>zbd PP (finA (fun w19=>ma1 w19 x4 fun l23p l23l l23c l24p l24l l24c l25p l25l l25c l26p l26l l26c n21=>ma2 w19 x5 fun n22 l27p l27l l27c n23 n24=>R (.tuple #[(.agg #[(.slice l23p l23l l23c),(.slice l24p l24l l24c),(.slice l25p l25l l25c),(.slice l26p l26l l26c),(i6 n21)]),(.agg #[(i6 n22),(.slice l27p l27l l27c),(i6 n23),(i6 n24)])]) w19) X) ds (.panicking ch6) w15))) (fun ch5 w13=>zbd PP (finA (fun w20=>ma1 w20 x4 fun l28p l28l l28c l29p l29l l29c l30p l30l l30c l31p l31l l31c n25=>ma2 w20 x5 fun n26 l32p l32l l32c n27 n28=>R (.tuple #[(.agg #[(.slice l28p l28l l28c),(.slice l29p l29l l29c),(.slice l30p l30l l30c),(.slice l31p l31l l31c),(i6 n25)]),(.agg #[(i6 n26),(.slice l32p l32l l32c),(i6 n27),(i6 n28)])]) w20) X) ds (.panicking ch5) w13))) (fun ch1 w2=>zbd PP (finA (fun w21=>ma1 w21 x4 fun l33p l33l l33c l34p l34l l34c l35p l35l l35c l36p l36l l36c n29=>ma2 w21 x5 fun n30 l37p l37l l37c n31 n32=>R (.tuple #[(.agg #[(.slice l33p l33l l33c),(.slice l34p l34l l34c),(.slice l35p l35l l35c),(.slice l36p l36l l36c),(i6 n29)]),(.agg #[(i6 n30),(.slice l37p l37l l37c),(i6 n31),(i6 n32)])]) w21) X) ds (.panicking ch1) w2)) (J24_2 R X x0p x0l x0c x1 x4 x5 x6 x7 x9 x10p x10l x10c x11 x12p x12l x12c x13 ds w)
def J24_0 (R:KV) (X:List PanicEntry→World→Prop) (x0p:OA) (x0l:Nat) (x0c:Nat) (x1:Bool) (x4:Addr) (x5:Addr) (x6:Addr) (x7:Int) (ds:List Deferred) (w:World):Prop :=
 zbt PP 42 #[(.pointer (some x6)),(i6 2),(i6 53)] w (fun v1 w1=>asT v1 fun t10=>zav t10 (zbt PP 43 #[(.pointer (some x6)),(i6 2)] w1 (fun v2 w3=>dT3 v2 fun n1 n2=>zbt PP 44 #[(.pointer (some x6)),(.bool ((IntKind.wrap .i64 (4 * n1):Int) == x7)),(i6 55),(i6 n2)] w3 (fun v3 w5=>asT v3 fun t30=>zav t30 (zbt PP 45 #[(.pointer (some x6)),(i6 n1),(i6 2)] w5 (fun v4 w7=>dT4 v4 fun l1p l1l l1c n3=>zbt PP 43 #[(.pointer (some x6)),(i6 1)] w7 (fun v5 w9=>dT3 v5 fun n4 n5=>ifB ((n4:Int) == 3) (zbt PP 44 #[(.pointer (some x6)),(.bool true),(i6 53),(i6 n5)] w9 (fun v6 w11=>asT v6 fun t60=>zav t60 (J24_1 R X x0p x0l x0c x1 x4 x5 x6 x7 n1 l1p l1l l1c n3 none 0 0 0 n4 ds w11)) (fun ch6 w12=>zbd PP (finA (fun w13=>ma1 w13 x4 fun l2p l2l l2c l3p l3l l3c l4p l4l l4c l5p l5l l5c n6=>ma2 w13 x5 fun n7 l6p l6l l6c n8 n9=>R (.tuple #[(.agg #[(.slice l2p l2l l2c),(.slice l3p l3l l3c),(.slice l4p l4l l4c),(.slice l5p l5l l5c),(i6 n6)]),(.agg #[(i6 n7),(.slice l6p l6l l6c),(i6 n8),(i6 n9)])]) w13) X) ds (.panicking ch6) w12)) (zbt PP 44 #[(.pointer (some x6)),(.bool ((n4:Int) == 255)),(i6 53),(i6 n5)] w9 (fun v16 w14=>asT v16 fun t70=>zav t70 (J24_1 R X x0p x0l x0c x1 x4 x5 x6 x7 n1 l1p l1l l1c n3 none 0 0 0 n4 ds w14)) (fun ch7 w15=>zbd PP (finA (fun w16=>ma1 w16 x4 fun l7p l7l l7c l8p l8l l8c l9p l9l l9c l10p l10l l10c n10=>ma2 w16 x5 fun n11 l11p l11l l11c n12 n13=>R (.tuple #[(.agg #[(.slice l7p l7l l7c),(.slice l8p l8l l8c),(.slice l9p l9l l9c),(.slice l10p l10l l10c),(i6 n10)]),(.agg #[(i6 n11),(.slice l11p l11l l11c),(i6 n12),(i6 n13)])]) w16) X) ds (.panicking ch7) w15))) (fun ch5 w10=>zbd PP (finA (fun w17=>ma1 w17 x4 fun l12p l12l l12c l13p l13l l13c l14p l14l l14c l15p l15l l15c n14=>ma2 w17 x5 fun n15 l16p l16l l16c n16 n17=>R (.tuple #[(.agg #[(.slice l12p l12l l12c),(.slice l13p l13l l13c),(.slice l14p l14l l14c),(.slice l15p l15l l15c),(i6 n14)]),(.agg #[(i6 n15),(.slice l16p l16l l16c),(i6 n16),(i6 n17)])]) w17) X) ds (.panicking ch5) w10)) (fun ch4 w8=>zbd PP (finA (fun w18=>ma1 w18 x4 fun l17p l17l l17c l18p l18l l18c l19p l19l l19c l20p l20l l20c n18=>ma2 w18 x5 fun n19 l21p l21l l21c n20 n21=>R (.tuple #[(.agg #[(.slice l17p l17l l17c),(.slice l18p l18l l18c),(.slice l19p l19l l19c),(.slice l20p l20l l20c),(i6 n18)]),(.agg #[(i6 n19),(.slice l21p l21l l21c),(i6 n20),(i6 n21)])]) w18) X) ds (.panicking ch4) w8))) (fun ch3 w6=>zbd PP (finA (fun w19=>ma1 w19 x4 fun l22p l22l l22c l23p l23l l23c l24p l24l l24c l25p l25l l25c n22=>ma2 w19 x5 fun n23 l26p l26l l26c n24 n25=>R (.tuple #[(.agg #[(.slice l22p l22l l22c),(.slice l23p l23l l23c),(.slice l24p l24l l24c),(.slice l25p l25l l25c),(i6 n22)]),(.agg #[(i6 n23),(.slice l26p l26l l26c),(i6 n24),(i6 n25)])]) w19) X) ds (.panicking ch3) w6)) (fun ch2 w4=>zbd PP (finA (fun w20=>ma1 w20 x4 fun l27p l27l l27c l28p l28l l28c l29p l29l l29c l30p l30l l30c n26=>ma2 w20 x5 fun n27 l31p l31l l31c n28 n29=>R (.tuple #[(.agg #[(.slice l27p l27l l27c),(.slice l28p l28l l28c),(.slice l29p l29l l29c),(.slice l30p l30l l30c),(i6 n26)]),(.agg #[(i6 n27),(.slice l31p l31l l31c),(i6 n28),(i6 n29)])]) w20) X) ds (.panicking ch2) w4))) (fun ch1 w2=>zbd PP (finA (fun w21=>ma1 w21 x4 fun l32p l32l l32c l33p l33l l33c l34p l34l l34c l35p l35l l35c n30=>ma2 w21 x5 fun n31 l36p l36l l36c n32 n33=>R (.tuple #[(.agg #[(.slice l32p l32l l32c),(.slice l33p l33l l33c),(.slice l34p l34l l34c),(.slice l35p l35l l35c),(i6 n30)]),(.agg #[(i6 n31),(.slice l36p l36l l36c),(i6 n32),(i6 n33)])]) w21) X) ds (.panicking ch1) w2)
def F24 (a0p:OA) (a0l:Nat) (a0c:Nat) (a1:Bool) (w:World) (R:KV) (X:List PanicEntry→World→Prop):Prop :=
 zaf w (.cells #[(.slice none 0 0),(.slice none 0 0),(.slice none 0 0),(.slice none 0 0),(i6 0)] 27) fun w1=>zaf w1 (.cells #[(i6 0),(.slice none 0 0),(i6 0),(i6 0)] 31) fun w2=>zaf w2 (.cells #[(.slice a0p a0l a0c),(i6 0)] 115) fun w3=>zbt PP 42 #[(.pointer (some ⟨w2.heap.size,0,none⟩)),(i6 239),(i6 51)] w3 (fun v1 w4=>asT v1 fun t10=>zav t10 (zbt PP 42 #[(.pointer (some ⟨w2.heap.size,0,none⟩)),(i6 0),(i6 51)] w4 (fun v2 w6=>asT v2 fun t20=>zav t20 (zbt PP 42 #[(.pointer (some ⟨w2.heap.size,0,none⟩)),(i6 1),(i6 52)] w6 (fun v3 w8=>asT v3 fun t30=>zav t30 (zbt PP 42 #[(.pointer (some ⟨w2.heap.size,0,none⟩)),(i6 1),(i6 53)] w8 (fun v4 w10=>asT v4 fun t40=>zav t40 (zbt PP 43 #[(.pointer (some ⟨w2.heap.size,0,none⟩)),(i6 2)] w10 (fun v5 w12=>dT3 v5 fun n1 n2=>ifB (decide ((n1:Int) > 0)) (ifB ((Int.tmod n1 4:Int) == 0) (zbt PP 44 #[(.pointer (some ⟨w2.heap.size,0,none⟩)),(.bool (decide ((n1:Int)≤4096))),(i6 54),(i6 n2)] w12 (fun v6 w14=>asT v6 fun t60=>zav t60 (J24_0 R X a0p a0l a0c a1 ⟨w.heap.size,0,none⟩ ⟨w1.heap.size,0,none⟩ ⟨w2.heap.size,0,none⟩ n1 ({ target:=.fn (.func 41) #[(.pointer (some ⟨w.heap.size,0,none⟩)),(.pointer (some ⟨w1.heap.size,0,none⟩))],args:=#[] }::[]) w14)) (fun ch6 w15=>zbd PP (finA (fun w16=>mb5 w16 w.heap.size fun l1p l1l l1c l2p l2l l2c l3p l3l l3c l4p l4l l4c n3=>mb6 w16 w1.heap.size fun n4 l5p l5l l5c n5 n6=>R (.tuple #[(.agg #[(.slice l1p l1l l1c),(.slice l2p l2l l2c),(.slice l3p l3l l3c),(.slice l4p l4l l4c),(i6 n3)]),(.agg #[(i6 n4),(.slice l5p l5l l5c),(i6 n5),(i6 n6)])]) w16) X) ({ target:=.fn (.func 41) #[(.pointer (some ⟨w.heap.size,0,none⟩)),(.pointer (some ⟨w1.heap.size,0,none⟩))],args:=#[] }::[]) (.panicking ch6) w15)) (zbt PP 44 #[(.pointer (some ⟨w2.heap.size,0,none⟩)),(.bool false),(i6 54),(i6 n2)] w12 (fun v16 w17=>asT v16 fun t70=>zav t70 (J24_0 R X a0p a0l a0c a1 ⟨w.heap.size,0,none⟩ ⟨w1.heap.size,0,none⟩ ⟨w2.heap.size,0,none⟩ n1 ({ target:=.fn (.func 41) #[(.pointer (some ⟨w.heap.size,0,none⟩)),(.pointer (some ⟨w1.heap.size,0,none⟩))],args:=#[] }::[]) w17)) (fun ch7 w18=>zbd PP (finA (fun w19=>mb5 w19 w.heap.size fun l6p l6l l6c l7p l7l l7c l8p l8l l8c l9p l9l l9c n7=>mb6 w19 w1.heap.size fun n8 l10p l10l l10c n9 n10=>R (.tuple #[(.agg #[(.slice l6p l6l l6c),(.slice l7p l7l l7c),(.slice l8p l8l l8c),(.slice l9p l9l l9c),(i6 n7)]),(.agg #[(i6 n8),(.slice l10p l10l l10c),(i6 n9),(i6 n10)])]) w19) X) ({ target:=.fn (.func 41) #[(.pointer (some ⟨w.heap.size,0,none⟩)),(.pointer (some ⟨w1.heap.size,0,none⟩))],args:=#[] }::[]) (.panicking ch7) w18))) (zbt PP 44 #[(.pointer (some ⟨w2.heap.size,0,none⟩)),(.bool false),(i6 54),(i6 n2)] w12 (fun v26 w20=>asT v26 fun t80=>zav t80 (J24_0 R X a0p a0l a0c a1 ⟨w.heap.size,0,none⟩ ⟨w1.heap.size,0,none⟩ ⟨w2.heap.size,0,none⟩ n1 ({ target:=.fn (.func 41) #[(.pointer (some ⟨w.heap.size,0,none⟩)),(.pointer (some ⟨w1.heap.size,0,none⟩))],args:=#[] }::[]) w20)) (fun ch8 w21=>zbd PP (finA (fun w22=>mb5 w22 w.heap.size fun l11p l11l l11c l12p l12l l12c l13p l13l l13c l14p l14l l14c n11=>mb6 w22 w1.heap.size fun n12 l15p l15l l15c n13 n14=>R (.tuple #[(.agg #[(.slice l11p l11l l11c),(.slice l12p l12l l12c),(.slice l13p l13l l13c),(.slice l14p l14l l14c),(i6 n11)]),(.agg #[(i6 n12),(.slice l15p l15l l15c),(i6 n13),(i6 n14)])]) w22) X) ({ target:=.fn (.func 41) #[(.pointer (some ⟨w.heap.size,0,none⟩)),(.pointer (some ⟨w1.heap.size,0,none⟩))],args:=#[] }::[]) (.panicking ch8) w21))) (fun ch5 w13=>zbd PP (finA (fun w23=>mb5 w23 w.heap.size fun l16p l16l l16c l17p l17l l17c l18p l18l l18c l19p l19l l19c n15=>mb6 w23 w1.heap.size fun n16 l20p l20l l20c n17 n18=>R (.tuple #[(.agg #[(.slice l16p l16l l16c),(.slice l17p l17l l17c),(.slice l18p l18l l18c),(.slice l19p l19l l19c),(i6 n15)]),(.agg #[(i6 n16),(.slice l20p l20l l20c),(i6 n17),(i6 n18)])]) w23) X) ({ target:=.fn (.func 41) #[(.pointer (some ⟨w.heap.size,0,none⟩)),(.pointer (some ⟨w1.heap.size,0,none⟩))],args:=#[] }::[]) (.panicking ch5) w13))) (fun ch4 w11=>zbd PP (finA (fun w24=>mb5 w24 w.heap.size fun l21p l21l l21c l22p l22l l22c l23p l23l l23c l24p l24l l24c n19=>mb6 w24 w1.heap.size fun n20 l25p l25l l25c n21 n22=>R (.tuple #[(.agg #[(.slice l21p l21l l21c),(.slice l22p l22l l22c),(.slice l23p l23l l23c),(.slice l24p l24l l24c),(i6 n19)]),(.agg #[(i6 n20),(.slice l25p l25l l25c),(i6 n21),(i6 n22)])]) w24) X) ({ target:=.fn (.func 41) #[(.pointer (some ⟨w.heap.size,0,none⟩)),(.pointer (some ⟨w1.heap.size,0,none⟩))],args:=#[] }::[]) (.panicking ch4) w11))) (fun ch3 w9=>zbd PP (finA (fun w25=>mb5 w25 w.heap.size fun l26p l26l l26c l27p l27l l27c l28p l28l l28c l29p l29l l29c n23=>mb6 w25 w1.heap.size fun n24 l30p l30l l30c n25 n26=>R (.tuple #[(.agg #[(.slice l26p l26l l26c),(.slice l27p l27l l27c),(.slice l28p l28l l28c),(.slice l29p l29l l29c),(i6 n23)]),(.agg #[(i6 n24),(.slice l30p l30l l30c),(i6 n25),(i6 n26)])]) w25) X) ({ target:=.fn (.func 41) #[(.pointer (some ⟨w.heap.size,0,none⟩)),(.pointer (some ⟨w1.heap.size,0,none⟩))],args:=#[] }::[]) (.panicking ch3) w9))) (fun ch2 w7=>zbd PP (finA (fun w26=>mb5 w26 w.heap.size fun l31p l31l l31c l32p l32l l32c l33p l33l l33c l34p l34l l34c n27=>mb6 w26 w1.heap.size fun n28 l35p l35l l35c n29 n30=>R (.tuple #[(.agg #[(.slice l31p l31l l31c),(.slice l32p l32l l32c),(.slice l33p l33l l33c),(.slice l34p l34l l34c),(i6 n27)]),(.agg #[(i6 n28),(.slice l35p l35l l35c),(i6 n29),(i6 n30)])]) w26) X) ({ target:=.fn (.func 41) #[(.pointer (some ⟨w.heap.size,0,none⟩)),(.pointer (some ⟨w1.heap.size,0,none⟩))],args:=#[] }::[]) (.panicking ch2) w7))) (fun ch1 w5=>zbd PP (finA (fun w27=>mb5 w27 w.heap.size fun l36p l36l l36c l37p l37l l37c l38p l38l l38c l39p l39l l39c n31=>mb6 w27 w1.heap.size fun n32 l40p l40l l40c n33 n34=>R (.tuple #[(.agg #[(.slice l36p l36l l36c),(.slice l37p l37l l37c),(.slice l38p l38l l38c),(.slice l39p l39l l39c),(i6 n31)]),(.agg #[(i6 n32),(.slice l40p l40l l40c),(i6 n33),(i6 n34)])]) w27) X) ({ target:=.fn (.func 41) #[(.pointer (some ⟨w.heap.size,0,none⟩)),(.pointer (some ⟨w1.heap.size,0,none⟩))],args:=#[] }::[]) (.panicking ch1) w5)
def A24 (R:KV) (X:List PanicEntry→World→Prop):Ann:=(sN (.seq .pan (sN (.seq .pan (.seq .pan (.seq .pan (.seq .pan (.seq .pan (.join (fun e ds w=>asL (e 0) fun x0p x0l x0c=>asB (e 1) fun x1=>asA (e 4) fun x4=>asA (e 5) fun x5=>asA (e 6) fun x6=>aI e 7 fun x7=>J24_0 R X x0p x0l x0c x1 x4 x5 x6 x7 ds w) .pan (.seq .pan (.seq .pan (.seq .pan (.seq .pan (sN (sN (.seq .pan (.join (fun e ds w=>asL (e 0) fun x0p x0l x0c=>asB (e 1) fun x1=>asA (e 4) fun x4=>asA (e 5) fun x5=>asA (e 6) fun x6=>aI e 7 fun x7=>aI e 9 fun x9=>asL (e 10) fun x10p x10l x10c=>aI e 11 fun x11=>asL (e 12) fun x12p x12l x12c=>aI e 13 fun x13=>aI e 14 fun x14=>J24_1 R X x0p x0l x0c x1 x4 x5 x6 x7 x9 x10p x10l x10c x11 x12p x12l x12c x13 x14 ds w) .pan (.join (fun e ds w=>asL (e 0) fun x0p x0l x0c=>asB (e 1) fun x1=>asA (e 4) fun x4=>asA (e 5) fun x5=>asA (e 6) fun x6=>aI e 7 fun x7=>aI e 9 fun x9=>asL (e 10) fun x10p x10l x10c=>aI e 11 fun x11=>asL (e 12) fun x12p x12l x12c=>aI e 13 fun x13=>J24_2 R X x0p x0l x0c x1 x4 x5 x6 x7 x9 x10p x10l x10c x11 x12p x12l x12c x13 ds w) (sN (.cond (.seq .pan (.seq .pan (.seq .pan .pan))) .no)) (.seq .pan (.seq .pan (sN (.join (fun e ds w=>asL (e 0) fun x0p x0l x0c=>asA (e 4) fun x4=>asA (e 5) fun x5=>asA (e 6) fun x6=>aI e 9 fun x9=>asL (e 10) fun x10p x10l x10c=>asL (e 12) fun x12p x12l x12c=>aI e 17 fun x17=>J24_3 R X x0p x0l x0c x4 x5 x6 x9 x10p x10l x10c x12p x12l x12c x17 ds w) (.join (fun e ds w=>asL (e 0) fun x0p x0l x0c=>asA (e 4) fun x4=>asA (e 5) fun x5=>asA (e 6) fun x6=>aI e 9 fun x9=>asL (e 10) fun x10p x10l x10c=>asL (e 12) fun x12p x12l x12c=>aI e 17 fun x17=>asB (e 141) fun x141=>J24_4 R X x0p x0l x0c x4 x5 x6 x9 x10p x10l x10c x12p x12l x12c x17 x141 ds w) .no (.cond .pan .no)) (.seq .pan (.seq .pan (sN (sN (sN (.seq (.draw [0,1,2,3]) .no))))))))))))))))))))))))))))
theorem sides24 (R:KV) (X:List PanicEntry→World→Prop):fnXSides PP Tryz.f24 (A24 R X) R X:=by
 exact (zt (zt (zt (zt (zt (zt (zt (zt (ai (fun e ds w h=>eL h fun z0 h=>eB h fun z1 h=>eA h fun z4 h=>eA h fun z5 h=>eA h fun z6 h=>eI h fun z7 h=>by rw [← zag (aC z0 (aC z1 (aC z4 (aC z5 (aC z6 (aC z7 aN))))))];exact zq h) (zt (zt (zt (zt (zt (zt (zt (zt (ai (fun e ds w h=>eL h fun z0 h=>eB h fun z1 h=>eA h fun z4 h=>eA h fun z5 h=>eA h fun z6 h=>eI h fun z7 h=>eI h fun z9 h=>eL h fun z10 h=>eI h fun z11 h=>eL h fun z12 h=>eI h fun z13 h=>eI h fun z14 h=>by rw [← zag (aC z0 (aC z1 (aC z4 (aC z5 (aC z6 (aC z7 (aC z9 (aC z10 (aC z11 (aC z12 (aC z13 (aC z14 aN))))))))))))];exact zq h) (zt (ai (fun e ds w h=>eL h fun z0 h=>eB h fun z1 h=>eA h fun z4 h=>eA h fun z5 h=>eA h fun z6 h=>eI h fun z7 h=>eI h fun z9 h=>eL h fun z10 h=>eI h fun z11 h=>eL h fun z12 h=>eI h fun z13 h=>by rw [← zag (aC z0 (aC z1 (aC z4 (aC z5 (aC z6 (aC z7 (aC z9 (aC z10 (aC z11 (aC z12 (aC z13 aN)))))))))))];exact zq h) (ai (zt (ai (zt (zt (ai trivial trivial))) trivial)) (zt (zt (zt (ai (fun e ds w h=>eL h fun z0 h=>eA h fun z4 h=>eA h fun z5 h=>eA h fun z6 h=>eI h fun z9 h=>eL h fun z10 h=>eL h fun z12 h=>eI h fun z17 h=>by rw [← zag (aC z0 (aC z4 (aC z5 (aC z6 (aC z9 (aC z10 (aC z12 (aC z17 aN))))))))];exact zq h) (ai (ai (fun e ds w h=>eL h fun z0 h=>eA h fun z4 h=>eA h fun z5 h=>eA h fun z6 h=>eI h fun z9 h=>eL h fun z10 h=>eL h fun z12 h=>eI h fun z17 h=>eB h fun z141 h=>by rw [← zag (aC z0 (aC z4 (aC z5 (aC z6 (aC z9 (aC z10 (aC z12 (aC z17 (aC z141 aN)))))))))];exact zq h) (zt (ai trivial trivial))) (zt (zt (zt (zt (zt (ai trivial trivial))))))))))))))))))))))))))))))))
theorem call24 (a0p:OA) (a0l:Nat) (a0c:Nat) (a1:Bool) (w:World) (R:KV) (X:List PanicEntry→World→Prop) (h:F24 a0p a0l a0c a1 w R X):zbt PP 24 #[(.slice a0p a0l a0c),(.bool a1)] w R X :=
 callX_of (fn:=Tryz.f24) (an:=A24 R X) (args:=[(.slice a0p a0l a0c),(.bool a1)]) Tryz.func24 rfl (sides24 R X) (Eq.mp (by kernel_rfl) h)

def J25_9 (R:KV) (x1:Addr) (x6p:OA) (x6l:Nat) (x6c:Nat) (w:World):Prop :=
 gL w (Addr.add x1 3) fun l1p l1l l1c=>semK PP (Builtin.append_ #[22,22] 22 #[(.slice x6p x6l x6c),(.slice l1p l1l l1c)]) w fun v2 w1=>asL v2 fun l2p l2l l2c=>R (.tuple #[(.slice l2p l2l l2c),(i6 0)]) w1
def L25_10 (R:KV):Nat→Addr→OA→Nat→Nat→OA→Nat→Nat→Int→Int→World→Prop
 | 0=>fun _ _ _ _ _ _ _ _ _ _=>False
 | k+1=>fun x1 x6p x6l x6c x118p x118l x118c x119 x120 w=>ifB (decide ((x120:Int) < x119)) (semK PP (Instr.indexAt 25 (.slice x118p x118l x118c) (i6 x120)) w fun v1 w1=>asA v1 fun ad1=>gL w1 ad1 fun l1p l1l l1c=>semK PP (Builtin.append_ #[22,22] 22 #[(.slice x6p x6l x6c),(.slice l1p l1l l1c)]) w1 fun v3 w2=>asL v3 fun l2p l2l l2c=>L25_10 R k x1 l2p l2l l2c x118p x118l x118c x119 (IntKind.wrap .i64 (x120+1)) w2) (J25_9 R x1 x6p x6l x6c w)
def J25_7 (R:KV) (x1:Addr) (x6p:OA) (x6l:Nat) (x6c:Nat) (w:World):Prop :=
 gL w (Addr.add x1 2) fun l1p l1l l1c=>∃ m,L25_10 R m x1 x6p x6l x6c l1p l1l l1c (l1l:Nat) 0 w
def L25_8 (R:KV):Nat→Addr→OA→Nat→Nat→OA→Nat→Nat→Int→Int→World→Prop
 | 0=>fun _ _ _ _ _ _ _ _ _ _=>False
 | k+1=>fun x1 x6p x6l x6c x107p x107l x107c x108 x109 w=>ifB (decide ((x109:Int) < x108)) (semK PP (Instr.indexAt 25 (.slice x107p x107l x107c) (i6 x109)) w fun v1 w1=>asA v1 fun ad1=>gL w1 ad1 fun l1p l1l l1c=>semK PP (Builtin.append_ #[22,22] 22 #[(.slice x6p x6l x6c),(.slice l1p l1l l1c)]) w1 fun v3 w2=>asL v3 fun l2p l2l l2c=>L25_8 R k x1 l2p l2l l2c x107p x107l x107c x108 (IntKind.wrap .i64 (x109+1)) w2) (J25_7 R x1 x6p x6l x6c w)
def J25_5 (R:KV) (x1:Addr) (x6p:OA) (x6l:Nat) (x6c:Nat) (w:World):Prop :=
 gL w (Addr.add x1 1) fun l1p l1l l1c=>∃ m,L25_8 R m x1 x6p x6l x6c l1p l1l l1c (l1l:Nat) 0 w
def L25_6 (R:KV):Nat→Addr→OA→Nat→Nat→OA→Nat→Nat→Int→Int→World→Prop
 | 0=>fun _ _ _ _ _ _ _ _ _ _=>False
 | k+1=>fun x1 x6p x6l x6c x87p x87l x87c x88 x89 w=>ifB (decide ((x89:Int) < x88)) (semK PP (Instr.indexAt 24 (.slice x87p x87l x87c) (i6 x89)) w fun v1 w1=>asA v1 fun ad1=>ma7 w1 ad1 fun n1 n2 n3=>zaf w1 (.cells #[(i6 0),(i6 0),(i6 0)] 52) fun w2=>sU 52 ⟨w1.heap.size,0,none⟩ (.agg #[(i6 n1),(i6 n2),(i6 n3)]) w2 fun w3=>zbf w3 fun w4=>mb8 w4 w1.heap.size fun n4 n5 n6=>zaf w4 (.cells #[(.int .u8 (IntKind.wrap .u8 n4)),(.int .u8 (IntKind.wrap .u8 n5))] 5) fun w5=>(gI .i64 w5 ⟨w1.heap.size,2,none⟩ fun n7=>((i6 n7):Value)=(i6 n6))∧(semK PP (Builtin.append_ #[22,22] 22 #[(.slice x6p x6l x6c),(.slice (some ⟨w4.heap.size,0,none⟩) 2 2)]) w5 fun v9 w6=>asL v9 fun l1p l1l l1c=>(gI .i64 w6 ⟨w1.heap.size,2,none⟩ fun n8=>((i6 n8):Value)=(i6 n6))∧(CV 49 #[(.slice l1p l1l l1c),(i6 n6),(i6 2)] w6 fun v11 w7=>asL v11 fun l2p l2l l2c=>L25_6 R k x1 l2p l2l l2c x87p x87l x87c x88 (IntKind.wrap .i64 (x89+1)) w7))) (J25_5 R x1 x6p x6l x6c w)
def J25_4 (R:KV) (x1:Addr) (x6p:OA) (x6l:Nat) (x6c:Nat) (w:World):Prop :=
 gL w x1 fun l1p l1l l1c=>∃ m,L25_6 R m x1 x6p x6l x6c l1p l1l l1c (l1l:Nat) 0 w
def J25_2 (R:KV) (x1:Addr) (x6p:OA) (x6l:Nat) (x6c:Nat) (w:World):Prop :=
 zbf w fun w1=>gI .i64 w1 (Addr.add x1 4) fun n1=>(zaf w1 (.cells #[(.int .u8 255)] 5) fun w7=>(gI .i64 w7 (Addr.add x1 4) fun n5=>((i6 n5):Value)=(i6 n1))∧((semK PP (Builtin.append_ #[22,22] 22 #[(.slice x6p x6l x6c),(.slice (some ⟨w1.heap.size,0,none⟩) 1 1)]) w7 fun v14 w12=>asL v14 fun l7p l7l l7c=>(gI .i64 w12 (Addr.add x1 4) fun n8=>((i6 n8):Value)=(i6 n1))∧((CV 49 #[(.slice l7p l7l l7c),(i6 n1),(i6 2)] w12 fun v19 w16=>asL v19 fun l10p l10l l10c=>(zaf w16 (.cells #[(.int .u8 0)] 5) fun w17=>(gI .i64 w17 (Addr.add x1 4) fun n10=>((i6 n10):Value)=(i6 n1))∧((semK PP (Builtin.append_ #[22,22] 22 #[(.slice l10p l10l l10c),(.slice (some ⟨w16.heap.size,0,none⟩) 1 1)]) w17 fun v21 w18=>asL v21 fun l11p l11l l11c=>J25_4 R x1 l11p l11l l11c w18)∧(True)))∧(True))∧((zaf w12 (.cells #[(.int .u8 0)] 5) fun w13=>(gI .i64 w13 (Addr.add x1 4) fun n9=>((i6 n9):Value)=(i6 n1))∧((CV 49 #[(.slice l7p l7l l7c),(i6 n1),(i6 2)] w13 fun v17 w14=>asL v17 fun l8p l8l l8c=>(semK PP (Builtin.append_ #[22,22] 22 #[(.slice l8p l8l l8c),(.slice (some ⟨w12.heap.size,0,none⟩) 1 1)]) w14 fun v18 w15=>asL v18 fun l9p l9l l9c=>J25_4 R x1 l9p l9l l9c w15)∧(True))∧(True)))∧(True))))∧((zaf w7 (.cells #[(.int .u8 0)] 5) fun w8=>(gI .i64 w8 (Addr.add x1 4) fun n6=>((i6 n6):Value)=(i6 n1))∧((semK PP (Builtin.append_ #[22,22] 22 #[(.slice x6p x6l x6c),(.slice (some ⟨w1.heap.size,0,none⟩) 1 1)]) w8 fun v10 w9=>asL v10 fun l4p l4l l4c=>(gI .i64 w9 (Addr.add x1 4) fun n7=>((i6 n7):Value)=(i6 n1))∧((CV 49 #[(.slice l4p l4l l4c),(i6 n1),(i6 2)] w9 fun v12 w10=>asL v12 fun l5p l5l l5c=>(semK PP (Builtin.append_ #[22,22] 22 #[(.slice l5p l5l l5c),(.slice (some ⟨w7.heap.size,0,none⟩) 1 1)]) w10 fun v13 w11=>asL v13 fun l6p l6l l6c=>J25_4 R x1 l6p l6l l6c w11)∧(True))∧(True)))∧(True)))∧(True))))∧((zaf w1 (.cells #[(.int .u8 0)] 5) fun w2=>(gI .i64 w2 (Addr.add x1 4) fun n2=>((i6 n2):Value)=(i6 n1))∧((zaf w2 (.cells #[(.int .u8 255)] 5) fun w3=>(gI .i64 w3 (Addr.add x1 4) fun n3=>((i6 n3):Value)=(i6 n1))∧((semK PP (Builtin.append_ #[22,22] 22 #[(.slice x6p x6l x6c),(.slice (some ⟨w2.heap.size,0,none⟩) 1 1)]) w3 fun v4 w4=>asL v4 fun l1p l1l l1c=>(gI .i64 w4 (Addr.add x1 4) fun n4=>((i6 n4):Value)=(i6 n1))∧((CV 49 #[(.slice l1p l1l l1c),(i6 n1),(i6 2)] w4 fun v6 w5=>asL v6 fun l2p l2l l2c=>(semK PP (Builtin.append_ #[22,22] 22 #[(.slice l2p l2l l2c),(.slice (some ⟨w1.heap.size,0,none⟩) 1 1)]) w5 fun v7 w6=>asL v7 fun l3p l3l l3c=>J25_4 R x1 l3p l3l l3c w6)∧(True))∧(True)))∧(True)))∧(True)))∧(True))
def L25_3 (R:KV):Nat→Addr→OA→Nat→Nat→OA→Nat→Nat→Int→Int→World→Prop
 | 0=>fun _ _ _ _ _ _ _ _ _ _=>False
 | k+1=>fun x1 x6p x6l x6c x67p x67l x67c x68 x69 w=>ifB (decide ((x69:Int) < x68)) (semK PP (Instr.indexAt 25 (.slice x67p x67l x67c) (i6 x69)) w fun v1 w1=>asA v1 fun ad1=>gL w1 ad1 fun l1p l1l l1c=>CV 49 #[(.slice x6p x6l x6c),(i6 (l1l:Nat)),(i6 4)] w1 fun v3 w2=>asL v3 fun l2p l2l l2c=>L25_3 R k x1 l2p l2l l2c x67p x67l x67c x68 (IntKind.wrap .i64 (x69+1)) w2) (J25_2 R x1 x6p x6l x6c w)
def J25_0 (R:KV) (x1:Addr) (x6p:OA) (x6l:Nat) (x6c:Nat) (w:World):Prop :=
 gL w (Addr.add x1 2) fun l1p l1l l1c=>ifB (decide (((l1l:Nat):Int) > 0)) (zbf w fun w1=>gL w1 (Addr.add x1 2) fun l2p l2l l2c=>zaf w1 (.cells #[(.int .u8 3)] 5) fun w2=>(gL w2 (Addr.add x1 2) fun l3p l3l l3c=>((.slice l3p l3l l3c):Value)=(.slice l2p l2l l2c))∧((((i6 (l2l:Nat)):Value)=(i6 (l2l:Nat)))∧(semK PP (Builtin.append_ #[22,22] 22 #[(.slice x6p x6l x6c),(.slice (some ⟨w1.heap.size,0,none⟩) 1 1)]) w2 fun v4 w3=>asL v4 fun l4p l4l l4c=>(gL w3 (Addr.add x1 2) fun l5p l5l l5c=>((.slice l5p l5l l5c):Value)=(.slice l2p l2l l2c))∧((((i6 (l2l:Nat)):Value)=(i6 (l2l:Nat)))∧(CV 49 #[(.slice l4p l4l l4c),(i6 (l2l:Nat)),(i6 2)] w3 fun v6 w4=>asL v6 fun l6p l6l l6c=>gL w4 (Addr.add x1 2) fun l7p l7l l7c=>∃ m,L25_3 R m x1 l6p l6l l6c l7p l7l l7c (l7l:Nat) 0 w4))))) (J25_2 R x1 x6p x6l x6c w)
def L25_1 (R:KV):Nat→Addr→OA→Nat→Nat→OA→Nat→Nat→Int→Int→World→Prop
 | 0=>fun _ _ _ _ _ _ _ _ _ _=>False
 | k+1=>fun x1 x6p x6l x6c x44p x44l x44c x45 x46 w=>ifB (decide ((x46:Int) < x45)) (semK PP (Instr.indexAt 25 (.slice x44p x44l x44c) (i6 x46)) w fun v1 w1=>asA v1 fun ad1=>gL w1 ad1 fun l1p l1l l1c=>CV 49 #[(.slice x6p x6l x6c),(i6 (l1l:Nat)),(i6 2)] w1 fun v3 w2=>asL v3 fun l2p l2l l2c=>L25_1 R k x1 l2p l2l l2c x44p x44l x44c x45 (IntKind.wrap .i64 (x46+1)) w2) (J25_0 R x1 x6p x6l x6c w)
def F25 (a0_0p:OA) (a0_0l:Nat) (a0_0c:Nat) (a0_1p:OA) (a0_1l:Nat) (a0_1c:Nat) (a0_2p:OA) (a0_2l:Nat) (a0_2c:Nat) (a0_3p:OA) (a0_3l:Nat) (a0_3c:Nat) (a0_4:Int) (w:World) (R:KV):Prop :=
 zaf w (.cells #[(.slice a0_0p a0_0l a0_0c),(.slice a0_1p a0_1l a0_1c),(.slice a0_2p a0_2l a0_2c),(.slice a0_3p a0_3l a0_3c),(i6 a0_4)] 27) fun w1=>mb5 w1 w.heap.size fun l1p l1l l1c l2p l2l l2c l3p l3l l3c l4p l4l l4c n1=>CV 48 #[(.agg #[(.slice l1p l1l l1c),(.slice l2p l2l l2c),(.slice l3p l3l l3c),(.slice l4p l4l l4c),(i6 n1)])] w1 fun v6 w2=>dT3 v6 fun n2 n3=>ifB ((n3:Int) != 0) (R (.tuple #[(.slice none 0 0),(i6 n3)]) w2) (semK PP (Instr.makeSlice 22 (i6 0) (i6 n2)) w2 fun v7 w3=>asL v7 fun l5p l5l l5c=>zaf w3 (.cells #[(.int .u8 239),(.int .u8 0),(.int .u8 1),(.int .u8 1)] 5) fun w4=>semK PP (Builtin.append_ #[22,22] 22 #[(.slice l5p l5l l5c),(.slice (some ⟨w3.heap.size,0,none⟩) 4 4)]) w4 fun v8 w5=>asL v8 fun l6p l6l l6c=>gL w5 ⟨w.heap.size,0,none⟩ fun l7p l7l l7c=>CV 49 #[(.slice l6p l6l l6c),(i6 (IntKind.wrap .i64 (4 * (l7l:Nat)))),(i6 2)] w5 fun v10 w6=>asL v10 fun l8p l8l l8c=>zaf w6 (.cells #[(.int .u8 2)] 5) fun w7=>semK PP (Builtin.append_ #[22,22] 22 #[(.slice l8p l8l l8c),(.slice (some ⟨w6.heap.size,0,none⟩) 1 1)]) w7 fun v11 w8=>asL v11 fun l9p l9l l9c=>gL w8 ⟨w.heap.size,1,none⟩ fun l10p l10l l10c=>CV 49 #[(.slice l9p l9l l9c),(i6 (l10l:Nat)),(i6 2)] w8 fun v13 w9=>asL v13 fun l11p l11l l11c=>gL w9 ⟨w.heap.size,1,none⟩ fun l12p l12l l12c=>∃ m,L25_1 R m ⟨w.heap.size,0,none⟩ l11p l11l l11c l12p l12l l12c (l12l:Nat) 0 w9)
def A25 (R:KV):Ann:=(sN (sN (sN (sN (sN (sN (sN (.join (fun e ds w=>nilD ds (asA (e 1) fun x1=>asL (e 6) fun x6p x6l x6c=>J25_0 R x1 x6p x6l x6c w)) (sN (.block (.loop (fun m e ds w=>nilD ds (asA (e 1) fun x1=>asL (e 6) fun x6p x6l x6c=>asL (e 44) fun x44p x44l x44c=>aI e 45 fun x45=>aI e 46 fun x46=>L25_1 R m x1 x6p x6l x6c x44p x44l x44c x45 x46 w)) (fun kL25_1=>.no)))) (.join (fun e ds w=>nilD ds (asA (e 1) fun x1=>asL (e 6) fun x6p x6l x6c=>J25_2 R x1 x6p x6l x6c w)) (sN (.cond (.seq (.draw [0,3,4,5,1,2,6,7]) (sN (.block (.loop (fun m e ds w=>nilD ds (asA (e 1) fun x1=>asL (e 6) fun x6p x6l x6c=>asL (e 67) fun x67p x67l x67c=>aI e 68 fun x68=>aI e 69 fun x69=>L25_3 R m x1 x6p x6l x6c x67p x67l x67c x68 x69 w)) (fun kL25_3=>.no))))) .no)) (.join (fun e ds w=>nilD ds (asA (e 1) fun x1=>asL (e 6) fun x6p x6l x6c=>J25_4 R x1 x6p x6l x6c w)) (.drawT (.light 0 (.light 3 (.light 4 (.alt 1 (.alt 2 (.alt 5 (.alt 6 (.alt 7 (.light 8 .done) .none) .none) (.alt 6 (.alt 5 (.alt 7 (.light 8 .done) .none) .none) .none)) (.alt 6 (.alt 2 (.alt 5 (.alt 7 (.light 8 .done) .none) .none) .none) .none)) (.alt 6 (.alt 1 (.alt 2 (.alt 5 (.alt 7 (.light 8 .done) .none) .none) .none) .none) .none)))))) (.join (fun e ds w=>nilD ds (asA (e 1) fun x1=>asL (e 6) fun x6p x6l x6c=>J25_5 R x1 x6p x6l x6c w)) (sN (.block (.loop (fun m e ds w=>nilD ds (asA (e 1) fun x1=>asL (e 6) fun x6p x6l x6c=>asL (e 87) fun x87p x87l x87c=>aI e 88 fun x88=>aI e 89 fun x89=>L25_6 R m x1 x6p x6l x6c x87p x87l x87c x88 x89 w)) (fun kL25_6=>(sN (sN (.seq (.block (sN (.draw [0,1,2,3,4,5,6,9,10,7,8,11,12]))) .no))))))) (.join (fun e ds w=>nilD ds (asA (e 1) fun x1=>asL (e 6) fun x6p x6l x6c=>J25_7 R x1 x6p x6l x6c w)) (sN (.block (.loop (fun m e ds w=>nilD ds (asA (e 1) fun x1=>asL (e 6) fun x6p x6l x6c=>asL (e 107) fun x107p x107l x107c=>aI e 108 fun x108=>aI e 109 fun x109=>L25_8 R m x1 x6p x6l x6c x107p x107l x107c x108 x109 w)) (fun kL25_8=>.no)))) (.join (fun e ds w=>nilD ds (asA (e 1) fun x1=>asL (e 6) fun x6p x6l x6c=>J25_9 R x1 x6p x6l x6c w)) (sN (.block (.loop (fun m e ds w=>nilD ds (asA (e 1) fun x1=>asL (e 6) fun x6p x6l x6c=>asL (e 118) fun x118p x118l x118c=>aI e 119 fun x119=>aI e 120 fun x120=>L25_10 R m x1 x6p x6l x6c x118p x118l x118c x119 x120 w)) (fun kL25_10=>.no)))) .no)))))))))))))
theorem sides25 (R:KV):zak PP Tryz.f25 (A25 R) R:=by
 exact (zt (zt (zt (zt (zt (zt (zt (ai (zsi fun e w h=>eA h fun z1 h=>eL h fun z6 h=>by rw [← zag (aC z1 (aC z6 aN))];exact zq h) (ai (zt (ai (zsi fun e w h=>eA h fun z1 h=>eL h fun z6 h=>eL h fun z44 h=>eI h fun z45 h=>eI h fun z46 h=>h) (ai (fun kL25_1=>zsi fun e w h=>eA h fun z1 h=>eL h fun z6 h=>eL h fun z44 h=>eI h fun z45 h=>eI h fun z46 h=>by rw [← zag (aC z1 (aC z6 (aC z44 (aC z45 (aC z46 aN)))))];exact zq h) (fun kL25_1=>trivial)))) (ai (zsi fun e w h=>eA h fun z1 h=>eL h fun z6 h=>by rw [← zag (aC z1 (aC z6 aN))];exact zq h) (ai (zt (ai (zt (zt (ai (zsi fun e w h=>eA h fun z1 h=>eL h fun z6 h=>eL h fun z67 h=>eI h fun z68 h=>eI h fun z69 h=>h) (ai (fun kL25_3=>zsi fun e w h=>eA h fun z1 h=>eL h fun z6 h=>eL h fun z67 h=>eI h fun z68 h=>eI h fun z69 h=>by rw [← zag (aC z1 (aC z6 (aC z67 (aC z68 (aC z69 aN)))))];exact zq h) (fun kL25_3=>trivial))))) trivial)) (ai (zsi fun e w h=>eA h fun z1 h=>eL h fun z6 h=>by rw [← zag (aC z1 (aC z6 aN))];exact zq h) (zt (ai (zsi fun e w h=>eA h fun z1 h=>eL h fun z6 h=>by rw [← zag (aC z1 (aC z6 aN))];exact zq h) (ai (zt (ai (zsi fun e w h=>eA h fun z1 h=>eL h fun z6 h=>eL h fun z87 h=>eI h fun z88 h=>eI h fun z89 h=>h) (ai (fun kL25_6=>zsi fun e w h=>eA h fun z1 h=>eL h fun z6 h=>eL h fun z87 h=>eI h fun z88 h=>eI h fun z89 h=>by rw [← zag (aC z1 (aC z6 (aC z87 (aC z88 (aC z89 aN)))))];exact zq h) (fun kL25_6=>(zt (zt (ai (ai trivial trivial) trivial))))))) (ai (zsi fun e w h=>eA h fun z1 h=>eL h fun z6 h=>by rw [← zag (aC z1 (aC z6 aN))];exact zq h) (ai (zt (ai (zsi fun e w h=>eA h fun z1 h=>eL h fun z6 h=>eL h fun z107 h=>eI h fun z108 h=>eI h fun z109 h=>h) (ai (fun kL25_8=>zsi fun e w h=>eA h fun z1 h=>eL h fun z6 h=>eL h fun z107 h=>eI h fun z108 h=>eI h fun z109 h=>by rw [← zag (aC z1 (aC z6 (aC z107 (aC z108 (aC z109 aN)))))];exact zq h) (fun kL25_8=>trivial)))) (ai (zsi fun e w h=>eA h fun z1 h=>eL h fun z6 h=>by rw [← zag (aC z1 (aC z6 aN))];exact zq h) (ai (zt (ai (zsi fun e w h=>eA h fun z1 h=>eL h fun z6 h=>eL h fun z118 h=>eI h fun z119 h=>eI h fun z120 h=>h) (ai (fun kL25_10=>zsi fun e w h=>eA h fun z1 h=>eL h fun z6 h=>eL h fun z118 h=>eI h fun z119 h=>eI h fun z120 h=>by rw [← zag (aC z1 (aC z6 (aC z118 (aC z119 (aC z120 aN)))))];exact zq h) (fun kL25_10=>trivial)))) trivial)))))))))))))))))))
theorem call25 (a0_0p:OA) (a0_0l:Nat) (a0_0c:Nat) (a0_1p:OA) (a0_1l:Nat) (a0_1c:Nat) (a0_2p:OA) (a0_2l:Nat) (a0_2c:Nat) (a0_3p:OA) (a0_3l:Nat) (a0_3c:Nat) (a0_4:Int) (w:World) (R:KV) (h:F25 a0_0p a0_0l a0_0c a0_1p a0_1l a0_1c a0_2p a0_2l a0_2c a0_3p a0_3l a0_3c a0_4 w R):zaj PP 25 #[(.agg #[(.slice a0_0p a0_0l a0_0c),(.slice a0_1p a0_1l a0_1c),(.slice a0_2p a0_2l a0_2c),(.slice a0_3p a0_3l a0_3c),(i6 a0_4)])] w R :=
 zah (an:=A25 R) Tryz.func25 rfl (sides25 R) (Eq.mp (by kernel_rfl) h)

def F28 (a0p:OA) (a0l:Nat) (a0c:Nat) (w:World) (R:KV):Prop :=
 ifB (Option.isNone a0p) (R (.slice none 0 0) w) (zaf w (.cells #[] 5) fun w1=>semK PP (Builtin.append_ #[22,22] 22 #[(.slice (some ⟨w.heap.size,0,none⟩) 0 0),(.slice a0p a0l a0c)]) w1 fun v1 w2=>asL v1 fun l1p l1l l1c=>R (.slice l1p l1l l1c) w2)
def A28 (R:KV):Ann:=.no
theorem sides28 (R:KV):zak PP Tryz.f28 (A28 R) R:=by
 trivial
theorem call28 (a0p:OA) (a0l:Nat) (a0c:Nat) (w:World) (R:KV) (h:F28 a0p a0l a0c w R):zaj PP 28 #[(.slice a0p a0l a0c)] w R :=
 zah (an:=A28 R) Tryz.func28 rfl (sides28 R) (Eq.mp (by kernel_rfl) h)

def J29_2 (R:KV) (x4:Addr) (x6:Addr) (w:World):Prop :=
 CV 66 #[(.pointer (some x6))] w fun v1 w1=>dT9 v1 fun n1 b1=>ifB b1 (sU 31 x4 (.agg #[(i6 87),(.slice none 0 0),(i6 n1),(i6 0)]) w1 fun w2=>ma2 w2 x4 fun n2 l1p l1l l1c n3 n4=>R (.agg #[(i6 n2),(.slice l1p l1l l1c),(i6 n3),(i6 n4)]) w2) (CV 67 #[(.pointer (some x6))] w1 fun v6 w3=>dG10 v6 fun n5 l2p l2l l2c n6 n7=>sU 31 x4 (.agg #[(i6 n5),(.slice l2p l2l l2c),(i6 n6),(i6 n7)]) w3 fun w4=>ma2 w4 x4 fun n8 l3p l3l l3c n9 n10=>R (.agg #[(i6 n8),(.slice l3p l3l l3c),(i6 n9),(i6 n10)]) w4)
def L29_3 (R:KV):Nat→Addr→Addr→Int→Int→World→Prop
 | 0=>fun _ _ _ _ _=>False
 | k+1=>fun x4 x6 x43 x44 w=>ifB (decide ((x44:Int) < x43)) (CV 65 #[(.pointer (some x6)),(i6 x44)] w fun v1 w1=>dT3 v1 fun n1 n2=>ifB ((n1:Int) != 0) (sU 31 x4 (.agg #[(i6 n1),(.slice none 0 0),(i6 x44),(i6 n2)]) w1 fun w2=>ma2 w2 x4 fun n3 l1p l1l l1c n4 n5=>R (.agg #[(i6 n3),(.slice l1p l1l l1c),(i6 n4),(i6 n5)]) w2) (L29_3 R k x4 x6 x43 (IntKind.wrap .i64 (x44+1)) w1)) (J29_2 R x4 x6 w)
def J29_1 (R:KV) (x2:Addr) (x4:Addr) (x6:Addr) (w:World):Prop :=
 gL w (Addr.add x2 1) fun l1p l1l l1c=>∃ m,L29_3 R m x4 x6 (l1l:Nat) 0 w
def J29_0 (R:KV) (x1:Int) (x2:Addr) (x4:Addr) (w:World):Prop :=
 ma1 w x2 fun l1p l1l l1c l2p l2l l2c l3p l3l l3c l4p l4l l4c n1=>CV 64 #[(.agg #[(.slice l1p l1l l1c),(.slice l2p l2l l2c),(.slice l3p l3l l3c),(.slice l4p l4l l4c),(i6 n1)])] w fun v6 w1=>asI .i64 v6 fun n2=>ifB ((n2:Int) != 0) (sU 31 x4 (.agg #[(i6 n2),(.slice none 0 0),(i6 0),(i6 0)]) w1 fun w2=>ma2 w2 x4 fun n3 l5p l5l l5c n4 n5=>R (.agg #[(i6 n3),(.slice l5p l5l l5c),(i6 n4),(i6 n5)]) w2) (zbf w1 fun w3=>ma1 w3 x2 fun l6p l6l l6c l7p l7l l7c l8p l8l l8c l9p l9l l9c n6=>gL w3 (Addr.add x2 2) fun l10p l10l l10c=>gL w3 (Addr.add x2 2) fun l11p l11l l11c=>gL w3 (Addr.add x2 1) fun l12p l12l l12c=>(semK PP (Instr.makeSlice 47 (i6 (l10l:Nat)) (i6 (l10l:Nat))) w3 fun v99 w18=>asL v99 fun l83p l83l l83c=>(ma1 w18 x2 fun l84p l84l l84c l85p l85l l85c l86p l86l l86c l87p l87l l87c n17=>((.agg #[(.slice l84p l84l l84c),(.slice l85p l85l l85c),(.slice l86p l86l l86c),(.slice l87p l87l l87c),(i6 n17)]):Value)=(.agg #[(.slice l6p l6l l6c),(.slice l7p l7l l7c),(.slice l8p l8l l8c),(.slice l9p l9l l9c),(i6 n6)]))∧((gL w18 (Addr.add x2 2) fun l88p l88l l88c=>((.slice l88p l88l l88c):Value)=(.slice l11p l11l l11c))∧((((i6 (l11l:Nat)):Value)=(i6 (l11l:Nat)))∧((gL w18 (Addr.add x2 1) fun l89p l89l l89c=>((.slice l89p l89l l89c):Value)=(.slice l12p l12l l12c))∧((((i6 (l12l:Nat)):Value)=(i6 (l12l:Nat)))∧((semK PP (Instr.makeSlice 47 (i6 (l11l:Nat)) (i6 (l11l:Nat))) w18 fun v123 w22=>asL v123 fun l104p l104l l104c=>(ma1 w22 x2 fun l105p l105l l105c l106p l106l l106c l107p l107l l107c l108p l108l l108c n20=>((.agg #[(.slice l105p l105l l105c),(.slice l106p l106l l106c),(.slice l107p l107l l107c),(.slice l108p l108l l108c),(i6 n20)]):Value)=(.agg #[(.slice l6p l6l l6c),(.slice l7p l7l l7c),(.slice l8p l8l l8c),(.slice l9p l9l l9c),(i6 n6)]))∧((gL w22 (Addr.add x2 2) fun l109p l109l l109c=>((.slice l109p l109l l109c):Value)=(.slice l10p l10l l10c))∧((((i6 (l10l:Nat)):Value)=(i6 (l10l:Nat)))∧((gL w22 (Addr.add x2 1) fun l110p l110l l110c=>((.slice l110p l110l l110c):Value)=(.slice l12p l12l l12c))∧((((i6 (l12l:Nat)):Value)=(i6 (l12l:Nat)))∧((semK PP (Instr.makeSlice 141 (i6 (l12l:Nat)) (i6 (l12l:Nat))) w22 fun v131 w23=>asL v131 fun l111p l111l l111c=>(ma1 w23 x2 fun l112p l112l l112c l113p l113l l113c l114p l114l l114c l115p l115l l115c n21=>((.agg #[(.slice l112p l112l l112c),(.slice l113p l113l l113c),(.slice l114p l114l l114c),(.slice l115p l115l l115c),(i6 n21)]):Value)=(.agg #[(.slice l6p l6l l6c),(.slice l7p l7l l7c),(.slice l8p l8l l8c),(.slice l9p l9l l9c),(i6 n6)]))∧((gL w23 (Addr.add x2 2) fun l116p l116l l116c=>((.slice l116p l116l l116c):Value)=(.slice l10p l10l l10c))∧((((i6 (l10l:Nat)):Value)=(i6 (l10l:Nat)))∧((gL w23 (Addr.add x2 2) fun l117p l117l l117c=>((.slice l117p l117l l117c):Value)=(.slice l11p l11l l11c))∧((((i6 (l11l:Nat)):Value)=(i6 (l11l:Nat)))∧((zaf w23 (.cells #[(.slice l6p l6l l6c),(.slice l7p l7l l7c),(.slice l8p l8l l8c),(.slice l9p l9l l9c),(i6 n6),(i6 x1),(.slice l83p l83l l83c),(.slice l104p l104l l104c),(.slice l111p l111l l111c)] 143) fun w24=>J29_1 R x2 x4 ⟨w23.heap.size,0,none⟩ w24)∧(True)))))))∧(True)))))))∧((semK PP (Instr.makeSlice 141 (i6 (l12l:Nat)) (i6 (l12l:Nat))) w18 fun v107 w19=>asL v107 fun l90p l90l l90c=>(ma1 w19 x2 fun l91p l91l l91c l92p l92l l92c l93p l93l l93c l94p l94l l94c n18=>((.agg #[(.slice l91p l91l l91c),(.slice l92p l92l l92c),(.slice l93p l93l l93c),(.slice l94p l94l l94c),(i6 n18)]):Value)=(.agg #[(.slice l6p l6l l6c),(.slice l7p l7l l7c),(.slice l8p l8l l8c),(.slice l9p l9l l9c),(i6 n6)]))∧((gL w19 (Addr.add x2 2) fun l95p l95l l95c=>((.slice l95p l95l l95c):Value)=(.slice l10p l10l l10c))∧((((i6 (l10l:Nat)):Value)=(i6 (l10l:Nat)))∧((gL w19 (Addr.add x2 2) fun l96p l96l l96c=>((.slice l96p l96l l96c):Value)=(.slice l11p l11l l11c))∧((((i6 (l11l:Nat)):Value)=(i6 (l11l:Nat)))∧((semK PP (Instr.makeSlice 47 (i6 (l11l:Nat)) (i6 (l11l:Nat))) w19 fun v115 w20=>asL v115 fun l97p l97l l97c=>(ma1 w20 x2 fun l98p l98l l98c l99p l99l l99c l100p l100l l100c l101p l101l l101c n19=>((.agg #[(.slice l98p l98l l98c),(.slice l99p l99l l99c),(.slice l100p l100l l100c),(.slice l101p l101l l101c),(i6 n19)]):Value)=(.agg #[(.slice l6p l6l l6c),(.slice l7p l7l l7c),(.slice l8p l8l l8c),(.slice l9p l9l l9c),(i6 n6)]))∧((gL w20 (Addr.add x2 2) fun l102p l102l l102c=>((.slice l102p l102l l102c):Value)=(.slice l10p l10l l10c))∧((((i6 (l10l:Nat)):Value)=(i6 (l10l:Nat)))∧((gL w20 (Addr.add x2 1) fun l103p l103l l103c=>((.slice l103p l103l l103c):Value)=(.slice l12p l12l l12c))∧((((i6 (l12l:Nat)):Value)=(i6 (l12l:Nat)))∧((zaf w20 (.cells #[(.slice l6p l6l l6c),(.slice l7p l7l l7c),(.slice l8p l8l l8c),(.slice l9p l9l l9c),(i6 n6),(i6 x1),(.slice l83p l83l l83c),(.slice l97p l97l l97c),(.slice l90p l90l l90c)] 143) fun w21=>J29_1 R x2 x4 ⟨w20.heap.size,0,none⟩ w21)∧(True)))))))∧(True)))))))∧(True))))))))∧((semK PP (Instr.makeSlice 47 (i6 (l11l:Nat)) (i6 (l11l:Nat))) w3 fun v59 w11=>asL v59 fun l48p l48l l48c=>(ma1 w11 x2 fun l49p l49l l49c l50p l50l l50c l51p l51l l51c l52p l52l l52c n12=>((.agg #[(.slice l49p l49l l49c),(.slice l50p l50l l50c),(.slice l51p l51l l51c),(.slice l52p l52l l52c),(i6 n12)]):Value)=(.agg #[(.slice l6p l6l l6c),(.slice l7p l7l l7c),(.slice l8p l8l l8c),(.slice l9p l9l l9c),(i6 n6)]))∧((gL w11 (Addr.add x2 2) fun l53p l53l l53c=>((.slice l53p l53l l53c):Value)=(.slice l10p l10l l10c))∧((((i6 (l10l:Nat)):Value)=(i6 (l10l:Nat)))∧((gL w11 (Addr.add x2 1) fun l54p l54l l54c=>((.slice l54p l54l l54c):Value)=(.slice l12p l12l l12c))∧((((i6 (l12l:Nat)):Value)=(i6 (l12l:Nat)))∧((semK PP (Instr.makeSlice 47 (i6 (l10l:Nat)) (i6 (l10l:Nat))) w11 fun v83 w15=>asL v83 fun l69p l69l l69c=>(ma1 w15 x2 fun l70p l70l l70c l71p l71l l71c l72p l72l l72c l73p l73l l73c n15=>((.agg #[(.slice l70p l70l l70c),(.slice l71p l71l l71c),(.slice l72p l72l l72c),(.slice l73p l73l l73c),(i6 n15)]):Value)=(.agg #[(.slice l6p l6l l6c),(.slice l7p l7l l7c),(.slice l8p l8l l8c),(.slice l9p l9l l9c),(i6 n6)]))∧((gL w15 (Addr.add x2 2) fun l74p l74l l74c=>((.slice l74p l74l l74c):Value)=(.slice l11p l11l l11c))∧((((i6 (l11l:Nat)):Value)=(i6 (l11l:Nat)))∧((gL w15 (Addr.add x2 1) fun l75p l75l l75c=>((.slice l75p l75l l75c):Value)=(.slice l12p l12l l12c))∧((((i6 (l12l:Nat)):Value)=(i6 (l12l:Nat)))∧((semK PP (Instr.makeSlice 141 (i6 (l12l:Nat)) (i6 (l12l:Nat))) w15 fun v91 w16=>asL v91 fun l76p l76l l76c=>(ma1 w16 x2 fun l77p l77l l77c l78p l78l l78c l79p l79l l79c l80p l80l l80c n16=>((.agg #[(.slice l77p l77l l77c),(.slice l78p l78l l78c),(.slice l79p l79l l79c),(.slice l80p l80l l80c),(i6 n16)]):Value)=(.agg #[(.slice l6p l6l l6c),(.slice l7p l7l l7c),(.slice l8p l8l l8c),(.slice l9p l9l l9c),(i6 n6)]))∧((gL w16 (Addr.add x2 2) fun l81p l81l l81c=>((.slice l81p l81l l81c):Value)=(.slice l10p l10l l10c))∧((((i6 (l10l:Nat)):Value)=(i6 (l10l:Nat)))∧((gL w16 (Addr.add x2 2) fun l82p l82l l82c=>((.slice l82p l82l l82c):Value)=(.slice l11p l11l l11c))∧((((i6 (l11l:Nat)):Value)=(i6 (l11l:Nat)))∧((zaf w16 (.cells #[(.slice l6p l6l l6c),(.slice l7p l7l l7c),(.slice l8p l8l l8c),(.slice l9p l9l l9c),(i6 n6),(i6 x1),(.slice l69p l69l l69c),(.slice l48p l48l l48c),(.slice l76p l76l l76c)] 143) fun w17=>J29_1 R x2 x4 ⟨w16.heap.size,0,none⟩ w17)∧(True)))))))∧(True)))))))∧((semK PP (Instr.makeSlice 141 (i6 (l12l:Nat)) (i6 (l12l:Nat))) w11 fun v67 w12=>asL v67 fun l55p l55l l55c=>(ma1 w12 x2 fun l56p l56l l56c l57p l57l l57c l58p l58l l58c l59p l59l l59c n13=>((.agg #[(.slice l56p l56l l56c),(.slice l57p l57l l57c),(.slice l58p l58l l58c),(.slice l59p l59l l59c),(i6 n13)]):Value)=(.agg #[(.slice l6p l6l l6c),(.slice l7p l7l l7c),(.slice l8p l8l l8c),(.slice l9p l9l l9c),(i6 n6)]))∧((gL w12 (Addr.add x2 2) fun l60p l60l l60c=>((.slice l60p l60l l60c):Value)=(.slice l10p l10l l10c))∧((((i6 (l10l:Nat)):Value)=(i6 (l10l:Nat)))∧((gL w12 (Addr.add x2 2) fun l61p l61l l61c=>((.slice l61p l61l l61c):Value)=(.slice l11p l11l l11c))∧((((i6 (l11l:Nat)):Value)=(i6 (l11l:Nat)))∧((semK PP (Instr.makeSlice 47 (i6 (l10l:Nat)) (i6 (l10l:Nat))) w12 fun v75 w13=>asL v75 fun l62p l62l l62c=>(ma1 w13 x2 fun l63p l63l l63c l64p l64l l64c l65p l65l l65c l66p l66l l66c n14=>((.agg #[(.slice l63p l63l l63c),(.slice l64p l64l l64c),(.slice l65p l65l l65c),(.slice l66p l66l l66c),(i6 n14)]):Value)=(.agg #[(.slice l6p l6l l6c),(.slice l7p l7l l7c),(.slice l8p l8l l8c),(.slice l9p l9l l9c),(i6 n6)]))∧((gL w13 (Addr.add x2 2) fun l67p l67l l67c=>((.slice l67p l67l l67c):Value)=(.slice l11p l11l l11c))∧((((i6 (l11l:Nat)):Value)=(i6 (l11l:Nat)))∧((gL w13 (Addr.add x2 1) fun l68p l68l l68c=>((.slice l68p l68l l68c):Value)=(.slice l12p l12l l12c))∧((((i6 (l12l:Nat)):Value)=(i6 (l12l:Nat)))∧((zaf w13 (.cells #[(.slice l6p l6l l6c),(.slice l7p l7l l7c),(.slice l8p l8l l8c),(.slice l9p l9l l9c),(i6 n6),(i6 x1),(.slice l62p l62l l62c),(.slice l48p l48l l48c),(.slice l55p l55l l55c)] 143) fun w14=>J29_1 R x2 x4 ⟨w13.heap.size,0,none⟩ w14)∧(True)))))))∧(True)))))))∧(True))))))))∧((semK PP (Instr.makeSlice 141 (i6 (l12l:Nat)) (i6 (l12l:Nat))) w3 fun v19 w4=>asL v19 fun l13p l13l l13c=>(ma1 w4 x2 fun l14p l14l l14c l15p l15l l15c l16p l16l l16c l17p l17l l17c n7=>((.agg #[(.slice l14p l14l l14c),(.slice l15p l15l l15c),(.slice l16p l16l l16c),(.slice l17p l17l l17c),(i6 n7)]):Value)=(.agg #[(.slice l6p l6l l6c),(.slice l7p l7l l7c),(.slice l8p l8l l8c),(.slice l9p l9l l9c),(i6 n6)]))∧((gL w4 (Addr.add x2 2) fun l18p l18l l18c=>((.slice l18p l18l l18c):Value)=(.slice l10p l10l l10c))∧((((i6 (l10l:Nat)):Value)=(i6 (l10l:Nat)))∧((gL w4 (Addr.add x2 2) fun l19p l19l l19c=>((.slice l19p l19l l19c):Value)=(.slice l11p l11l l11c))∧((((i6 (l11l:Nat)):Value)=(i6 (l11l:Nat)))∧((semK PP (Instr.makeSlice 47 (i6 (l10l:Nat)) (i6 (l10l:Nat))) w4 fun v43 w8=>asL v43 fun l34p l34l l34c=>(ma1 w8 x2 fun l35p l35l l35c l36p l36l l36c l37p l37l l37c l38p l38l l38c n10=>((.agg #[(.slice l35p l35l l35c),(.slice l36p l36l l36c),(.slice l37p l37l l37c),(.slice l38p l38l l38c),(i6 n10)]):Value)=(.agg #[(.slice l6p l6l l6c),(.slice l7p l7l l7c),(.slice l8p l8l l8c),(.slice l9p l9l l9c),(i6 n6)]))∧((gL w8 (Addr.add x2 2) fun l39p l39l l39c=>((.slice l39p l39l l39c):Value)=(.slice l11p l11l l11c))∧((((i6 (l11l:Nat)):Value)=(i6 (l11l:Nat)))∧((gL w8 (Addr.add x2 1) fun l40p l40l l40c=>((.slice l40p l40l l40c):Value)=(.slice l12p l12l l12c))∧((((i6 (l12l:Nat)):Value)=(i6 (l12l:Nat)))∧((semK PP (Instr.makeSlice 47 (i6 (l11l:Nat)) (i6 (l11l:Nat))) w8 fun v51 w9=>asL v51 fun l41p l41l l41c=>(ma1 w9 x2 fun l42p l42l l42c l43p l43l l43c l44p l44l l44c l45p l45l l45c n11=>((.agg #[(.slice l42p l42l l42c),(.slice l43p l43l l43c),(.slice l44p l44l l44c),(.slice l45p l45l l45c),(i6 n11)]):Value)=(.agg #[(.slice l6p l6l l6c),(.slice l7p l7l l7c),(.slice l8p l8l l8c),(.slice l9p l9l l9c),(i6 n6)]))∧((gL w9 (Addr.add x2 2) fun l46p l46l l46c=>((.slice l46p l46l l46c):Value)=(.slice l10p l10l l10c))∧((((i6 (l10l:Nat)):Value)=(i6 (l10l:Nat)))∧((gL w9 (Addr.add x2 1) fun l47p l47l l47c=>((.slice l47p l47l l47c):Value)=(.slice l12p l12l l12c))∧((((i6 (l12l:Nat)):Value)=(i6 (l12l:Nat)))∧((zaf w9 (.cells #[(.slice l6p l6l l6c),(.slice l7p l7l l7c),(.slice l8p l8l l8c),(.slice l9p l9l l9c),(i6 n6),(i6 x1),(.slice l34p l34l l34c),(.slice l41p l41l l41c),(.slice l13p l13l l13c)] 143) fun w10=>J29_1 R x2 x4 ⟨w9.heap.size,0,none⟩ w10)∧(True)))))))∧(True)))))))∧((semK PP (Instr.makeSlice 47 (i6 (l11l:Nat)) (i6 (l11l:Nat))) w4 fun v27 w5=>asL v27 fun l20p l20l l20c=>(ma1 w5 x2 fun l21p l21l l21c l22p l22l l22c l23p l23l l23c l24p l24l l24c n8=>((.agg #[(.slice l21p l21l l21c),(.slice l22p l22l l22c),(.slice l23p l23l l23c),(.slice l24p l24l l24c),(i6 n8)]):Value)=(.agg #[(.slice l6p l6l l6c),(.slice l7p l7l l7c),(.slice l8p l8l l8c),(.slice l9p l9l l9c),(i6 n6)]))∧((gL w5 (Addr.add x2 2) fun l25p l25l l25c=>((.slice l25p l25l l25c):Value)=(.slice l10p l10l l10c))∧((((i6 (l10l:Nat)):Value)=(i6 (l10l:Nat)))∧((gL w5 (Addr.add x2 1) fun l26p l26l l26c=>((.slice l26p l26l l26c):Value)=(.slice l12p l12l l12c))∧((((i6 (l12l:Nat)):Value)=(i6 (l12l:Nat)))∧((semK PP (Instr.makeSlice 47 (i6 (l10l:Nat)) (i6 (l10l:Nat))) w5 fun v35 w6=>asL v35 fun l27p l27l l27c=>(ma1 w6 x2 fun l28p l28l l28c l29p l29l l29c l30p l30l l30c l31p l31l l31c n9=>((.agg #[(.slice l28p l28l l28c),(.slice l29p l29l l29c),(.slice l30p l30l l30c),(.slice l31p l31l l31c),(i6 n9)]):Value)=(.agg #[(.slice l6p l6l l6c),(.slice l7p l7l l7c),(.slice l8p l8l l8c),(.slice l9p l9l l9c),(i6 n6)]))∧((gL w6 (Addr.add x2 2) fun l32p l32l l32c=>((.slice l32p l32l l32c):Value)=(.slice l11p l11l l11c))∧((((i6 (l11l:Nat)):Value)=(i6 (l11l:Nat)))∧((gL w6 (Addr.add x2 1) fun l33p l33l l33c=>((.slice l33p l33l l33c):Value)=(.slice l12p l12l l12c))∧((((i6 (l12l:Nat)):Value)=(i6 (l12l:Nat)))∧((zaf w6 (.cells #[(.slice l6p l6l l6c),(.slice l7p l7l l7c),(.slice l8p l8l l8c),(.slice l9p l9l l9c),(i6 n6),(i6 x1),(.slice l27p l27l l27c),(.slice l20p l20l l20c),(.slice l13p l13l l13c)] 143) fun w7=>J29_1 R x2 x4 ⟨w6.heap.size,0,none⟩ w7)∧(True)))))))∧(True)))))))∧(True))))))))∧(True))))
def F29 (a0_0p:OA) (a0_0l:Nat) (a0_0c:Nat) (a0_1p:OA) (a0_1l:Nat) (a0_1c:Nat) (a0_2p:OA) (a0_2l:Nat) (a0_2c:Nat) (a0_3p:OA) (a0_3l:Nat) (a0_3c:Nat) (a0_4:Int) (a1:Int) (w:World) (R:KV):Prop :=
 zaf w (.cells #[(.slice a0_0p a0_0l a0_0c),(.slice a0_1p a0_1l a0_1c),(.slice a0_2p a0_2l a0_2c),(.slice a0_3p a0_3l a0_3c),(i6 a0_4)] 27) fun w1=>zaf w1 (.cells #[(i6 0),(.slice none 0 0),(i6 0),(i6 0)] 31) fun w2=>ifB ((a1:Int) != 1) (ifB ((a1:Int) != 2) (sU 31 ⟨w1.heap.size,0,none⟩ (.agg #[(i6 1),(.slice none 0 0),(i6 0),(i6 0)]) w2 fun w3=>mb6 w3 w1.heap.size fun n1 l1p l1l l1c n2 n3=>R (.agg #[(i6 n1),(.slice l1p l1l l1c),(i6 n2),(i6 n3)]) w3) (J29_0 R a1 ⟨w.heap.size,0,none⟩ ⟨w1.heap.size,0,none⟩ w2)) (J29_0 R a1 ⟨w.heap.size,0,none⟩ ⟨w1.heap.size,0,none⟩ w2)
def A29 (R:KV):Ann:=(sN (.join (fun e ds w=>nilD ds (aI e 1 fun x1=>asA (e 2) fun x2=>asA (e 4) fun x4=>J29_0 R x1 x2 x4 w)) .no (sN (.join (fun e ds w=>nilD ds (asA (e 2) fun x2=>asA (e 4) fun x4=>asA (e 6) fun x6=>J29_1 R x2 x4 x6 w)) (.drawT (.light 0 (.light 1 (.light 2 (.light 3 (.light 4 (.light 6 (.light 7 (.light 8 (.light 10 (.light 11 (.light 12 (.alt 5 (.alt 9 (.alt 13 (.light 14 (.alt 15 (.light 16 .done) .none)) .none) (.alt 13 (.alt 9 (.light 14 (.alt 15 (.light 16 .done) .none)) .none) .none)) (.alt 9 (.alt 5 (.alt 13 (.light 14 (.alt 15 (.light 16 .done) .none)) .none) (.alt 13 (.alt 5 (.light 14 (.alt 15 (.light 16 .done) .none)) .none) .none)) (.alt 13 (.alt 5 (.alt 9 (.light 14 (.alt 15 (.light 16 .done) .none)) .none) (.alt 9 (.alt 5 (.light 14 (.alt 15 (.light 16 .done) .none)) .none) .none)) .none))))))))))))))) (.join (fun e ds w=>nilD ds (asA (e 4) fun x4=>asA (e 6) fun x6=>J29_2 R x4 x6 w)) (sN (.block (.loop (fun m e ds w=>nilD ds (asA (e 4) fun x4=>asA (e 6) fun x6=>aI e 43 fun x43=>aI e 44 fun x44=>L29_3 R m x4 x6 x43 x44 w)) (fun kL29_3=>.no)))) .no)))))
theorem sides29 (R:KV):zak PP Tryz.f29 (A29 R) R:=by
 exact (zt (ai (zsi fun e w h=>eI h fun z1 h=>eA h fun z2 h=>eA h fun z4 h=>by rw [← zag (aC z1 (aC z2 (aC z4 aN)))];exact zq h) (zt (zt (ai (zsi fun e w h=>eA h fun z2 h=>eA h fun z4 h=>eA h fun z6 h=>by rw [← zag (aC z2 (aC z4 (aC z6 aN)))];exact zq h) (zt (ai (zsi fun e w h=>eA h fun z4 h=>eA h fun z6 h=>by rw [← zag (aC z4 (aC z6 aN))];exact zq h) (ai (zt (ai (zsi fun e w h=>eA h fun z4 h=>eA h fun z6 h=>eI h fun z43 h=>eI h fun z44 h=>h) (ai (fun kL29_3=>zsi fun e w h=>eA h fun z4 h=>eA h fun z6 h=>eI h fun z43 h=>eI h fun z44 h=>by rw [← zag (aC z4 (aC z6 (aC z43 (aC z44 aN))))];exact zq h) (fun kL29_3=>trivial)))) trivial))))))))
theorem call29 (a0_0p:OA) (a0_0l:Nat) (a0_0c:Nat) (a0_1p:OA) (a0_1l:Nat) (a0_1c:Nat) (a0_2p:OA) (a0_2l:Nat) (a0_2c:Nat) (a0_3p:OA) (a0_3l:Nat) (a0_3c:Nat) (a0_4:Int) (a1:Int) (w:World) (R:KV) (h:F29 a0_0p a0_0l a0_0c a0_1p a0_1l a0_1c a0_2p a0_2l a0_2c a0_3p a0_3l a0_3c a0_4 a1 w R):zaj PP 29 #[(.agg #[(.slice a0_0p a0_0l a0_0c),(.slice a0_1p a0_1l a0_1c),(.slice a0_2p a0_2l a0_2c),(.slice a0_3p a0_3l a0_3c),(i6 a0_4)]),(i6 a1)] w R :=
 zah (an:=A29 R) Tryz.func29 rfl (sides29 R) (Eq.mp (by kernel_rfl) h)

def F30 (a0p:OA) (a0l:Nat) (a0c:Nat) (a1_0p:OA) (a1_0l:Nat) (a1_0c:Nat) (a1_1p:OA) (a1_1l:Nat) (a1_1c:Nat) (a1_2p:OA) (a1_2l:Nat) (a1_2c:Nat) (a1_3p:OA) (a1_3l:Nat) (a1_3c:Nat) (a1_4:Int) (a2:Int) (w:World) (R:KV):Prop :=
 zaf w (.cells #[(.slice a1_0p a1_0l a1_0c),(.slice a1_1p a1_1l a1_1c),(.slice a1_2p a1_2l a1_2c),(.slice a1_3p a1_3l a1_3c),(i6 a1_4)] 27) fun w1=>zbf w1 fun w2=>mb5 w2 w.heap.size fun l1p l1l l1c l2p l2l l2c l3p l3l l3c l4p l4l l4c n1=>gL w2 ⟨w.heap.size,1,none⟩ fun l5p l5l l5c=>semK PP (Instr.makeSlice 108 (i6 (l5l:Nat)) (i6 (l5l:Nat))) w2 fun v7 w3=>asL v7 fun l6p l6l l6c=>(mb5 w3 w.heap.size fun l7p l7l l7c l8p l8l l8c l9p l9l l9c l10p l10l l10c n2=>((.agg #[(.slice l7p l7l l7c),(.slice l8p l8l l8c),(.slice l9p l9l l9c),(.slice l10p l10l l10c),(i6 n2)]):Value)=(.agg #[(.slice l1p l1l l1c),(.slice l2p l2l l2c),(.slice l3p l3l l3c),(.slice l4p l4l l4c),(i6 n1)]))∧(zaf w3 (.cells #[(.slice a0p a0l a0c),(.slice l1p l1l l1c),(.slice l2p l2l l2c),(.slice l3p l3l l3c),(.slice l4p l4l l4c),(i6 n1),(i6 a2),(.slice l6p l6l l6c)] 110) fun w4=>R (.pointer (some ⟨w3.heap.size,0,none⟩)) w4)
def A30 (R:KV):Ann:=(sN (.seq (.draw [0,1,2,3,4,5,6,7,8,9]) .no))
theorem sides30 (R:KV):zak PP Tryz.f30 (A30 R) R:=by
 exact (zt (ai trivial trivial))
theorem call30 (a0p:OA) (a0l:Nat) (a0c:Nat) (a1_0p:OA) (a1_0l:Nat) (a1_0c:Nat) (a1_1p:OA) (a1_1l:Nat) (a1_1c:Nat) (a1_2p:OA) (a1_2l:Nat) (a1_2c:Nat) (a1_3p:OA) (a1_3l:Nat) (a1_3c:Nat) (a1_4:Int) (a2:Int) (w:World) (R:KV) (h:F30 a0p a0l a0c a1_0p a1_0l a1_0c a1_1p a1_1l a1_1c a1_2p a1_2l a1_2c a1_3p a1_3l a1_3c a1_4 a2 w R):zaj PP 30 #[(.slice a0p a0l a0c),(.agg #[(.slice a1_0p a1_0l a1_0c),(.slice a1_1p a1_1l a1_1c),(.slice a1_2p a1_2l a1_2c),(.slice a1_3p a1_3l a1_3c),(i6 a1_4)]),(i6 a2)] w R :=
 zah (an:=A30 R) Tryz.func30 rfl (sides30 R) (Eq.mp (by kernel_rfl) h)

def J67_2 (R:KV) (C_L67_1:OA→Addr→Int→Int→World→Prop) (x0:OA) (x2:Addr) (x3:Int) (x15:Int) (x16:Int) (x36:Bool) (w:World):Prop :=
 ifB x36 (zaf w (.cells #[(i6 x3)] 3) fun w1=>sU 31 x2 (.agg #[(i6 88),(.slice (some ⟨w.heap.size,0,none⟩) 1 1),(i6 0),(i6 0)]) w1 fun w2=>ma2 w2 x2 fun n1 l1p l1l l1c n2 n3=>R (.agg #[(i6 n1),(.slice l1p l1l l1c),(i6 n2),(i6 n3)]) w2) (C_L67_1 x0 x2 x15 (IntKind.wrap .i64 (x16+1)) w)
def J67_5 (R:KV) (C_L67_4:OA→Addr→Int→Int→World→Prop) (x0:OA) (x2:Addr) (x4:Int) (x46:Int) (x47:Int) (x65:Bool) (w:World):Prop :=
 ifB x65 (zaf w (.cells #[(i6 x4)] 3) fun w1=>sU 31 x2 (.agg #[(i6 89),(.slice (some ⟨w.heap.size,0,none⟩) 1 1),(i6 0),(i6 0)]) w1 fun w2=>ma2 w2 x2 fun n1 l1p l1l l1c n2 n3=>R (.agg #[(i6 n1),(.slice l1p l1l l1c),(i6 n2),(i6 n3)]) w2) (C_L67_4 x0 x2 x46 (IntKind.wrap .i64 (x47+1)) w)
def J67_9 (R:KV) (C_L67_7:OA→Addr→OA→Nat→Nat→Int→Int→World→Prop) (x0:OA) (x2:Addr) (x5:Int) (x9:Addr) (x74p:OA) (x74l:Nat) (x74c:Nat) (x75:Int) (x76:Int) (w:World):Prop :=
 gI .i64 w x9 fun n1=>ifB ((n1:Int) != 0) (zaf w (.cells #[(i6 x5)] 3) fun w1=>gL w1 (Addr.add x9 1) fun l1p l1l l1c=>semK PP (Builtin.append_ #[29,29] 29 #[(.slice (some ⟨w.heap.size,0,none⟩) 1 1),(.slice l1p l1l l1c)]) w1 fun v3 w2=>asL v3 fun l2p l2l l2c=>sU 29 (Addr.add x9 1) (.slice l2p l2l l2c) w2 fun w3=>ma2 w3 x9 fun n2 l3p l3l l3c n3 n4=>sU 31 x2 (.agg #[(i6 n2),(.slice l3p l3l l3c),(i6 n3),(i6 n4)]) w3 fun w4=>ma2 w4 x2 fun n5 l4p l4l l4c n6 n7=>R (.agg #[(i6 n5),(.slice l4p l4l l4c),(i6 n6),(i6 n7)]) w4) (C_L67_7 x0 x2 x74p x74l x74c x75 (IntKind.wrap .i64 (x76+1)) w)
def J67_8 (R:KV) (C_L67_7:OA→Addr→OA→Nat→Nat→Int→Int→World→Prop) (x0:OA) (x2:Addr) (x5:Int) (x6p:OA) (x6l:Nat) (x6c:Nat) (x7:Int) (x74p:OA) (x74l:Nat) (x74c:Nat) (x75:Int) (x76:Int) (w:World):Prop :=
 optP x0 fun ad1=>gL w (Addr.add ad1 7) fun l1p l1l l1c=>semK PP (Instr.indexAt 47 (.slice l1p l1l l1c) (i6 x5)) w fun v2 w1=>asA v2 fun ad2=>gB w1 ad2 fun b1=>CV 24 #[(.slice x6p x6l x6c),(.bool b1)] w1 fun v4 w2=>dT11 v4 fun l2p l2l l2c l3p l3l l3c l4p l4l l4c l5p l5l l5c n1 n2 l6p l6l l6c n3 n4=>zaf w2 (.cells #[(.slice none 0 0),(.slice none 0 0),(.slice none 0 0),(.slice none 0 0),(i6 0)] 27) fun w3=>zaf w3 (.cells #[(i6 0),(.slice none 0 0),(i6 0),(i6 0)] 31) fun w4=>sU 27 ⟨w2.heap.size,0,none⟩ (.agg #[(.slice l2p l2l l2c),(.slice l3p l3l l3c),(.slice l4p l4l l4c),(.slice l5p l5l l5c),(i6 n1)]) w4 fun w5=>sU 31 ⟨w3.heap.size,0,none⟩ (.agg #[(i6 n2),(.slice l6p l6l l6c),(i6 n3),(i6 n4)]) w5 fun w6=>gI .i64 w6 ⟨w3.heap.size,0,none⟩ fun n5=>ifB ((n5:Int) == 0) (mb5 w6 w2.heap.size fun l7p l7l l7c l8p l8l l8c l9p l9l l9c l10p l10l l10c n6=>CV 29 #[(.agg #[(.slice l7p l7l l7c),(.slice l8p l8l l8c),(.slice l9p l9l l9c),(.slice l10p l10l l10c),(i6 n6)]),(i6 x7)] w6 fun v11 w7=>dG10 v11 fun n7 l11p l11l l11c n8 n9=>sU 31 ⟨w3.heap.size,0,none⟩ (.agg #[(i6 n7),(.slice l11p l11l l11c),(i6 n8),(i6 n9)]) w7 fun w8=>J67_9 R C_L67_7 x0 x2 x5 ⟨w3.heap.size,0,none⟩ x74p x74l x74c x75 x76 w8) (J67_9 R C_L67_7 x0 x2 x5 ⟨w3.heap.size,0,none⟩ x74p x74l x74c x75 x76 w6)
def J67_6 (R:KV) (x2:Addr) (w:World):Prop :=
 sU 31 x2 (.agg #[(i6 0),(.slice none 0 0),(i6 0),(i6 0)]) w fun w1=>ma2 w1 x2 fun n1 l1p l1l l1c n2 n3=>R (.agg #[(i6 n1),(.slice l1p l1l l1c),(i6 n2),(i6 n3)]) w1
def L67_7 (R:KV):Nat→OA→Addr→OA→Nat→Nat→Int→Int→World→Prop
 | 0=>fun _ _ _ _ _ _ _ _=>False
 | k+1=>fun x0 x2 x74p x74l x74c x75 x76 w=>ifB (decide ((x76:Int) < x75)) (semK PP (Instr.indexAt 25 (.slice x74p x74l x74c) (i6 x76)) w fun v1 w1=>asA v1 fun ad1=>gL w1 ad1 fun l1p l1l l1c=>optP x0 fun ad2=>gL w1 (Addr.add ad2 7) fun l2p l2l l2c=>semK PP (Instr.indexAt 47 (.slice l2p l2l l2c) (i6 x76)) w1 fun v4 w2=>asA v4 fun ad3=>gB w2 ad3 fun b1=>ifB b1 (J67_8 R (L67_7 R k) x0 x2 x76 l1p l1l l1c 1 x74p x74l x74c x75 x76 w2) (J67_8 R (L67_7 R k) x0 x2 x76 l1p l1l l1c 2 x74p x74l x74c x75 x76 w2)) (J67_6 R x2 w)
def J67_3 (R:KV) (x0:OA) (x2:Addr) (w:World):Prop :=
 optP x0 fun ad1=>gL w (Addr.add ad1 2) fun l1p l1l l1c=>∃ m,L67_7 R m x0 x2 l1p l1l l1c (l1l:Nat) 0 w
def L67_4 (R:KV):Nat→OA→Addr→Int→Int→World→Prop
 | 0=>fun _ _ _ _ _=>False
 | k+1=>fun x0 x2 x46 x47 w=>ifB (decide ((x47:Int) < x46)) (optP x0 fun ad1=>gL w (Addr.add ad1 6) fun l1p l1l l1c=>semK PP (Instr.indexAt 47 (.slice l1p l1l l1c) (i6 x47)) w fun v2 w1=>asA v2 fun ad2=>gB w1 ad2 fun b1=>ifB b1 (optP x0 fun ad3=>gL w1 (Addr.add ad3 7) fun l2p l2l l2c=>semK PP (Instr.indexAt 47 (.slice l2p l2l l2c) (i6 x47)) w1 fun v5 w2=>asA v5 fun ad4=>gB w2 ad4 fun b2=>J67_5 R (L67_4 R k) x0 x2 x47 x46 x47 b2 w2) (J67_5 R (L67_4 R k) x0 x2 x47 x46 x47 false w1)) (J67_3 R x0 x2 w)
def J67_0 (R:KV) (x0:OA) (x2:Addr) (w:World):Prop :=
 optP x0 fun ad1=>gL w (Addr.add ad1 2) fun l1p l1l l1c=>∃ m,L67_4 R m x0 x2 (l1l:Nat) 0 w
def L67_1 (R:KV):Nat→OA→Addr→Int→Int→World→Prop
 | 0=>fun _ _ _ _ _=>False
 | k+1=>fun x0 x2 x15 x16 w=>ifB (decide ((x16:Int) < x15)) (optP x0 fun ad1=>gL w (Addr.add ad1 6) fun l1p l1l l1c=>semK PP (Instr.indexAt 47 (.slice l1p l1l l1c) (i6 x16)) w fun v2 w1=>asA v2 fun ad2=>gB w1 ad2 fun b1=>ifB (!b1) (optP x0 fun ad3=>gL w1 (Addr.add ad3 7) fun l2p l2l l2c=>semK PP (Instr.indexAt 47 (.slice l2p l2l l2c) (i6 x16)) w1 fun v5 w2=>asA v5 fun ad4=>gB w2 ad4 fun b2=>J67_2 R (L67_1 R k) x0 x2 x16 x15 x16 (!b2) w2) (J67_2 R (L67_1 R k) x0 x2 x16 x15 x16 false w1)) (J67_0 R x0 x2 w)
def F67 (a0:OA) (w:World) (R:KV):Prop :=
 zaf w (.cells #[(i6 0),(.slice none 0 0),(i6 0),(i6 0)] 31) fun w1=>optP a0 fun ad1=>gL w1 (Addr.add ad1 2) fun l1p l1l l1c=>∃ m,L67_1 R m a0 ⟨w.heap.size,0,none⟩ (l1l:Nat) 0 w1
def A67 (R:KV):Ann:=(sN (.join (fun e ds w=>nilD ds (asP (e 0) fun x0=>asA (e 2) fun x2=>J67_0 R x0 x2 w)) (sN (.block (.loop (fun m e ds w=>nilD ds (asP (e 0) fun x0=>asA (e 2) fun x2=>aI e 15 fun x15=>aI e 16 fun x16=>L67_1 R m x0 x2 x15 x16 w)) (fun kL67_1=>(sN (sN (.seq (.block (sN (.join (fun e ds w=>nilD ds (asP (e 0) fun x0=>asA (e 2) fun x2=>aI e 3 fun x3=>aI e 15 fun x15=>aI e 16 fun x16=>asB (e 36) fun x36=>J67_2 R (L67_1 R kL67_1) x0 x2 x3 x15 x16 x36 w)) .no .no))) .no))))))) (.join (fun e ds w=>nilD ds (asP (e 0) fun x0=>asA (e 2) fun x2=>J67_3 R x0 x2 w)) (sN (.block (.loop (fun m e ds w=>nilD ds (asP (e 0) fun x0=>asA (e 2) fun x2=>aI e 46 fun x46=>aI e 47 fun x47=>L67_4 R m x0 x2 x46 x47 w)) (fun kL67_4=>(sN (sN (.seq (.block (sN (.join (fun e ds w=>nilD ds (asP (e 0) fun x0=>asA (e 2) fun x2=>aI e 4 fun x4=>aI e 46 fun x46=>aI e 47 fun x47=>asB (e 65) fun x65=>J67_5 R (L67_4 R kL67_4) x0 x2 x4 x46 x47 x65 w)) .no .no))) .no))))))) (.join (fun e ds w=>nilD ds (asA (e 2) fun x2=>J67_6 R x2 w)) (sN (.block (.loop (fun m e ds w=>nilD ds (asP (e 0) fun x0=>asA (e 2) fun x2=>asL (e 74) fun x74p x74l x74c=>aI e 75 fun x75=>aI e 76 fun x76=>L67_7 R m x0 x2 x74p x74l x74c x75 x76 w)) (fun kL67_7=>(sN (sN (.seq (.block (sN (sN (.join (fun e ds w=>nilD ds (asP (e 0) fun x0=>asA (e 2) fun x2=>aI e 5 fun x5=>asL (e 6) fun x6p x6l x6c=>aI e 7 fun x7=>asL (e 74) fun x74p x74l x74c=>aI e 75 fun x75=>aI e 76 fun x76=>J67_8 R (L67_7 R kL67_7) x0 x2 x5 x6p x6l x6c x7 x74p x74l x74c x75 x76 w)) .no (sN (.join (fun e ds w=>nilD ds (asP (e 0) fun x0=>asA (e 2) fun x2=>aI e 5 fun x5=>asA (e 9) fun x9=>asL (e 74) fun x74p x74l x74c=>aI e 75 fun x75=>aI e 76 fun x76=>J67_9 R (L67_7 R kL67_7) x0 x2 x5 x9 x74p x74l x74c x75 x76 w)) .no .no)))))) .no))))))) .no))))
theorem sides67 (R:KV):zak PP Tryz.f67 (A67 R) R:=by
 exact (zt (ai (zsi fun e w h=>eP h fun z0 h=>eA h fun z2 h=>by rw [← zag (aC z0 (aC z2 aN))];exact zq h) (ai (zt (ai (zsi fun e w h=>eP h fun z0 h=>eA h fun z2 h=>eI h fun z15 h=>eI h fun z16 h=>h) (ai (fun kL67_1=>zsi fun e w h=>eP h fun z0 h=>eA h fun z2 h=>eI h fun z15 h=>eI h fun z16 h=>by rw [← zag (aC z0 (aC z2 (aC z15 (aC z16 aN))))];exact zq h) (fun kL67_1=>(zt (zt (ai (zt (ai (zsi fun e w h=>eP h fun z0 h=>eA h fun z2 h=>eI h fun z3 h=>eI h fun z15 h=>eI h fun z16 h=>eB h fun z36 h=>by rw [← zag (aC z0 (aC z2 (aC z3 (aC z15 (aC z16 (aC z36 aN))))))];exact zq h) (ai trivial trivial))) trivial))))))) (ai (zsi fun e w h=>eP h fun z0 h=>eA h fun z2 h=>by rw [← zag (aC z0 (aC z2 aN))];exact zq h) (ai (zt (ai (zsi fun e w h=>eP h fun z0 h=>eA h fun z2 h=>eI h fun z46 h=>eI h fun z47 h=>h) (ai (fun kL67_4=>zsi fun e w h=>eP h fun z0 h=>eA h fun z2 h=>eI h fun z46 h=>eI h fun z47 h=>by rw [← zag (aC z0 (aC z2 (aC z46 (aC z47 aN))))];exact zq h) (fun kL67_4=>(zt (zt (ai (zt (ai (zsi fun e w h=>eP h fun z0 h=>eA h fun z2 h=>eI h fun z4 h=>eI h fun z46 h=>eI h fun z47 h=>eB h fun z65 h=>by rw [← zag (aC z0 (aC z2 (aC z4 (aC z46 (aC z47 (aC z65 aN))))))];exact zq h) (ai trivial trivial))) trivial))))))) (ai (zsi fun e w h=>eA h fun z2 h=>by rw [← zag (aC z2 aN)];exact zq h) (ai (zt (ai (zsi fun e w h=>eP h fun z0 h=>eA h fun z2 h=>eL h fun z74 h=>eI h fun z75 h=>eI h fun z76 h=>h) (ai (fun kL67_7=>zsi fun e w h=>eP h fun z0 h=>eA h fun z2 h=>eL h fun z74 h=>eI h fun z75 h=>eI h fun z76 h=>by rw [← zag (aC z0 (aC z2 (aC z74 (aC z75 (aC z76 aN)))))];exact zq h) (fun kL67_7=>(zt (zt (ai (zt (zt (ai (zsi fun e w h=>eP h fun z0 h=>eA h fun z2 h=>eI h fun z5 h=>eL h fun z6 h=>eI h fun z7 h=>eL h fun z74 h=>eI h fun z75 h=>eI h fun z76 h=>by rw [← zag (aC z0 (aC z2 (aC z5 (aC z6 (aC z7 (aC z74 (aC z75 (aC z76 aN))))))))];exact zq h) (zt (zt (ai (zsi fun e w h=>eP h fun z0 h=>eA h fun z2 h=>eI h fun z5 h=>eA h fun z9 h=>eL h fun z74 h=>eI h fun z75 h=>eI h fun z76 h=>by rw [← zag (aC z0 (aC z2 (aC z5 (aC z9 (aC z74 (aC z75 (aC z76 aN)))))))];exact zq h) (ai trivial trivial))))))) trivial))))))) trivial)))))))
theorem call67 (a0:OA) (w:World) (R:KV) (h:F67 a0 w R):zaj PP 67 #[(.pointer a0)] w R :=
 zah (an:=A67 R) Tryz.func67 rfl (sides67 R) (Eq.mp (by kernel_rfl) h)

def F75 (a0p:OA) (a0l:Nat) (a0c:Nat) (w:World) (R:KV):Prop :=
 semK PP (Instr.makeSlice 22 (i6 (a0l:Nat)) (i6 (a0l:Nat))) w fun v1 w1=>asL v1 fun l1p l1l l1c=>zaf w1 (.cells #[(.slice none 0 0)] 22) fun w2=>sU 22 ⟨w1.heap.size,0,none⟩ (.slice l1p l1l l1c) w2 fun w3=>gL w3 ⟨w1.heap.size,0,none⟩ fun l2p l2l l2c=>semK PP (Builtin.copy_ #[22,22] 3 #[(.slice l2p l2l l2c),(.slice a0p a0l a0c)]) w3 fun v3 w4=>asI .i64 v3 fun n1=>R (.func (.func 115) #[] #[(.pointer (some ⟨w1.heap.size,0,none⟩))]) w4
def A75 (R:KV):Ann:=.no
theorem sides75 (R:KV):zak PP Tryz.f75 (A75 R) R:=by
 trivial
theorem call75 (a0p:OA) (a0l:Nat) (a0c:Nat) (w:World) (R:KV) (h:F75 a0p a0l a0c w R):zaj PP 75 #[(.slice a0p a0l a0c)] w R :=
 zah (an:=A75 R) Tryz.func75 rfl (sides75 R) (Eq.mp (by kernel_rfl) h)

def F76 (a0:OA) (a1:Int) (w:World) (R:KV):Prop :=
 zaf w (.cells #[(.pointer a0)] 35) fun w1=>zaf w1 (.cells #[(i6 a1)] 3) fun w2=>gP w2 ⟨w.heap.size,0,none⟩ fun p1=>gI .i64 w2 ⟨w1.heap.size,0,none⟩ fun n1=>CV 38 #[(.pointer p1),(i6 n1)] w2 fun v3 w3=>asB v3 fun b1=>ifB (!b1) (R (.slice none 0 0) w3) (zbf w3 fun w4=>gP w4 ⟨w.heap.size,0,none⟩ fun p2=>optP p2 fun ad1=>gL w4 (Addr.add ad1 7) fun l1p l1l l1c=>gI .i64 w4 ⟨w1.heap.size,0,none⟩ fun n2=>semK PP (Instr.indexAt 108 (.slice l1p l1l l1c) (i6 n2)) w4 fun v7 w5=>asA v7 fun ad2=>zaf w4 (.cells #[(.pointer none)] 212) fun w6=>(gP w6 ⟨w.heap.size,0,none⟩ fun p3=>((.pointer p3):Value)=(.pointer p2))∧((gL w6 (Addr.add ad1 7) fun l2p l2l l2c=>((.slice l2p l2l l2c):Value)=(.slice l1p l1l l1c))∧((gI .i64 w6 ⟨w1.heap.size,0,none⟩ fun n3=>((i6 n3):Value)=(i6 n2))∧(sU 212 ⟨w4.heap.size,0,none⟩ (.pointer (some ad2)) w6 fun w7=>gP w7 ⟨w4.heap.size,0,none⟩ fun p4=>optP p4 fun ad3=>CV 116 #[(.pointer (some ad3)),(.func (.func 117) #[] #[(.pointer (some ⟨w.heap.size,0,none⟩)),(.pointer (some ⟨w1.heap.size,0,none⟩)),(.pointer (some ⟨w4.heap.size,0,none⟩))])] w7 fun v12 w8=>asT v12 fun t10=>zav t10 (gP w8 ⟨w4.heap.size,0,none⟩ fun p5=>optP p5 fun ad4=>gL w8 (Addr.add ad4 3) fun l3p l3l l3c=>CV 118 #[(.slice l3p l3l l3c)] w8 fun v15 w9=>asL v15 fun l4p l4l l4c=>R (.slice l4p l4l l4c) w9)))))
def A76 (R:KV):Ann:=(sN (sN (.seq (.draw [0,1,2,3,4,5,6,7]) .no)))
theorem sides76 (R:KV):zak PP Tryz.f76 (A76 R) R:=by
 exact (zt (zt (ai trivial trivial)))
theorem call76 (a0:OA) (a1:Int) (w:World) (R:KV) (h:F76 a0 a1 w R):zaj PP 76 #[(.pointer a0),(i6 a1)] w R :=
 zah (an:=A76 R) Tryz.func76 rfl (sides76 R) (Eq.mp (by kernel_rfl) h)

def F77 (a0:OA) (a1:Int) (w:World) (R:KV):Prop :=
 zaf w (.cells #[(i6 0),(i6 0),(i6 0)] 52) fun w1=>CV 38 #[(.pointer a0),(i6 a1)] w1 fun v1 w2=>asB v1 fun b1=>ifB (!b1) (sU 52 ⟨w.heap.size,0,none⟩ (.agg #[(i6 0),(i6 0),(i6 0)]) w2 fun w3=>mb8 w3 w.heap.size fun n1 n2 n3=>R (.tuple #[(.agg #[(i6 n1),(i6 n2),(i6 n3)]),(.bool false)]) w3) (optP a0 fun ad1=>gL w2 (Addr.add ad1 1) fun l1p l1l l1c=>semK PP (Instr.indexAt 24 (.slice l1p l1l l1c) (i6 a1)) w2 fun v6 w4=>asA v6 fun ad2=>ma7 w4 ad2 fun n4 n5 n6=>sU 52 ⟨w.heap.size,0,none⟩ (.agg #[(i6 n4),(i6 n5),(i6 n6)]) w4 fun w5=>mb8 w5 w.heap.size fun n7 n8 n9=>R (.tuple #[(.agg #[(i6 n7),(i6 n8),(i6 n9)]),(.bool true)]) w5)
def A77 (R:KV):Ann:=.no
theorem sides77 (R:KV):zak PP Tryz.f77 (A77 R) R:=by
 trivial
theorem call77 (a0:OA) (a1:Int) (w:World) (R:KV) (h:F77 a0 a1 w R):zaj PP 77 #[(.pointer a0),(i6 a1)] w R :=
 zah (an:=A77 R) Tryz.func77 rfl (sides77 R) (Eq.mp (by kernel_rfl) h)

def J78_2 (R:KV) (C_L78_1:OA→Nat→Nat→Option Nat→OA→Nat→Nat→OA→Nat→Nat→OA→Nat→Nat→OA→Nat→Nat→Int→Int→World→Prop) (x0p:OA) (x0l:Nat) (x0c:Nat) (x1:Option Nat) (x6p:OA) (x6l:Nat) (x6c:Nat) (x7p:OA) (x7l:Nat) (x7c:Nat) (x8p:OA) (x8l:Nat) (x8c:Nat) (x23p:OA) (x23l:Nat) (x23c:Nat) (x24:Int) (x25:Int) (w:World):Prop :=
 C_L78_1 x0p x0l x0c x1 x6p x6l x6c x7p x7l x7c x8p x8l x8c x23p x23l x23c x24 (IntKind.wrap .i64 (x25+1)) w
def J78_3 (R:KV) (C_L78_1:OA→Nat→Nat→Option Nat→OA→Nat→Nat→OA→Nat→Nat→OA→Nat→Nat→OA→Nat→Nat→Int→Int→World→Prop) (x0p:OA) (x0l:Nat) (x0c:Nat) (x1:Option Nat) (x6p:OA) (x6l:Nat) (x6c:Nat) (x7p:OA) (x7l:Nat) (x7c:Nat) (x8p:OA) (x8l:Nat) (x8c:Nat) (x9:Int) (x11p:OA) (x11l:Nat) (x11c:Nat) (x23p:OA) (x23l:Nat) (x23c:Nat) (x24:Int) (x25:Int) (w:World):Prop :=
 ifB (((x11l:Nat):Int) == 0) (zaf w (.cells #[(i6 x9)] 3) fun w1=>semK PP (Builtin.append_ #[29,29] 29 #[(.slice x8p x8l x8c),(.slice (some ⟨w.heap.size,0,none⟩) 1 1)]) w1 fun v1 w2=>asL v1 fun l1p l1l l1c=>J78_2 R C_L78_1 x0p x0l x0c x1 x6p x6l x6c x7p x7l x7c l1p l1l l1c x23p x23l x23c x24 x25 w2) (J78_2 R C_L78_1 x0p x0l x0c x1 x6p x6l x6c x7p x7l x7c x8p x8l x8c x23p x23l x23c x24 x25 w)
def L78_4 (R:KV) (C_L78_1:OA→Nat→Nat→Option Nat→OA→Nat→Nat→OA→Nat→Nat→OA→Nat→Nat→OA→Nat→Nat→Int→Int→World→Prop):Nat→OA→Nat→Nat→Option Nat→OA→Nat→Nat→OA→Nat→Nat→OA→Nat→Nat→Int→OA→Nat→Nat→OA→Nat→Nat→Int→Int→OA→Nat→Nat→Int→Int→World→Prop
 | 0=>fun _ _ _ _ _ _ _ _ _ _ _ _ _ _ _ _ _ _ _ _ _ _ _ _ _ _ _ _=>False
 | k+1=>fun x0p x0l x0c x1 x6p x6l x6c x7p x7l x7c x8p x8l x8c x9 x11p x11l x11c x23p x23l x23c x24 x25 x37p x37l x37c x38 x39 w=>ifB (decide ((x39:Int) < x38)) (semK PP (Instr.indexAt 29 (.slice x37p x37l x37c) (i6 x39)) w fun v1 w1=>asA v1 fun ad1=>gI .i64 w1 ad1 fun n1=>zbf w1 fun w2=>semK PP (Instr.lookup 165 (.map x1) (i6 n1) false) w2 fun v3 w3=>asI .i64 v3 fun n2=>semK PP (Instr.lookup 165 (.map x1) (i6 n1) false) w2 fun v4 w4=>asI .i64 v4 fun n3=>semK PP (Instr.indexAt 141 (.slice x6p x6l x6c) (i6 n3)) w2 fun v5 w5=>asA v5 fun ad2=>gL w2 ad2 fun l1p l1l l1c=>zaf w2 (.cells #[(i6 x9)] 3) fun w6=>(semK PP (Instr.lookup 165 (.map x1) (i6 n1) false) w6 fun v7 w7=>asI .i64 v7 fun n4=>((i6 n4):Value)=(i6 n2))∧((semK PP (Instr.lookup 165 (.map x1) (i6 n1) false) w6 fun v8 w8=>asI .i64 v8 fun n5=>((i6 n5):Value)=(i6 n3))∧((gL w6 ad2 fun l2p l2l l2c=>((.slice l2p l2l l2c):Value)=(.slice l1p l1l l1c))∧(semK PP (Builtin.append_ #[29,29] 29 #[(.slice l1p l1l l1c),(.slice (some ⟨w2.heap.size,0,none⟩) 1 1)]) w6 fun v10 w9=>asL v10 fun l3p l3l l3c=>(semK PP (Instr.lookup 165 (.map x1) (i6 n1) false) w9 fun v11 w10=>asI .i64 v11 fun n6=>((i6 n6):Value)=(i6 n2))∧(semK PP (Instr.indexAt 141 (.slice x6p x6l x6c) (i6 n2)) w9 fun v12 w11=>asA v12 fun ad3=>sU 29 ad3 (.slice l3p l3l l3c) w9 fun w12=>L78_4 R C_L78_1 k x0p x0l x0c x1 x6p x6l x6c x7p x7l x7c x8p x8l x8c x9 x11p x11l x11c x23p x23l x23c x24 x25 x37p x37l x37c x38 (IntKind.wrap .i64 (x39+1)) w12))))) (J78_3 R C_L78_1 x0p x0l x0c x1 x6p x6l x6c x7p x7l x7c x8p x8l x8c x9 x11p x11l x11c x23p x23l x23c x24 x25 w)
def J78_7 (R:KV) (C_L78_6:OA→Nat→Nat→OA→Nat→Nat→OA→Nat→Nat→OA→Nat→Nat→Int→World→Prop) (x0p:OA) (x0l:Nat) (x0c:Nat) (x6p:OA) (x6l:Nat) (x6c:Nat) (x7p:OA) (x7l:Nat) (x7c:Nat) (x8p:OA) (x8l:Nat) (x8c:Nat) (x14:Int) (w:World):Prop :=
 C_L78_6 x0p x0l x0c x6p x6l x6c x7p x7l x7c x8p x8l x8c (IntKind.wrap .i64 (x14+1)) w
def L78_8 (R:KV) (C_L78_6:OA→Nat→Nat→OA→Nat→Nat→OA→Nat→Nat→OA→Nat→Nat→Int→World→Prop):Nat→OA→Nat→Nat→OA→Nat→Nat→OA→Nat→Nat→OA→Nat→Nat→Int→OA→Nat→Nat→Int→Int→World→Prop
 | 0=>fun _ _ _ _ _ _ _ _ _ _ _ _ _ _ _ _ _ _ _=>False
 | k+1=>fun x0p x0l x0c x6p x6l x6c x7p x7l x7c x8p x8l x8c x14 x78p x78l x78c x79 x80 w=>ifB (decide ((x80:Int) < x79)) (semK PP (Instr.indexAt 29 (.slice x78p x78l x78c) (i6 x80)) w fun v1 w1=>asA v1 fun ad1=>gI .i64 w1 ad1 fun n1=>semK PP (Instr.indexAt 29 (.slice x7p x7l x7c) (i6 n1)) w1 fun v3 w2=>asA v3 fun ad2=>gI .i64 w2 ad2 fun n2=>semK PP (Instr.indexAt 29 (.slice x7p x7l x7c) (i6 n1)) w2 fun v5 w3=>asA v5 fun ad3=>sU 3 ad3 (i6 (IntKind.wrap .i64 (n2 - 1))) w3 fun w4=>semK PP (Instr.indexAt 29 (.slice x7p x7l x7c) (i6 n1)) w4 fun v6 w5=>asA v6 fun ad4=>gI .i64 w5 ad4 fun n3=>ifB ((n3:Int) == 0) (zaf w5 (.cells #[(i6 n1)] 3) fun w6=>semK PP (Builtin.append_ #[29,29] 29 #[(.slice x8p x8l x8c),(.slice (some ⟨w5.heap.size,0,none⟩) 1 1)]) w6 fun v8 w7=>asL v8 fun l1p l1l l1c=>L78_8 R C_L78_6 k x0p x0l x0c x6p x6l x6c x7p x7l x7c l1p l1l l1c x14 x78p x78l x78c x79 (IntKind.wrap .i64 (x80+1)) w7) (L78_8 R C_L78_6 k x0p x0l x0c x6p x6l x6c x7p x7l x7c x8p x8l x8c x14 x78p x78l x78c x79 (IntKind.wrap .i64 (x80+1)) w5)) (J78_7 R C_L78_6 x0p x0l x0c x6p x6l x6c x7p x7l x7c x8p x8l x8c x14 w)
def J78_5 (R:KV) (x0p:OA) (x0l:Nat) (x0c:Nat) (x8p:OA) (x8l:Nat) (x8c:Nat) (w:World):Prop :=
 R (.tuple #[(.slice x8p x8l x8c),(.bool (((x8l:Nat):Int) == (x0l:Nat)))]) w
def L78_6 (R:KV):Nat→OA→Nat→Nat→OA→Nat→Nat→OA→Nat→Nat→OA→Nat→Nat→Int→World→Prop
 | 0=>fun _ _ _ _ _ _ _ _ _ _ _ _ _ _=>False
 | k+1=>fun x0p x0l x0c x6p x6l x6c x7p x7l x7c x8p x8l x8c x14 w=>ifB (decide ((x14:Int) < (x8l:Nat))) (semK PP (Instr.indexAt 29 (.slice x8p x8l x8c) (i6 x14)) w fun v1 w1=>asA v1 fun ad1=>gI .i64 w1 ad1 fun n1=>semK PP (Instr.indexAt 141 (.slice x6p x6l x6c) (i6 n1)) w1 fun v3 w2=>asA v3 fun ad2=>gL w2 ad2 fun l1p l1l l1c=>∃ m,L78_8 R (L78_6 R k) m x0p x0l x0c x6p x6l x6c x7p x7l x7c x8p x8l x8c x14 l1p l1l l1c (l1l:Nat) 0 w2) (J78_5 R x0p x0l x0c x8p x8l x8c w)
def J78_0 (R:KV) (x0p:OA) (x0l:Nat) (x0c:Nat) (x6p:OA) (x6l:Nat) (x6c:Nat) (x7p:OA) (x7l:Nat) (x7c:Nat) (x8p:OA) (x8l:Nat) (x8c:Nat) (w:World):Prop :=
 ∃ m,L78_6 R m x0p x0l x0c x6p x6l x6c x7p x7l x7c x8p x8l x8c 0 w
def L78_1 (R:KV):Nat→OA→Nat→Nat→Option Nat→OA→Nat→Nat→OA→Nat→Nat→OA→Nat→Nat→OA→Nat→Nat→Int→Int→World→Prop
 | 0=>fun _ _ _ _ _ _ _ _ _ _ _ _ _ _ _ _ _ _ _=>False
 | k+1=>fun x0p x0l x0c x1 x6p x6l x6c x7p x7l x7c x8p x8l x8c x23p x23l x23c x24 x25 w=>ifB (decide ((x25:Int) < x24)) (semK PP (Instr.indexAt 148 (.slice x23p x23l x23c) (i6 x25)) w fun v1 w1=>asA v1 fun ad1=>ma12 w1 ad1 fun n1 n2 l1p l1l l1c n3=>zaf w1 (.cells #[(i6 0),(i6 0),(.slice none 0 0),(i6 0)] 70) fun w2=>sU 70 ⟨w1.heap.size,0,none⟩ (.agg #[(i6 n1),(i6 n2),(.slice l1p l1l l1c),(i6 n3)]) w2 fun w3=>mb13 w3 w1.heap.size fun n4 n5 l2p l2l l2c n6=>CV 119 #[(.agg #[(i6 n4),(i6 n5),(.slice l2p l2l l2c),(i6 n6)])] w3 fun v10 w4=>asL v10 fun l3p l3l l3c=>semK PP (Instr.indexAt 29 (.slice x7p x7l x7c) (i6 x25)) w4 fun v11 w5=>asA v11 fun ad2=>sU 3 ad2 (i6 (l3l:Nat)) w5 fun w6=>∃ m,L78_4 R (L78_1 R k) m x0p x0l x0c x1 x6p x6l x6c x7p x7l x7c x8p x8l x8c x25 l3p l3l l3c x23p x23l x23c x24 x25 l3p l3l l3c (l3l:Nat) 0 w6) (J78_0 R x0p x0l x0c x6p x6l x6c x7p x7l x7c x8p x8l x8c w)
def F78 (a0p:OA) (a0l:Nat) (a0c:Nat) (a1:Option Nat) (w:World) (R:KV):Prop :=
 semK PP (Instr.makeSlice 141 (i6 (a0l:Nat)) (i6 (a0l:Nat))) w fun v1 w1=>asL v1 fun l1p l1l l1c=>semK PP (Instr.makeSlice 29 (i6 (a0l:Nat)) (i6 (a0l:Nat))) w1 fun v2 w2=>asL v2 fun l2p l2l l2c=>∃ m,L78_1 R m a0p a0l a0c a1 l1p l1l l1c l2p l2l l2c none 0 0 a0p a0l a0c (a0l:Nat) 0 w2
def A78 (R:KV):Ann:=(sN (sN (sN (sN (.join (fun e ds w=>nilD ds (asL (e 0) fun x0p x0l x0c=>asL (e 6) fun x6p x6l x6c=>asL (e 7) fun x7p x7l x7c=>asL (e 8) fun x8p x8l x8c=>J78_0 R x0p x0l x0c x6p x6l x6c x7p x7l x7c x8p x8l x8c w)) (sN (.block (.loop (fun m e ds w=>nilD ds (asL (e 0) fun x0p x0l x0c=>asM (e 1) fun x1=>asL (e 6) fun x6p x6l x6c=>asL (e 7) fun x7p x7l x7c=>asL (e 8) fun x8p x8l x8c=>asL (e 23) fun x23p x23l x23c=>aI e 24 fun x24=>aI e 25 fun x25=>L78_1 R m x0p x0l x0c x1 x6p x6l x6c x7p x7l x7c x8p x8l x8c x23p x23l x23c x24 x25 w)) (fun kL78_1=>(sN (sN (.join (fun e ds w=>nilD ds (asL (e 0) fun x0p x0l x0c=>asM (e 1) fun x1=>asL (e 6) fun x6p x6l x6c=>asL (e 7) fun x7p x7l x7c=>asL (e 8) fun x8p x8l x8c=>asL (e 23) fun x23p x23l x23c=>aI e 24 fun x24=>aI e 25 fun x25=>J78_2 R (L78_1 R kL78_1) x0p x0l x0c x1 x6p x6l x6c x7p x7l x7c x8p x8l x8c x23p x23l x23c x24 x25 w)) (.block (sN (sN (sN (.join (fun e ds w=>nilD ds (asL (e 0) fun x0p x0l x0c=>asM (e 1) fun x1=>asL (e 6) fun x6p x6l x6c=>asL (e 7) fun x7p x7l x7c=>asL (e 8) fun x8p x8l x8c=>aI e 9 fun x9=>asL (e 11) fun x11p x11l x11c=>asL (e 23) fun x23p x23l x23c=>aI e 24 fun x24=>aI e 25 fun x25=>J78_3 R (L78_1 R kL78_1) x0p x0l x0c x1 x6p x6l x6c x7p x7l x7c x8p x8l x8c x9 x11p x11l x11c x23p x23l x23c x24 x25 w)) (sN (.block (.loop (fun m e ds w=>nilD ds (asL (e 0) fun x0p x0l x0c=>asM (e 1) fun x1=>asL (e 6) fun x6p x6l x6c=>asL (e 7) fun x7p x7l x7c=>asL (e 8) fun x8p x8l x8c=>aI e 9 fun x9=>asL (e 11) fun x11p x11l x11c=>asL (e 23) fun x23p x23l x23c=>aI e 24 fun x24=>aI e 25 fun x25=>asL (e 37) fun x37p x37l x37c=>aI e 38 fun x38=>aI e 39 fun x39=>L78_4 R (L78_1 R kL78_1) m x0p x0l x0c x1 x6p x6l x6c x7p x7l x7c x8p x8l x8c x9 x11p x11l x11c x23p x23l x23c x24 x25 x37p x37l x37c x38 x39 w)) (fun kL78_4=>(sN (sN (.seq (.block (sN (.draw [0,1,2,3,4,5,6,7,8,9,10,11,12,13,14]))) .no))))))) .no))))) .no))))))) (.join (fun e ds w=>nilD ds (asL (e 0) fun x0p x0l x0c=>asL (e 8) fun x8p x8l x8c=>J78_5 R x0p x0l x0c x8p x8l x8c w)) (sN (.block (.loop (fun m e ds w=>nilD ds (asL (e 0) fun x0p x0l x0c=>asL (e 6) fun x6p x6l x6c=>asL (e 7) fun x7p x7l x7c=>asL (e 8) fun x8p x8l x8c=>aI e 14 fun x14=>L78_6 R m x0p x0l x0c x6p x6l x6c x7p x7l x7c x8p x8l x8c x14 w)) (fun kL78_6=>(sN (.join (fun e ds w=>nilD ds (asL (e 0) fun x0p x0l x0c=>asL (e 6) fun x6p x6l x6c=>asL (e 7) fun x7p x7l x7c=>asL (e 8) fun x8p x8l x8c=>aI e 14 fun x14=>J78_7 R (L78_6 R kL78_6) x0p x0l x0c x6p x6l x6c x7p x7l x7c x8p x8l x8c x14 w)) (.block (sN (.block (.loop (fun m e ds w=>nilD ds (asL (e 0) fun x0p x0l x0c=>asL (e 6) fun x6p x6l x6c=>asL (e 7) fun x7p x7l x7c=>asL (e 8) fun x8p x8l x8c=>aI e 14 fun x14=>asL (e 78) fun x78p x78l x78c=>aI e 79 fun x79=>aI e 80 fun x80=>L78_8 R (L78_6 R kL78_6) m x0p x0l x0c x6p x6l x6c x7p x7l x7c x8p x8l x8c x14 x78p x78l x78c x79 x80 w)) (fun kL78_8=>.no))))) .no)))))) .no))))))
theorem sides78 (R:KV):zak PP Tryz.f78 (A78 R) R:=by
 exact (zt (zt (zt (zt (ai (zsi fun e w h=>eL h fun z0 h=>eL h fun z6 h=>eL h fun z7 h=>eL h fun z8 h=>by rw [← zag (aC z0 (aC z6 (aC z7 (aC z8 aN))))];exact zq h) (ai (zt (ai (zsi fun e w h=>eL h fun z0 h=>eM h fun z1 h=>eL h fun z6 h=>eL h fun z7 h=>eL h fun z8 h=>eL h fun z23 h=>eI h fun z24 h=>eI h fun z25 h=>h) (ai (fun kL78_1=>zsi fun e w h=>eL h fun z0 h=>eM h fun z1 h=>eL h fun z6 h=>eL h fun z7 h=>eL h fun z8 h=>eL h fun z23 h=>eI h fun z24 h=>eI h fun z25 h=>by rw [← zag (aC z0 (aC z1 (aC z6 (aC z7 (aC z8 (aC z23 (aC z24 (aC z25 aN))))))))];exact zq h) (fun kL78_1=>(zt (zt (ai (zsi fun e w h=>eL h fun z0 h=>eM h fun z1 h=>eL h fun z6 h=>eL h fun z7 h=>eL h fun z8 h=>eL h fun z23 h=>eI h fun z24 h=>eI h fun z25 h=>by rw [← zag (aC z0 (aC z1 (aC z6 (aC z7 (aC z8 (aC z23 (aC z24 (aC z25 aN))))))))];exact zq h) (ai (zt (zt (zt (ai (zsi fun e w h=>eL h fun z0 h=>eM h fun z1 h=>eL h fun z6 h=>eL h fun z7 h=>eL h fun z8 h=>eI h fun z9 h=>eL h fun z11 h=>eL h fun z23 h=>eI h fun z24 h=>eI h fun z25 h=>by rw [← zag (aC z0 (aC z1 (aC z6 (aC z7 (aC z8 (aC z9 (aC z11 (aC z23 (aC z24 (aC z25 aN))))))))))];exact zq h) (ai (zt (ai (zsi fun e w h=>eL h fun z0 h=>eM h fun z1 h=>eL h fun z6 h=>eL h fun z7 h=>eL h fun z8 h=>eI h fun z9 h=>eL h fun z11 h=>eL h fun z23 h=>eI h fun z24 h=>eI h fun z25 h=>eL h fun z37 h=>eI h fun z38 h=>eI h fun z39 h=>h) (ai (fun kL78_4=>zsi fun e w h=>eL h fun z0 h=>eM h fun z1 h=>eL h fun z6 h=>eL h fun z7 h=>eL h fun z8 h=>eI h fun z9 h=>eL h fun z11 h=>eL h fun z23 h=>eI h fun z24 h=>eI h fun z25 h=>eL h fun z37 h=>eI h fun z38 h=>eI h fun z39 h=>by rw [← zag (aC z0 (aC z1 (aC z6 (aC z7 (aC z8 (aC z9 (aC z11 (aC z23 (aC z24 (aC z25 (aC z37 (aC z38 (aC z39 aN)))))))))))))];exact zq h) (fun kL78_4=>(zt (zt (ai (ai trivial trivial) trivial))))))) trivial))))) trivial)))))))) (ai (zsi fun e w h=>eL h fun z0 h=>eL h fun z8 h=>by rw [← zag (aC z0 (aC z8 aN))];exact zq h) (ai (zt (ai (zsi fun e w h=>eL h fun z0 h=>eL h fun z6 h=>eL h fun z7 h=>eL h fun z8 h=>eI h fun z14 h=>h) (ai (fun kL78_6=>zsi fun e w h=>eL h fun z0 h=>eL h fun z6 h=>eL h fun z7 h=>eL h fun z8 h=>eI h fun z14 h=>by rw [← zag (aC z0 (aC z6 (aC z7 (aC z8 (aC z14 aN)))))];exact zq h) (fun kL78_6=>(zt (ai (zsi fun e w h=>eL h fun z0 h=>eL h fun z6 h=>eL h fun z7 h=>eL h fun z8 h=>eI h fun z14 h=>by rw [← zag (aC z0 (aC z6 (aC z7 (aC z8 (aC z14 aN)))))];exact zq h) (ai (zt (ai (zsi fun e w h=>eL h fun z0 h=>eL h fun z6 h=>eL h fun z7 h=>eL h fun z8 h=>eI h fun z14 h=>eL h fun z78 h=>eI h fun z79 h=>eI h fun z80 h=>h) (ai (fun kL78_8=>zsi fun e w h=>eL h fun z0 h=>eL h fun z6 h=>eL h fun z7 h=>eL h fun z8 h=>eI h fun z14 h=>eL h fun z78 h=>eI h fun z79 h=>eI h fun z80 h=>by rw [← zag (aC z0 (aC z6 (aC z7 (aC z8 (aC z14 (aC z78 (aC z79 (aC z80 aN))))))))];exact zq h) (fun kL78_8=>trivial)))) trivial))))))) trivial))))))))
theorem call78 (a0p:OA) (a0l:Nat) (a0c:Nat) (a1:Option Nat) (w:World) (R:KV) (h:F78 a0p a0l a0c a1 w R):zaj PP 78 #[(.slice a0p a0l a0c),(.map a1)] w R :=
 zah (an:=A78 R) Tryz.func78 rfl (sides78 R) (Eq.mp (by kernel_rfl) h)

def J79_2 (R:KV) (x6:Addr) (x9:Addr) (x10:Addr) (w:World):Prop :=
 zbf w fun w1=>ma15 w1 x9 fun n1 n2 b1=>ma15 w1 x10 fun n3 n4 b2=>ma15 w1 x9 fun n5 n6 b3=>gI .u64 w1 (Addr.add x10 3) fun n7=>gI .u64 w1 (Addr.add (Addr.add x10 3) 1) fun n8=>gB w1 (Addr.add (Addr.add x10 3) 2) fun b4=>CV 121 #[(.agg #[(u6 n1),(u6 n2),(.bool b1)]),(.agg #[(u6 n3),(u6 n4),(.bool b2)])] w1 fun v13 w2=>dG14 v13 fun n9 n10 b5=>(ma15 w2 x9 fun n11 n12 b6=>((.agg #[(u6 n11),(u6 n12),(.bool b6)]):Value)=(.agg #[(u6 n5),(u6 n6),(.bool b3)]))∧((gI .u64 w2 (Addr.add x10 3) fun n13=>gI .u64 w2 (Addr.add (Addr.add x10 3) 1) fun n14=>gB w2 (Addr.add (Addr.add x10 3) 2) fun b7=>((.agg #[(u6 n13),(u6 n14),(.bool b7)]):Value)=(.agg #[(u6 n7),(u6 n8),(.bool b4)]))∧(CV 121 #[(.agg #[(u6 n5),(u6 n6),(.bool b3)]),(.agg #[(u6 n7),(u6 n8),(.bool b4)])] w2 fun v20 w3=>dG14 v20 fun n15 n16 b8=>sU 95 x6 (.agg #[(u6 n9),(u6 n10),(.bool b5),(u6 n15),(u6 n16),(.bool b8)]) w3 fun w4=>ma16 w4 x6 fun n17 n18 b9 n19 n20 b10=>R (.agg #[(u6 n17),(u6 n18),(.bool b9),(u6 n19),(u6 n20),(.bool b10)]) w4))
def J79_3 (R:KV) (x6:Addr) (x9:Addr) (x10:Addr) (x111:Bool) (w:World):Prop :=
 ifB x111 (ma15 w x9 fun n1 n2 b1=>sU 95 x6 (.agg #[(u6 0),(u6 0),(.bool false),(u6 n1),(u6 n2),(.bool b1)]) w fun w1=>ma16 w1 x6 fun n3 n4 b2 n5 n6 b3=>R (.agg #[(u6 n3),(u6 n4),(.bool b2),(u6 n5),(u6 n6),(.bool b3)]) w1) (J79_2 R x6 x9 x10 w)
def J79_0 (R:KV) (x0:OA) (x5:Addr) (x6:Addr) (x7:Addr) (x9:Addr) (x10:Addr) (w:World):Prop :=
 ma12 w x5 fun n1 n2 l1p l1l l1c n3=>CV 37 #[(.agg #[(i6 n1),(i6 n2),(.slice l1p l1l l1c),(i6 n3)])] w fun v5 w1=>dT9 v5 fun n4 b1=>optP x0 fun ad1=>ldK PP w1 (Addr.add ad1 1) fun v6=>asM v6 fun m1=>semK PP (Instr.lookup 87 (.map m1) (.agg #[(i6 n4),(i6 0)]) false) w1 fun v7 w2=>dG17 v7 fun n5 n6 b2 n7 n8 b3=>zaf w2 (.cells #[(u6 0),(u6 0),(.bool false),(u6 0),(u6 0),(.bool false)] 95) fun w3=>sU 95 ⟨w2.heap.size,0,none⟩ (.agg #[(u6 n5),(u6 n6),(.bool b2),(u6 n7),(u6 n8),(.bool b3)]) w3 fun w4=>gI .i64 w4 (Addr.add x5 1) fun n9=>ifB ((n9:Int) == 228) (ma15 w4 x9 fun n10 n11 b4=>sU 95 x6 (.agg #[(u6 n10),(u6 n11),(.bool b4),(u6 0),(u6 0),(.bool false)]) w4 fun w5=>ma16 w5 x6 fun n12 n13 b5 n14 n15 b6=>R (.agg #[(u6 n12),(u6 n13),(.bool b5),(u6 n14),(u6 n15),(.bool b6)]) w5) (ifB ((n9:Int) == 229) (zbf w4 fun w6=>ma15 w6 x9 fun n16 n17 b7=>mb18 w6 w2.heap.size fun n18 n19 b8=>ma15 w6 x9 fun n20 n21 b9=>gI .u64 w6 ⟨w2.heap.size,3,none⟩ fun n22=>gI .u64 w6 ⟨w2.heap.size,4,none⟩ fun n23=>gB w6 ⟨w2.heap.size,5,none⟩ fun b10=>CV 121 #[(.agg #[(u6 n16),(u6 n17),(.bool b7)]),(.agg #[(u6 n18),(u6 n19),(.bool b8)])] w6 fun v30 w7=>dG14 v30 fun n24 n25 b11=>(ma15 w7 x9 fun n26 n27 b12=>((.agg #[(u6 n26),(u6 n27),(.bool b12)]):Value)=(.agg #[(u6 n20),(u6 n21),(.bool b9)]))∧((gI .u64 w7 ⟨w2.heap.size,3,none⟩ fun n28=>gI .u64 w7 ⟨w2.heap.size,4,none⟩ fun n29=>gB w7 ⟨w2.heap.size,5,none⟩ fun b13=>((.agg #[(u6 n28),(u6 n29),(.bool b13)]):Value)=(.agg #[(u6 n22),(u6 n23),(.bool b10)]))∧(CV 121 #[(.agg #[(u6 n20),(u6 n21),(.bool b9)]),(.agg #[(u6 n22),(u6 n23),(.bool b10)])] w7 fun v37 w8=>dG14 v37 fun n30 n31 b14=>sU 95 x6 (.agg #[(u6 n24),(u6 n25),(.bool b11),(u6 n30),(u6 n31),(.bool b14)]) w8 fun w9=>ma16 w9 x6 fun n32 n33 b15 n34 n35 b16=>R (.agg #[(u6 n32),(u6 n33),(.bool b15),(u6 n34),(u6 n35),(.bool b16)]) w9))) (ifB ((n9:Int) == 227) (ma15 w4 x9 fun n36 n37 b17=>mb18 w4 w2.heap.size fun n38 n39 b18=>CV 121 #[(.agg #[(u6 n36),(u6 n37),(.bool b17)]),(.agg #[(u6 n38),(u6 n39),(.bool b18)])] w4 fun v50 w10=>dG14 v50 fun n40 n41 b19=>zaf w10 (.cells #[(u6 0),(u6 0),(.bool false)] 93) fun w11=>sU 93 ⟨w10.heap.size,0,none⟩ (.agg #[(u6 n40),(u6 n41),(.bool b19)]) w11 fun w12=>zbf w12 fun w13=>mb18 w13 w10.heap.size fun n42 n43 b20=>ma15 w13 x10 fun n44 n45 b21=>ma15 w13 x9 fun n46 n47 b22=>gI .u64 w13 ⟨w2.heap.size,3,none⟩ fun n48=>gI .u64 w13 ⟨w2.heap.size,4,none⟩ fun n49=>gB w13 ⟨w2.heap.size,5,none⟩ fun b23=>mb18 w13 w10.heap.size fun n50 n51 b24=>gI .u64 w13 (Addr.add x10 3) fun n52=>gI .u64 w13 (Addr.add (Addr.add x10 3) 1) fun n53=>gB w13 (Addr.add (Addr.add x10 3) 2) fun b25=>CV 121 #[(.agg #[(u6 n42),(u6 n43),(.bool b20)]),(.agg #[(u6 n44),(u6 n45),(.bool b21)])] w13 fun v69 w14=>dG14 v69 fun n54 n55 b26=>(ma15 w14 x9 fun n56 n57 b27=>((.agg #[(u6 n56),(u6 n57),(.bool b27)]):Value)=(.agg #[(u6 n46),(u6 n47),(.bool b22)]))∧((gI .u64 w14 ⟨w2.heap.size,3,none⟩ fun n58=>gI .u64 w14 ⟨w2.heap.size,4,none⟩ fun n59=>gB w14 ⟨w2.heap.size,5,none⟩ fun b28=>((.agg #[(u6 n58),(u6 n59),(.bool b28)]):Value)=(.agg #[(u6 n48),(u6 n49),(.bool b23)]))∧((mb18 w14 w10.heap.size fun n60 n61 b29=>((.agg #[(u6 n60),(u6 n61),(.bool b29)]):Value)=(.agg #[(u6 n50),(u6 n51),(.bool b24)]))∧((gI .u64 w14 (Addr.add x10 3) fun n62=>gI .u64 w14 (Addr.add (Addr.add x10 3) 1) fun n63=>gB w14 (Addr.add (Addr.add x10 3) 2) fun b30=>((.agg #[(u6 n62),(u6 n63),(.bool b30)]):Value)=(.agg #[(u6 n52),(u6 n53),(.bool b25)]))∧(CV 121 #[(.agg #[(u6 n46),(u6 n47),(.bool b22)]),(.agg #[(u6 n48),(u6 n49),(.bool b23)])] w14 fun v82 w15=>dG14 v82 fun n64 n65 b31=>(mb18 w15 w10.heap.size fun n66 n67 b32=>((.agg #[(u6 n66),(u6 n67),(.bool b32)]):Value)=(.agg #[(u6 n50),(u6 n51),(.bool b24)]))∧((gI .u64 w15 (Addr.add x10 3) fun n68=>gI .u64 w15 (Addr.add (Addr.add x10 3) 1) fun n69=>gB w15 (Addr.add (Addr.add x10 3) 2) fun b33=>((.agg #[(u6 n68),(u6 n69),(.bool b33)]):Value)=(.agg #[(u6 n52),(u6 n53),(.bool b25)]))∧(CV 121 #[(.agg #[(u6 n50),(u6 n51),(.bool b24)]),(.agg #[(u6 n52),(u6 n53),(.bool b25)])] w15 fun v89 w16=>dG14 v89 fun n70 n71 b34=>CV 120 #[(.agg #[(u6 n64),(u6 n65),(.bool b31)]),(.agg #[(u6 n70),(u6 n71),(.bool b34)])] w16 fun v90 w17=>dG14 v90 fun n72 n73 b35=>sU 95 x6 (.agg #[(u6 n54),(u6 n55),(.bool b26),(u6 n72),(u6 n73),(.bool b35)]) w17 fun w18=>ma16 w18 x6 fun n74 n75 b36 n76 n77 b37=>R (.agg #[(u6 n74),(u6 n75),(.bool b36),(u6 n76),(u6 n77),(.bool b37)]) w18))))))) (gB w4 (Addr.add x7 6) fun b38=>ifB b38 (ma12 w4 x5 fun n78 n79 l2p l2l l2c n80=>CV 40 #[(.agg #[(i6 n78),(i6 n79),(.slice l2p l2l l2c),(i6 n80)])] w4 fun v102 w19=>asL v102 fun l3p l3l l3c=>J79_3 R x6 x9 x10 (((l3l:Nat):Int) == 0) w19) (J79_3 R x6 x9 x10 false w4))))
def L79_1 (R:KV):Nat→OA→Int→Addr→Addr→Addr→Addr→Addr→OA→Nat→Nat→Int→Int→World→Prop
 | 0=>fun _ _ _ _ _ _ _ _ _ _ _ _ _=>False
 | k+1=>fun x0 x1 x5 x6 x7 x9 x10 x29p x29l x29c x30 x31 w=>ifB (decide ((x31:Int) < x30)) (semK PP (Instr.indexAt 29 (.slice x29p x29l x29c) (i6 x31)) w fun v1 w1=>asA v1 fun ad1=>gI .i64 w1 ad1 fun n1=>optP x0 fun ad2=>ldK PP w1 (Addr.add ad2 1) fun v3=>asM v3 fun m1=>semK PP (Instr.lookup 87 (.map m1) (.agg #[(i6 x1),(i6 n1)]) false) w1 fun v4 w2=>dG17 v4 fun n2 n3 b1 n4 n5 b2=>zaf w2 (.cells #[(u6 0),(u6 0),(.bool false),(u6 0),(u6 0),(.bool false)] 95) fun w3=>sU 95 ⟨w2.heap.size,0,none⟩ (.agg #[(u6 n2),(u6 n3),(.bool b1),(u6 n4),(u6 n5),(.bool b2)]) w3 fun w4=>zbf w4 fun w5=>ma15 w5 x10 fun n6 n7 b3=>mb18 w5 w2.heap.size fun n8 n9 b4=>gI .u64 w5 (Addr.add x10 3) fun n10=>gI .u64 w5 (Addr.add (Addr.add x10 3) 1) fun n11=>gB w5 (Addr.add (Addr.add x10 3) 2) fun b5=>gI .u64 w5 ⟨w2.heap.size,3,none⟩ fun n12=>gI .u64 w5 ⟨w2.heap.size,4,none⟩ fun n13=>gB w5 ⟨w2.heap.size,5,none⟩ fun b6=>CV 120 #[(.agg #[(u6 n6),(u6 n7),(.bool b3)]),(.agg #[(u6 n8),(u6 n9),(.bool b4)])] w5 fun v17 w6=>dG14 v17 fun n14 n15 b7=>(gI .u64 w6 (Addr.add x10 3) fun n16=>gI .u64 w6 (Addr.add (Addr.add x10 3) 1) fun n17=>gB w6 (Addr.add (Addr.add x10 3) 2) fun b8=>((.agg #[(u6 n16),(u6 n17),(.bool b8)]):Value)=(.agg #[(u6 n10),(u6 n11),(.bool b5)]))∧((gI .u64 w6 ⟨w2.heap.size,3,none⟩ fun n18=>gI .u64 w6 ⟨w2.heap.size,4,none⟩ fun n19=>gB w6 ⟨w2.heap.size,5,none⟩ fun b9=>((.agg #[(u6 n18),(u6 n19),(.bool b9)]):Value)=(.agg #[(u6 n12),(u6 n13),(.bool b6)]))∧(CV 120 #[(.agg #[(u6 n10),(u6 n11),(.bool b5)]),(.agg #[(u6 n12),(u6 n13),(.bool b6)])] w6 fun v24 w7=>dG14 v24 fun n20 n21 b10=>sU 95 x10 (.agg #[(u6 n14),(u6 n15),(.bool b7),(u6 n20),(u6 n21),(.bool b10)]) w7 fun w8=>L79_1 R k x0 x1 x5 x6 x7 x9 x10 x29p x29l x29c x30 (IntKind.wrap .i64 (x31+1)) w8))) (J79_0 R x0 x5 x6 x7 x9 x10 w)
def F79 (a0:OA) (a1:Int) (a2_0:Int) (a2_1:Int) (a2_2p:OA) (a2_2l:Nat) (a2_2c:Nat) (a2_3:Int) (w:World) (R:KV):Prop :=
 zaf w (.cells #[(i6 a2_0),(i6 a2_1),(.slice a2_2p a2_2l a2_2c),(i6 a2_3)] 70) fun w1=>zaf w1 (.cells #[(u6 0),(u6 0),(.bool false),(u6 0),(u6 0),(.bool false)] 95) fun w2=>gI .i64 w2 ⟨w.heap.size,1,none⟩ fun n1=>CV 36 #[(i6 n1)] w2 fun v2 w3=>dT19 v2 fun n2 s1 n3 n4 n5 n6 b1 b2=>zaf w3 (.cells #[(i6 0),(.string ⟨#[]⟩),(i6 0),(i6 0),(i6 0),(i6 0),(.bool false)] 101) fun w4=>sU 101 ⟨w3.heap.size,0,none⟩ (.agg #[(i6 n2),(.string s1),(i6 n3),(i6 n4),(i6 n5),(i6 n6),(.bool b1)]) w4 fun w5=>gI .i64 w5 ⟨w3.heap.size,5,none⟩ fun n7=>zaf w5 (.cells #[(u6 0),(u6 0),(.bool false)] 93) fun w6=>sU 93 ⟨w5.heap.size,0,none⟩ (.agg #[(u6 1),(u6 (IntKind.wrap .u64 n7)),(.bool true)]) w6 fun w7=>zaf w7 (.cells #[(u6 0),(u6 0),(.bool false),(u6 0),(u6 0),(.bool false)] 95) fun w8=>mb13 w8 w.heap.size fun n8 n9 l1p l1l l1c n10=>CV 119 #[(.agg #[(i6 n8),(i6 n9),(.slice l1p l1l l1c),(i6 n10)])] w8 fun v8 w9=>asL v8 fun l2p l2l l2c=>∃ m,L79_1 R m a0 a1 ⟨w.heap.size,0,none⟩ ⟨w1.heap.size,0,none⟩ ⟨w3.heap.size,0,none⟩ ⟨w5.heap.size,0,none⟩ ⟨w7.heap.size,0,none⟩ l2p l2l l2c (l2l:Nat) 0 w9
def A79 (R:KV):Ann:=(sN (sN (sN (sN (.join (fun e ds w=>nilD ds (asP (e 0) fun x0=>asA (e 5) fun x5=>asA (e 6) fun x6=>asA (e 7) fun x7=>asA (e 9) fun x9=>asA (e 10) fun x10=>J79_0 R x0 x5 x6 x7 x9 x10 w)) (sN (.block (.loop (fun m e ds w=>nilD ds (asP (e 0) fun x0=>aI e 1 fun x1=>asA (e 5) fun x5=>asA (e 6) fun x6=>asA (e 7) fun x7=>asA (e 9) fun x9=>asA (e 10) fun x10=>asL (e 29) fun x29p x29l x29c=>aI e 30 fun x30=>aI e 31 fun x31=>L79_1 R m x0 x1 x5 x6 x7 x9 x10 x29p x29l x29c x30 x31 w)) (fun kL79_1=>(sN (sN (.seq (.block (sN (sN (.draw [0,1,2,3,5,6,7,8,4,9,10,11])))) .no))))))) (sN (sN (.seq (sN (.block (sN (.cond .no (sN (.cond (.seq (.draw [0,1,2,4,5,6,3,7,8,9]) .no) (sN (.cond (sN (.seq (.draw [0,1,2,4,5,6,8,9,10,3,7,11,12,13,14]) .no)) .no)))))))) (.join (fun e ds w=>nilD ds (asA (e 6) fun x6=>asA (e 9) fun x9=>asA (e 10) fun x10=>J79_2 R x6 x9 x10 w)) (.join (fun e ds w=>nilD ds (asA (e 6) fun x6=>asA (e 9) fun x9=>asA (e 10) fun x10=>asB (e 111) fun x111=>J79_3 R x6 x9 x10 x111 w)) .no .no) (.seq (.draw [0,1,2,4,5,6,3,7,8,9]) .no))))))))))
theorem sides79 (R:KV):zak PP Tryz.f79 (A79 R) R:=by
 exact (zt (zt (zt (zt (ai (zsi fun e w h=>eP h fun z0 h=>eA h fun z5 h=>eA h fun z6 h=>eA h fun z7 h=>eA h fun z9 h=>eA h fun z10 h=>by rw [← zag (aC z0 (aC z5 (aC z6 (aC z7 (aC z9 (aC z10 aN))))))];exact zq h) (ai (zt (ai (zsi fun e w h=>eP h fun z0 h=>eI h fun z1 h=>eA h fun z5 h=>eA h fun z6 h=>eA h fun z7 h=>eA h fun z9 h=>eA h fun z10 h=>eL h fun z29 h=>eI h fun z30 h=>eI h fun z31 h=>h) (ai (fun kL79_1=>zsi fun e w h=>eP h fun z0 h=>eI h fun z1 h=>eA h fun z5 h=>eA h fun z6 h=>eA h fun z7 h=>eA h fun z9 h=>eA h fun z10 h=>eL h fun z29 h=>eI h fun z30 h=>eI h fun z31 h=>by rw [← zag (aC z0 (aC z1 (aC z5 (aC z6 (aC z7 (aC z9 (aC z10 (aC z29 (aC z30 (aC z31 aN))))))))))];exact zq h) (fun kL79_1=>(zt (zt (ai (zt (ai trivial trivial)) trivial))))))) (zt (zt (ai (zt (zt (zt (zt (ai (ai trivial trivial) (zt (ai (zt (ai trivial trivial)) trivial))))))) (ai (zsi fun e w h=>eA h fun z6 h=>eA h fun z9 h=>eA h fun z10 h=>by rw [← zag (aC z6 (aC z9 (aC z10 aN)))];exact zq h) (ai (ai (zsi fun e w h=>eA h fun z6 h=>eA h fun z9 h=>eA h fun z10 h=>eB h fun z111 h=>by rw [← zag (aC z6 (aC z9 (aC z10 (aC z111 aN))))];exact zq h) (ai trivial trivial)) (ai trivial trivial))))))))))))
theorem call79 (a0:OA) (a1:Int) (a2_0:Int) (a2_1:Int) (a2_2p:OA) (a2_2l:Nat) (a2_2c:Nat) (a2_3:Int) (w:World) (R:KV) (h:F79 a0 a1 a2_0 a2_1 a2_2p a2_2l a2_2c a2_3 w R):zaj PP 79 #[(.pointer a0),(i6 a1),(.agg #[(i6 a2_0),(i6 a2_1),(.slice a2_2p a2_2l a2_2c),(i6 a2_3)])] w R :=
 zah (an:=A79 R) Tryz.func79 rfl (sides79 R) (Eq.mp (by kernel_rfl) h)

def J80_0 (R:KV) (x0:Int) (x2:Addr) (w:World):Prop :=
 CV 128 #[(i6 x0)] w fun v1 w1=>dG20 v1 fun n1 s1 n2 n3 n4 n5 b1=>sU 101 x2 (.agg #[(i6 n1),(.string s1),(i6 n2),(i6 n3),(i6 n4),(i6 n5),(.bool b1)]) w1 fun w2=>ma21 w2 x2 fun n6 s2 n7 n8 n9 n10 b2=>R (.agg #[(i6 n6),(.string s2),(i6 n7),(i6 n8),(i6 n9),(i6 n10),(.bool b2)]) w2
def J80_4 (R:KV) (x0:Int) (x2:Addr) (x60:Bool) (w:World):Prop :=
 ifB x60 (CV 122 #[(i6 (IntKind.wrap .i64 (x0 - 160)))] w fun v1 w1=>asS v1 fun s1=>semK PP (do eqGuard .add 9 (.const (.string ⟨#[76,79,71]⟩)) (.tmp 71) (.string ⟨#[76,79,71]⟩) (.string s1);binOp .add 9 (.string ⟨#[76,79,71]⟩) (.string s1)) w1 fun v2 w2=>asS v2 fun s2=>CV 123 #[(i6 x0),(.string s2),(i6 (IntKind.wrap .i64 ((IntKind.wrap .i64 (x0 - 160))+2))),(i6 0),(i6 (IntKind.wrap .i64 (375 * (IntKind.wrap .i64 ((IntKind.wrap .i64 (x0 - 160))+1)))))] w2 fun v3 w3=>dG20 v3 fun n1 s3 n2 n3 n4 n5 b1=>sU 101 x2 (.agg #[(i6 n1),(.string s3),(i6 n2),(i6 n3),(i6 n4),(i6 n5),(.bool b1)]) w3 fun w4=>ma21 w4 x2 fun n6 s4 n7 n8 n9 n10 b2=>R (.agg #[(i6 n6),(.string s4),(i6 n7),(i6 n8),(i6 n9),(i6 n10),(.bool b2)]) w4) (ifB (decide ((x0:Int) < 16)) (CV 124 #[(i6 x0)] w fun v11 w5=>dG20 v11 fun n11 s5 n12 n13 n14 n15 b3=>sU 101 x2 (.agg #[(i6 n11),(.string s5),(i6 n12),(i6 n13),(i6 n14),(i6 n15),(.bool b3)]) w5 fun w6=>ma21 w6 x2 fun n16 s6 n17 n18 n19 n20 b4=>R (.agg #[(i6 n16),(.string s6),(i6 n17),(i6 n18),(i6 n19),(i6 n20),(.bool b4)]) w6) (ifB (decide ((x0:Int) < 48)) (CV 125 #[(i6 x0)] w fun v19 w7=>dG20 v19 fun n21 s7 n22 n23 n24 n25 b5=>sU 101 x2 (.agg #[(i6 n21),(.string s7),(i6 n22),(i6 n23),(i6 n24),(i6 n25),(.bool b5)]) w7 fun w8=>ma21 w8 x2 fun n26 s8 n27 n28 n29 n30 b6=>R (.agg #[(i6 n26),(.string s8),(i6 n27),(i6 n28),(i6 n29),(i6 n30),(.bool b6)]) w8) (ifB (decide ((x0:Int) < 80)) (CV 126 #[(i6 x0)] w fun v27 w9=>dG20 v27 fun n31 s9 n32 n33 n34 n35 b7=>sU 101 x2 (.agg #[(i6 n31),(.string s9),(i6 n32),(i6 n33),(i6 n34),(i6 n35),(.bool b7)]) w9 fun w10=>ma21 w10 x2 fun n36 s10 n37 n38 n39 n40 b8=>R (.agg #[(i6 n36),(.string s10),(i6 n37),(i6 n38),(i6 n39),(i6 n40),(.bool b8)]) w10) (ifB (decide ((x0:Int) < 208)) (CV 127 #[(i6 x0)] w fun v35 w11=>dG20 v35 fun n41 s11 n42 n43 n44 n45 b9=>sU 101 x2 (.agg #[(i6 n41),(.string s11),(i6 n42),(i6 n43),(i6 n44),(i6 n45),(.bool b9)]) w11 fun w12=>ma21 w12 x2 fun n46 s12 n47 n48 n49 n50 b10=>R (.agg #[(i6 n46),(.string s12),(i6 n47),(i6 n48),(i6 n49),(i6 n50),(.bool b10)]) w12) (J80_0 R x0 x2 w)))))
def J80_3 (R:KV) (x0:Int) (x2:Addr) (x41:Bool) (w:World):Prop :=
 ifB x41 (CV 122 #[(i6 (IntKind.wrap .i64 ((IntKind.wrap .i64 (x0 - 144))+1)))] w fun v1 w1=>asS v1 fun s1=>semK PP (do eqGuard .add 9 (.const (.string ⟨#[83,87,65,80]⟩)) (.tmp 53) (.string ⟨#[83,87,65,80]⟩) (.string s1);binOp .add 9 (.string ⟨#[83,87,65,80]⟩) (.string s1)) w1 fun v2 w2=>asS v2 fun s2=>CV 123 #[(i6 x0),(.string s2),(i6 (IntKind.wrap .i64 ((IntKind.wrap .i64 ((IntKind.wrap .i64 (x0 - 144))+1))+1))),(i6 (IntKind.wrap .i64 ((IntKind.wrap .i64 ((IntKind.wrap .i64 (x0 - 144))+1))+1))),(i6 3)] w2 fun v3 w3=>dG20 v3 fun n1 s3 n2 n3 n4 n5 b1=>sU 101 x2 (.agg #[(i6 n1),(.string s3),(i6 n2),(i6 n3),(i6 n4),(i6 n5),(.bool b1)]) w3 fun w4=>ma21 w4 x2 fun n6 s4 n7 n8 n9 n10 b2=>R (.agg #[(i6 n6),(.string s4),(i6 n7),(i6 n8),(i6 n9),(i6 n10),(.bool b2)]) w4) (ifB (decide ((x0:Int) ≥ 160)) (J80_4 R x0 x2 (decide ((x0:Int)≤164)) w) (J80_4 R x0 x2 false w))
def J80_2 (R:KV) (x0:Int) (x2:Addr) (x23:Bool) (w:World):Prop :=
 ifB x23 (CV 122 #[(i6 (IntKind.wrap .i64 ((IntKind.wrap .i64 (x0 - 128))+1)))] w fun v1 w1=>asS v1 fun s1=>semK PP (do eqGuard .add 9 (.const (.string ⟨#[68,85,80]⟩)) (.tmp 35) (.string ⟨#[68,85,80]⟩) (.string s1);binOp .add 9 (.string ⟨#[68,85,80]⟩) (.string s1)) w1 fun v2 w2=>asS v2 fun s2=>CV 123 #[(i6 x0),(.string s2),(i6 (IntKind.wrap .i64 ((IntKind.wrap .i64 (x0 - 128))+1))),(i6 (IntKind.wrap .i64 ((IntKind.wrap .i64 ((IntKind.wrap .i64 (x0 - 128))+1))+1))),(i6 3)] w2 fun v3 w3=>dG20 v3 fun n1 s3 n2 n3 n4 n5 b1=>sU 101 x2 (.agg #[(i6 n1),(.string s3),(i6 n2),(i6 n3),(i6 n4),(i6 n5),(.bool b1)]) w3 fun w4=>ma21 w4 x2 fun n6 s4 n7 n8 n9 n10 b2=>R (.agg #[(i6 n6),(.string s4),(i6 n7),(i6 n8),(i6 n9),(i6 n10),(.bool b2)]) w4) (ifB (decide ((x0:Int) ≥ 144)) (J80_3 R x0 x2 (decide ((x0:Int)≤159)) w) (J80_3 R x0 x2 false w))
def J80_1 (R:KV) (x0:Int) (x2:Addr) (x7:Bool) (w:World):Prop :=
 ifB x7 (CV 122 #[(i6 (IntKind.wrap .i64 ((IntKind.wrap .i64 (x0 - 96))+1)))] w fun v1 w1=>asS v1 fun s1=>semK PP (do eqGuard .add 9 (.const (.string ⟨#[80,85,83,72]⟩)) (.tmp 19) (.string ⟨#[80,85,83,72]⟩) (.string s1);binOp .add 9 (.string ⟨#[80,85,83,72]⟩) (.string s1)) w1 fun v2 w2=>asS v2 fun s2=>sU 101 x2 (.agg #[(i6 x0),(.string s2),(i6 (IntKind.wrap .i64 ((IntKind.wrap .i64 (x0 - 96))+1))),(i6 0),(i6 1),(i6 3),(.bool false)]) w2 fun w3=>ma21 w3 x2 fun n1 s3 n2 n3 n4 n5 b1=>R (.agg #[(i6 n1),(.string s3),(i6 n2),(i6 n3),(i6 n4),(i6 n5),(.bool b1)]) w3) (ifB (decide ((x0:Int) ≥ 128)) (J80_2 R x0 x2 (decide ((x0:Int)≤143)) w) (J80_2 R x0 x2 false w))
def F80 (a0:Int) (w:World) (R:KV):Prop :=
 zaf w (.cells #[(i6 0),(.string ⟨#[]⟩),(i6 0),(i6 0),(i6 0),(i6 0),(.bool false)] 101) fun w1=>ifB (decide ((a0:Int) ≥ 96)) (J80_1 R a0 ⟨w.heap.size,0,none⟩ (decide ((a0:Int)≤127)) w1) (J80_1 R a0 ⟨w.heap.size,0,none⟩ false w1)
def A80 (R:KV):Ann:=(sN (.join (fun e ds w=>nilD ds (aI e 0 fun x0=>asA (e 2) fun x2=>J80_0 R x0 x2 w)) (.block (.join (fun e ds w=>nilD ds (aI e 0 fun x0=>asA (e 2) fun x2=>asB (e 7) fun x7=>J80_1 R x0 x2 x7 w)) .no (.cond .no (.join (fun e ds w=>nilD ds (aI e 0 fun x0=>asA (e 2) fun x2=>asB (e 23) fun x23=>J80_2 R x0 x2 x23 w)) .no (.cond .no (.join (fun e ds w=>nilD ds (aI e 0 fun x0=>asA (e 2) fun x2=>asB (e 41) fun x41=>J80_3 R x0 x2 x41 w)) .no (.cond .no (.join (fun e ds w=>nilD ds (aI e 0 fun x0=>asA (e 2) fun x2=>asB (e 60) fun x60=>J80_4 R x0 x2 x60 w)) .no .no)))))))) .no))
theorem sides80 (R:KV):zak PP Tryz.f80 (A80 R) R:=by
 exact (zt (ai (zsi fun e w h=>eI h fun z0 h=>eA h fun z2 h=>by rw [← zag (aC z0 (aC z2 aN))];exact zq h) (ai (ai (zsi fun e w h=>eI h fun z0 h=>eA h fun z2 h=>eB h fun z7 h=>by rw [← zag (aC z0 (aC z2 (aC z7 aN)))];exact zq h) (zt (zt (ai (zsi fun e w h=>eI h fun z0 h=>eA h fun z2 h=>eB h fun z23 h=>by rw [← zag (aC z0 (aC z2 (aC z23 aN)))];exact zq h) (zt (zt (ai (zsi fun e w h=>eI h fun z0 h=>eA h fun z2 h=>eB h fun z41 h=>by rw [← zag (aC z0 (aC z2 (aC z41 aN)))];exact zq h) (zt (zt (ai (zsi fun e w h=>eI h fun z0 h=>eA h fun z2 h=>eB h fun z60 h=>by rw [← zag (aC z0 (aC z2 (aC z60 aN)))];exact zq h) (ai trivial trivial))))))))))) trivial)))
theorem call80 (a0:Int) (w:World) (R:KV) (h:F80 a0 w R):zaj PP 80 #[(i6 a0)] w R :=
 zah (an:=A80 R) Tryz.func80 rfl (sides80 R) (Eq.mp (by kernel_rfl) h)

def J81_0 (R:KV) (x1:Addr) (x3:Addr) (w:World):Prop :=
 ma21 w x3 fun n1 s1 n2 n3 n4 n5 b1=>gL w (Addr.add x1 2) fun l1p l1l l1c=>CV 83 #[(.agg #[(i6 n1),(.string s1),(i6 n2),(i6 n3),(i6 n4),(i6 n5),(.bool b1)]),(.slice l1p l1l l1c)] w fun v9 w1=>dT9 v9 fun n6 b2=>ifB b2 (gL w1 (Addr.add x1 2) fun l2p l2l l2c=>ifB ((n6:Int) == (l2l:Nat)) (gI .i64 w1 (Addr.add x1 3) fun n7=>gI .i64 w1 x1 fun n8=>R (.bool ((n7:Int) == (IntKind.wrap .i64 ((IntKind.wrap .i64 (n8+1))+n6)))) w1) (R (.bool false) w1)) (R (.bool false) w1)
def F81 (a0_0:Int) (a0_1:Int) (a0_2p:OA) (a0_2l:Nat) (a0_2c:Nat) (a0_3:Int) (w:World) (R:KV):Prop :=
 zaf w (.cells #[(i6 a0_0),(i6 a0_1),(.slice a0_2p a0_2l a0_2c),(i6 a0_3)] 70) fun w1=>gI .i64 w1 ⟨w.heap.size,1,none⟩ fun n1=>CV 36 #[(i6 n1)] w1 fun v2 w2=>dT19 v2 fun n2 s1 n3 n4 n5 n6 b1 b2=>zaf w2 (.cells #[(i6 0),(.string ⟨#[]⟩),(i6 0),(i6 0),(i6 0),(i6 0),(.bool false)] 101) fun w3=>sU 101 ⟨w2.heap.size,0,none⟩ (.agg #[(i6 n2),(.string s1),(i6 n3),(i6 n4),(i6 n5),(i6 n6),(.bool b1)]) w3 fun w4=>ifB (!b2) (R (.bool false) w4) (gI .i64 w4 ⟨w.heap.size,0,none⟩ fun n7=>ifB (decide ((n7:Int) < 0)) (R (.bool false) w4) (gI .i64 w4 ⟨w.heap.size,0,none⟩ fun n8=>ifB (decide ((n8:Int) > 1048576)) (R (.bool false) w4) (J81_0 R ⟨w.heap.size,0,none⟩ ⟨w2.heap.size,0,none⟩ w4)))
def A81 (R:KV):Ann:=(sN (sN (.join (fun e ds w=>nilD ds (asA (e 1) fun x1=>asA (e 3) fun x3=>J81_0 R x1 x3 w)) .no .no)))
theorem sides81 (R:KV):zak PP Tryz.f81 (A81 R) R:=by
 exact (zt (zt (ai (zsi fun e w h=>eA h fun z1 h=>eA h fun z3 h=>by rw [← zag (aC z1 (aC z3 aN))];exact zq h) (ai trivial trivial))))
theorem call81 (a0_0:Int) (a0_1:Int) (a0_2p:OA) (a0_2l:Nat) (a0_2c:Nat) (a0_3:Int) (w:World) (R:KV) (h:F81 a0_0 a0_1 a0_2p a0_2l a0_2c a0_3 w R):zaj PP 81 #[(.agg #[(i6 a0_0),(i6 a0_1),(.slice a0_2p a0_2l a0_2c),(i6 a0_3)])] w R :=
 zah (an:=A81 R) Tryz.func81 rfl (sides81 R) (Eq.mp (by kernel_rfl) h)

def F82 (a0p:OA) (a0l:Nat) (a0c:Nat) (w:World) (R:KV):Prop :=
 zbf w fun w1=>semK PP (Instr.indexAt 22 (.slice a0p a0l a0c) (i6 0)) w1 fun v1 w2=>asA v1 fun ad1=>gI .u8 w1 ad1 fun n1=>semK PP (Instr.indexAt 22 (.slice a0p a0l a0c) (i6 1)) w1 fun v3 w3=>asA v3 fun ad2=>gI .u8 w1 ad2 fun n2=>R (i6 (bitI .or .i64 (IntKind.wrap .i64 ((IntKind.wrap .i64 n1) * 2 ^ (min (8:Int).toNat 64))) (IntKind.wrap .i64 n2))) w1
def A82 (R:KV):Ann:=(sN (.seq (.draw [0,1,2,3,4,5,6,7,8,9,10]) .no))
theorem sides82 (R:KV):zak PP Tryz.f82 (A82 R) R:=by
 exact (zt (ai trivial trivial))
theorem call82 (a0p:OA) (a0l:Nat) (a0c:Nat) (w:World) (R:KV) (h:F82 a0p a0l a0c w R):zaj PP 82 #[(.slice a0p a0l a0c)] w R :=
 zah (an:=A82 R) Tryz.func82 rfl (sides82 R) (Eq.mp (by kernel_rfl) h)
def L115_0 (R:KV):Nat→Value→Addr→Int→World→Prop
 | 0=>fun _ _ _ _=>False
 | k+1=>fun x0 x1 x3 w=>gL w x1 fun l1p l1l l1c=>CV 39 #[(.slice l1p l1l l1c),(i6 x3)] w fun v2 w1=>dT22 v2 fun n1 n2 l2p l2l l2c n3 n4=>zaf w1 (.cells #[(i6 0),(i6 0),(.slice none 0 0),(i6 0)] 70) fun w2=>sU 70 ⟨w1.heap.size,0,none⟩ (.agg #[(i6 n1),(i6 n2),(.slice l2p l2l l2c),(i6 n3)]) w2 fun w3=>ifB ((n4:Int) != 0) (R (.tuple #[]) w3) (mb13 w3 w1.heap.size fun n5 n6 l3p l3l l3c n7=>zau PP x0 #[(.agg #[(i6 n5),(i6 n6),(.slice l3p l3l l3c),(i6 n7)])] w3 fun v7 w4=>asB v7 fun b1=>ifB (!b1) (R (.tuple #[]) w4) (gI .i64 w4 ⟨w1.heap.size,3,none⟩ fun n8=>L115_0 R k x0 x1 n8 w4))
def F115 (a0:Value) (a1:Addr) (w:World) (R:KV):Prop :=
 gL w a1 fun l1p l1l l1c=>CV 39 #[(.slice l1p l1l l1c),(i6 0)] w fun v2 w1=>dT22 v2 fun n1 n2 l2p l2l l2c n3 n4=>zaf w1 (.cells #[(i6 0),(i6 0),(.slice none 0 0),(i6 0)] 70) fun w2=>sU 70 ⟨w1.heap.size,0,none⟩ (.agg #[(i6 n1),(i6 n2),(.slice l2p l2l l2c),(i6 n3)]) w2 fun w3=>ifB ((n4:Int) != 0) (R (.tuple #[]) w3) (mb13 w3 w1.heap.size fun n5 n6 l3p l3l l3c n7=>zau PP a0 #[(.agg #[(i6 n5),(i6 n6),(.slice l3p l3l l3c),(i6 n7)])] w3 fun v7 w4=>asB v7 fun b1=>ifB (!b1) (R (.tuple #[]) w4) (gI .i64 w4 ⟨w1.heap.size,3,none⟩ fun n8=>∃ m,L115_0 R m a0 a1 n8 w4))
def A115 (R:KV):Ann:=(.scpJ 0 (fun m e ds w=>nilD ds (asAny (e 0) fun x0=>asA (e 1) fun x1=>aI e 3 fun x3=>L115_0 R m x0 x1 x3 w)) .no (fun kL115_0=>.no))
theorem sides115 (R:KV):zak PP Tryz.f115 (A115 R) R:=by
 exact (ai (zsi fun e w h=>eN h fun z0 h=>eA h fun z1 h=>eI h fun z3 h=>h) (ai (fun kL115_0=>zsi fun e w h=>eN h fun z0 h=>eA h fun z1 h=>eI h fun z3 h=>by rw [← zag (aC z0 (aC z1 (aC z3 aN)))];exact zq h) (zt (fun kL115_0=>trivial))))
theorem call115 (a0:Value) (a1:Addr) (w:World) (R:KV) (h:F115 a0 a1 w R):zaj PP 115 #[a0,(.pointer (some a1))] w R :=
 zah (an:=A115 R) Tryz.func115 rfl (sides115 R) (Eq.mp (by kernel_rfl) h)

def F116 (a0:OA) (a1:Value) (w:World) (R:KV):Prop :=
 optP a0 fun ad1=>CV 151 #[(.pointer (some ad1))] w fun v1 w1=>asB v1 fun b1=>ifB (!b1) (CV 152 #[(.pointer a0),a1] w1 fun v2 w2=>asT v2 fun t10=>zav t10 (R (.tuple #[]) w2)) (R (.tuple #[]) w1)
def A116 (R:KV):Ann:=.no
theorem sides116 (R:KV):zak PP Tryz.f116 (A116 R) R:=by
 trivial
theorem call116 (a0:OA) (a1:Value) (w:World) (R:KV) (h:F116 a0 a1 w R):zaj PP 116 #[(.pointer a0),a1] w R :=
 zah (an:=A116 R) Tryz.func116 rfl (sides116 R) (Eq.mp (by kernel_rfl) h)

def F117 (a0:Addr) (a1:Addr) (a2:Addr) (w:World) (R:KV):Prop :=
 zbf w fun w1=>gP w1 a2 fun p1=>gP w1 a0 fun p2=>optP p2 fun ad1=>gL w1 (Addr.add ad1 1) fun l1p l1l l1c=>gI .i64 w1 a1 fun n1=>gP w1 a0 fun p3=>optP p3 fun ad2=>gL w1 (Addr.add (Addr.add ad2 1) 1) fun l2p l2l l2c=>gI .i64 w1 a1 fun n2=>semK PP (Instr.indexAt 25 (.slice l2p l2l l2c) (i6 n2)) w1 fun v8 w2=>asA v8 fun ad3=>gL w1 ad3 fun l3p l3l l3c=>CV 97 #[(.slice l1p l1l l1c),(i6 n1),(.slice l3p l3l l3c)] w1 fun v10 w3=>dT23 v10 fun l4p l4l l4c n3 n4=>(gP w3 a2 fun p4=>((.pointer p4):Value)=(.pointer p1))∧(optP p1 fun ad4=>sU 150 (Addr.add ad4 3) (.slice l4p l4l l4c) w3 fun w4=>R (.tuple #[]) w4)
def A117 (R:KV):Ann:=(.draw [0,1,2,3,4,5,6,7,8,9,10,11,12,13,14,15,16,17,18,19,20,21,22])
theorem sides117 (R:KV):zak PP Tryz.f117 (A117 R) R:=by
 exact trivial
theorem call117 (a0:Addr) (a1:Addr) (a2:Addr) (w:World) (R:KV) (h:F117 a0 a1 a2 w R):zaj PP 117 #[(.pointer (some a0)),(.pointer (some a1)),(.pointer (some a2))] w R :=
 zah (an:=A117 R) Tryz.func117 rfl (sides117 R) (Eq.mp (by kernel_rfl) h)

def F118 (a0p:OA) (a0l:Nat) (a0c:Nat) (w:World) (R:KV):Prop :=
 ifB (Option.isNone a0p) (R (.slice none 0 0) w) (zaf w (.cells #[] 158) fun w1=>semK PP (Builtin.append_ #[150,150] 150 #[(.slice (some ⟨w.heap.size,0,none⟩) 0 0),(.slice a0p a0l a0c)]) w1 fun v1 w2=>asL v1 fun l1p l1l l1c=>R (.slice l1p l1l l1c) w2)
def A118 (R:KV):Ann:=.no
theorem sides118 (R:KV):zak PP Tryz.f118 (A118 R) R:=by
 trivial
theorem call118 (a0p:OA) (a0l:Nat) (a0c:Nat) (w:World) (R:KV) (h:F118 a0p a0l a0c w R):zaj PP 118 #[(.slice a0p a0l a0c)] w R :=
 zah (an:=A118 R) Tryz.func118 rfl (sides118 R) (Eq.mp (by kernel_rfl) h)

def F119 (a0_0:Int) (a0_1:Int) (a0_2p:OA) (a0_2l:Nat) (a0_2c:Nat) (a0_3:Int) (w:World) (R:KV):Prop :=
 zaf w (.cells #[(i6 a0_0),(i6 a0_1),(.slice a0_2p a0_2l a0_2c),(i6 a0_3)] 70) fun w1=>mb13 w1 w.heap.size fun n1 n2 l1p l1l l1c n3=>CV 40 #[(.agg #[(i6 n1),(i6 n2),(.slice l1p l1l l1c),(i6 n3)])] w1 fun v5 w2=>asL v5 fun l2p l2l l2c=>gI .i64 w2 ⟨w.heap.size,1,none⟩ fun n4=>CV 36 #[(i6 n4)] w2 fun v7 w3=>dT19 v7 fun n5 s1 n6 n7 n8 n9 b1 b2=>zaf w3 (.cells #[(i6 0),(.string ⟨#[]⟩),(i6 0),(i6 0),(i6 0),(i6 0),(.bool false)] 101) fun w4=>sU 101 ⟨w3.heap.size,0,none⟩ (.agg #[(i6 n5),(.string s1),(i6 n6),(i6 n7),(i6 n8),(i6 n9),(.bool b1)]) w4 fun w5=>gB w5 ⟨w3.heap.size,6,none⟩ fun b3=>ifB (!b3) (gI .i64 w5 ⟨w.heap.size,3,none⟩ fun n10=>zaf w5 (.cells #[(i6 n10)] 3) fun w6=>semK PP (Builtin.append_ #[29,29] 29 #[(.slice l2p l2l l2c),(.slice (some ⟨w5.heap.size,0,none⟩) 1 1)]) w6 fun v10 w7=>asL v10 fun l3p l3l l3c=>R (.slice l3p l3l l3c) w7) (R (.slice l2p l2l l2c) w5)
def A119 (R:KV):Ann:=.no
theorem sides119 (R:KV):zak PP Tryz.f119 (A119 R) R:=by
 trivial
theorem call119 (a0_0:Int) (a0_1:Int) (a0_2p:OA) (a0_2l:Nat) (a0_2c:Nat) (a0_3:Int) (w:World) (R:KV) (h:F119 a0_0 a0_1 a0_2p a0_2l a0_2c a0_3 w R):zaj PP 119 #[(.agg #[(i6 a0_0),(i6 a0_1),(.slice a0_2p a0_2l a0_2c),(i6 a0_3)])] w R :=
 zah (an:=A119 R) Tryz.func119 rfl (sides119 R) (Eq.mp (by kernel_rfl) h)

def F120 (a0_0:Int) (a0_1:Int) (a0_2:Bool) (a1_0:Int) (a1_1:Int) (a1_2:Bool) (w:World) (R:KV):Prop :=
 zaf w (.cells #[(u6 a0_0),(u6 a0_1),(.bool a0_2)] 93) fun w1=>zaf w1 (.cells #[(u6 a1_0),(u6 a1_1),(.bool a1_2)] 93) fun w2=>zaf w2 (.cells #[(u6 0),(u6 0),(.bool false)] 93) fun w3=>gB w3 ⟨w.heap.size,2,none⟩ fun b1=>ifB (!b1) (mb18 w3 w1.heap.size fun n1 n2 b2=>sU 93 ⟨w2.heap.size,0,none⟩ (.agg #[(u6 n1),(u6 n2),(.bool b2)]) w3 fun w4=>mb18 w4 w2.heap.size fun n3 n4 b3=>R (.agg #[(u6 n3),(u6 n4),(.bool b3)]) w4) (gB w3 ⟨w1.heap.size,2,none⟩ fun b4=>ifB (!b4) (mb18 w3 w.heap.size fun n5 n6 b5=>sU 93 ⟨w2.heap.size,0,none⟩ (.agg #[(u6 n5),(u6 n6),(.bool b5)]) w3 fun w5=>mb18 w5 w2.heap.size fun n7 n8 b6=>R (.agg #[(u6 n7),(u6 n8),(.bool b6)]) w5) (gI .u64 w3 ⟨w.heap.size,0,none⟩ fun n9=>gI .u64 w3 ⟨w1.heap.size,0,none⟩ fun n10=>gI .u64 w3 ⟨w.heap.size,1,none⟩ fun n11=>gI .u64 w3 ⟨w1.heap.size,1,none⟩ fun n12=>sU 93 ⟨w2.heap.size,0,none⟩ (.agg #[(u6 (if (n10:Int) > n9 then n10 else n9)),(u6 (if (n12:Int) > n11 then n12 else n11)),(.bool true)]) w3 fun w6=>mb18 w6 w2.heap.size fun n13 n14 b7=>R (.agg #[(u6 n13),(u6 n14),(.bool b7)]) w6))
def A120 (R:KV):Ann:=.no
theorem sides120 (R:KV):zak PP Tryz.f120 (A120 R) R:=by
 trivial
theorem call120 (a0_0:Int) (a0_1:Int) (a0_2:Bool) (a1_0:Int) (a1_1:Int) (a1_2:Bool) (w:World) (R:KV) (h:F120 a0_0 a0_1 a0_2 a1_0 a1_1 a1_2 w R):zaj PP 120 #[(.agg #[(u6 a0_0),(u6 a0_1),(.bool a0_2)]),(.agg #[(u6 a1_0),(u6 a1_1),(.bool a1_2)])] w R :=
 zah (an:=A120 R) Tryz.func120 rfl (sides120 R) (Eq.mp (by kernel_rfl) h)

def J121_0 (R:KV) (x2:Addr) (x3:Addr) (x4:Addr) (w:World):Prop :=
 zbf w fun w1=>gI .u64 w1 x2 fun n1=>gI .u64 w1 x3 fun n2=>gI .u64 w1 (Addr.add x2 1) fun n3=>gI .u64 w1 (Addr.add x3 1) fun n4=>CV 153 #[(u6 n1),(u6 n2)] w1 fun v5 w2=>asI .u64 v5 fun n5=>(gI .u64 w2 (Addr.add x2 1) fun n6=>((u6 n6):Value)=(u6 n3))∧((gI .u64 w2 (Addr.add x3 1) fun n7=>((u6 n7):Value)=(u6 n4))∧(CV 153 #[(u6 n3),(u6 n4)] w2 fun v8 w3=>asI .u64 v8 fun n8=>sU 93 x4 (.agg #[(u6 n5),(u6 n8),(.bool true)]) w3 fun w4=>ma15 w4 x4 fun n9 n10 b1=>R (.agg #[(u6 n9),(u6 n10),(.bool b1)]) w4))
def F121 (a0_0:Int) (a0_1:Int) (a0_2:Bool) (a1_0:Int) (a1_1:Int) (a1_2:Bool) (w:World) (R:KV):Prop :=
 zaf w (.cells #[(u6 a0_0),(u6 a0_1),(.bool a0_2)] 93) fun w1=>zaf w1 (.cells #[(u6 a1_0),(u6 a1_1),(.bool a1_2)] 93) fun w2=>zaf w2 (.cells #[(u6 0),(u6 0),(.bool false)] 93) fun w3=>gB w3 ⟨w.heap.size,2,none⟩ fun b1=>ifB (!b1) (sU 93 ⟨w2.heap.size,0,none⟩ (.agg #[(u6 0),(u6 0),(.bool false)]) w3 fun w4=>mb18 w4 w2.heap.size fun n1 n2 b2=>R (.agg #[(u6 n1),(u6 n2),(.bool b2)]) w4) (gB w3 ⟨w1.heap.size,2,none⟩ fun b3=>ifB (!b3) (sU 93 ⟨w2.heap.size,0,none⟩ (.agg #[(u6 0),(u6 0),(.bool false)]) w3 fun w5=>mb18 w5 w2.heap.size fun n3 n4 b4=>R (.agg #[(u6 n3),(u6 n4),(.bool b4)]) w5) (J121_0 R ⟨w.heap.size,0,none⟩ ⟨w1.heap.size,0,none⟩ ⟨w2.heap.size,0,none⟩ w3))
def A121 (R:KV):Ann:=(sN (.join (fun e ds w=>nilD ds (asA (e 2) fun x2=>asA (e 3) fun x3=>asA (e 4) fun x4=>J121_0 R x2 x3 x4 w)) .no (.seq (.draw [0,1,2,3,5,6,7,8,4,9,10,11]) .no)))
theorem sides121 (R:KV):zak PP Tryz.f121 (A121 R) R:=by
 exact (zt (ai (zsi fun e w h=>eA h fun z2 h=>eA h fun z3 h=>eA h fun z4 h=>by rw [← zag (aC z2 (aC z3 (aC z4 aN)))];exact zq h) (zt (ai trivial trivial))))
theorem call121 (a0_0:Int) (a0_1:Int) (a0_2:Bool) (a1_0:Int) (a1_1:Int) (a1_2:Bool) (w:World) (R:KV) (h:F121 a0_0 a0_1 a0_2 a1_0 a1_1 a1_2 w R):zaj PP 121 #[(.agg #[(u6 a0_0),(u6 a0_1),(.bool a0_2)]),(.agg #[(u6 a1_0),(u6 a1_1),(.bool a1_2)])] w R :=
 zah (an:=A121 R) Tryz.func121 rfl (sides121 R) (Eq.mp (by kernel_rfl) h)

def F122 (a0:Int) (w:World) (R:KV):Prop :=
 CV 154 #[(i6 a0)] w fun v1 w1=>asS v1 fun s1=>R (.string s1) w1
def A122 (R:KV):Ann:=.no
theorem sides122 (R:KV):zak PP Tryz.f122 (A122 R) R:=by
 trivial
theorem call122 (a0:Int) (w:World) (R:KV) (h:F122 a0 w R):zaj PP 122 #[(i6 a0)] w R :=
 zah (an:=A122 R) Tryz.func122 rfl (sides122 R) (Eq.mp (by kernel_rfl) h)

def F123 (a0:Int) (a1:ByteArray) (a2:Int) (a3:Int) (a4:Int) (w:World) (R:KV):Prop :=
 zaf w (.cells #[(i6 0),(.string ⟨#[]⟩),(i6 0),(i6 0),(i6 0),(i6 0),(.bool false)] 101) fun w1=>sU 101 ⟨w.heap.size,0,none⟩ (.agg #[(i6 a0),(.string a1),(i6 0),(i6 a2),(i6 a3),(i6 a4),(.bool false)]) w1 fun w2=>mb24 w2 w.heap.size fun n1 s1 n2 n3 n4 n5 b1=>R (.agg #[(i6 n1),(.string s1),(i6 n2),(i6 n3),(i6 n4),(i6 n5),(.bool b1)]) w2
def A123 (R:KV):Ann:=.no
theorem sides123 (R:KV):zak PP Tryz.f123 (A123 R) R:=by
 trivial
theorem call123 (a0:Int) (a1:ByteArray) (a2:Int) (a3:Int) (a4:Int) (w:World) (R:KV) (h:F123 a0 a1 a2 a3 a4 w R):zaj PP 123 #[(i6 a0),(.string a1),(i6 a2),(i6 a3),(i6 a4)] w R :=
 zah (an:=A123 R) Tryz.func123 rfl (sides123 R) (Eq.mp (by kernel_rfl) h)

def F124 (a0:Int) (w:World) (R:KV):Prop :=
 zaf w (.cells #[(i6 0),(.string ⟨#[]⟩),(i6 0),(i6 0),(i6 0),(i6 0),(.bool false)] 101) fun w1=>ifB ((a0:Int) == 0) (sU 101 ⟨w.heap.size,0,none⟩ (.agg #[(i6 0),(.string ⟨#[83,84,79,80]⟩),(i6 0),(i6 0),(i6 0),(i6 0),(.bool true)]) w1 fun w2=>mb24 w2 w.heap.size fun n1 s1 n2 n3 n4 n5 b1=>R (.agg #[(i6 n1),(.string s1),(i6 n2),(i6 n3),(i6 n4),(i6 n5),(.bool b1)]) w2) (ifB ((a0:Int) == 1) (CV 123 #[(i6 a0),(.string ⟨#[65,68,68]⟩),(i6 2),(i6 1),(i6 3)] w1 fun v8 w3=>dG20 v8 fun n6 s2 n7 n8 n9 n10 b2=>sU 101 ⟨w.heap.size,0,none⟩ (.agg #[(i6 n6),(.string s2),(i6 n7),(i6 n8),(i6 n9),(i6 n10),(.bool b2)]) w3 fun w4=>mb24 w4 w.heap.size fun n11 s3 n12 n13 n14 n15 b3=>R (.agg #[(i6 n11),(.string s3),(i6 n12),(i6 n13),(i6 n14),(i6 n15),(.bool b3)]) w4) (ifB ((a0:Int) == 3) (CV 123 #[(i6 a0),(.string ⟨#[83,85,66]⟩),(i6 2),(i6 1),(i6 3)] w1 fun v16 w5=>dG20 v16 fun n16 s4 n17 n18 n19 n20 b4=>sU 101 ⟨w.heap.size,0,none⟩ (.agg #[(i6 n16),(.string s4),(i6 n17),(i6 n18),(i6 n19),(i6 n20),(.bool b4)]) w5 fun w6=>mb24 w6 w.heap.size fun n21 s5 n22 n23 n24 n25 b5=>R (.agg #[(i6 n21),(.string s5),(i6 n22),(i6 n23),(i6 n24),(i6 n25),(.bool b5)]) w6) (ifB ((a0:Int) == 2) (CV 123 #[(i6 a0),(.string ⟨#[77,85,76]⟩),(i6 2),(i6 1),(i6 5)] w1 fun v24 w7=>dG20 v24 fun n26 s6 n27 n28 n29 n30 b6=>sU 101 ⟨w.heap.size,0,none⟩ (.agg #[(i6 n26),(.string s6),(i6 n27),(i6 n28),(i6 n29),(i6 n30),(.bool b6)]) w7 fun w8=>mb24 w8 w.heap.size fun n31 s7 n32 n33 n34 n35 b7=>R (.agg #[(i6 n31),(.string s7),(i6 n32),(i6 n33),(i6 n34),(i6 n35),(.bool b7)]) w8) (ifB ((a0:Int) == 4) (CV 123 #[(i6 a0),(.string ⟨#[68,73,86]⟩),(i6 2),(i6 1),(i6 5)] w1 fun v32 w9=>dG20 v32 fun n36 s8 n37 n38 n39 n40 b8=>sU 101 ⟨w.heap.size,0,none⟩ (.agg #[(i6 n36),(.string s8),(i6 n37),(i6 n38),(i6 n39),(i6 n40),(.bool b8)]) w9 fun w10=>mb24 w10 w.heap.size fun n41 s9 n42 n43 n44 n45 b9=>R (.agg #[(i6 n41),(.string s9),(i6 n42),(i6 n43),(i6 n44),(i6 n45),(.bool b9)]) w10) (ifB ((a0:Int) == 5) (CV 123 #[(i6 a0),(.string ⟨#[83,68,73,86]⟩),(i6 2),(i6 1),(i6 5)] w1 fun v40 w11=>dG20 v40 fun n46 s10 n47 n48 n49 n50 b10=>sU 101 ⟨w.heap.size,0,none⟩ (.agg #[(i6 n46),(.string s10),(i6 n47),(i6 n48),(i6 n49),(i6 n50),(.bool b10)]) w11 fun w12=>mb24 w12 w.heap.size fun n51 s11 n52 n53 n54 n55 b11=>R (.agg #[(i6 n51),(.string s11),(i6 n52),(i6 n53),(i6 n54),(i6 n55),(.bool b11)]) w12) (ifB ((a0:Int) == 6) (CV 123 #[(i6 a0),(.string ⟨#[77,79,68]⟩),(i6 2),(i6 1),(i6 5)] w1 fun v48 w13=>dG20 v48 fun n56 s12 n57 n58 n59 n60 b12=>sU 101 ⟨w.heap.size,0,none⟩ (.agg #[(i6 n56),(.string s12),(i6 n57),(i6 n58),(i6 n59),(i6 n60),(.bool b12)]) w13 fun w14=>mb24 w14 w.heap.size fun n61 s13 n62 n63 n64 n65 b13=>R (.agg #[(i6 n61),(.string s13),(i6 n62),(i6 n63),(i6 n64),(i6 n65),(.bool b13)]) w14) (ifB ((a0:Int) == 7) (CV 123 #[(i6 a0),(.string ⟨#[83,77,79,68]⟩),(i6 2),(i6 1),(i6 5)] w1 fun v56 w15=>dG20 v56 fun n66 s14 n67 n68 n69 n70 b14=>sU 101 ⟨w.heap.size,0,none⟩ (.agg #[(i6 n66),(.string s14),(i6 n67),(i6 n68),(i6 n69),(i6 n70),(.bool b14)]) w15 fun w16=>mb24 w16 w.heap.size fun n71 s15 n72 n73 n74 n75 b15=>R (.agg #[(i6 n71),(.string s15),(i6 n72),(i6 n73),(i6 n74),(i6 n75),(.bool b15)]) w16) (ifB ((a0:Int) == 8) (CV 123 #[(i6 a0),(.string ⟨#[65,68,68,77,79,68]⟩),(i6 3),(i6 1),(i6 8)] w1 fun v64 w17=>dG20 v64 fun n76 s16 n77 n78 n79 n80 b16=>sU 101 ⟨w.heap.size,0,none⟩ (.agg #[(i6 n76),(.string s16),(i6 n77),(i6 n78),(i6 n79),(i6 n80),(.bool b16)]) w17 fun w18=>mb24 w18 w.heap.size fun n81 s17 n82 n83 n84 n85 b17=>R (.agg #[(i6 n81),(.string s17),(i6 n82),(i6 n83),(i6 n84),(i6 n85),(.bool b17)]) w18) (ifB ((a0:Int) == 9) (CV 123 #[(i6 a0),(.string ⟨#[77,85,76,77,79,68]⟩),(i6 3),(i6 1),(i6 8)] w1 fun v72 w19=>dG20 v72 fun n86 s18 n87 n88 n89 n90 b18=>sU 101 ⟨w.heap.size,0,none⟩ (.agg #[(i6 n86),(.string s18),(i6 n87),(i6 n88),(i6 n89),(i6 n90),(.bool b18)]) w19 fun w20=>mb24 w20 w.heap.size fun n91 s19 n92 n93 n94 n95 b19=>R (.agg #[(i6 n91),(.string s19),(i6 n92),(i6 n93),(i6 n94),(i6 n95),(.bool b19)]) w20) (ifB ((a0:Int) == 10) (CV 123 #[(i6 a0),(.string ⟨#[69,88,80]⟩),(i6 2),(i6 1),(i6 10)] w1 fun v80 w21=>dG20 v80 fun n96 s20 n97 n98 n99 n100 b20=>sU 101 ⟨w.heap.size,0,none⟩ (.agg #[(i6 n96),(.string s20),(i6 n97),(i6 n98),(i6 n99),(i6 n100),(.bool b20)]) w21 fun w22=>mb24 w22 w.heap.size fun n101 s21 n102 n103 n104 n105 b21=>R (.agg #[(i6 n101),(.string s21),(i6 n102),(i6 n103),(i6 n104),(i6 n105),(.bool b21)]) w22) (ifB ((a0:Int) == 11) (CV 123 #[(i6 a0),(.string ⟨#[83,73,71,78,69,88,84,69,78,68]⟩),(i6 2),(i6 1),(i6 5)] w1 fun v88 w23=>dG20 v88 fun n106 s22 n107 n108 n109 n110 b22=>sU 101 ⟨w.heap.size,0,none⟩ (.agg #[(i6 n106),(.string s22),(i6 n107),(i6 n108),(i6 n109),(i6 n110),(.bool b22)]) w23 fun w24=>mb24 w24 w.heap.size fun n111 s23 n112 n113 n114 n115 b23=>R (.agg #[(i6 n111),(.string s23),(i6 n112),(i6 n113),(i6 n114),(i6 n115),(.bool b23)]) w24) (sU 101 ⟨w.heap.size,0,none⟩ (.agg #[(i6 0),(.string ⟨#[]⟩),(i6 0),(i6 0),(i6 0),(i6 0),(.bool false)]) w1 fun w25=>mb24 w25 w.heap.size fun n116 s24 n117 n118 n119 n120 b24=>R (.agg #[(i6 n116),(.string s24),(i6 n117),(i6 n118),(i6 n119),(i6 n120),(.bool b24)]) w25))))))))))))
def A124 (R:KV):Ann:=.no
theorem sides124 (R:KV):zak PP Tryz.f124 (A124 R) R:=by
 trivial
theorem call124 (a0:Int) (w:World) (R:KV) (h:F124 a0 w R):zaj PP 124 #[(i6 a0)] w R :=
 zah (an:=A124 R) Tryz.func124 rfl (sides124 R) (Eq.mp (by kernel_rfl) h)

def J125_0 (R:KV) (x0:Int) (x2:Addr) (x3:Addr) (x4:Int) (w:World):Prop :=
 semK PP (Instr.indexAt 253 (.pointer (some x3)) (i6 (IntKind.wrap .i64 (x0 - 16)))) w fun v1 w1=>asA v1 fun ad1=>ldK PP w1 ad1 fun v2=>asS v2 fun s1=>CV 123 #[(i6 x0),(.string s1),(i6 x4),(i6 1),(i6 3)] w1 fun v3 w2=>dG20 v3 fun n1 s2 n2 n3 n4 n5 b1=>sU 101 x2 (.agg #[(i6 n1),(.string s2),(i6 n2),(i6 n3),(i6 n4),(i6 n5),(.bool b1)]) w2 fun w3=>ma21 w3 x2 fun n6 s3 n7 n8 n9 n10 b2=>R (.agg #[(i6 n6),(.string s3),(i6 n7),(i6 n8),(i6 n9),(i6 n10),(.bool b2)]) w3
def F125 (a0:Int) (w:World) (R:KV):Prop :=
 zaf w (.cells #[(i6 0),(.string ⟨#[]⟩),(i6 0),(i6 0),(i6 0),(i6 0),(.bool false)] 101) fun w1=>ifB ((a0:Int) == 30) (CV 123 #[(i6 a0),(.string ⟨#[67,76,90]⟩),(i6 1),(i6 1),(i6 5)] w1 fun v1 w2=>dG20 v1 fun n1 s1 n2 n3 n4 n5 b1=>sU 101 ⟨w.heap.size,0,none⟩ (.agg #[(i6 n1),(.string s1),(i6 n2),(i6 n3),(i6 n4),(i6 n5),(.bool b1)]) w2 fun w3=>mb24 w3 w.heap.size fun n6 s2 n7 n8 n9 n10 b2=>R (.agg #[(i6 n6),(.string s2),(i6 n7),(i6 n8),(i6 n9),(i6 n10),(.bool b2)]) w3) (ifB ((a0:Int) == 32) (CV 123 #[(i6 a0),(.string ⟨#[75,69,67,67,65,75,50,53,54]⟩),(i6 2),(i6 1),(i6 30)] w1 fun v9 w4=>dG20 v9 fun n11 s3 n12 n13 n14 n15 b3=>sU 101 ⟨w.heap.size,0,none⟩ (.agg #[(i6 n11),(.string s3),(i6 n12),(i6 n13),(i6 n14),(i6 n15),(.bool b3)]) w4 fun w5=>mb24 w5 w.heap.size fun n16 s4 n17 n18 n19 n20 b4=>R (.agg #[(i6 n16),(.string s4),(i6 n17),(i6 n18),(i6 n19),(i6 n20),(.bool b4)]) w5) (ifB (decide ((a0:Int) > 29)) (sU 101 ⟨w.heap.size,0,none⟩ (.agg #[(i6 0),(.string ⟨#[]⟩),(i6 0),(i6 0),(i6 0),(i6 0),(.bool false)]) w1 fun w6=>mb24 w6 w.heap.size fun n21 s5 n22 n23 n24 n25 b5=>R (.agg #[(i6 n21),(.string s5),(i6 n22),(i6 n23),(i6 n24),(i6 n25),(.bool b5)]) w6) (zaf w1 (.cells #[(.string ⟨#[]⟩),(.string ⟨#[]⟩),(.string ⟨#[]⟩),(.string ⟨#[]⟩),(.string ⟨#[]⟩),(.string ⟨#[]⟩),(.string ⟨#[]⟩),(.string ⟨#[]⟩),(.string ⟨#[]⟩),(.string ⟨#[]⟩),(.string ⟨#[]⟩),(.string ⟨#[]⟩),(.string ⟨#[]⟩),(.string ⟨#[]⟩)] 253) fun w7=>sU 253 ⟨w1.heap.size,0,none⟩ (.agg #[(.string ⟨#[76,84]⟩),(.string ⟨#[71,84]⟩),(.string ⟨#[83,76,84]⟩),(.string ⟨#[83,71,84]⟩),(.string ⟨#[69,81]⟩),(.string ⟨#[73,83,90,69,82,79]⟩),(.string ⟨#[65,78,68]⟩),(.string ⟨#[79,82]⟩),(.string ⟨#[88,79,82]⟩),(.string ⟨#[78,79,84]⟩),(.string ⟨#[66,89,84,69]⟩),(.string ⟨#[83,72,76]⟩),(.string ⟨#[83,72,82]⟩),(.string ⟨#[83,65,82]⟩)]) w7 fun w8=>ifB ((a0:Int) == 21) (J125_0 R a0 ⟨w.heap.size,0,none⟩ ⟨w1.heap.size,0,none⟩ 1 w8) (ifB ((a0:Int) == 25) (J125_0 R a0 ⟨w.heap.size,0,none⟩ ⟨w1.heap.size,0,none⟩ 1 w8) (J125_0 R a0 ⟨w.heap.size,0,none⟩ ⟨w1.heap.size,0,none⟩ 2 w8)))))
def A125 (R:KV):Ann:=(sN (sN (sN (sN (sN (sN (.join (fun e ds w=>nilD ds (aI e 0 fun x0=>asA (e 2) fun x2=>asA (e 3) fun x3=>aI e 4 fun x4=>J125_0 R x0 x2 x3 x4 w)) .no .no)))))))
theorem sides125 (R:KV):zak PP Tryz.f125 (A125 R) R:=by
 exact (zt (zt (zt (zt (zt (zt (ai (zsi fun e w h=>eI h fun z0 h=>eA h fun z2 h=>eA h fun z3 h=>eI h fun z4 h=>by rw [← zag (aC z0 (aC z2 (aC z3 (aC z4 aN))))];exact zq h) (ai trivial trivial))))))))
theorem call125 (a0:Int) (w:World) (R:KV) (h:F125 a0 w R):zaj PP 125 #[(i6 a0)] w R :=
 zah (an:=A125 R) Tryz.func125 rfl (sides125 R) (Eq.mp (by kernel_rfl) h)

def F126 (a0:Int) (w:World) (R:KV):Prop :=
 zaf w (.cells #[(i6 0),(.string ⟨#[]⟩),(i6 0),(i6 0),(i6 0),(i6 0),(.bool false)] 101) fun w1=>ifB ((a0:Int) == 48) (CV 123 #[(i6 a0),(.string ⟨#[65,68,68,82,69,83,83]⟩),(i6 0),(i6 1),(i6 2)] w1 fun v1 w2=>dG20 v1 fun n1 s1 n2 n3 n4 n5 b1=>sU 101 ⟨w.heap.size,0,none⟩ (.agg #[(i6 n1),(.string s1),(i6 n2),(i6 n3),(i6 n4),(i6 n5),(.bool b1)]) w2 fun w3=>mb24 w3 w.heap.size fun n6 s2 n7 n8 n9 n10 b2=>R (.agg #[(i6 n6),(.string s2),(i6 n7),(i6 n8),(i6 n9),(i6 n10),(.bool b2)]) w3) (ifB ((a0:Int) == 49) (CV 123 #[(i6 a0),(.string ⟨#[66,65,76,65,78,67,69]⟩),(i6 1),(i6 1),(i6 100)] w1 fun v9 w4=>dG20 v9 fun n11 s3 n12 n13 n14 n15 b3=>sU 101 ⟨w.heap.size,0,none⟩ (.agg #[(i6 n11),(.string s3),(i6 n12),(i6 n13),(i6 n14),(i6 n15),(.bool b3)]) w4 fun w5=>mb24 w5 w.heap.size fun n16 s4 n17 n18 n19 n20 b4=>R (.agg #[(i6 n16),(.string s4),(i6 n17),(i6 n18),(i6 n19),(i6 n20),(.bool b4)]) w5) (ifB ((a0:Int) == 50) (CV 123 #[(i6 a0),(.string ⟨#[79,82,73,71,73,78]⟩),(i6 0),(i6 1),(i6 2)] w1 fun v17 w6=>dG20 v17 fun n21 s5 n22 n23 n24 n25 b5=>sU 101 ⟨w.heap.size,0,none⟩ (.agg #[(i6 n21),(.string s5),(i6 n22),(i6 n23),(i6 n24),(i6 n25),(.bool b5)]) w6 fun w7=>mb24 w7 w.heap.size fun n26 s6 n27 n28 n29 n30 b6=>R (.agg #[(i6 n26),(.string s6),(i6 n27),(i6 n28),(i6 n29),(i6 n30),(.bool b6)]) w7) (ifB ((a0:Int) == 51) (CV 123 #[(i6 a0),(.string ⟨#[67,65,76,76,69,82]⟩),(i6 0),(i6 1),(i6 2)] w1 fun v25 w8=>dG20 v25 fun n31 s7 n32 n33 n34 n35 b7=>sU 101 ⟨w.heap.size,0,none⟩ (.agg #[(i6 n31),(.string s7),(i6 n32),(i6 n33),(i6 n34),(i6 n35),(.bool b7)]) w8 fun w9=>mb24 w9 w.heap.size fun n36 s8 n37 n38 n39 n40 b8=>R (.agg #[(i6 n36),(.string s8),(i6 n37),(i6 n38),(i6 n39),(i6 n40),(.bool b8)]) w9) (ifB ((a0:Int) == 52) (CV 123 #[(i6 a0),(.string ⟨#[67,65,76,76,86,65,76,85,69]⟩),(i6 0),(i6 1),(i6 2)] w1 fun v33 w10=>dG20 v33 fun n41 s9 n42 n43 n44 n45 b9=>sU 101 ⟨w.heap.size,0,none⟩ (.agg #[(i6 n41),(.string s9),(i6 n42),(i6 n43),(i6 n44),(i6 n45),(.bool b9)]) w10 fun w11=>mb24 w11 w.heap.size fun n46 s10 n47 n48 n49 n50 b10=>R (.agg #[(i6 n46),(.string s10),(i6 n47),(i6 n48),(i6 n49),(i6 n50),(.bool b10)]) w11) (ifB ((a0:Int) == 53) (CV 123 #[(i6 a0),(.string ⟨#[67,65,76,76,68,65,84,65,76,79,65,68]⟩),(i6 1),(i6 1),(i6 3)] w1 fun v41 w12=>dG20 v41 fun n51 s11 n52 n53 n54 n55 b11=>sU 101 ⟨w.heap.size,0,none⟩ (.agg #[(i6 n51),(.string s11),(i6 n52),(i6 n53),(i6 n54),(i6 n55),(.bool b11)]) w12 fun w13=>mb24 w13 w.heap.size fun n56 s12 n57 n58 n59 n60 b12=>R (.agg #[(i6 n56),(.string s12),(i6 n57),(i6 n58),(i6 n59),(i6 n60),(.bool b12)]) w13) (ifB ((a0:Int) == 54) (CV 123 #[(i6 a0),(.string ⟨#[67,65,76,76,68,65,84,65,83,73,90,69]⟩),(i6 0),(i6 1),(i6 2)] w1 fun v49 w14=>dG20 v49 fun n61 s13 n62 n63 n64 n65 b13=>sU 101 ⟨w.heap.size,0,none⟩ (.agg #[(i6 n61),(.string s13),(i6 n62),(i6 n63),(i6 n64),(i6 n65),(.bool b13)]) w14 fun w15=>mb24 w15 w.heap.size fun n66 s14 n67 n68 n69 n70 b14=>R (.agg #[(i6 n66),(.string s14),(i6 n67),(i6 n68),(i6 n69),(i6 n70),(.bool b14)]) w15) (ifB ((a0:Int) == 55) (CV 123 #[(i6 a0),(.string ⟨#[67,65,76,76,68,65,84,65,67,79,80,89]⟩),(i6 3),(i6 0),(i6 3)] w1 fun v57 w16=>dG20 v57 fun n71 s15 n72 n73 n74 n75 b15=>sU 101 ⟨w.heap.size,0,none⟩ (.agg #[(i6 n71),(.string s15),(i6 n72),(i6 n73),(i6 n74),(i6 n75),(.bool b15)]) w16 fun w17=>mb24 w17 w.heap.size fun n76 s16 n77 n78 n79 n80 b16=>R (.agg #[(i6 n76),(.string s16),(i6 n77),(i6 n78),(i6 n79),(i6 n80),(.bool b16)]) w17) (ifB ((a0:Int) == 58) (CV 123 #[(i6 a0),(.string ⟨#[71,65,83,80,82,73,67,69]⟩),(i6 0),(i6 1),(i6 2)] w1 fun v65 w18=>dG20 v65 fun n81 s17 n82 n83 n84 n85 b17=>sU 101 ⟨w.heap.size,0,none⟩ (.agg #[(i6 n81),(.string s17),(i6 n82),(i6 n83),(i6 n84),(i6 n85),(.bool b17)]) w18 fun w19=>mb24 w19 w.heap.size fun n86 s18 n87 n88 n89 n90 b18=>R (.agg #[(i6 n86),(.string s18),(i6 n87),(i6 n88),(i6 n89),(i6 n90),(.bool b18)]) w19) (ifB ((a0:Int) == 61) (CV 123 #[(i6 a0),(.string ⟨#[82,69,84,85,82,78,68,65,84,65,83,73,90,69]⟩),(i6 0),(i6 1),(i6 2)] w1 fun v73 w20=>dG20 v73 fun n91 s19 n92 n93 n94 n95 b19=>sU 101 ⟨w.heap.size,0,none⟩ (.agg #[(i6 n91),(.string s19),(i6 n92),(i6 n93),(i6 n94),(i6 n95),(.bool b19)]) w20 fun w21=>mb24 w21 w.heap.size fun n96 s20 n97 n98 n99 n100 b20=>R (.agg #[(i6 n96),(.string s20),(i6 n97),(i6 n98),(i6 n99),(i6 n100),(.bool b20)]) w21) (ifB ((a0:Int) == 62) (CV 123 #[(i6 a0),(.string ⟨#[82,69,84,85,82,78,68,65,84,65,67,79,80,89]⟩),(i6 3),(i6 0),(i6 3)] w1 fun v81 w22=>dG20 v81 fun n101 s21 n102 n103 n104 n105 b21=>sU 101 ⟨w.heap.size,0,none⟩ (.agg #[(i6 n101),(.string s21),(i6 n102),(i6 n103),(i6 n104),(i6 n105),(.bool b21)]) w22 fun w23=>mb24 w23 w.heap.size fun n106 s22 n107 n108 n109 n110 b22=>R (.agg #[(i6 n106),(.string s22),(i6 n107),(i6 n108),(i6 n109),(i6 n110),(.bool b22)]) w23) (ifB ((a0:Int) == 64) (CV 123 #[(i6 a0),(.string ⟨#[66,76,79,67,75,72,65,83,72]⟩),(i6 1),(i6 1),(i6 20)] w1 fun v89 w24=>dG20 v89 fun n111 s23 n112 n113 n114 n115 b23=>sU 101 ⟨w.heap.size,0,none⟩ (.agg #[(i6 n111),(.string s23),(i6 n112),(i6 n113),(i6 n114),(i6 n115),(.bool b23)]) w24 fun w25=>mb24 w25 w.heap.size fun n116 s24 n117 n118 n119 n120 b24=>R (.agg #[(i6 n116),(.string s24),(i6 n117),(i6 n118),(i6 n119),(i6 n120),(.bool b24)]) w25) (ifB ((a0:Int) == 73) (CV 123 #[(i6 a0),(.string ⟨#[66,76,79,66,72,65,83,72]⟩),(i6 1),(i6 1),(i6 3)] w1 fun v97 w26=>dG20 v97 fun n121 s25 n122 n123 n124 n125 b25=>sU 101 ⟨w.heap.size,0,none⟩ (.agg #[(i6 n121),(.string s25),(i6 n122),(i6 n123),(i6 n124),(i6 n125),(.bool b25)]) w26 fun w27=>mb24 w27 w.heap.size fun n126 s26 n127 n128 n129 n130 b26=>R (.agg #[(i6 n126),(.string s26),(i6 n127),(i6 n128),(i6 n129),(i6 n130),(.bool b26)]) w27) (ifB ((a0:Int) == 71) (CV 123 #[(i6 a0),(.string ⟨#[83,69,76,70,66,65,76,65,78,67,69]⟩),(i6 0),(i6 1),(i6 5)] w1 fun v105 w28=>dG20 v105 fun n131 s27 n132 n133 n134 n135 b27=>sU 101 ⟨w.heap.size,0,none⟩ (.agg #[(i6 n131),(.string s27),(i6 n132),(i6 n133),(i6 n134),(i6 n135),(.bool b27)]) w28 fun w29=>mb24 w29 w.heap.size fun n136 s28 n137 n138 n139 n140 b28=>R (.agg #[(i6 n136),(.string s28),(i6 n137),(i6 n138),(i6 n139),(i6 n140),(.bool b28)]) w29) (CV 155 #[(i6 a0)] w1 fun v113 w30=>dG20 v113 fun n141 s29 n142 n143 n144 n145 b29=>sU 101 ⟨w.heap.size,0,none⟩ (.agg #[(i6 n141),(.string s29),(i6 n142),(i6 n143),(i6 n144),(i6 n145),(.bool b29)]) w30 fun w31=>mb24 w31 w.heap.size fun n146 s30 n147 n148 n149 n150 b30=>R (.agg #[(i6 n146),(.string s30),(i6 n147),(i6 n148),(i6 n149),(i6 n150),(.bool b30)]) w31))))))))))))))
def A126 (R:KV):Ann:=.no
theorem sides126 (R:KV):zak PP Tryz.f126 (A126 R) R:=by
 trivial
theorem call126 (a0:Int) (w:World) (R:KV) (h:F126 a0 w R):zaj PP 126 #[(i6 a0)] w R :=
 zah (an:=A126 R) Tryz.func126 rfl (sides126 R) (Eq.mp (by kernel_rfl) h)

def F127 (a0:Int) (w:World) (R:KV):Prop :=
 zaf w (.cells #[(i6 0),(.string ⟨#[]⟩),(i6 0),(i6 0),(i6 0),(i6 0),(.bool false)] 101) fun w1=>ifB ((a0:Int) == 80) (CV 123 #[(i6 a0),(.string ⟨#[80,79,80]⟩),(i6 1),(i6 0),(i6 2)] w1 fun v1 w2=>dG20 v1 fun n1 s1 n2 n3 n4 n5 b1=>sU 101 ⟨w.heap.size,0,none⟩ (.agg #[(i6 n1),(.string s1),(i6 n2),(i6 n3),(i6 n4),(i6 n5),(.bool b1)]) w2 fun w3=>mb24 w3 w.heap.size fun n6 s2 n7 n8 n9 n10 b2=>R (.agg #[(i6 n6),(.string s2),(i6 n7),(i6 n8),(i6 n9),(i6 n10),(.bool b2)]) w3) (ifB ((a0:Int) == 81) (CV 123 #[(i6 a0),(.string ⟨#[77,76,79,65,68]⟩),(i6 1),(i6 1),(i6 3)] w1 fun v9 w4=>dG20 v9 fun n11 s3 n12 n13 n14 n15 b3=>sU 101 ⟨w.heap.size,0,none⟩ (.agg #[(i6 n11),(.string s3),(i6 n12),(i6 n13),(i6 n14),(i6 n15),(.bool b3)]) w4 fun w5=>mb24 w5 w.heap.size fun n16 s4 n17 n18 n19 n20 b4=>R (.agg #[(i6 n16),(.string s4),(i6 n17),(i6 n18),(i6 n19),(i6 n20),(.bool b4)]) w5) (ifB ((a0:Int) == 82) (CV 123 #[(i6 a0),(.string ⟨#[77,83,84,79,82,69]⟩),(i6 2),(i6 0),(i6 3)] w1 fun v17 w6=>dG20 v17 fun n21 s5 n22 n23 n24 n25 b5=>sU 101 ⟨w.heap.size,0,none⟩ (.agg #[(i6 n21),(.string s5),(i6 n22),(i6 n23),(i6 n24),(i6 n25),(.bool b5)]) w6 fun w7=>mb24 w7 w.heap.size fun n26 s6 n27 n28 n29 n30 b6=>R (.agg #[(i6 n26),(.string s6),(i6 n27),(i6 n28),(i6 n29),(i6 n30),(.bool b6)]) w7) (ifB ((a0:Int) == 83) (CV 123 #[(i6 a0),(.string ⟨#[77,83,84,79,82,69,56]⟩),(i6 2),(i6 0),(i6 3)] w1 fun v25 w8=>dG20 v25 fun n31 s7 n32 n33 n34 n35 b7=>sU 101 ⟨w.heap.size,0,none⟩ (.agg #[(i6 n31),(.string s7),(i6 n32),(i6 n33),(i6 n34),(i6 n35),(.bool b7)]) w8 fun w9=>mb24 w9 w.heap.size fun n36 s8 n37 n38 n39 n40 b8=>R (.agg #[(i6 n36),(.string s8),(i6 n37),(i6 n38),(i6 n39),(i6 n40),(.bool b8)]) w9) (ifB ((a0:Int) == 84) (CV 123 #[(i6 a0),(.string ⟨#[83,76,79,65,68]⟩),(i6 1),(i6 1),(i6 100)] w1 fun v33 w10=>dG20 v33 fun n41 s9 n42 n43 n44 n45 b9=>sU 101 ⟨w.heap.size,0,none⟩ (.agg #[(i6 n41),(.string s9),(i6 n42),(i6 n43),(i6 n44),(i6 n45),(.bool b9)]) w10 fun w11=>mb24 w11 w.heap.size fun n46 s10 n47 n48 n49 n50 b10=>R (.agg #[(i6 n46),(.string s10),(i6 n47),(i6 n48),(i6 n49),(i6 n50),(.bool b10)]) w11) (ifB ((a0:Int) == 85) (CV 123 #[(i6 a0),(.string ⟨#[83,83,84,79,82,69]⟩),(i6 2),(i6 0),(i6 100)] w1 fun v41 w12=>dG20 v41 fun n51 s11 n52 n53 n54 n55 b11=>sU 101 ⟨w.heap.size,0,none⟩ (.agg #[(i6 n51),(.string s11),(i6 n52),(i6 n53),(i6 n54),(i6 n55),(.bool b11)]) w12 fun w13=>mb24 w13 w.heap.size fun n56 s12 n57 n58 n59 n60 b12=>R (.agg #[(i6 n56),(.string s12),(i6 n57),(i6 n58),(i6 n59),(i6 n60),(.bool b12)]) w13) (ifB ((a0:Int) == 89) (CV 123 #[(i6 a0),(.string ⟨#[77,83,73,90,69]⟩),(i6 0),(i6 1),(i6 2)] w1 fun v49 w14=>dG20 v49 fun n61 s13 n62 n63 n64 n65 b13=>sU 101 ⟨w.heap.size,0,none⟩ (.agg #[(i6 n61),(.string s13),(i6 n62),(i6 n63),(i6 n64),(i6 n65),(.bool b13)]) w14 fun w15=>mb24 w15 w.heap.size fun n66 s14 n67 n68 n69 n70 b14=>R (.agg #[(i6 n66),(.string s14),(i6 n67),(i6 n68),(i6 n69),(i6 n70),(.bool b14)]) w15) (ifB ((a0:Int) == 91) (CV 123 #[(i6 a0),(.string ⟨#[78,79,80]⟩),(i6 0),(i6 0),(i6 1)] w1 fun v57 w16=>dG20 v57 fun n71 s15 n72 n73 n74 n75 b15=>sU 101 ⟨w.heap.size,0,none⟩ (.agg #[(i6 n71),(.string s15),(i6 n72),(i6 n73),(i6 n74),(i6 n75),(.bool b15)]) w16 fun w17=>mb24 w17 w.heap.size fun n76 s16 n77 n78 n79 n80 b16=>R (.agg #[(i6 n76),(.string s16),(i6 n77),(i6 n78),(i6 n79),(i6 n80),(.bool b16)]) w17) (ifB ((a0:Int) == 92) (CV 123 #[(i6 a0),(.string ⟨#[84,76,79,65,68]⟩),(i6 1),(i6 1),(i6 100)] w1 fun v65 w18=>dG20 v65 fun n81 s17 n82 n83 n84 n85 b17=>sU 101 ⟨w.heap.size,0,none⟩ (.agg #[(i6 n81),(.string s17),(i6 n82),(i6 n83),(i6 n84),(i6 n85),(.bool b17)]) w18 fun w19=>mb24 w19 w.heap.size fun n86 s18 n87 n88 n89 n90 b18=>R (.agg #[(i6 n86),(.string s18),(i6 n87),(i6 n88),(i6 n89),(i6 n90),(.bool b18)]) w19) (ifB ((a0:Int) == 93) (CV 123 #[(i6 a0),(.string ⟨#[84,83,84,79,82,69]⟩),(i6 2),(i6 0),(i6 100)] w1 fun v73 w20=>dG20 v73 fun n91 s19 n92 n93 n94 n95 b19=>sU 101 ⟨w.heap.size,0,none⟩ (.agg #[(i6 n91),(.string s19),(i6 n92),(i6 n93),(i6 n94),(i6 n95),(.bool b19)]) w20 fun w21=>mb24 w21 w.heap.size fun n96 s20 n97 n98 n99 n100 b20=>R (.agg #[(i6 n96),(.string s20),(i6 n97),(i6 n98),(i6 n99),(i6 n100),(.bool b20)]) w21) (ifB ((a0:Int) == 94) (CV 123 #[(i6 a0),(.string ⟨#[77,67,79,80,89]⟩),(i6 3),(i6 0),(i6 3)] w1 fun v81 w22=>dG20 v81 fun n101 s21 n102 n103 n104 n105 b21=>sU 101 ⟨w.heap.size,0,none⟩ (.agg #[(i6 n101),(.string s21),(i6 n102),(i6 n103),(i6 n104),(i6 n105),(.bool b21)]) w22 fun w23=>mb24 w23 w.heap.size fun n106 s22 n107 n108 n109 n110 b22=>R (.agg #[(i6 n106),(.string s22),(i6 n107),(i6 n108),(i6 n109),(i6 n110),(.bool b22)]) w23) (ifB ((a0:Int) == 95) (CV 123 #[(i6 a0),(.string ⟨#[80,85,83,72,48]⟩),(i6 0),(i6 1),(i6 2)] w1 fun v89 w24=>dG20 v89 fun n111 s23 n112 n113 n114 n115 b23=>sU 101 ⟨w.heap.size,0,none⟩ (.agg #[(i6 n111),(.string s23),(i6 n112),(i6 n113),(i6 n114),(i6 n115),(.bool b23)]) w24 fun w25=>mb24 w25 w.heap.size fun n116 s24 n117 n118 n119 n120 b24=>R (.agg #[(i6 n116),(.string s24),(i6 n117),(i6 n118),(i6 n119),(i6 n120),(.bool b24)]) w25) (sU 101 ⟨w.heap.size,0,none⟩ (.agg #[(i6 0),(.string ⟨#[]⟩),(i6 0),(i6 0),(i6 0),(i6 0),(.bool false)]) w1 fun w26=>mb24 w26 w.heap.size fun n121 s25 n122 n123 n124 n125 b25=>R (.agg #[(i6 n121),(.string s25),(i6 n122),(i6 n123),(i6 n124),(i6 n125),(.bool b25)]) w26))))))))))))
def A127 (R:KV):Ann:=.no
theorem sides127 (R:KV):zak PP Tryz.f127 (A127 R) R:=by
 trivial
theorem call127 (a0:Int) (w:World) (R:KV) (h:F127 a0 w R):zaj PP 127 #[(i6 a0)] w R :=
 zah (an:=A127 R) Tryz.func127 rfl (sides127 R) (Eq.mp (by kernel_rfl) h)

def F128 (a0:Int) (w:World) (R:KV):Prop :=
 zaf w (.cells #[(i6 0),(.string ⟨#[]⟩),(i6 0),(i6 0),(i6 0),(i6 0),(.bool false)] 101) fun w1=>ifB ((a0:Int) == 208) (CV 123 #[(i6 a0),(.string ⟨#[68,65,84,65,76,79,65,68]⟩),(i6 1),(i6 1),(i6 4)] w1 fun v1 w2=>dG20 v1 fun n1 s1 n2 n3 n4 n5 b1=>sU 101 ⟨w.heap.size,0,none⟩ (.agg #[(i6 n1),(.string s1),(i6 n2),(i6 n3),(i6 n4),(i6 n5),(.bool b1)]) w2 fun w3=>mb24 w3 w.heap.size fun n6 s2 n7 n8 n9 n10 b2=>R (.agg #[(i6 n6),(.string s2),(i6 n7),(i6 n8),(i6 n9),(i6 n10),(.bool b2)]) w3) (ifB ((a0:Int) == 209) (sU 101 ⟨w.heap.size,0,none⟩ (.agg #[(i6 a0),(.string ⟨#[68,65,84,65,76,79,65,68,78]⟩),(i6 2),(i6 0),(i6 1),(i6 3),(.bool false)]) w1 fun w4=>mb24 w4 w.heap.size fun n11 s3 n12 n13 n14 n15 b3=>R (.agg #[(i6 n11),(.string s3),(i6 n12),(i6 n13),(i6 n14),(i6 n15),(.bool b3)]) w4) (ifB ((a0:Int) == 210) (CV 123 #[(i6 a0),(.string ⟨#[68,65,84,65,83,73,90,69]⟩),(i6 0),(i6 1),(i6 2)] w1 fun v16 w5=>dG20 v16 fun n16 s4 n17 n18 n19 n20 b4=>sU 101 ⟨w.heap.size,0,none⟩ (.agg #[(i6 n16),(.string s4),(i6 n17),(i6 n18),(i6 n19),(i6 n20),(.bool b4)]) w5 fun w6=>mb24 w6 w.heap.size fun n21 s5 n22 n23 n24 n25 b5=>R (.agg #[(i6 n21),(.string s5),(i6 n22),(i6 n23),(i6 n24),(i6 n25),(.bool b5)]) w6) (ifB ((a0:Int) == 211) (CV 123 #[(i6 a0),(.string ⟨#[68,65,84,65,67,79,80,89]⟩),(i6 3),(i6 0),(i6 3)] w1 fun v24 w7=>dG20 v24 fun n26 s6 n27 n28 n29 n30 b6=>sU 101 ⟨w.heap.size,0,none⟩ (.agg #[(i6 n26),(.string s6),(i6 n27),(i6 n28),(i6 n29),(i6 n30),(.bool b6)]) w7 fun w8=>mb24 w8 w.heap.size fun n31 s7 n32 n33 n34 n35 b7=>R (.agg #[(i6 n31),(.string s7),(i6 n32),(i6 n33),(i6 n34),(i6 n35),(.bool b7)]) w8) (ifB ((a0:Int) == 224) (sU 101 ⟨w.heap.size,0,none⟩ (.agg #[(i6 a0),(.string ⟨#[82,74,85,77,80]⟩),(i6 2),(i6 0),(i6 0),(i6 2),(.bool true)]) w1 fun w9=>mb24 w9 w.heap.size fun n36 s8 n37 n38 n39 n40 b8=>R (.agg #[(i6 n36),(.string s8),(i6 n37),(i6 n38),(i6 n39),(i6 n40),(.bool b8)]) w9) (ifB ((a0:Int) == 225) (sU 101 ⟨w.heap.size,0,none⟩ (.agg #[(i6 a0),(.string ⟨#[82,74,85,77,80,73]⟩),(i6 2),(i6 1),(i6 0),(i6 4),(.bool false)]) w1 fun w10=>mb24 w10 w.heap.size fun n41 s9 n42 n43 n44 n45 b9=>R (.agg #[(i6 n41),(.string s9),(i6 n42),(i6 n43),(i6 n44),(i6 n45),(.bool b9)]) w10) (ifB ((a0:Int) == 226) (sU 101 ⟨w.heap.size,0,none⟩ (.agg #[(i6 a0),(.string ⟨#[82,74,85,77,80,86]⟩),(i6 (-1)),(i6 1),(i6 0),(i6 4),(.bool false)]) w1 fun w11=>mb24 w11 w.heap.size fun n46 s10 n47 n48 n49 n50 b10=>R (.agg #[(i6 n46),(.string s10),(i6 n47),(i6 n48),(i6 n49),(i6 n50),(.bool b10)]) w11) (ifB ((a0:Int) == 227) (sU 101 ⟨w.heap.size,0,none⟩ (.agg #[(i6 a0),(.string ⟨#[67,65,76,76,70]⟩),(i6 2),(i6 0),(i6 0),(i6 5),(.bool false)]) w1 fun w12=>mb24 w12 w.heap.size fun n51 s11 n52 n53 n54 n55 b11=>R (.agg #[(i6 n51),(.string s11),(i6 n52),(i6 n53),(i6 n54),(i6 n55),(.bool b11)]) w12) (ifB ((a0:Int) == 228) (sU 101 ⟨w.heap.size,0,none⟩ (.agg #[(i6 a0),(.string ⟨#[82,69,84,70]⟩),(i6 0),(i6 0),(i6 0),(i6 3),(.bool true)]) w1 fun w13=>mb24 w13 w.heap.size fun n56 s12 n57 n58 n59 n60 b12=>R (.agg #[(i6 n56),(.string s12),(i6 n57),(i6 n58),(i6 n59),(i6 n60),(.bool b12)]) w13) (ifB ((a0:Int) == 229) (sU 101 ⟨w.heap.size,0,none⟩ (.agg #[(i6 a0),(.string ⟨#[74,85,77,80,70]⟩),(i6 2),(i6 0),(i6 0),(i6 5),(.bool true)]) w1 fun w14=>mb24 w14 w.heap.size fun n61 s13 n62 n63 n64 n65 b13=>R (.agg #[(i6 n61),(.string s13),(i6 n62),(i6 n63),(i6 n64),(i6 n65),(.bool b13)]) w14) (ifB ((a0:Int) == 230) (sU 101 ⟨w.heap.size,0,none⟩ (.agg #[(i6 a0),(.string ⟨#[68,85,80,78]⟩),(i6 1),(i6 1),(i6 2),(i6 3),(.bool false)]) w1 fun w15=>mb24 w15 w.heap.size fun n66 s14 n67 n68 n69 n70 b14=>R (.agg #[(i6 n66),(.string s14),(i6 n67),(i6 n68),(i6 n69),(i6 n70),(.bool b14)]) w15) (ifB ((a0:Int) == 231) (sU 101 ⟨w.heap.size,0,none⟩ (.agg #[(i6 a0),(.string ⟨#[83,87,65,80,78]⟩),(i6 1),(i6 2),(i6 2),(i6 3),(.bool false)]) w1 fun w16=>mb24 w16 w.heap.size fun n71 s15 n72 n73 n74 n75 b15=>R (.agg #[(i6 n71),(.string s15),(i6 n72),(i6 n73),(i6 n74),(i6 n75),(.bool b15)]) w16) (ifB ((a0:Int) == 232) (sU 101 ⟨w.heap.size,0,none⟩ (.agg #[(i6 a0),(.string ⟨#[69,88,67,72,65,78,71,69]⟩),(i6 1),(i6 3),(i6 3),(i6 3),(.bool false)]) w1 fun w17=>mb24 w17 w.heap.size fun n76 s16 n77 n78 n79 n80 b16=>R (.agg #[(i6 n76),(.string s16),(i6 n77),(i6 n78),(i6 n79),(i6 n80),(.bool b16)]) w17) (CV 156 #[(i6 a0)] w1 fun v95 w18=>dG20 v95 fun n81 s17 n82 n83 n84 n85 b17=>sU 101 ⟨w.heap.size,0,none⟩ (.agg #[(i6 n81),(.string s17),(i6 n82),(i6 n83),(i6 n84),(i6 n85),(.bool b17)]) w18 fun w19=>mb24 w19 w.heap.size fun n86 s18 n87 n88 n89 n90 b18=>R (.agg #[(i6 n86),(.string s18),(i6 n87),(i6 n88),(i6 n89),(i6 n90),(.bool b18)]) w19)))))))))))))
def A128 (R:KV):Ann:=.no
theorem sides128 (R:KV):zak PP Tryz.f128 (A128 R) R:=by
 trivial
theorem call128 (a0:Int) (w:World) (R:KV) (h:F128 a0 w R):zaj PP 128 #[(i6 a0)] w R :=
 zah (an:=A128 R) Tryz.func128 rfl (sides128 R) (Eq.mp (by kernel_rfl) h)

def F129 (a0:Bool) (a1:Int) (w:World) (R:KV):Prop :=
 ifB (decide ((a1:Int) ≥ 0)) (ifB (decide ((a1:Int)≤127)) (ifB (!a0) (R (.bool true) w) (R (.bool ((a1:Int) == 0)) w)) (R (.bool false) w)) (R (.bool false) w)
def A129 (R:KV):Ann:=.no
theorem sides129 (R:KV):zak PP Tryz.f129 (A129 R) R:=by
 trivial
theorem call129 (a0:Bool) (a1:Int) (w:World) (R:KV) (h:F129 a0 a1 w R):zaj PP 129 #[(.bool a0),(i6 a1)] w R :=
 zah (an:=A129 R) Tryz.func129 rfl (sides129 R) (Eq.mp (by kernel_rfl) h)

def F130 (a0:OA) (w:World) (R:KV):Prop :=
 optP a0 fun ad1=>R (.pointer (some ad1)) w
def A130 (R:KV):Ann:=.no
theorem sides130 (R:KV):zak PP Tryz.f130 (A130 R) R:=by
 trivial
theorem call130 (a0:OA) (w:World) (R:KV) (h:F130 a0 w R):zaj PP 130 #[(.pointer a0)] w R :=
 zah (an:=A130 R) Tryz.func130 rfl (sides130 R) (Eq.mp (by kernel_rfl) h)
def J149_0 (R:KV) (x0:ByteArray) (x5:Int) (w:World):Prop :=
 semK PP (Instr.sliceAt 9 (.string x0) (some (i6 x5)) none none) w fun v1 w1=>asS v1 fun s1=>R (.string s1) w1
def L149_1 (R:KV):Nat→ByteArray→Int→Int→Int→World→Prop
 | 0=>fun _ _ _ _ _=>False
 | k+1=>fun x0 x1 x5 x6 w=>ifB (decide ((x6:Int) < ((x0:ByteArray).size:Nat))) (semK PP (Instr.index 9 (.string x0) (i6 x6)) w fun v1 w1=>asI .u8 v1 fun n1=>ifB ((n1:Int) != 32) (L149_1 R k x0 x1 x5 (IntKind.wrap .i64 (x6+1)) w1) (ifB ((x1:Int) == 0) (semK PP (Instr.sliceAt 9 (.string x0) (some (i6 x5)) (some (i6 x6)) none) w1 fun v2 w2=>asS v2 fun s1=>R (.string s1) w2) (L149_1 R k x0 (IntKind.wrap .i64 (x1 - 1)) (IntKind.wrap .i64 (x6+1)) (IntKind.wrap .i64 (x6+1)) w1))) (J149_0 R x0 x5 w)
def F151 (a0:OA) (w:World) (R:KV):Prop :=
 optP a0 fun ad1=>zau PP (.func (.func 162) #[] #[]) #[(.pointer (some ad1))] w fun v1 w1=>asI .u32 v1 fun n1=>R (.bool ((n1:Int) != 0)) w1
def A151 (R:KV):Ann:=.no
theorem sides151 (R:KV):zak PP Tryz.f151 (A151 R) R:=by
 trivial
theorem call151 (a0:OA) (w:World) (R:KV) (h:F151 a0 w R):zaj PP 151 #[(.pointer a0)] w R :=
 zah (an:=A151 R) Tryz.func151 rfl (sides151 R) (Eq.mp (by kernel_rfl) h)

def F152 (a0:OA) (a1:Value) (w:World) (R:KV) (X:List PanicEntry→World→Prop):Prop :=
 optP a0 fun ad1=>CV 163 #[(.pointer (some (Addr.add ad1 1)))] w fun v1 w1=>asT v1 fun t10=>zav t10 (optP a0 fun ad2=>optP a0 fun ad3=>CV 151 #[(.pointer (some ad3))] w1 fun v2 w2=>asB v2 fun b1=>ifB (!b1) (optP a0 fun ad4=>zau PP a1 #[] w2 fun v3 w3=>asT v3 fun t20=>zav t20 (zbd PP (finA (fun w4=>R (.tuple #[]) w4) X) ({ target:=.fn (.func 165) #[],args:=#[(.pointer (some ad4)),(.bool true)] }::({ target:=.fn (.func 164) #[],args:=#[(.pointer (some (Addr.add ad2 1)))] }::[])) .returning w3)) (zbd PP (finA (fun w5=>R (.tuple #[]) w5) X) ({ target:=.fn (.func 164) #[],args:=#[(.pointer (some (Addr.add ad2 1)))] }::[]) .returning w2))
def A152 (R:KV) (X:List PanicEntry→World→Prop):Ann:=(sN (.seq .pan (sN (.cond (.seq .pan .no) .no))))
theorem sides152 (R:KV) (X:List PanicEntry→World→Prop):fnXSides PP Tryz.f152 (A152 R X) R X:=by
 exact (zt (zt (zt (ai (ai trivial trivial) trivial))))
theorem call152 (a0:OA) (a1:Value) (w:World) (R:KV) (X:List PanicEntry→World→Prop) (h:F152 a0 a1 w R X):zbt PP 152 #[(.pointer a0),a1] w R X :=
 callX_of (fn:=Tryz.f152) (an:=A152 R X) (args:=[(.pointer a0),a1]) Tryz.func152 rfl (sides152 R X) (Eq.mp (by kernel_rfl) h)

def F153 (a0:Int) (a1:Int) (w:World) (R:KV):Prop :=
 ifB (decide ((a0:Int) > (IntKind.wrap .u64 (18446744073709551615 - a1)))) (R (u6 18446744073709551615) w) (R (u6 (IntKind.wrap .u64 (a0+a1))) w)
def A153 (R:KV):Ann:=.no
theorem sides153 (R:KV):zak PP Tryz.f153 (A153 R) R:=by
 trivial
theorem call153 (a0:Int) (a1:Int) (w:World) (R:KV) (h:F153 a0 a1 w R):zaj PP 153 #[(u6 a0),(u6 a1)] w R :=
 zah (an:=A153 R) Tryz.func153 rfl (sides153 R) (Eq.mp (by kernel_rfl) h)

def F154 (a0:Int) (w:World) (R:KV):Prop :=
 CV 166 #[(i6 a0),(i6 10)] w fun v1 w1=>asS v1 fun s1=>R (.string s1) w1
def A154 (R:KV):Ann:=.no
theorem sides154 (R:KV):zak PP Tryz.f154 (A154 R) R:=by
 trivial
theorem call154 (a0:Int) (w:World) (R:KV) (h:F154 a0 w R):zaj PP 154 #[(i6 a0)] w R :=
 zah (an:=A154 R) Tryz.func154 rfl (sides154 R) (Eq.mp (by kernel_rfl) h)

def F155 (a0:Int) (w:World) (R:KV):Prop :=
 zaf w (.cells #[(i6 0),(.string ⟨#[]⟩),(i6 0),(i6 0),(i6 0),(i6 0),(.bool false)] 101) fun w1=>ifB ((a0:Int) == 65) (CV 123 #[(i6 a0),(.string ⟨#[67,79,73,78,66,65,83,69]⟩),(i6 0),(i6 1),(i6 2)] w1 fun v1 w2=>dG20 v1 fun n1 s1 n2 n3 n4 n5 b1=>sU 101 ⟨w.heap.size,0,none⟩ (.agg #[(i6 n1),(.string s1),(i6 n2),(i6 n3),(i6 n4),(i6 n5),(.bool b1)]) w2 fun w3=>mb24 w3 w.heap.size fun n6 s2 n7 n8 n9 n10 b2=>R (.agg #[(i6 n6),(.string s2),(i6 n7),(i6 n8),(i6 n9),(i6 n10),(.bool b2)]) w3) (ifB ((a0:Int) == 66) (CV 123 #[(i6 a0),(.string ⟨#[84,73,77,69,83,84,65,77,80]⟩),(i6 0),(i6 1),(i6 2)] w1 fun v9 w4=>dG20 v9 fun n11 s3 n12 n13 n14 n15 b3=>sU 101 ⟨w.heap.size,0,none⟩ (.agg #[(i6 n11),(.string s3),(i6 n12),(i6 n13),(i6 n14),(i6 n15),(.bool b3)]) w4 fun w5=>mb24 w5 w.heap.size fun n16 s4 n17 n18 n19 n20 b4=>R (.agg #[(i6 n16),(.string s4),(i6 n17),(i6 n18),(i6 n19),(i6 n20),(.bool b4)]) w5) (ifB ((a0:Int) == 67) (CV 123 #[(i6 a0),(.string ⟨#[78,85,77,66,69,82]⟩),(i6 0),(i6 1),(i6 2)] w1 fun v17 w6=>dG20 v17 fun n21 s5 n22 n23 n24 n25 b5=>sU 101 ⟨w.heap.size,0,none⟩ (.agg #[(i6 n21),(.string s5),(i6 n22),(i6 n23),(i6 n24),(i6 n25),(.bool b5)]) w6 fun w7=>mb24 w7 w.heap.size fun n26 s6 n27 n28 n29 n30 b6=>R (.agg #[(i6 n26),(.string s6),(i6 n27),(i6 n28),(i6 n29),(i6 n30),(.bool b6)]) w7) (ifB ((a0:Int) == 68) (CV 123 #[(i6 a0),(.string ⟨#[80,82,69,86,82,65,78,68,65,79]⟩),(i6 0),(i6 1),(i6 2)] w1 fun v25 w8=>dG20 v25 fun n31 s7 n32 n33 n34 n35 b7=>sU 101 ⟨w.heap.size,0,none⟩ (.agg #[(i6 n31),(.string s7),(i6 n32),(i6 n33),(i6 n34),(i6 n35),(.bool b7)]) w8 fun w9=>mb24 w9 w.heap.size fun n36 s8 n37 n38 n39 n40 b8=>R (.agg #[(i6 n36),(.string s8),(i6 n37),(i6 n38),(i6 n39),(i6 n40),(.bool b8)]) w9) (ifB ((a0:Int) == 69) (CV 123 #[(i6 a0),(.string ⟨#[71,65,83,76,73,77,73,84]⟩),(i6 0),(i6 1),(i6 2)] w1 fun v33 w10=>dG20 v33 fun n41 s9 n42 n43 n44 n45 b9=>sU 101 ⟨w.heap.size,0,none⟩ (.agg #[(i6 n41),(.string s9),(i6 n42),(i6 n43),(i6 n44),(i6 n45),(.bool b9)]) w10 fun w11=>mb24 w11 w.heap.size fun n46 s10 n47 n48 n49 n50 b10=>R (.agg #[(i6 n46),(.string s10),(i6 n47),(i6 n48),(i6 n49),(i6 n50),(.bool b10)]) w11) (ifB ((a0:Int) == 70) (CV 123 #[(i6 a0),(.string ⟨#[67,72,65,73,78,73,68]⟩),(i6 0),(i6 1),(i6 2)] w1 fun v41 w12=>dG20 v41 fun n51 s11 n52 n53 n54 n55 b11=>sU 101 ⟨w.heap.size,0,none⟩ (.agg #[(i6 n51),(.string s11),(i6 n52),(i6 n53),(i6 n54),(i6 n55),(.bool b11)]) w12 fun w13=>mb24 w13 w.heap.size fun n56 s12 n57 n58 n59 n60 b12=>R (.agg #[(i6 n56),(.string s12),(i6 n57),(i6 n58),(i6 n59),(i6 n60),(.bool b12)]) w13) (ifB ((a0:Int) == 72) (CV 123 #[(i6 a0),(.string ⟨#[66,65,83,69,70,69,69]⟩),(i6 0),(i6 1),(i6 2)] w1 fun v49 w14=>dG20 v49 fun n61 s13 n62 n63 n64 n65 b13=>sU 101 ⟨w.heap.size,0,none⟩ (.agg #[(i6 n61),(.string s13),(i6 n62),(i6 n63),(i6 n64),(i6 n65),(.bool b13)]) w14 fun w15=>mb24 w15 w.heap.size fun n66 s14 n67 n68 n69 n70 b14=>R (.agg #[(i6 n66),(.string s14),(i6 n67),(i6 n68),(i6 n69),(i6 n70),(.bool b14)]) w15) (ifB ((a0:Int) == 74) (CV 123 #[(i6 a0),(.string ⟨#[66,76,79,66,66,65,83,69,70,69,69]⟩),(i6 0),(i6 1),(i6 2)] w1 fun v57 w16=>dG20 v57 fun n71 s15 n72 n73 n74 n75 b15=>sU 101 ⟨w.heap.size,0,none⟩ (.agg #[(i6 n71),(.string s15),(i6 n72),(i6 n73),(i6 n74),(i6 n75),(.bool b15)]) w16 fun w17=>mb24 w17 w.heap.size fun n76 s16 n77 n78 n79 n80 b16=>R (.agg #[(i6 n76),(.string s16),(i6 n77),(i6 n78),(i6 n79),(i6 n80),(.bool b16)]) w17) (sU 101 ⟨w.heap.size,0,none⟩ (.agg #[(i6 0),(.string ⟨#[]⟩),(i6 0),(i6 0),(i6 0),(i6 0),(.bool false)]) w1 fun w18=>mb24 w18 w.heap.size fun n81 s17 n82 n83 n84 n85 b17=>R (.agg #[(i6 n81),(.string s17),(i6 n82),(i6 n83),(i6 n84),(i6 n85),(.bool b17)]) w18))))))))
def A155 (R:KV):Ann:=.no
theorem sides155 (R:KV):zak PP Tryz.f155 (A155 R) R:=by
 trivial
theorem call155 (a0:Int) (w:World) (R:KV) (h:F155 a0 w R):zaj PP 155 #[(i6 a0)] w R :=
 zah (an:=A155 R) Tryz.func155 rfl (sides155 R) (Eq.mp (by kernel_rfl) h)

def F156 (a0:Int) (w:World) (R:KV):Prop :=
 zaf w (.cells #[(i6 0),(.string ⟨#[]⟩),(i6 0),(i6 0),(i6 0),(i6 0),(.bool false)] 101) fun w1=>ifB ((a0:Int) == 236) (sU 101 ⟨w.heap.size,0,none⟩ (.agg #[(i6 a0),(.string ⟨#[69,79,70,67,82,69,65,84,69]⟩),(i6 1),(i6 4),(i6 1),(i6 32000),(.bool false)]) w1 fun w2=>mb24 w2 w.heap.size fun n1 s1 n2 n3 n4 n5 b1=>R (.agg #[(i6 n1),(.string s1),(i6 n2),(i6 n3),(i6 n4),(i6 n5),(.bool b1)]) w2) (ifB ((a0:Int) == 238) (sU 101 ⟨w.heap.size,0,none⟩ (.agg #[(i6 a0),(.string ⟨#[82,69,84,85,82,78,67,79,68,69]⟩),(i6 1),(i6 2),(i6 0),(i6 0),(.bool true)]) w1 fun w3=>mb24 w3 w.heap.size fun n6 s2 n7 n8 n9 n10 b2=>R (.agg #[(i6 n6),(.string s2),(i6 n7),(i6 n8),(i6 n9),(i6 n10),(.bool b2)]) w3) (ifB ((a0:Int) == 243) (sU 101 ⟨w.heap.size,0,none⟩ (.agg #[(i6 a0),(.string ⟨#[82,69,84,85,82,78]⟩),(i6 0),(i6 2),(i6 0),(i6 0),(.bool true)]) w1 fun w4=>mb24 w4 w.heap.size fun n11 s3 n12 n13 n14 n15 b3=>R (.agg #[(i6 n11),(.string s3),(i6 n12),(i6 n13),(i6 n14),(i6 n15),(.bool b3)]) w4) (ifB ((a0:Int) == 247) (CV 123 #[(i6 a0),(.string ⟨#[82,69,84,85,82,78,68,65,84,65,76,79,65,68]⟩),(i6 1),(i6 1),(i6 3)] w1 fun v22 w5=>dG20 v22 fun n16 s4 n17 n18 n19 n20 b4=>sU 101 ⟨w.heap.size,0,none⟩ (.agg #[(i6 n16),(.string s4),(i6 n17),(i6 n18),(i6 n19),(i6 n20),(.bool b4)]) w5 fun w6=>mb24 w6 w.heap.size fun n21 s5 n22 n23 n24 n25 b5=>R (.agg #[(i6 n21),(.string s5),(i6 n22),(i6 n23),(i6 n24),(i6 n25),(.bool b5)]) w6) (ifB ((a0:Int) == 248) (CV 123 #[(i6 a0),(.string ⟨#[69,88,84,67,65,76,76]⟩),(i6 4),(i6 1),(i6 100)] w1 fun v30 w7=>dG20 v30 fun n26 s6 n27 n28 n29 n30 b6=>sU 101 ⟨w.heap.size,0,none⟩ (.agg #[(i6 n26),(.string s6),(i6 n27),(i6 n28),(i6 n29),(i6 n30),(.bool b6)]) w7 fun w8=>mb24 w8 w.heap.size fun n31 s7 n32 n33 n34 n35 b7=>R (.agg #[(i6 n31),(.string s7),(i6 n32),(i6 n33),(i6 n34),(i6 n35),(.bool b7)]) w8) (ifB ((a0:Int) == 249) (CV 123 #[(i6 a0),(.string ⟨#[69,88,84,68,69,76,69,71,65,84,69,67,65,76,76]⟩),(i6 3),(i6 1),(i6 100)] w1 fun v38 w9=>dG20 v38 fun n36 s8 n37 n38 n39 n40 b8=>sU 101 ⟨w.heap.size,0,none⟩ (.agg #[(i6 n36),(.string s8),(i6 n37),(i6 n38),(i6 n39),(i6 n40),(.bool b8)]) w9 fun w10=>mb24 w10 w.heap.size fun n41 s9 n42 n43 n44 n45 b9=>R (.agg #[(i6 n41),(.string s9),(i6 n42),(i6 n43),(i6 n44),(i6 n45),(.bool b9)]) w10) (ifB ((a0:Int) == 251) (CV 123 #[(i6 a0),(.string ⟨#[69,88,84,83,84,65,84,73,67,67,65,76,76]⟩),(i6 3),(i6 1),(i6 100)] w1 fun v46 w11=>dG20 v46 fun n46 s10 n47 n48 n49 n50 b10=>sU 101 ⟨w.heap.size,0,none⟩ (.agg #[(i6 n46),(.string s10),(i6 n47),(i6 n48),(i6 n49),(i6 n50),(.bool b10)]) w11 fun w12=>mb24 w12 w.heap.size fun n51 s11 n52 n53 n54 n55 b11=>R (.agg #[(i6 n51),(.string s11),(i6 n52),(i6 n53),(i6 n54),(i6 n55),(.bool b11)]) w12) (ifB ((a0:Int) == 253) (sU 101 ⟨w.heap.size,0,none⟩ (.agg #[(i6 a0),(.string ⟨#[82,69,86,69,82,84]⟩),(i6 0),(i6 2),(i6 0),(i6 0),(.bool true)]) w1 fun w13=>mb24 w13 w.heap.size fun n56 s12 n57 n58 n59 n60 b12=>R (.agg #[(i6 n56),(.string s12),(i6 n57),(i6 n58),(i6 n59),(i6 n60),(.bool b12)]) w13) (ifB ((a0:Int) == 254) (sU 101 ⟨w.heap.size,0,none⟩ (.agg #[(i6 a0),(.string ⟨#[73,78,86,65,76,73,68]⟩),(i6 0),(i6 0),(i6 0),(i6 0),(.bool true)]) w1 fun w14=>mb24 w14 w.heap.size fun n61 s13 n62 n63 n64 n65 b13=>R (.agg #[(i6 n61),(.string s13),(i6 n62),(i6 n63),(i6 n64),(i6 n65),(.bool b13)]) w14) (sU 101 ⟨w.heap.size,0,none⟩ (.agg #[(i6 0),(.string ⟨#[]⟩),(i6 0),(i6 0),(i6 0),(i6 0),(.bool false)]) w1 fun w15=>mb24 w15 w.heap.size fun n66 s14 n67 n68 n69 n70 b14=>R (.agg #[(i6 n66),(.string s14),(i6 n67),(i6 n68),(i6 n69),(i6 n70),(.bool b14)]) w15)))))))))
def A156 (R:KV):Ann:=.no
theorem sides156 (R:KV):zak PP Tryz.f156 (A156 R) R:=by
 trivial
theorem call156 (a0:Int) (w:World) (R:KV) (h:F156 a0 w R):zaj PP 156 #[(i6 a0)] w R :=
 zah (an:=A156 R) Tryz.func156 rfl (sides156 R) (Eq.mp (by kernel_rfl) h)

def J157_3 (R:KV) (C_L157_0:OA→Nat→Nat→OA→Nat→Nat→OA→Nat→Nat→Int→Int→World→Prop) (C_L157_2:OA→Nat→Nat→OA→Nat→Nat→Addr→OA→Nat→Nat→Int→Int→OA→Nat→Nat→Int→Int→World→Prop) (x0p:OA) (x0l:Nat) (x0c:Nat) (x7p:OA) (x7l:Nat) (x7c:Nat) (x9:Addr) (x24p:OA) (x24l:Nat) (x24c:Nat) (x25:Int) (x26:Int) (x31p:OA) (x31l:Nat) (x31c:Nat) (x32:Int) (x33:Int) (x51:Bool) (w:World):Prop :=
 ifB x51 (zbf w fun w1=>gI .i64 w1 x9 fun n1=>R (.tuple #[(i6 63),(i6 n1)]) w1) (C_L157_2 x0p x0l x0c x7p x7l x7c x9 x24p x24l x24c x25 x26 x31p x31l x31c x32 (IntKind.wrap .i64 (x33+1)) w)
def J157_1 (R:KV) (C_L157_0:OA→Nat→Nat→OA→Nat→Nat→OA→Nat→Nat→Int→Int→World→Prop) (x0p:OA) (x0l:Nat) (x0c:Nat) (x7p:OA) (x7l:Nat) (x7c:Nat) (x24p:OA) (x24l:Nat) (x24c:Nat) (x25:Int) (x26:Int) (w:World):Prop :=
 C_L157_0 x0p x0l x0c x7p x7l x7c x24p x24l x24c x25 (IntKind.wrap .i64 (x26+1)) w
def L157_2 (R:KV) (C_L157_0:OA→Nat→Nat→OA→Nat→Nat→OA→Nat→Nat→Int→Int→World→Prop):Nat→OA→Nat→Nat→OA→Nat→Nat→Addr→OA→Nat→Nat→Int→Int→OA→Nat→Nat→Int→Int→World→Prop
 | 0=>fun _ _ _ _ _ _ _ _ _ _ _ _ _ _ _ _ _ _=>False
 | k+1=>fun x0p x0l x0c x7p x7l x7c x9 x24p x24l x24c x25 x26 x31p x31l x31c x32 x33 w=>ifB (decide ((x33:Int) < x32)) (semK PP (Instr.indexAt 29 (.slice x31p x31l x31c) (i6 x33)) w fun v1 w1=>asA v1 fun ad1=>gI .i64 w1 ad1 fun n1=>ifB (decide ((n1:Int) < 0)) (J157_3 R C_L157_0 (L157_2 R C_L157_0 k) x0p x0l x0c x7p x7l x7c x9 x24p x24l x24c x25 x26 x31p x31l x31c x32 x33 true w1) (ifB (decide ((n1:Int) ≥ (x0l:Nat))) (J157_3 R C_L157_0 (L157_2 R C_L157_0 k) x0p x0l x0c x7p x7l x7c x9 x24p x24l x24c x25 x26 x31p x31l x31c x32 x33 true w1) (semK PP (Instr.indexAt 47 (.slice x7p x7l x7c) (i6 n1)) w1 fun v3 w2=>asA v3 fun ad2=>gB w2 ad2 fun b1=>J157_3 R C_L157_0 (L157_2 R C_L157_0 k) x0p x0l x0c x7p x7l x7c x9 x24p x24l x24c x25 x26 x31p x31l x31c x32 x33 (!b1) w2))) (J157_1 R C_L157_0 x0p x0l x0c x7p x7l x7c x24p x24l x24c x25 x26 w)
def L157_0 (R:KV):Nat→OA→Nat→Nat→OA→Nat→Nat→OA→Nat→Nat→Int→Int→World→Prop
 | 0=>fun _ _ _ _ _ _ _ _ _ _ _ _=>False
 | k+1=>fun x0p x0l x0c x7p x7l x7c x24p x24l x24c x25 x26 w=>ifB (decide ((x26:Int) < x25)) (semK PP (Instr.indexAt 148 (.slice x24p x24l x24c) (i6 x26)) w fun v1 w1=>asA v1 fun ad1=>ma12 w1 ad1 fun n1 n2 l1p l1l l1c n3=>zaf w1 (.cells #[(i6 0),(i6 0),(.slice none 0 0),(i6 0)] 70) fun w2=>sU 70 ⟨w1.heap.size,0,none⟩ (.agg #[(i6 n1),(i6 n2),(.slice l1p l1l l1c),(i6 n3)]) w2 fun w3=>mb13 w3 w1.heap.size fun n4 n5 l2p l2l l2c n6=>CV 40 #[(.agg #[(i6 n4),(i6 n5),(.slice l2p l2l l2c),(i6 n6)])] w3 fun v10 w4=>asL v10 fun l3p l3l l3c=>∃ m,L157_2 R (L157_0 R k) m x0p x0l x0c x7p x7l x7c ⟨w1.heap.size,0,none⟩ x24p x24l x24c x25 x26 l3p l3l l3c (l3l:Nat) 0 w4) (R (.tuple #[(i6 0),(i6 0)]) w)
def F157 (a0p:OA) (a0l:Nat) (a0c:Nat) (w:World) (R:KV):Prop :=
 CV 94 #[(.slice a0p a0l a0c)] w fun v1 w1=>dT23 v1 fun l1p l1l l1c n1 n2=>ifB ((n1:Int) != 0) (R (.tuple #[(i6 n1),(i6 n2)]) w1) (CV 95 #[(.slice a0p a0l a0c)] w1 fun v2 w2=>asL v2 fun l2p l2l l2c=>∃ m,L157_0 R m a0p a0l a0c l2p l2l l2c l1p l1l l1c (l1l:Nat) 0 w2)
def A157 (R:KV):Ann:=(sN (sN (sN (sN (.seq (sN (.block (.loop (fun m e ds w=>nilD ds (asL (e 0) fun x0p x0l x0c=>asL (e 7) fun x7p x7l x7c=>asL (e 24) fun x24p x24l x24c=>aI e 25 fun x25=>aI e 26 fun x26=>L157_0 R m x0p x0l x0c x7p x7l x7c x24p x24l x24c x25 x26 w)) (fun kL157_0=>(sN (sN (.join (fun e ds w=>nilD ds (asL (e 0) fun x0p x0l x0c=>asL (e 7) fun x7p x7l x7c=>asL (e 24) fun x24p x24l x24c=>aI e 25 fun x25=>aI e 26 fun x26=>J157_1 R (L157_0 R kL157_0) x0p x0l x0c x7p x7l x7c x24p x24l x24c x25 x26 w)) (.block (sN (sN (.block (.loop (fun m e ds w=>nilD ds (asL (e 0) fun x0p x0l x0c=>asL (e 7) fun x7p x7l x7c=>asA (e 9) fun x9=>asL (e 24) fun x24p x24l x24c=>aI e 25 fun x25=>aI e 26 fun x26=>asL (e 31) fun x31p x31l x31c=>aI e 32 fun x32=>aI e 33 fun x33=>L157_2 R (L157_0 R kL157_0) m x0p x0l x0c x7p x7l x7c x9 x24p x24l x24c x25 x26 x31p x31l x31c x32 x33 w)) (fun kL157_2=>(sN (sN (.seq (.block (sN (.join (fun e ds w=>nilD ds (asL (e 0) fun x0p x0l x0c=>asL (e 7) fun x7p x7l x7c=>asA (e 9) fun x9=>asL (e 24) fun x24p x24l x24c=>aI e 25 fun x25=>aI e 26 fun x26=>asL (e 31) fun x31p x31l x31c=>aI e 32 fun x32=>aI e 33 fun x33=>asB (e 51) fun x51=>J157_3 R (L157_0 R kL157_0) (L157_2 R (L157_0 R kL157_0) kL157_2) x0p x0l x0c x7p x7l x7c x9 x24p x24l x24c x25 x26 x31p x31l x31c x32 x33 x51 w)) .no (.cond (.seq (.draw [0,1,2,3]) .no) .no)))) .no))))))))) .no))))))) .no)))))
theorem sides157 (R:KV):zak PP Tryz.f157 (A157 R) R:=by
 exact (zt (zt (zt (zt (ai (zt (ai (zsi fun e w h=>eL h fun z0 h=>eL h fun z7 h=>eL h fun z24 h=>eI h fun z25 h=>eI h fun z26 h=>h) (ai (fun kL157_0=>zsi fun e w h=>eL h fun z0 h=>eL h fun z7 h=>eL h fun z24 h=>eI h fun z25 h=>eI h fun z26 h=>by rw [← zag (aC z0 (aC z7 (aC z24 (aC z25 (aC z26 aN)))))];exact zq h) (fun kL157_0=>(zt (zt (ai (zsi fun e w h=>eL h fun z0 h=>eL h fun z7 h=>eL h fun z24 h=>eI h fun z25 h=>eI h fun z26 h=>by rw [← zag (aC z0 (aC z7 (aC z24 (aC z25 (aC z26 aN)))))];exact zq h) (ai (zt (zt (ai (zsi fun e w h=>eL h fun z0 h=>eL h fun z7 h=>eA h fun z9 h=>eL h fun z24 h=>eI h fun z25 h=>eI h fun z26 h=>eL h fun z31 h=>eI h fun z32 h=>eI h fun z33 h=>h) (ai (fun kL157_2=>zsi fun e w h=>eL h fun z0 h=>eL h fun z7 h=>eA h fun z9 h=>eL h fun z24 h=>eI h fun z25 h=>eI h fun z26 h=>eL h fun z31 h=>eI h fun z32 h=>eI h fun z33 h=>by rw [← zag (aC z0 (aC z7 (aC z9 (aC z24 (aC z25 (aC z26 (aC z31 (aC z32 (aC z33 aN)))))))))];exact zq h) (fun kL157_2=>(zt (zt (ai (zt (ai (zsi fun e w h=>eL h fun z0 h=>eL h fun z7 h=>eA h fun z9 h=>eL h fun z24 h=>eI h fun z25 h=>eI h fun z26 h=>eL h fun z31 h=>eI h fun z32 h=>eI h fun z33 h=>eB h fun z51 h=>by rw [← zag (aC z0 (aC z7 (aC z9 (aC z24 (aC z25 (aC z26 (aC z31 (aC z32 (aC z33 (aC z51 aN))))))))))];exact zq h) (zt (ai (ai trivial trivial) trivial)))) trivial)))))))) trivial)))))))) trivial)))))
theorem call157 (a0p:OA) (a0l:Nat) (a0c:Nat) (w:World) (R:KV) (h:F157 a0p a0l a0c w R):zaj PP 157 #[(.slice a0p a0l a0c)] w R :=
 zah (an:=A157 R) Tryz.func157 rfl (sides157 R) (Eq.mp (by kernel_rfl) h)

def J158_0 (R:KV) (x0:OA) (x3:Addr) (w:World):Prop :=
 ma12 w x3 fun n1 n2 l1p l1l l1c n3=>CV 37 #[(.agg #[(i6 n1),(i6 n2),(.slice l1p l1l l1c),(i6 n3)])] w fun v5 w1=>dT9 v5 fun n4 b1=>optP x0 fun ad1=>gL w1 ad1 fun l2p l2l l2c=>ifB (decide ((n4:Int) ≥ (l2l:Nat))) (R (.bool false) w1) (optP x0 fun ad2=>gL w1 ad2 fun l3p l3l l3c=>semK PP (Instr.indexAt 24 (.slice l3p l3l l3c) (i6 n4)) w1 fun v8 w2=>asA v8 fun ad3=>gI .i64 w2 (Addr.add ad3 1) fun n5=>gI .i64 w2 (Addr.add x3 1) fun n6=>ifB ((n6:Int) == 227) (R (.bool (!((n5:Int) == 128))) w2) (ifB ((n5:Int) == 128) (R (.bool true) w2) (zbf w2 fun w3=>optP x0 fun ad4=>gI .i64 w3 (Addr.add (Addr.add ad4 1) 1) fun n7=>ifB ((n7:Int) != 128) (optP x0 fun ad5=>gL w3 ad5 fun l4p l4l l4c=>semK PP (Instr.indexAt 24 (.slice l4p l4l l4c) (i6 n4)) w3 fun v13 w4=>asA v13 fun ad6=>gI .i64 w3 (Addr.add ad6 1) fun n8=>optP x0 fun ad7=>gI .i64 w3 (Addr.add (Addr.add ad7 1) 1) fun n9=>R (.bool (decide ((n8:Int)≤n9))) w3) (R (.bool false) w3))))
def F158 (a0:OA) (a1_0:Int) (a1_1:Int) (a1_2p:OA) (a1_2l:Nat) (a1_2c:Nat) (a1_3:Int) (w:World) (R:KV):Prop :=
 zaf w (.cells #[(i6 a1_0),(i6 a1_1),(.slice a1_2p a1_2l a1_2c),(i6 a1_3)] 70) fun w1=>gI .i64 w1 ⟨w.heap.size,1,none⟩ fun n1=>ifB ((n1:Int) == 228) (optP a0 fun ad1=>gI .i64 w1 (Addr.add (Addr.add ad1 1) 1) fun n2=>R (.bool ((n2:Int) != 128)) w1) (gI .i64 w1 ⟨w.heap.size,1,none⟩ fun n3=>ifB ((n3:Int) != 227) (gI .i64 w1 ⟨w.heap.size,1,none⟩ fun n4=>ifB ((n4:Int) != 229) (R (.bool true) w1) (J158_0 R a0 ⟨w.heap.size,0,none⟩ w1)) (J158_0 R a0 ⟨w.heap.size,0,none⟩ w1))
def A158 (R:KV):Ann:=(sN (sN (.join (fun e ds w=>nilD ds (asP (e 0) fun x0=>asA (e 3) fun x3=>J158_0 R x0 x3 w)) .no (sN (sN (sN (sN (.seq (.draw [0,1,2,3,4,5,6,7,8,9,10,11,12,13,14,15,16,17,18,19,20,21,22]) .no))))))))
theorem sides158 (R:KV):zak PP Tryz.f158 (A158 R) R:=by
 exact (zt (zt (ai (zsi fun e w h=>eP h fun z0 h=>eA h fun z3 h=>by rw [← zag (aC z0 (aC z3 aN))];exact zq h) (zt (zt (zt (zt (zt (ai trivial trivial)))))))))
theorem call158 (a0:OA) (a1_0:Int) (a1_1:Int) (a1_2p:OA) (a1_2l:Nat) (a1_2c:Nat) (a1_3:Int) (w:World) (R:KV) (h:F158 a0 a1_0 a1_1 a1_2p a1_2l a1_2c a1_3 w R):zaj PP 158 #[(.pointer a0),(.agg #[(i6 a1_0),(i6 a1_1),(.slice a1_2p a1_2l a1_2c),(i6 a1_3)])] w R :=
 zah (an:=A158 R) Tryz.func158 rfl (sides158 R) (Eq.mp (by kernel_rfl) h)

def F159 (a0:OA) (a1_0:Int) (a1_1:Int) (a1_2p:OA) (a1_2l:Nat) (a1_2c:Nat) (a1_3:Int) (w:World) (R:KV):Prop :=
 zaf w (.cells #[(i6 a1_0),(i6 a1_1),(.slice a1_2p a1_2l a1_2c),(i6 a1_3)] 70) fun w1=>zaf w1 (.cells #[(i6 0),(i6 0),(i6 0)] 52) fun w2=>mb13 w2 w.heap.size fun n1 n2 l1p l1l l1c n3=>CV 37 #[(.agg #[(i6 n1),(i6 n2),(.slice l1p l1l l1c),(i6 n3)])] w2 fun v5 w3=>dT9 v5 fun n4 b1=>optP a0 fun ad1=>gL w3 ad1 fun l2p l2l l2c=>semK PP (Instr.indexAt 24 (.slice l2p l2l l2c) (i6 n4)) w3 fun v7 w4=>asA v7 fun ad2=>ma7 w4 ad2 fun n5 n6 n7=>sU 52 ⟨w1.heap.size,0,none⟩ (.agg #[(i6 n5),(i6 n6),(i6 n7)]) w4 fun w5=>mb8 w5 w1.heap.size fun n8 n9 n10=>R (.agg #[(i6 n8),(i6 n9),(i6 n10)]) w5
def A159 (R:KV):Ann:=.no
theorem sides159 (R:KV):zak PP Tryz.f159 (A159 R) R:=by
 trivial
theorem call159 (a0:OA) (a1_0:Int) (a1_1:Int) (a1_2p:OA) (a1_2l:Nat) (a1_2c:Nat) (a1_3:Int) (w:World) (R:KV) (h:F159 a0 a1_0 a1_1 a1_2p a1_2l a1_2c a1_3 w R):zaj PP 159 #[(.pointer a0),(.agg #[(i6 a1_0),(i6 a1_1),(.slice a1_2p a1_2l a1_2c),(i6 a1_3)])] w R :=
 zah (an:=A159 R) Tryz.func159 rfl (sides159 R) (Eq.mp (by kernel_rfl) h)

def J160_1 (R:KV) (x7:Addr) (w:World):Prop :=
 zbf w fun w1=>gI .i64 w1 (Addr.add x7 3) fun n1=>gI .i64 w1 (Addr.add x7 4) fun n2=>R (.tuple #[(i6 n1),(i6 n2),(.bool true)]) w1
def J160_2 (R:KV) (x1p:OA) (x1l:Nat) (x1c:Nat) (x7:Addr) (x34:Int) (x35:Bool) (w:World):Prop :=
 ifB x35 (zbf w fun w1=>gI .i64 w1 (Addr.add x7 3) fun n1=>semK PP (Instr.indexAt 22 (.slice x1p x1l x1c) (i6 0)) w1 fun v2 w2=>asA v2 fun ad1=>gI .u8 w1 ad1 fun n2=>sU 3 (Addr.add x7 3) (i6 (IntKind.wrap .i64 (n1+(IntKind.wrap .i64 n2)))) w1 fun w3=>zbf w3 fun w4=>gI .i64 w4 (Addr.add x7 4) fun n3=>semK PP (Instr.indexAt 22 (.slice x1p x1l x1c) (i6 0)) w4 fun v5 w5=>asA v5 fun ad2=>gI .u8 w4 ad2 fun n4=>sU 3 (Addr.add x7 4) (i6 (IntKind.wrap .i64 (n3+(IntKind.wrap .i64 n4)))) w4 fun w6=>J160_1 R x7 w6) (ifB ((x34:Int) == 232) (zbf w fun w7=>semK PP (Instr.indexAt 22 (.slice x1p x1l x1c) (i6 0)) w7 fun v7 w8=>asA v7 fun ad3=>gI .u8 w7 ad3 fun n5=>semK PP (Instr.indexAt 22 (.slice x1p x1l x1c) (i6 0)) w7 fun v9 w9=>asA v9 fun ad4=>gI .u8 w7 ad4 fun n6=>gI .i64 w7 (Addr.add x7 3) fun n7=>sU 3 (Addr.add x7 3) (i6 (IntKind.wrap .i64 (n7+(IntKind.wrap .i64 ((IntKind.wrap .i64 (Int.fdiv n5 (2 ^ (min (4:Int).toNat 8))))+(IntKind.wrap .i64 (bitI .and .u8 n6 15))))))) w7 fun w10=>gI .i64 w10 (Addr.add x7 4) fun n8=>sU 3 (Addr.add x7 4) (i6 (IntKind.wrap .i64 (n8+(IntKind.wrap .i64 ((IntKind.wrap .i64 (Int.fdiv n5 (2 ^ (min (4:Int).toNat 8))))+(IntKind.wrap .i64 (bitI .and .u8 n6 15))))))) w10 fun w11=>J160_1 R x7 w11) (J160_1 R x7 w))
def J160_0 (R:KV) (x0:Int) (x1p:OA) (x1l:Nat) (x1c:Nat) (x7:Addr) (x8:Int) (w:World):Prop :=
 ifB (((x1l:Nat):Int) != x8) (R (.tuple #[(i6 0),(i6 0),(.bool false)]) w) (ifB ((x0:Int) == 230) (J160_2 R x1p x1l x1c x7 x0 ((x0:Int) == 230) w) (J160_2 R x1p x1l x1c x7 x0 ((x0:Int) == 231) w))
def F160 (a0:Int) (a1p:OA) (a1l:Nat) (a1c:Nat) (w:World) (R:KV):Prop :=
 CV 36 #[(i6 a0)] w fun v1 w1=>dT19 v1 fun n1 s1 n2 n3 n4 n5 b1 b2=>zaf w1 (.cells #[(i6 0),(.string ⟨#[]⟩),(i6 0),(i6 0),(i6 0),(i6 0),(.bool false)] 101) fun w2=>sU 101 ⟨w1.heap.size,0,none⟩ (.agg #[(i6 n1),(.string s1),(i6 n2),(i6 n3),(i6 n4),(i6 n5),(.bool b1)]) w2 fun w3=>ifB (!b2) (R (.tuple #[(i6 0),(i6 0),(.bool false)]) w3) (gI .i64 w3 ⟨w1.heap.size,2,none⟩ fun n6=>ifB ((n6:Int) == (-1)) (ifB (((a1l:Nat):Int) == 0) (R (.tuple #[(i6 0),(i6 0),(.bool false)]) w3) (semK PP (Instr.indexAt 22 (.slice a1p a1l a1c) (i6 0)) w3 fun v3 w4=>asA v3 fun ad1=>gI .u8 w4 ad1 fun n7=>J160_0 R a0 a1p a1l a1c ⟨w1.heap.size,0,none⟩ (IntKind.wrap .i64 ((IntKind.wrap .i64 (2 * (IntKind.wrap .i64 n7)))+3)) w4)) (J160_0 R a0 a1p a1l a1c ⟨w1.heap.size,0,none⟩ n6 w3))
def A160 (R:KV):Ann:=(sN (sN (sN (sN (.join (fun e ds w=>nilD ds (aI e 0 fun x0=>asL (e 1) fun x1p x1l x1c=>asA (e 7) fun x7=>aI e 8 fun x8=>J160_0 R x0 x1p x1l x1c x7 x8 w)) .no (sN (.join (fun e ds w=>nilD ds (asA (e 7) fun x7=>J160_1 R x7 w)) (sN (.block (.join (fun e ds w=>nilD ds (asL (e 1) fun x1p x1l x1c=>asA (e 7) fun x7=>aI e 34 fun x34=>asB (e 35) fun x35=>J160_2 R x1p x1l x1c x7 x34 x35 w)) .no (.cond (.seq (.draw [0,1,2,3,4,5,6,7,8]) (.draw [0,1,2,3,4,5,6,7,8])) (sN (.cond (.seq (.draw [0,1,2,3,4,5,6,7,8,9,10,11]) .no) .no)))))) (.seq (.draw [0,1,2,3,4,5,6]) .no))))))))
theorem sides160 (R:KV):zak PP Tryz.f160 (A160 R) R:=by
 exact (zt (zt (zt (zt (ai (zsi fun e w h=>eI h fun z0 h=>eL h fun z1 h=>eA h fun z7 h=>eI h fun z8 h=>by rw [← zag (aC z0 (aC z1 (aC z7 (aC z8 aN))))];exact zq h) (zt (zt (ai (zsi fun e w h=>eA h fun z7 h=>by rw [← zag (aC z7 aN)];exact zq h) (ai (zt (ai (zsi fun e w h=>eL h fun z1 h=>eA h fun z7 h=>eI h fun z34 h=>eB h fun z35 h=>by rw [← zag (aC z1 (aC z7 (aC z34 (aC z35 aN))))];exact zq h) (zt (ai (ai trivial trivial) (zt (ai (ai trivial trivial) trivial)))))) (ai trivial trivial))))))))))
theorem call160 (a0:Int) (a1p:OA) (a1l:Nat) (a1c:Nat) (w:World) (R:KV) (h:F160 a0 a1p a1l a1c w R):zaj PP 160 #[(i6 a0),(.slice a1p a1l a1c)] w R :=
 zah (an:=A160 R) Tryz.func160 rfl (sides160 R) (Eq.mp (by kernel_rfl) h)

def strX10_0:ByteArray:=⟨#[48,48,48,49,48,50,48,51,48,52,48,53,48,54,48,55,48,56,48,57,49,48,49,49,49,50,49,51,49,52,49,53,49,54,49,55,49,56,49,57,50,48,50,49,50,50,50,51,50,52,50,53,50,54,50,55,50,56,50,57,51,48,51,49,51,50,51,51,51,52,51,53,51,54,51,55,51,56,51,57,52,48,52,49,52,50,52,51,52,52,52,53,52,54,52,55,52,56,52,57,53,48,53,49,53,50,53,51,53,52,53,53,53,54,53,55,53,56,53,57,54,48,54,49,54,50,54,51,54,52,54,53,54,54,54,55,54,56,54,57,55,48,55,49,55,50,55,51,55,52,55,53,55,54,55,55,55,56,55,57,56,48,56,49,56,50,56,51,56,52,56,53,56,54,56,55,56,56,56,57,57,48,57,49,57,50,57,51,57,52,57,53,57,54,57,55,57,56,57,57]⟩
def F163 (a0:OA) (w:World) (R:KV):Prop :=
 optP a0 fun ad1=>CV 167 #[(.pointer (some ad1))] w fun v1 w1=>asT v1 fun t10=>zav t10 (R (.tuple #[]) w1)
def A163 (R:KV):Ann:=.no
theorem sides163 (R:KV):zak PP Tryz.f163 (A163 R) R:=by
 trivial
theorem call163 (a0:OA) (w:World) (R:KV) (h:F163 a0 w R):zaj PP 163 #[(.pointer a0)] w R :=
 zah (an:=A163 R) Tryz.func163 rfl (sides163 R) (Eq.mp (by kernel_rfl) h)

def F164 (a0:OA) (w:World) (R:KV):Prop :=
 optP a0 fun ad1=>CV 168 #[(.pointer (some ad1))] w fun v1 w1=>asT v1 fun t10=>zav t10 (R (.tuple #[]) w1)
def A164 (R:KV):Ann:=.no
theorem sides164 (R:KV):zak PP Tryz.f164 (A164 R) R:=by
 trivial
theorem defer164 (a0:OA) (u:FrameMode) (w:World) (K:FrameMode→World→Prop) (h:F164 a0 w fun _ w=>K u w):DefV PP 164 #[(.pointer a0)] u w K :=
 defV_of (fn:=Tryz.f164) (an:=A164 fun _ w=>K u w) (args:=[(.pointer a0)]) Tryz.func164 rfl (sides164 fun _ w=>K u w) (Eq.mp (by kernel_rfl) h)

def F165 (a0:OA) (a1:Bool) (w:World) (R:KV):Prop :=
 zbf w fun w1=>optP a0 fun ad1=>CV 170 #[(.bool a1)] w1 fun v1 w2=>asI .u32 v1 fun n1=>zau PP (.func (.func 169) #[] #[]) #[(.pointer (some ad1)),(.int .u32 n1)] w2 fun v2 w3=>asT v2 fun t10=>zav t10 (R (.tuple #[]) w3)
def A165 (R:KV):Ann:=(.draw [0,1,2,3,4,5])
theorem sides165 (R:KV):zak PP Tryz.f165 (A165 R) R:=by
 exact trivial
theorem defer165 (a0:OA) (a1:Bool) (u:FrameMode) (w:World) (K:FrameMode→World→Prop) (h:F165 a0 a1 w fun _ w=>K u w):DefV PP 165 #[(.pointer a0),(.bool a1)] u w K :=
 defV_of (fn:=Tryz.f165) (an:=A165 fun _ w=>K u w) (args:=[(.pointer a0),(.bool a1)]) Tryz.func165 rfl (sides165 fun _ w=>K u w) (Eq.mp (by kernel_rfl) h)

def J166_1 (R:KV) (x0:Int) (x5:Addr) (x6:Int) (w:World):Prop :=
 CV 172 #[(u6 x6)] w fun v1 w1=>asI .i64 v1 fun n1=>semK PP (Instr.sliceAt 265 (.pointer (some x5)) (some (i6 1)) (some (i6 (IntKind.wrap .i64 (1+n1)))) none) w1 fun v2 w2=>asL v2 fun l1p l1l l1c=>CV 173 #[(.slice l1p l1l l1c),(u6 x6)] w2 fun v3 w3=>asT v3 fun t10=>zav t10 (ifB (decide ((x0:Int) < 0)) (sU 5 x5 (.int .u8 45) w3 fun w4=>semK PP (Instr.sliceAt 265 (.pointer (some x5)) none (some (i6 (IntKind.wrap .i64 (1+n1)))) none) w4 fun v4 w5=>asL v4 fun l2p l2l l2c=>semK PP (convert 22 9 (.slice l2p l2l l2c)) w5 fun v5 w6=>asS v5 fun s1=>R (.string s1) w6) (semK PP (Instr.sliceAt 265 (.pointer (some x5)) (some (i6 1)) (some (i6 (IntKind.wrap .i64 (1+n1)))) none) w3 fun v6 w7=>asL v6 fun l3p l3l l3c=>semK PP (convert 22 9 (.slice l3p l3l l3c)) w7 fun v7 w8=>asS v7 fun s2=>R (.string s2) w8))
def J166_0 (R:KV) (x0:Int) (w:World):Prop :=
 zaf w (.cells #[(.int .u8 0),(.int .u8 0),(.int .u8 0),(.int .u8 0),(.int .u8 0),(.int .u8 0),(.int .u8 0),(.int .u8 0),(.int .u8 0),(.int .u8 0),(.int .u8 0),(.int .u8 0),(.int .u8 0),(.int .u8 0),(.int .u8 0),(.int .u8 0),(.int .u8 0),(.int .u8 0),(.int .u8 0),(.int .u8 0),(.int .u8 0),(.int .u8 0),(.int .u8 0),(.int .u8 0)] 265) fun w1=>ifB (decide ((x0:Int) < 0)) (J166_1 R x0 ⟨w.heap.size,0,none⟩ (IntKind.wrap .u64 (0 - (IntKind.wrap .u64 x0))) w1) (J166_1 R x0 ⟨w.heap.size,0,none⟩ (IntKind.wrap .u64 x0) w1)
def F166 (a0:Int) (a1:Int) (w:World) (R:KV):Prop :=
 ifB ((a1:Int) == 10) (ifB (decide ((0:Int)≤a0)) (ifB (decide ((a0:Int) < 100)) (CV 171 #[(i6 a0)] w fun v1 w1=>asS v1 fun s1=>R (.string s1) w1) (J166_0 R a0 w)) (J166_0 R a0 w)) (CV 174 #[(.slice none 0 0),(u6 (IntKind.wrap .u64 a0)),(i6 a1),(.bool (decide ((a0:Int) < 0))),(.bool false)] w fun v2 w2=>dT25 v2 fun l1p l1l l1c s2=>R (.string s2) w2)
def A166 (R:KV):Ann:=(sN (.seq (sN (.cond (.join (fun e ds w=>nilD ds (aI e 0 fun x0=>J166_0 R x0 w)) .no (sN (sN (.join (fun e ds w=>nilD ds (aI e 0 fun x0=>asA (e 5) fun x5=>asI .u64 (e 6) fun x6=>J166_1 R x0 x5 x6 w)) .no .no)))) .no)) .no))
theorem sides166 (R:KV):zak PP Tryz.f166 (A166 R) R:=by
 exact (zt (ai (zt (ai (ai (zsi fun e w h=>eI h fun z0 h=>by rw [← zag (aC z0 aN)];exact zq h) (zt (zt (zt (ai (zsi fun e w h=>eI h fun z0 h=>eA h fun z5 h=>eI h fun z6 h=>by rw [← zag (aC z0 (aC z5 (aC z6 aN)))];exact zq h) (ai trivial trivial)))))) trivial)) trivial))
theorem call166 (a0:Int) (a1:Int) (w:World) (R:KV) (h:F166 a0 a1 w R):zaj PP 166 #[(i6 a0),(i6 a1)] w R :=
 zah (an:=A166 R) Tryz.func166 rfl (sides166 R) (Eq.mp (by kernel_rfl) h)

def F167 (a0:OA) (w:World) (R:KV):Prop :=
 zau PP (.func (.func 175) #[] #[]) #[] w fun v1 w1=>asT v1 fun t10=>zav t10 (optP a0 fun ad1=>zau PP (.func (.func 176) #[] #[]) #[(.pointer (some ad1)),(.int .i32 0),(.int .i32 1)] w1 fun v2 w2=>asB v2 fun b1=>ifB b1 (zau PP (.func (.func 177) #[] #[]) #[] w2 fun v3 w3=>asT v3 fun t20=>zav t20 (semK PP (convert 270 274 (.pointer a0)) w3 fun v4 w4=>zau PP (.func (.func 178) #[] #[]) #[v4] w4 fun v5 w5=>asT v5 fun t30=>zav t30 (R (.tuple #[]) w5))) (CV 179 #[(.pointer a0)] w2 fun v6 w6=>asT v6 fun t40=>zav t40 (R (.tuple #[]) w6)))
def A167 (R:KV):Ann:=.no
theorem sides167 (R:KV):zak PP Tryz.f167 (A167 R) R:=by
 trivial
theorem call167 (a0:OA) (w:World) (R:KV) (h:F167 a0 w R):zaj PP 167 #[(.pointer a0)] w R :=
 zah (an:=A167 R) Tryz.func167 rfl (sides167 R) (Eq.mp (by kernel_rfl) h)

def J168_0 (R:KV) (x0:OA) (w:World):Prop :=
 optP x0 fun ad1=>zau PP (.func (.func 181) #[] #[]) #[(.pointer (some ad1)),(.int .i32 (-1))] w fun v1 w1=>asI .i32 v1 fun n1=>ifB ((n1:Int) != 0) (CV 182 #[(.pointer x0),(.int .i32 n1)] w1 fun v2 w2=>asT v2 fun t10=>zav t10 (zau PP (.func (.func 177) #[] #[]) #[] w2 fun v3 w3=>asT v3 fun t20=>zav t20 (R (.tuple #[]) w3))) (zau PP (.func (.func 177) #[] #[]) #[] w1 fun v4 w4=>asT v4 fun t30=>zav t30 (R (.tuple #[]) w4))
def F168 (a0:OA) (w:World) (R:KV):Prop :=
 optP a0 fun ad1=>gI .i32 w ad1 fun n1=>semK PP (convert 270 274 (.pointer a0)) w fun v2 w1=>zau PP (.func (.func 180) #[] #[]) #[v2] w1 fun v3 w2=>asT v3 fun t10=>zav t10 (zau PP (.func (.func 175) #[] #[]) #[] w2 fun v4 w3=>asT v4 fun t20=>zav t20 (J168_0 R a0 w3))
def A168 (R:KV):Ann:=(.join (fun e ds w=>nilD ds (asP (e 0) fun x0=>J168_0 R x0 w)) .no .no)
theorem sides168 (R:KV):zak PP Tryz.f168 (A168 R) R:=by
 exact (ai (zsi fun e w h=>eP h fun z0 h=>by rw [← zag (aC z0 aN)];exact zq h) (ai trivial trivial))
theorem call168 (a0:OA) (w:World) (R:KV) (h:F168 a0 w R):zaj PP 168 #[(.pointer a0)] w R :=
 zah (an:=A168 R) Tryz.func168 rfl (sides168 R) (Eq.mp (by kernel_rfl) h)

def F170 (a0:Bool) (w:World) (R:KV):Prop :=
 ifB a0 (R (.int .u32 1) w) (R (.int .u32 0) w)
def A170 (R:KV):Ann:=.no
theorem sides170 (R:KV):zak PP Tryz.f170 (A170 R) R:=by
 trivial
theorem call170 (a0:Bool) (w:World) (R:KV) (h:F170 a0 w R):zaj PP 170 #[(.bool a0)] w R :=
 zah (an:=A170 R) Tryz.func170 rfl (sides170 R) (Eq.mp (by kernel_rfl) h)

def F171 (a0:Int) (w:World) (R:KV):Prop :=
 ifB (decide ((a0:Int) < 10)) (semK PP (Instr.sliceAt 9 (.string ⟨#[48,49,50,51,52,53,54,55,56,57,97,98,99,100,101,102,103,104,105,106,107,108,109,110,111,112,113,114,115,116,117,118,119,120,121,122]⟩) (some (i6 a0)) (some (i6 (IntKind.wrap .i64 (a0+1)))) none) w fun v1 w1=>asS v1 fun s1=>R (.string s1) w1) (semK PP (Instr.sliceAt 9 (.string strX10_0) (some (i6 (IntKind.wrap .i64 (a0 * 2)))) (some (i6 (IntKind.wrap .i64 ((IntKind.wrap .i64 (a0 * 2))+2)))) none) w fun v2 w2=>asS v2 fun s2=>R (.string s2) w2)
def A171 (R:KV):Ann:=.no
theorem sides171 (R:KV):zak PP Tryz.f171 (A171 R) R:=by
 trivial
theorem call171 (a0:Int) (w:World) (R:KV) (h:F171 a0 w R):zaj PP 171 #[(i6 a0)] w R :=
 zah (an:=A171 R) Tryz.func171 rfl (sides171 R) (Eq.mp (by kernel_rfl) h)

end Go.Proofs.YtlfhngoeecjfpaaGreatDoor.W
namespace Go.Proofs.YtlfhngoeecjfpaaGreatDoor.B
open Go Go.RowKit Go.Proofs.YtlfhngoeecjfpaaGreatDoor.Sh Go.Proofs.YtlfhngoeecjfpaaGreatDoor.W
theorem cutStr {P:Program} {w:World} {t:TypeId} {s:ByteArray} {k k':IntKind} {x y:Int} {F:Value→World→Prop} (ht:P.underlying t=some .string) (h0:0≤x) (h1:x≤y) (h2:y≤(s.size:Int))
  (kk:F (.string (s.extract x.toNat y.toNat)) w):semK P (Instr.sliceAt t (.string s) (some (.int k x)) (some (.int k' y)) none) w F:=by
 refine zcd ?_ kk
 have a1:0≤y∧y≤(s.size:Int):=⟨by omega,h2⟩
 have a2:0≤x∧x≤(y.toNat:Int):=⟨h0,by omega⟩
 simp [Instr.sliceAt,Instr.slice,Instr.sliceBounds,Instr.sliceBound,asIntOf,run_underlying ht,a1,Result.andThen]
 rw [if_pos (by omega)]
theorem catStr {P:Program} {w:World} {t:TypeId} {x y:Operand} {a b:ByteArray} {F:Value→World→Prop} (hs:a.size+b.size≤1073741824) (kk:F (.string (a++b)) w) :
  semK P (do eqGuard .add t x y (.string a) (.string b);binOp .add t (.string a) (.string b)) w F:=by
 refine zcd ?_ kk
 have:¬ (((a.size+b.size:Nat):Int) > IntKind.i64.max):=by
  have:IntKind.i64.max=9223372036854775807:=rfl
  omega
 simp [eqGuard,binOp,Op.stringOp]
 omega
theorem f171 {n:Int} {w:World} {K:Value→World→Prop} (h0:0≤n) (h1:n < 100) (k:∀ s:ByteArray,s.size≠0→s.size≤2→K (.string s) w):zaj Tryz.prog 171 #[.int .i64 n] w K:=by
 refine call171 _ _ _ ?_
 unfold F171
 refine ifD (fun h=>?_) (fun h=>?_)
 ·rw [i64w (by omega) (by omega)]
  refine cutStr (by rfl) (by omega) (by omega) (by show n+1≤((36:Nat):Int);omega) ?_
  refine k _ ?_ ?_ <;> rw [ByteArray.size_extract] <;> (show _ ;rw [show (ByteArray.size ⟨#[48,49,50,51,52,53,54,55,56,57,97,98,99,100,101,102,103,104,105,106,107,108,109,110,111,112,113,114,115,116,117,118,119,120,121,122]⟩)=36 from rfl];omega)
 ·rw [i64w (n:=n * 2) (by omega) (by omega),i64w (by omega) (by omega)]
  have hz:strX10_0.size=200:=by rfl
  refine cutStr (by rfl) (by omega) (by omega) (by rw [hz];omega) ?_
  refine k _ ?_ ?_ <;> rw [ByteArray.size_extract,hz] <;> omega
theorem f122 {n:Int} {w:World} {K:Value→World→Prop} (h0:0≤n) (h1:n < 100) (k:∀ s:ByteArray,s.size≠0→s.size≤2→K (.string s) w):zaj Tryz.prog 122 #[.int .i64 n] w K:=by
 refine call122 _ _ _ (call154 _ _ _ (call166 _ _ _ _ ?_))
 unfold F166
 simp only [show ((10:Int) == 10)=true from rfl,ifB_true]
 refine ifD (fun _=>?_) (fun h=>absurd h0 h)
 refine ifD (fun _=>?_) (fun h=>absurd h1 h)
 exact f171 h0 h1 fun s hs hz=>k s hs hz
structure OpR where
 imm:Int
 inn:Int
 out:Int
 gas:Int
 ends:Bool
def sumsT (c:Int):Option OpR :=
 if c=0 then some ⟨0,0,0,0,true⟩ else
 if c=1 then some ⟨0,2,1,3,false⟩ else
 if c=3 then some ⟨0,2,1,3,false⟩ else
 if c=2 then some ⟨0,2,1,5,false⟩ else
 if c=4 then some ⟨0,2,1,5,false⟩ else
 if c=5 then some ⟨0,2,1,5,false⟩ else
 if c=6 then some ⟨0,2,1,5,false⟩ else
 if c=7 then some ⟨0,2,1,5,false⟩ else
 if c=8 then some ⟨0,3,1,8,false⟩ else
 if c=9 then some ⟨0,3,1,8,false⟩ else
 if c=10 then some ⟨0,2,1,10,false⟩ else
 if c=11 then some ⟨0,2,1,5,false⟩ else
 none
def ofBlockT (c:Int):Option OpR :=
 if c=65 then some ⟨0,0,1,2,false⟩ else
 if c=66 then some ⟨0,0,1,2,false⟩ else
 if c=67 then some ⟨0,0,1,2,false⟩ else
 if c=68 then some ⟨0,0,1,2,false⟩ else
 if c=69 then some ⟨0,0,1,2,false⟩ else
 if c=70 then some ⟨0,0,1,2,false⟩ else
 if c=72 then some ⟨0,0,1,2,false⟩ else
 if c=74 then some ⟨0,0,1,2,false⟩ else
 none
def askedT (c:Int):Option OpR :=
 if c=48 then some ⟨0,0,1,2,false⟩ else
 if c=49 then some ⟨0,1,1,100,false⟩ else
 if c=50 then some ⟨0,0,1,2,false⟩ else
 if c=51 then some ⟨0,0,1,2,false⟩ else
 if c=52 then some ⟨0,0,1,2,false⟩ else
 if c=53 then some ⟨0,1,1,3,false⟩ else
 if c=54 then some ⟨0,0,1,2,false⟩ else
 if c=55 then some ⟨0,3,0,3,false⟩ else
 if c=58 then some ⟨0,0,1,2,false⟩ else
 if c=61 then some ⟨0,0,1,2,false⟩ else
 if c=62 then some ⟨0,3,0,3,false⟩ else
 if c=64 then some ⟨0,1,1,20,false⟩ else
 if c=73 then some ⟨0,1,1,3,false⟩ else
 if c=71 then some ⟨0,0,1,5,false⟩ else
 ofBlockT c
def heldT (c:Int):Option OpR :=
 if c=80 then some ⟨0,1,0,2,false⟩ else
 if c=81 then some ⟨0,1,1,3,false⟩ else
 if c=82 then some ⟨0,2,0,3,false⟩ else
 if c=83 then some ⟨0,2,0,3,false⟩ else
 if c=84 then some ⟨0,1,1,100,false⟩ else
 if c=85 then some ⟨0,2,0,100,false⟩ else
 if c=89 then some ⟨0,0,1,2,false⟩ else
 if c=91 then some ⟨0,0,0,1,false⟩ else
 if c=92 then some ⟨0,1,1,100,false⟩ else
 if c=93 then some ⟨0,2,0,100,false⟩ else
 if c=94 then some ⟨0,3,0,3,false⟩ else
 if c=95 then some ⟨0,0,1,2,false⟩ else
 none
def outwardT (c:Int):Option OpR :=
 if c=236 then some ⟨1,4,1,32000,false⟩ else
 if c=238 then some ⟨1,2,0,0,true⟩ else
 if c=243 then some ⟨0,2,0,0,true⟩ else
 if c=247 then some ⟨0,1,1,3,false⟩ else
 if c=248 then some ⟨0,4,1,100,false⟩ else
 if c=249 then some ⟨0,3,1,100,false⟩ else
 if c=251 then some ⟨0,3,1,100,false⟩ else
 if c=253 then some ⟨0,2,0,0,true⟩ else
 if c=254 then some ⟨0,0,0,0,true⟩ else
 none
def turnedT (c:Int):Option OpR :=
 if c=208 then some ⟨0,1,1,4,false⟩ else
 if c=209 then some ⟨2,0,1,3,false⟩ else
 if c=210 then some ⟨0,0,1,2,false⟩ else
 if c=211 then some ⟨0,3,0,3,false⟩ else
 if c=224 then some ⟨2,0,0,2,true⟩ else
 if c=225 then some ⟨2,1,0,4,false⟩ else
 if c=226 then some ⟨-1,1,0,4,false⟩ else
 if c=227 then some ⟨2,0,0,5,false⟩ else
 if c=228 then some ⟨0,0,0,3,true⟩ else
 if c=229 then some ⟨2,0,0,5,true⟩ else
 if c=230 then some ⟨1,1,2,3,false⟩ else
 if c=231 then some ⟨1,2,2,3,false⟩ else
 if c=232 then some ⟨1,3,3,3,false⟩ else
 outwardT c
def comparedT (c:Int):Option OpR :=
 if c=30 then some ⟨0,1,1,5,false⟩ else
 if c=32 then some ⟨0,2,1,30,false⟩ else
 if c > 29 then none else
 some ⟨0,if c=21 then 1 else if c=25 then 1 else 2,1,3,false⟩
def opT (c:Int):Option OpR :=
 if 96≤c∧c≤127 then some ⟨c - 95,0,1,3,false⟩ else
 if 128≤c∧c≤143 then some ⟨0,c - 127,c - 126,3,false⟩ else
 if 144≤c∧c≤159 then some ⟨0,c - 142,c - 142,3,false⟩ else
 if 160≤c∧c≤164 then some ⟨0,c - 158,0,375 * (c - 159),false⟩ else
 if c < 16 then sumsT c else
 if c < 48 then comparedT c else
 if c < 80 then askedT c else
 if c < 208 then heldT c else turnedT c
def RowP (c:Int) (o:Option OpR) (cd:Int) (s:ByteArray) (imm inn out gas:Int) (e:Bool):Prop :=
 match o with
 | some r=>cd=c∧s.size≠0∧imm=r.imm∧inn=r.inn∧out=r.out∧gas=r.gas∧e=r.ends
 | none=>cd=0∧s=⟨#[]⟩∧imm=0∧inn=0∧out=0∧gas=0∧e=false
abbrev RowK (c:Int) (o:Option OpR) (w:World) (K:Value→World→Prop):Prop :=
 ∀ cd s imm inn out gas e w',Bl w w'→RowP c o cd s imm inn out gas e→K (.agg #[.int .i64 cd,.string s,.int .i64 imm,.int .i64 inn,.int .i64 out,.int .i64 gas,.bool e]) w'
theorem f123 {c a b g:Int} {s:ByteArray} {w:World} {K:Value→World→Prop} (k:∀ w',Bl w w'→K (.agg #[.int .i64 c,.string s,.int .i64 0,.int .i64 a,.int .i64 b,.int .i64 g,.bool false]) w'):zaj Tryz.prog 123 #[.int .i64 c,.string s,.int .i64 a,.int .i64 b,.int .i64 g] w K:=by
 refine call123 _ _ _ _ _ _ _ ?_
 unfold F123
 have hh:=Hp.start w
 with_reducible repeat' first|refine kk_ ?_|refine nx hh ?_|refine allW fun w' hh=>?_|exact sd_|refine ai ?_ ?_|exact vr|fail
 exact k _ hh.done
theorem f124 {c:Int} {w:World} {K:Value→World→Prop} (k:RowK c (sumsT c) w K):zaj Tryz.prog 124 #[.int .i64 c] w K:=by
 refine call124 _ _ _ ?_
 unfold F124
 have hh:=Hp.start w
 repeat' first|(with_reducible first|refine kk_ ?_|refine nx hh ?_|refine allW fun w' hh=>?_|exact sd_)|((with_reducible refine f123 fun w' hb=>?_);replace hh:=hh.bl hb)|(with_reducible first|refine ifE (fun hc=>?_) (fun hc=>?_)|refine And.intro ?_ ?_|exact vr)|fail
 all_goals refine k _ _ _ _ _ _ _ _ hh.done ?_
 all_goals simp_all [RowP,sumsT,ByteArray.size]
theorem f155 {c:Int} {w:World} {K:Value→World→Prop} (k:RowK c (ofBlockT c) w K):zaj Tryz.prog 155 #[.int .i64 c] w K:=by
 refine call155 _ _ _ ?_
 unfold F155
 have hh:=Hp.start w
 repeat' first|(with_reducible first|refine kk_ ?_|refine nx hh ?_|refine allW fun w' hh=>?_|exact sd_)|((with_reducible refine f123 fun w' hb=>?_);replace hh:=hh.bl hb)|(with_reducible first|refine ifE (fun hc=>?_) (fun hc=>?_)|refine And.intro ?_ ?_|exact vr)|fail
 all_goals refine k _ _ _ _ _ _ _ _ hh.done ?_
 all_goals simp_all [RowP,ofBlockT,ByteArray.size]
theorem f156 {c:Int} {w:World} {K:Value→World→Prop} (k:RowK c (outwardT c) w K):zaj Tryz.prog 156 #[.int .i64 c] w K:=by
 refine call156 _ _ _ ?_
 unfold F156
 have hh:=Hp.start w
 repeat' first|(with_reducible first|refine kk_ ?_|refine nx hh ?_|refine allW fun w' hh=>?_|exact sd_)|((with_reducible refine f123 fun w' hb=>?_);replace hh:=hh.bl hb)|(with_reducible first|refine ifE (fun hc=>?_) (fun hc=>?_)|refine And.intro ?_ ?_|exact vr)|fail
 all_goals refine k _ _ _ _ _ _ _ _ hh.done ?_
 all_goals simp_all [RowP,outwardT,ByteArray.size]
theorem f126 {c:Int} {w:World} {K:Value→World→Prop} (k:RowK c (askedT c) w K):zaj Tryz.prog 126 #[.int .i64 c] w K:=by
 refine call126 _ _ _ ?_
 unfold F126
 have hh:=Hp.start w
 repeat' first|(with_reducible first|refine kk_ ?_|refine nx hh ?_|refine allW fun w' hh=>?_|exact sd_)|((with_reducible refine f123 fun w' hb=>?_);replace hh:=hh.bl hb)|((with_reducible refine f155 fun cd s imm inn out gas e w' hb hr=>?_);replace hh:=hh.bl hb)|(with_reducible first|refine ifE (fun hc=>?_) (fun hc=>?_)|refine And.intro ?_ ?_|exact vr)|fail
 all_goals refine k _ _ _ _ _ _ _ _ hh.done ?_
 all_goals first
  | ((have e':askedT c=ofBlockT c:=by ((unfold askedT;repeat' split) <;> first|contradiction|rfl));(rw [e'];exact hr))
  | simp_all [RowP,askedT,ByteArray.size]
theorem f127 {c:Int} {w:World} {K:Value→World→Prop} (k:RowK c (heldT c) w K):zaj Tryz.prog 127 #[.int .i64 c] w K:=by
 refine call127 _ _ _ ?_
 unfold F127
 have hh:=Hp.start w
 repeat' first|(with_reducible first|refine kk_ ?_|refine nx hh ?_|refine allW fun w' hh=>?_|exact sd_)|((with_reducible refine f123 fun w' hb=>?_);replace hh:=hh.bl hb)|(with_reducible first|refine ifE (fun hc=>?_) (fun hc=>?_)|refine And.intro ?_ ?_|exact vr)|fail
 all_goals refine k _ _ _ _ _ _ _ _ hh.done ?_
 all_goals simp_all [RowP,heldT,ByteArray.size]
theorem f128 {c:Int} {w:World} {K:Value→World→Prop} (k:RowK c (turnedT c) w K):zaj Tryz.prog 128 #[.int .i64 c] w K:=by
 refine call128 _ _ _ ?_
 unfold F128
 have hh:=Hp.start w
 repeat' first|(with_reducible first|refine kk_ ?_|refine nx hh ?_|refine allW fun w' hh=>?_|exact sd_)|((with_reducible refine f123 fun w' hb=>?_);replace hh:=hh.bl hb)|((with_reducible refine f156 fun cd s imm inn out gas e w' hb hr=>?_);replace hh:=hh.bl hb)|(with_reducible first|refine ifE (fun hc=>?_) (fun hc=>?_)|refine And.intro ?_ ?_|exact vr)|fail
 all_goals refine k _ _ _ _ _ _ _ _ hh.done ?_
 all_goals first
  | ((have e':turnedT c=outwardT c:=by ((unfold turnedT;repeat' split) <;> first|contradiction|rfl));(rw [e'];exact hr))
  | simp_all [RowP,turnedT,ByteArray.size]
end Go.Proofs.YtlfhngoeecjfpaaGreatDoor.B
namespace Go.Proofs.YtlfhngoeecjfpaaGreatDoor.W
open Go Go.Proofs.YtlfhngoeecjfpaaGreatDoor.Sh
def B35_1 (R:KV) (l:Nat) (r:Loop) (x7:Addr) (x8:Addr) (args:List Value) (w:World):Prop :=
 readyA w l r (hG args fun q10 ys0=>hI .i64 q10 fun n1 q11=>hI .i64 q11 fun n2 q12=>hL q12 fun l1p l1l l1c q13=>hI .i64 q13 fun n3 q14=>zav q14 (zav ys0 (zaf w (.cells #[(i6 0),(i6 0),(.slice none 0 0),(i6 0)] 70) fun w1=>sU 70 ⟨w.heap.size,0,none⟩ (.agg #[(i6 n1),(i6 n2),(.slice l1p l1l l1c),(i6 n3)]) w1 fun w2=>readyA w2 l r (putK w2 l (zbs r .busy none) fun w3=>ldK PP w3 x8 fun v1=>asM v1 fun m1=>gI .i64 w3 ⟨w.heap.size,0,none⟩ fun n4=>gL w3 x7 fun l2p l2l l2c=>semU PP (Instr.mapUpdate 165 (.map m1) (i6 n4) (i6 (l2l:Nat))) w3 fun w4=>gL w4 x7 fun l3p l3l l3c=>mb13 w4 w.heap.size fun n5 n6 l4p l4l l4c n7=>zaf w4 (.cells #[(i6 n5),(i6 n6),(.slice l4p l4l l4c),(i6 n7)] 70) fun w5=>semK PP (Builtin.append_ #[148,148] 148 #[(.slice l3p l3l l3c),(.slice (some ⟨w4.heap.size,0,none⟩) 1 1)]) w5 fun v9 w6=>asL v9 fun l5p l5l l5c=>sU 148 x7 (.slice l5p l5l l5c) w6 fun w7=>stopA l r none R w7))))
def J35_4 (R:KV) (C_L35_3:OA→Int→Addr→Addr→Addr→OA→Nat→Nat→Int→Int→List Deferred→World→Prop) (x0:OA) (x1:Int) (x7:Addr) (x8:Addr) (x10:Addr) (x65p:OA) (x65l:Nat) (x65c:Nat) (x66:Int) (x67:Int) (ds:List Deferred) (w:World):Prop :=
 C_L35_3 x0 x1 x7 x8 x10 x65p x65l x65c x66 (IntKind.wrap .i64 (x67+1)) ds w
def J35_5 (R:KV) (C_L35_3:OA→Int→Addr→Addr→Addr→OA→Nat→Nat→Int→Int→List Deferred→World→Prop) (x0:OA) (x1:Int) (x7:Addr) (x8:Addr) (x10:Addr) (x12:Addr) (x13:Addr) (x65p:OA) (x65l:Nat) (x65c:Nat) (x66:Int) (x67:Int) (ds:List Deferred) (w:World):Prop :=
 ma12 w x13 fun n1 n2 l1p l1l l1c n3=>CV 37 #[(.agg #[(i6 n1),(i6 n2),(.slice l1p l1l l1c),(i6 n3)])] w fun v5 w1=>dT9 v5 fun n4 b1=>CV 35 #[(.pointer x0),(i6 n4)] w1 fun v6 w2=>asB v6 fun b2=>ifB (!b2) (zcx ds w2 fun w3=>R (.bool false) w3) (optP x0 fun ad1=>gP w2 ad1 fun p1=>CV 77 #[(.pointer p1),(i6 n4)] w2 fun v8 w4=>dT26 v8 fun n5 n6 n7 b3=>zaf w4 (.cells #[(i6 0),(i6 0),(i6 0)] 52) fun w5=>sU 52 ⟨w4.heap.size,0,none⟩ (.agg #[(i6 n5),(i6 n6),(i6 n7)]) w5 fun w6=>zbf w6 fun w7=>gI .i64 w7 x10 fun n8=>gI .i64 w7 (Addr.add x12 2) fun n9=>gI .i64 w7 ⟨w4.heap.size,0,none⟩ fun n10=>optP x0 fun ad2=>ldK PP w7 (Addr.add ad2 2) fun v12=>asM v12 fun m1=>semK PP (Instr.lookup 88 (.map m1) (i6 n4) false) w7 fun v13 w8=>dG27 v13 fun n11 n12 b4=>sU 3 x10 (i6 (if (IntKind.wrap .i64 ((IntKind.wrap .i64 (n9 - n10))+n11):Int) > n8 then (IntKind.wrap .i64 ((IntKind.wrap .i64 (n9 - n10))+n11)) else n8)) w7 fun w9=>gI .i64 w9 (Addr.add x13 1) fun n13=>ifB ((n13:Int) == 227) (zbf w9 fun w10=>gI .i64 w10 (Addr.add x10 1) fun n14=>optP x0 fun ad3=>ldK PP w10 (Addr.add ad3 2) fun v16=>asM v16 fun m2=>semK PP (Instr.lookup 88 (.map m2) (i6 n4) false) w10 fun v17 w11=>dG27 v17 fun n15 n16 b5=>sU 3 (Addr.add x10 1) (i6 (if (IntKind.wrap .i64 (1+n16):Int) > n14 then (IntKind.wrap .i64 (1+n16)) else n14)) w10 fun w12=>J35_4 R C_L35_3 x0 x1 x7 x8 x10 x65p x65l x65c x66 x67 ds w12) (zbf w9 fun w13=>gI .i64 w13 (Addr.add x10 1) fun n17=>optP x0 fun ad4=>ldK PP w13 (Addr.add ad4 2) fun v19=>asM v19 fun m3=>semK PP (Instr.lookup 88 (.map m3) (i6 n4) false) w13 fun v20 w14=>dG27 v20 fun n18 n19 b6=>sU 3 (Addr.add x10 1) (i6 (if (n19:Int) > n17 then n19 else n17)) w13 fun w15=>J35_4 R C_L35_3 x0 x1 x7 x8 x10 x65p x65l x65c x66 x67 ds w15))
def J35_6 (R:KV) (x0:OA) (x1:Int) (x10:Addr) (ds:List Deferred) (w:World):Prop :=
 zbf w fun w1=>optP x0 fun ad1=>ldK PP w1 (Addr.add ad1 2) fun v1=>asM v1 fun m1=>ma28 w1 x10 fun n1 n2 b1=>semU PP (Instr.mapUpdate 88 (.map m1) (i6 x1) (.agg #[(i6 n1),(i6 n2),(.bool b1)])) w1 fun w2=>zcx ds w2 fun w3=>R (.bool true) w3
def L35_7 (R:KV):Nat→OA→Int→Addr→Addr→OA→Nat→Nat→Int→Int→List Deferred→World→Prop
 | 0=>fun _ _ _ _ _ _ _ _ _ _ _=>False
 | k+1=>fun x0 x1 x7 x10 x160p x160l x160c x161 x162 ds w=>ifB (decide ((x162:Int) < x161)) (semK PP (Instr.indexAt 29 (.slice x160p x160l x160c) (i6 x162)) w fun v1 w1=>asA v1 fun ad1=>gI .i64 w1 ad1 fun n1=>zbf w1 fun w2=>optP x0 fun ad2=>ldK PP w2 (Addr.add ad2 1) fun v3=>asM v3 fun m1=>gL w2 x7 fun l1p l1l l1c=>semK PP (Instr.indexAt 148 (.slice l1p l1l l1c) (i6 n1)) w2 fun v5 w3=>asA v5 fun ad3=>gI .i64 w2 ad3 fun n2=>gL w2 x7 fun l2p l2l l2c=>semK PP (Instr.indexAt 148 (.slice l2p l2l l2c) (i6 n1)) w2 fun v8 w4=>asA v8 fun ad4=>ma12 w2 ad4 fun n3 n4 l3p l3l l3c n5=>CV 79 #[(.pointer x0),(i6 x1),(.agg #[(i6 n3),(i6 n4),(.slice l3p l3l l3c),(i6 n5)])] w2 fun v13 w5=>dG17 v13 fun n6 n7 b1 n8 n9 b2=>(ldK PP w5 (Addr.add ad2 1) fun v14=>asM v14 fun m2=>((.map m2):Value)=(.map m1))∧((gL w5 x7 fun l4p l4l l4c=>((.slice l4p l4l l4c):Value)=(.slice l1p l1l l1c))∧((gI .i64 w5 ad3 fun n10=>((i6 n10):Value)=(i6 n2))∧(semU PP (Instr.mapUpdate 87 (.map m1) (.agg #[(i6 x1),(i6 n2)]) (.agg #[(u6 n6),(u6 n7),(.bool b1),(u6 n8),(u6 n9),(.bool b2)])) w5 fun w6=>L35_7 R k x0 x1 x7 x10 x160p x160l x160c x161 (IntKind.wrap .i64 (x162+1)) ds w6)))) (J35_6 R x0 x1 x10 ds w)
def J35_2 (R:KV) (x0:OA) (x1:Int) (x7:Addr) (x8:Addr) (x10:Addr) (ds:List Deferred) (w:World):Prop :=
 gL w x7 fun l1p l1l l1c=>ldK PP w x8 fun v2=>asM v2 fun m1=>CV 78 #[(.slice l1p l1l l1c),(.map m1)] w fun v3 w1=>dT29 v3 fun l2p l2l l2c b1=>ifB (!b1) (zcx ds w1 fun w2=>R (.bool false) w2) (∃ m,L35_7 R m x0 x1 x7 x10 l2p l2l l2c (l2l:Nat) 0 ds w1)
def L35_3 (R:KV):Nat→OA→Int→Addr→Addr→Addr→OA→Nat→Nat→Int→Int→List Deferred→World→Prop
 | 0=>fun _ _ _ _ _ _ _ _ _ _ _ _=>False
 | k+1=>fun x0 x1 x7 x8 x10 x65p x65l x65c x66 x67 ds w=>ifB (decide ((x67:Int) < x66)) (semK PP (Instr.indexAt 150 (.slice x65p x65l x65c) (i6 x67)) w fun v1 w1=>asA v1 fun ad1=>ma7 w1 ad1 fun n1 n2 n3=>zaf w1 (.cells #[(i6 0),(i6 0),(i6 0)] 158) fun w2=>sU 158 ⟨w1.heap.size,0,none⟩ (.agg #[(i6 n1),(i6 n2),(i6 n3)]) w2 fun w3=>gI .i64 w3 x10 fun n4=>gI .i64 w3 ⟨w1.heap.size,2,none⟩ fun n5=>sU 3 x10 (i6 (if (n5:Int) > n4 then n5 else n4)) w3 fun w4=>gL w4 x7 fun l1p l1l l1c=>semK PP (Instr.indexAt 148 (.slice l1p l1l l1c) (i6 x67)) w4 fun v8 w5=>asA v8 fun ad2=>ma12 w5 ad2 fun n6 n7 l2p l2l l2c n8=>zaf w5 (.cells #[(i6 0),(i6 0),(.slice none 0 0),(i6 0)] 70) fun w6=>sU 70 ⟨w5.heap.size,0,none⟩ (.agg #[(i6 n6),(i6 n7),(.slice l2p l2l l2c),(i6 n8)]) w6 fun w7=>gI .i64 w7 ⟨w5.heap.size,1,none⟩ fun n9=>ifB ((n9:Int) != 227) (gI .i64 w7 ⟨w5.heap.size,1,none⟩ fun n10=>ifB ((n10:Int) != 229) (J35_4 R (L35_3 R k) x0 x1 x7 x8 x10 x65p x65l x65c x66 x67 ds w7) (J35_5 R (L35_3 R k) x0 x1 x7 x8 x10 ⟨w1.heap.size,0,none⟩ ⟨w5.heap.size,0,none⟩ x65p x65l x65c x66 x67 ds w7)) (J35_5 R (L35_3 R k) x0 x1 x7 x8 x10 ⟨w1.heap.size,0,none⟩ ⟨w5.heap.size,0,none⟩ x65p x65l x65c x66 x67 ds w7)) (J35_2 R x0 x1 x7 x8 x10 ds w)
def J35_0 (R:KV) (x0:OA) (x1:Int) (x7:Addr) (x8:Addr) (ds:List Deferred) (w:World):Prop :=
 zaf w (.cells #[(i6 0),(i6 0),(.bool false)] 99) fun w1=>sU 99 ⟨w.heap.size,0,none⟩ (.agg #[(i6 0),(i6 0),(.bool false)]) w1 fun w2=>optP x0 fun ad1=>gP w2 ad1 fun p1=>CV 76 #[(.pointer p1),(i6 x1)] w2 fun v2 w3=>asL v2 fun l1p l1l l1c=>∃ m,L35_3 R m x0 x1 x7 x8 ⟨w.heap.size,0,none⟩ l1p l1l l1c (l1l:Nat) 0 ds w3
def F35 (a0:OA) (a1:Int) (w:World) (R:KV):Prop :=
 optP a0 fun ad1=>ldK PP w (Addr.add ad1 2) fun v1=>asM v1 fun m1=>semK PP (Instr.lookup 88 (.map m1) (i6 a1) true) w fun v2 w1=>dT30 v2 fun n1 n2 b1 b2=>zaf w1 (.cells #[(i6 0),(i6 0),(.bool false)] 99) fun w2=>sU 99 ⟨w1.heap.size,0,none⟩ (.agg #[(i6 n1),(i6 n2),(.bool b1)]) w2 fun w3=>ifB b2 (gB w3 ⟨w1.heap.size,2,none⟩ fun b3=>R (.bool (!b3)) w3) (optP a0 fun ad2=>ldK PP w3 (Addr.add ad2 2) fun v4=>asM v4 fun m2=>semU PP (Instr.mapUpdate 88 (.map m2) (i6 a1) (.agg #[(i6 0),(i6 0),(.bool true)])) w3 fun w4=>zaf w4 (.cells #[(.slice none 0 0)] 148) fun w5=>zaf w5 (.map #[] 0) fun w6=>zaf w6 (.cells #[(.map none)] 165) fun w7=>sU 165 ⟨w6.heap.size,0,none⟩ (.map (some w5.heap.size)) w7 fun w8=>optP a0 fun ad3=>gP w8 ad3 fun p1=>CV 21 #[(.pointer p1),(i6 a1)] w8 fun v6 w9=>asL v6 fun l1p l1l l1c=>CV 75 #[(.slice l1p l1l l1c)] w9 fun v7 w10=>entO w10 fun lz1 rz1 mkz1 waz1=>yieldA PP lz1 (fun args wy F=>B35_1 F lz1 rz1 ⟨w4.heap.size,0,none⟩ ⟨w6.heap.size,0,none⟩ args wy) (enterV PP v7 #[.func (.yield lz1) #[] #[]] waz1 fun _ wbz1=>endA lz1 rz1 wbz1 fun pe wcz1=>jumpP pe wcz1 (fun wdz1=>J35_0 R a0 a1 ⟨w4.heap.size,0,none⟩ ⟨w6.heap.size,0,none⟩ (mkz1++[]) wdz1) (fun wdz1=>zcx (mkz1++[]) wdz1 fun w11=>R (.bool false) w11) (fun jd wdz1=>cond (Nat.beq jd 0) (J35_0 R a0 a1 ⟨w4.heap.size,0,none⟩ ⟨w6.heap.size,0,none⟩ (mkz1++[]) wdz1) (False)) (fun jt wdz1=>False)))
def A35 (R:KV):Ann:=(sN (sN (sN (sN (sN (.join (fun e ds w=>asP (e 0) fun x0=>aI e 1 fun x1=>asA (e 7) fun x7=>asA (e 8) fun x8=>J35_0 R x0 x1 x7 x8 ds w) (sN (.block (.rng [.agg [(.i .i64),(.i .i64),.sl,(.i .i64)]] (fun l1 r1 F1=>.no) (fun l1 r1 F1=>.no)))) (sN (.join (fun e ds w=>asP (e 0) fun x0=>aI e 1 fun x1=>asA (e 7) fun x7=>asA (e 8) fun x8=>asA (e 10) fun x10=>J35_2 R x0 x1 x7 x8 x10 ds w) (sN (.block (.loop (fun m e ds w=>asP (e 0) fun x0=>aI e 1 fun x1=>asA (e 7) fun x7=>asA (e 8) fun x8=>asA (e 10) fun x10=>asL (e 65) fun x65p x65l x65c=>aI e 66 fun x66=>aI e 67 fun x67=>L35_3 R m x0 x1 x7 x8 x10 x65p x65l x65c x66 x67 ds w) (fun kL35_3=>(sN (sN (.join (fun e ds w=>asP (e 0) fun x0=>aI e 1 fun x1=>asA (e 7) fun x7=>asA (e 8) fun x8=>asA (e 10) fun x10=>asL (e 65) fun x65p x65l x65c=>aI e 66 fun x66=>aI e 67 fun x67=>J35_4 R (L35_3 R kL35_3) x0 x1 x7 x8 x10 x65p x65l x65c x66 x67 ds w) (.block (sN (sN (sN (.join (fun e ds w=>asP (e 0) fun x0=>aI e 1 fun x1=>asA (e 7) fun x7=>asA (e 8) fun x8=>asA (e 10) fun x10=>asA (e 12) fun x12=>asA (e 13) fun x13=>asL (e 65) fun x65p x65l x65c=>aI e 66 fun x66=>aI e 67 fun x67=>J35_5 R (L35_3 R kL35_3) x0 x1 x7 x8 x10 x12 x13 x65p x65l x65c x66 x67 ds w) .no (sN (sN (sN (.seq (.draw [0,1,2,3,4,5,6,7,8,9,10,11,12,13,14,15,16,17]) (sN (.cond (.draw [0,1,2,3,4,5,6,7,8,9,10,11,12]) (.draw [0,1,2,3,4,5,6,7,8,9,10,11])))))))))))) .no))))))) (sN (sN (.join (fun e ds w=>asP (e 0) fun x0=>aI e 1 fun x1=>asA (e 10) fun x10=>J35_6 R x0 x1 x10 ds w) (sN (.block (.loop (fun m e ds w=>asP (e 0) fun x0=>aI e 1 fun x1=>asA (e 7) fun x7=>asA (e 10) fun x10=>asL (e 160) fun x160p x160l x160c=>aI e 161 fun x161=>aI e 162 fun x162=>L35_7 R m x0 x1 x7 x10 x160p x160l x160c x161 x162 ds w) (fun kL35_7=>(sN (sN (.seq (.block (sN (.draw [0,1,2,3,4,5,6,7,8,9,10,11,12,13,14,15,16,17,18]))) .no))))))) (.seq (.draw [0,1,2,3,4,5,6]) .no))))))))))))
theorem sides35 (R:KV):zak PP Tryz.f35 (A35 R) R:=by
 exact (zt (zt (zt (zt (zt (ai (fun e ds w h=>eP h fun z0 h=>eI h fun z1 h=>eA h fun z7 h=>eA h fun z8 h=>by rw [← zag (aC z0 (aC z1 (aC z7 (aC z8 aN))))];exact zq h) (ai (zt (fun l1 r1 F1=>ai trivial trivial)) (zt (ai (fun e ds w h=>eP h fun z0 h=>eI h fun z1 h=>eA h fun z7 h=>eA h fun z8 h=>eA h fun z10 h=>by rw [← zag (aC z0 (aC z1 (aC z7 (aC z8 (aC z10 aN)))))];exact zq h) (ai (zt (ai (fun e ds w h=>eP h fun z0 h=>eI h fun z1 h=>eA h fun z7 h=>eA h fun z8 h=>eA h fun z10 h=>eL h fun z65 h=>eI h fun z66 h=>eI h fun z67 h=>h) (ai (fun kL35_3 e ds w h=>eP h fun z0 h=>eI h fun z1 h=>eA h fun z7 h=>eA h fun z8 h=>eA h fun z10 h=>eL h fun z65 h=>eI h fun z66 h=>eI h fun z67 h=>by rw [← zag (aC z0 (aC z1 (aC z7 (aC z8 (aC z10 (aC z65 (aC z66 (aC z67 aN))))))))];exact zq h) (fun kL35_3=>(zt (zt (ai (fun e ds w h=>eP h fun z0 h=>eI h fun z1 h=>eA h fun z7 h=>eA h fun z8 h=>eA h fun z10 h=>eL h fun z65 h=>eI h fun z66 h=>eI h fun z67 h=>by rw [← zag (aC z0 (aC z1 (aC z7 (aC z8 (aC z10 (aC z65 (aC z66 (aC z67 aN))))))))];exact zq h) (ai (zt (zt (zt (ai (fun e ds w h=>eP h fun z0 h=>eI h fun z1 h=>eA h fun z7 h=>eA h fun z8 h=>eA h fun z10 h=>eA h fun z12 h=>eA h fun z13 h=>eL h fun z65 h=>eI h fun z66 h=>eI h fun z67 h=>by rw [← zag (aC z0 (aC z1 (aC z7 (aC z8 (aC z10 (aC z12 (aC z13 (aC z65 (aC z66 (aC z67 aN))))))))))];exact zq h) (zt (zt (zt (zt (zt (zt (ai trivial trivial))))))))))) trivial)))))))) (zt (zt (ai (fun e ds w h=>eP h fun z0 h=>eI h fun z1 h=>eA h fun z10 h=>by rw [← zag (aC z0 (aC z1 (aC z10 aN)))];exact zq h) (ai (zt (ai (fun e ds w h=>eP h fun z0 h=>eI h fun z1 h=>eA h fun z7 h=>eA h fun z10 h=>eL h fun z160 h=>eI h fun z161 h=>eI h fun z162 h=>h) (ai (fun kL35_7 e ds w h=>eP h fun z0 h=>eI h fun z1 h=>eA h fun z7 h=>eA h fun z10 h=>eL h fun z160 h=>eI h fun z161 h=>eI h fun z162 h=>by rw [← zag (aC z0 (aC z1 (aC z7 (aC z10 (aC z160 (aC z161 (aC z162 aN)))))))];exact zq h) (fun kL35_7=>(zt (zt (ai (ai trivial trivial) trivial))))))) (ai trivial trivial)))))))))))))))
theorem call35 (a0:OA) (a1:Int) (w:World) (R:KV) (h:F35 a0 a1 w R):zaj PP 35 #[(.pointer a0),(i6 a1)] w R :=
 zah (an:=A35 R) Tryz.func35 rfl (sides35 R) (Eq.mp (by kernel_rfl) h)

def F36 (a0:Int) (w:World) (R:KV):Prop :=
 zaf w (.cells #[(i6 0),(.string ⟨#[]⟩),(i6 0),(i6 0),(i6 0),(i6 0),(.bool false)] 101) fun w1=>CV 80 #[(i6 a0)] w1 fun v1 w2=>dG20 v1 fun n1 s1 n2 n3 n4 n5 b1=>zaf w2 (.cells #[(i6 0),(.string ⟨#[]⟩),(i6 0),(i6 0),(i6 0),(i6 0),(.bool false)] 101) fun w3=>sU 101 ⟨w2.heap.size,0,none⟩ (.agg #[(i6 n1),(.string s1),(i6 n2),(i6 n3),(i6 n4),(i6 n5),(.bool b1)]) w3 fun w4=>zbf w4 fun w5=>mb24 w5 w2.heap.size fun n6 s2 n7 n8 n9 n10 b2=>ldK PP w5 ⟨w2.heap.size,1,none⟩ fun v9=>asS v9 fun s3=>sU 101 ⟨w.heap.size,0,none⟩ (.agg #[(i6 n6),(.string s2),(i6 n7),(i6 n8),(i6 n9),(i6 n10),(.bool b2)]) w5 fun w6=>(ldK PP w6 ⟨w2.heap.size,1,none⟩ fun v10=>asS v10 fun s4=>((.string s4):Value)=(.string s3))∧(mb24 w6 w.heap.size fun n11 s5 n12 n13 n14 n15 b3=>R (.tuple #[(.agg #[(i6 n11),(.string s5),(i6 n12),(i6 n13),(i6 n14),(i6 n15),(.bool b3)]),(.bool (!((s3:ByteArray).toList == (⟨#[]⟩:ByteArray).toList)))]) w6)
def A36 (R:KV):Ann:=(sN (sN (.seq (.draw [0,1,2,3,4,5]) .no)))
theorem sides36 (R:KV):zak PP Tryz.f36 (A36 R) R:=by
 exact (zt (zt (ai trivial trivial)))
theorem call36 (a0:Int) (w:World) (R:KV) (h:F36 a0 w R):zaj PP 36 #[(i6 a0)] w R :=
 zah (an:=A36 R) Tryz.func36 rfl (sides36 R) (Eq.mp (by kernel_rfl) h)

def J37_1 (R:KV) (x1:Addr) (x16:Bool) (w:World):Prop :=
 ifB x16 (gL w (Addr.add x1 2) fun l1p l1l l1c=>semK PP (Instr.indexAt 22 (.slice l1p l1l l1c) (i6 0)) w fun v2 w1=>asA v2 fun ad1=>gI .u8 w1 ad1 fun n1=>R (.tuple #[(i6 (IntKind.wrap .i64 n1)),(.bool true)]) w1) (R (.tuple #[(i6 0),(.bool false)]) w)
def J37_0 (R:KV) (x1:Addr) (x8:Int) (x9:Bool) (w:World):Prop :=
 ifB x9 (gL w (Addr.add x1 2) fun l1p l1l l1c=>CV 82 #[(.slice l1p l1l l1c)] w fun v2 w1=>asI .i64 v2 fun n1=>R (.tuple #[(i6 n1),(.bool true)]) w1) (ifB ((x8:Int) == 236) (J37_1 R x1 ((x8:Int) == 236) w) (J37_1 R x1 ((x8:Int) == 238) w))
def F37 (a0_0:Int) (a0_1:Int) (a0_2p:OA) (a0_2l:Nat) (a0_2c:Nat) (a0_3:Int) (w:World) (R:KV):Prop :=
 zaf w (.cells #[(i6 a0_0),(i6 a0_1),(.slice a0_2p a0_2l a0_2c),(i6 a0_3)] 70) fun w1=>mb13 w1 w.heap.size fun n1 n2 l1p l1l l1c n3=>CV 81 #[(.agg #[(i6 n1),(i6 n2),(.slice l1p l1l l1c),(i6 n3)])] w1 fun v5 w2=>asB v5 fun b1=>ifB (!b1) (R (.tuple #[(i6 0),(.bool false)]) w2) (gI .i64 w2 ⟨w.heap.size,1,none⟩ fun n4=>ifB ((n4:Int) == 227) (J37_0 R ⟨w.heap.size,0,none⟩ n4 ((n4:Int) == 227) w2) (ifB ((n4:Int) == 229) (J37_0 R ⟨w.heap.size,0,none⟩ n4 ((n4:Int) == 229) w2) (J37_0 R ⟨w.heap.size,0,none⟩ n4 ((n4:Int) == 209) w2)))
def A37 (R:KV):Ann:=(sN (sN (.seq (sN (.block (.join (fun e ds w=>nilD ds (asA (e 1) fun x1=>aI e 8 fun x8=>asB (e 9) fun x9=>J37_0 R x1 x8 x9 w)) .no (.cond .no (.join (fun e ds w=>nilD ds (asA (e 1) fun x1=>asB (e 16) fun x16=>J37_1 R x1 x16 w)) .no .no))))) .no)))
theorem sides37 (R:KV):zak PP Tryz.f37 (A37 R) R:=by
 exact (zt (zt (ai (zt (ai (zsi fun e w h=>eA h fun z1 h=>eI h fun z8 h=>eB h fun z9 h=>by rw [← zag (aC z1 (aC z8 (aC z9 aN)))];exact zq h) (zt (zt (ai (zsi fun e w h=>eA h fun z1 h=>eB h fun z16 h=>by rw [← zag (aC z1 (aC z16 aN))];exact zq h) (ai trivial trivial)))))) trivial)))
theorem call37 (a0_0:Int) (a0_1:Int) (a0_2p:OA) (a0_2l:Nat) (a0_2c:Nat) (a0_3:Int) (w:World) (R:KV) (h:F37 a0_0 a0_1 a0_2p a0_2l a0_2c a0_3 w R):zaj PP 37 #[(.agg #[(i6 a0_0),(i6 a0_1),(.slice a0_2p a0_2l a0_2c),(i6 a0_3)])] w R :=
 zah (an:=A37 R) Tryz.func37 rfl (sides37 R) (Eq.mp (by kernel_rfl) h)

def F38 (a0:OA) (a1:Int) (w:World) (R:KV):Prop :=
 ifB (decide ((a1:Int) ≥ 0)) (optP a0 fun ad1=>gL w (Addr.add (Addr.add ad1 1) 1) fun l1p l1l l1c=>R (.bool (decide ((a1:Int) < (l1l:Nat)))) w) (R (.bool false) w)
def A38 (R:KV):Ann:=.no
theorem sides38 (R:KV):zak PP Tryz.f38 (A38 R) R:=by
 trivial
theorem call38 (a0:OA) (a1:Int) (w:World) (R:KV) (h:F38 a0 a1 w R):zaj PP 38 #[(.pointer a0),(i6 a1)] w R :=
 zah (an:=A38 R) Tryz.func38 rfl (sides38 R) (Eq.mp (by kernel_rfl) h)

def J39_1 (R:KV) (x0p:OA) (x0l:Nat) (x0c:Nat) (x1:Int) (x4:Addr) (x6:Addr) (x8:Int) (w:World):Prop :=
 semK PP (Instr.makeSlice 22 (i6 x8) (i6 x8)) w fun v1 w1=>asL v1 fun l1p l1l l1c=>semK PP (Instr.sliceAt 22 (.slice x0p x0l x0c) (some (i6 (IntKind.wrap .i64 (x1+1)))) none none) w1 fun v2 w2=>asL v2 fun l2p l2l l2c=>semK PP (Builtin.copy_ #[22,22] 3 #[(.slice l1p l1l l1c),(.slice l2p l2l l2c)]) w2 fun v3 w3=>asI .i64 v3 fun n1=>gI .i64 w3 x6 fun n2=>sU 70 x4 (.agg #[(i6 x1),(i6 n2),(.slice l1p l1l l1c),(i6 (IntKind.wrap .i64 ((IntKind.wrap .i64 (x1+1))+x8)))]) w3 fun w4=>ma12 w4 x4 fun n3 n4 l3p l3l l3c n5=>R (.tuple #[(.agg #[(i6 n3),(i6 n4),(.slice l3p l3l l3c),(i6 n5)]),(i6 0)]) w4
def J39_0 (R:KV) (x0p:OA) (x0l:Nat) (x0c:Nat) (x1:Int) (x4:Addr) (w:World):Prop :=
 semK PP (Instr.indexAt 22 (.slice x0p x0l x0c) (i6 x1)) w fun v1 w1=>asA v1 fun ad1=>gI .u8 w1 ad1 fun n1=>CV 36 #[(i6 (IntKind.wrap .i64 n1))] w1 fun v3 w2=>dT19 v3 fun n2 s1 n3 n4 n5 n6 b1 b2=>zaf w2 (.cells #[(i6 0),(.string ⟨#[]⟩),(i6 0),(i6 0),(i6 0),(i6 0),(.bool false)] 101) fun w3=>sU 101 ⟨w2.heap.size,0,none⟩ (.agg #[(i6 n2),(.string s1),(i6 n3),(i6 n4),(i6 n5),(i6 n6),(.bool b1)]) w3 fun w4=>ifB (!b2) (sU 70 x4 (.agg #[(i6 0),(i6 0),(.slice none 0 0),(i6 0)]) w4 fun w5=>ma12 w5 x4 fun n7 n8 l1p l1l l1c n9=>R (.tuple #[(.agg #[(i6 n7),(i6 n8),(.slice l1p l1l l1c),(i6 n9)]),(i6 60)]) w5) (zbf w4 fun w6=>mb24 w6 w2.heap.size fun n10 s2 n11 n12 n13 n14 b3=>semK PP (Instr.sliceAt 22 (.slice x0p x0l x0c) (some (i6 (IntKind.wrap .i64 (x1+1)))) none none) w6 fun v15 w7=>asL v15 fun l2p l2l l2c=>CV 83 #[(.agg #[(i6 n10),(.string s2),(i6 n11),(i6 n12),(i6 n13),(i6 n14),(.bool b3)]),(.slice l2p l2l l2c)] w6 fun v16 w8=>dT9 v16 fun n15 b4=>ifB (!b4) (sU 70 x4 (.agg #[(i6 0),(i6 0),(.slice none 0 0),(i6 0)]) w8 fun w9=>ma12 w9 x4 fun n16 n17 l3p l3l l3c n18=>R (.tuple #[(.agg #[(i6 n16),(i6 n17),(.slice l3p l3l l3c),(i6 n18)]),(i6 61)]) w9) (ifB (decide ((n15:Int) > (IntKind.wrap .i64 ((IntKind.wrap .i64 ((x0l:Nat) - x1)) - 1)))) (sU 70 x4 (.agg #[(i6 0),(i6 0),(.slice none 0 0),(i6 0)]) w8 fun w10=>ma12 w10 x4 fun n19 n20 l4p l4l l4c n21=>R (.tuple #[(.agg #[(i6 n19),(i6 n20),(.slice l4p l4l l4c),(i6 n21)]),(i6 61)]) w10) (J39_1 R x0p x0l x0c x1 x4 ⟨w2.heap.size,0,none⟩ n15 w8)))
def F39 (a0p:OA) (a0l:Nat) (a0c:Nat) (a1:Int) (w:World) (R:KV):Prop :=
 zaf w (.cells #[(i6 0),(i6 0),(.slice none 0 0),(i6 0)] 70) fun w1=>ifB (decide ((a1:Int) < 0)) (sU 70 ⟨w.heap.size,0,none⟩ (.agg #[(i6 0),(i6 0),(.slice none 0 0),(i6 0)]) w1 fun w2=>mb13 w2 w.heap.size fun n1 n2 l1p l1l l1c n3=>R (.tuple #[(.agg #[(i6 n1),(i6 n2),(.slice l1p l1l l1c),(i6 n3)]),(i6 1)]) w2) (ifB (decide ((a1:Int) ≥ (a0l:Nat))) (sU 70 ⟨w.heap.size,0,none⟩ (.agg #[(i6 0),(i6 0),(.slice none 0 0),(i6 0)]) w1 fun w3=>mb13 w3 w.heap.size fun n4 n5 l2p l2l l2c n6=>R (.tuple #[(.agg #[(i6 n4),(i6 n5),(.slice l2p l2l l2c),(i6 n6)]),(i6 1)]) w3) (J39_0 R a0p a0l a0c a1 ⟨w.heap.size,0,none⟩ w1))
def A39 (R:KV):Ann:=(sN (.join (fun e ds w=>nilD ds (asL (e 0) fun x0p x0l x0c=>aI e 1 fun x1=>asA (e 4) fun x4=>J39_0 R x0p x0l x0c x1 x4 w)) .no (sN (sN (.seq (.draw [0,1,2,3,4,5,6,7,8,9,10]) (.join (fun e ds w=>nilD ds (asL (e 0) fun x0p x0l x0c=>aI e 1 fun x1=>asA (e 4) fun x4=>asA (e 6) fun x6=>aI e 8 fun x8=>J39_1 R x0p x0l x0c x1 x4 x6 x8 w)) .no .no))))))
theorem sides39 (R:KV):zak PP Tryz.f39 (A39 R) R:=by
 exact (zt (ai (zsi fun e w h=>eL h fun z0 h=>eI h fun z1 h=>eA h fun z4 h=>by rw [← zag (aC z0 (aC z1 (aC z4 aN)))];exact zq h) (zt (zt (zt (zt (ai (zsi fun e w h=>eL h fun z0 h=>eI h fun z1 h=>eA h fun z4 h=>eA h fun z6 h=>eI h fun z8 h=>by rw [← zag (aC z0 (aC z1 (aC z4 (aC z6 (aC z8 aN)))))];exact zq h) (ai trivial trivial))))))))
theorem call39 (a0p:OA) (a0l:Nat) (a0c:Nat) (a1:Int) (w:World) (R:KV) (h:F39 a0p a0l a0c a1 w R):zaj PP 39 #[(.slice a0p a0l a0c),(i6 a1)] w R :=
 zah (an:=A39 R) Tryz.func39 rfl (sides39 R) (Eq.mp (by kernel_rfl) h)

def L40_1 (R:KV):Nat→Addr→OA→Nat→Nat→OA→Nat→Nat→World→Prop
 | 0=>fun _ _ _ _ _ _ _ _=>False
 | k+1=>fun x1 x3p x3l x3c x4p x4l x4c w=>ifB (decide (((x4l:Nat):Int) > 0)) (zbf w fun w1=>gI .i64 w1 (Addr.add x1 3) fun n1=>CV 82 #[(.slice x4p x4l x4c)] w1 fun v2 w2=>asI .i64 v2 fun n2=>(gI .i64 w2 (Addr.add x1 3) fun n3=>((i6 n3):Value)=(i6 n1))∧(zaf w2 (.cells #[(i6 (IntKind.wrap .i64 (n1+(IntKind.wrap .i64 (IntKind.wrap .i16 n2)))))] 3) fun w3=>semK PP (Builtin.append_ #[29,29] 29 #[(.slice x3p x3l x3c),(.slice (some ⟨w2.heap.size,0,none⟩) 1 1)]) w3 fun v4 w4=>asL v4 fun l1p l1l l1c=>semK PP (Instr.sliceAt 22 (.slice x4p x4l x4c) (some (i6 2)) none none) w4 fun v5 w5=>asL v5 fun l2p l2l l2c=>L40_1 R k x1 l1p l1l l1c l2p l2l l2c w5)) (R (.slice x3p x3l x3c) w)
def J40_0 (R:KV) (x1:Addr) (x3p:OA) (x3l:Nat) (x3c:Nat) (x4p:OA) (x4l:Nat) (x4c:Nat) (w:World):Prop :=
 ∃ m,L40_1 R m x1 x3p x3l x3c x4p x4l x4c w
def F40 (a0_0:Int) (a0_1:Int) (a0_2p:OA) (a0_2l:Nat) (a0_2c:Nat) (a0_3:Int) (w:World) (R:KV):Prop :=
 zaf w (.cells #[(i6 a0_0),(i6 a0_1),(.slice a0_2p a0_2l a0_2c),(i6 a0_3)] 70) fun w1=>mb13 w1 w.heap.size fun n1 n2 l1p l1l l1c n3=>CV 81 #[(.agg #[(i6 n1),(i6 n2),(.slice l1p l1l l1c),(i6 n3)])] w1 fun v5 w2=>asB v5 fun b1=>ifB (!b1) (R (.slice none 0 0) w2) (gL w2 ⟨w.heap.size,2,none⟩ fun l2p l2l l2c=>gI .i64 w2 ⟨w.heap.size,1,none⟩ fun n4=>ifB ((n4:Int) == 226) (semK PP (Instr.sliceAt 22 (.slice l2p l2l l2c) (some (i6 1)) none none) w2 fun v8 w3=>asL v8 fun l3p l3l l3c=>J40_0 R ⟨w.heap.size,0,none⟩ none 0 0 l3p l3l l3c w3) (ifB ((n4:Int) == 224) (ifB ((n4:Int) == 224) (J40_0 R ⟨w.heap.size,0,none⟩ none 0 0 l2p l2l l2c w2) (R (.slice none 0 0) w2)) (ifB ((n4:Int) == 225) (J40_0 R ⟨w.heap.size,0,none⟩ none 0 0 l2p l2l l2c w2) (R (.slice none 0 0) w2))))
def A40 (R:KV):Ann:=(sN (sN (sN (sN (.join (fun e ds w=>nilD ds (asA (e 1) fun x1=>asL (e 3) fun x3p x3l x3c=>asL (e 4) fun x4p x4l x4c=>J40_0 R x1 x3p x3l x3c x4p x4l x4c w)) .no (.seq (.block (.loop (fun m e ds w=>nilD ds (asA (e 1) fun x1=>asL (e 3) fun x3p x3l x3c=>asL (e 4) fun x4p x4l x4c=>L40_1 R m x1 x3p x3l x3c x4p x4l x4c w)) (fun kL40_1=>(sN (.seq (.block (.draw [0,1,2,3,4,5,6,7,8,9,10])) .no))))) .no))))))
theorem sides40 (R:KV):zak PP Tryz.f40 (A40 R) R:=by
 exact (zt (zt (zt (zt (ai (zsi fun e w h=>eA h fun z1 h=>eL h fun z3 h=>eL h fun z4 h=>by rw [← zag (aC z1 (aC z3 (aC z4 aN)))];exact zq h) (zt (ai (ai (zsi fun e w h=>eA h fun z1 h=>eL h fun z3 h=>eL h fun z4 h=>h) (ai (fun kL40_1=>zsi fun e w h=>eA h fun z1 h=>eL h fun z3 h=>eL h fun z4 h=>by rw [← zag (aC z1 (aC z3 (aC z4 aN)))];exact zq h) (fun kL40_1=>(zt (ai trivial trivial))))) trivial)))))))
theorem call40 (a0_0:Int) (a0_1:Int) (a0_2p:OA) (a0_2l:Nat) (a0_2c:Nat) (a0_3:Int) (w:World) (R:KV) (h:F40 a0_0 a0_1 a0_2p a0_2l a0_2c a0_3 w R):zaj PP 40 #[(.agg #[(i6 a0_0),(i6 a0_1),(.slice a0_2p a0_2l a0_2c),(i6 a0_3)])] w R :=
 zah (an:=A40 R) Tryz.func40 rfl (sides40 R) (Eq.mp (by kernel_rfl) h)

def D41r (a0:Addr) (a1:Addr) (w:World) (R:KV):Prop :=
 semK PP (do eqGuard .neq 20 (.tmp 5) (.const .nilIface) .nilIface .nilIface;binOp .neq 20 .nilIface .nilIface) w fun v1 w1=>asB v1 fun b1=>ifB b1 (semK PP (Instr.typeAssert .nilIface 20 112 false) w1 fun v2 w2=>dG31 v2 fun n1 n2=>zaf w2 (.cells #[(i6 0),(i6 0)] 112) fun w3=>sU 112 ⟨w2.heap.size,0,none⟩ (.agg #[(i6 n1),(i6 n2)]) w3 fun w4=>zbf w4 fun w5=>mb32 w5 w2.heap.size fun n3 n4=>sU 27 a0 (.agg #[(.slice none 0 0),(.slice none 0 0),(.slice none 0 0),(.slice none 0 0),(i6 0)]) w5 fun w6=>(gI .i64 w6 ⟨w2.heap.size,0,none⟩ fun n5=>((i6 n5):Value)=(i6 n3))∧((gI .i64 w6 ⟨w2.heap.size,1,none⟩ fun n6=>((i6 n6):Value)=(i6 n4))∧(sU 31 a1 (.agg #[(i6 n3),(.slice none 0 0),(i6 0),(i6 n4)]) w6 fun w7=>R (.tuple #[]) w7))) (R (.tuple #[]) w1)
theorem sidesD41r (K:FrameMode→World→Prop):fnDSides PP Tryz.f41 (.seq .no (.cond (.seq .no (.draw [0,1,2,3,4,5,6,7])) .no)) K:=by
 intro u'
 exact (zt (ai (ai trivial trivial) trivial))
theorem deferD41r (a0:Addr) (a1:Addr) (w:World) (K:FrameMode→World→Prop) (h:D41r a0 a1 w fun _ w=>K .returning w):DefV PP 41 #[(.pointer (some a0)),(.pointer (some a1))] .returning w K :=
 defR_of (fn:=Tryz.f41) (an:=(.seq .no (.cond (.seq .no (.draw [0,1,2,3,4,5,6,7])) .no))) (args:=[(.pointer (some a0)),(.pointer (some a1))]) Tryz.func41 rfl (sidesD41r K) (Eq.mp (by kernel_rfl) h)
def D41p (a0:Addr) (a1:Addr) (c_0:Int) (c_1:Int) (w:World) (R:KV):Prop :=
 semK PP (do eqGuard .neq 20 (.tmp 5) (.const .nilIface) (.iface 112 (.agg #[(i6 c_0),(i6 c_1)])) .nilIface;binOp .neq 20 (.iface 112 (.agg #[(i6 c_0),(i6 c_1)])) .nilIface) w fun v1 w1=>asB v1 fun b1=>ifB b1 (semK PP (Instr.typeAssert (.iface 112 (.agg #[(i6 c_0),(i6 c_1)])) 20 112 false) w1 fun v2 w2=>dG31 v2 fun n1 n2=>zaf w2 (.cells #[(i6 0),(i6 0)] 112) fun w3=>sU 112 ⟨w2.heap.size,0,none⟩ (.agg #[(i6 n1),(i6 n2)]) w3 fun w4=>zbf w4 fun w5=>mb32 w5 w2.heap.size fun n3 n4=>sU 27 a0 (.agg #[(.slice none 0 0),(.slice none 0 0),(.slice none 0 0),(.slice none 0 0),(i6 0)]) w5 fun w6=>(gI .i64 w6 ⟨w2.heap.size,0,none⟩ fun n5=>((i6 n5):Value)=(i6 n3))∧((gI .i64 w6 ⟨w2.heap.size,1,none⟩ fun n6=>((i6 n6):Value)=(i6 n4))∧(sU 31 a1 (.agg #[(i6 n3),(.slice none 0 0),(i6 0),(i6 n4)]) w6 fun w7=>R (.tuple #[]) w7))) (R (.tuple #[]) w1)
theorem sidesD41p (K:FrameMode→World→Prop):fnDSides PP Tryz.f41 (.seq .no (.cond (.seq .no (.draw [0,1,2,3,4,5,6,7])) .no)) K:=by
 intro u'
 exact (zt (ai (ai trivial trivial) trivial))
theorem deferD41p (a0:Addr) (a1:Addr) (c_0:Int) (c_1:Int) (older:List PanicEntry) (w:World) (K:FrameMode→World→Prop) (h:D41p a0 a1 c_0 c_1 w fun _ w=>K (.panicking ({ v:=(.iface 112 (.agg #[(i6 c_0),(i6 c_1)])),recovered:=true }::older)) w):DefV PP 41 #[(.pointer (some a0)),(.pointer (some a1))] (.panicking ({ v:=(.iface 112 (.agg #[(i6 c_0),(i6 c_1)])),recovered:=false }::older)) w K :=
 defR_of (fn:=Tryz.f41) (an:=(.seq .no (.cond (.seq .no (.draw [0,1,2,3,4,5,6,7])) .no))) (args:=[(.pointer (some a0)),(.pointer (some a1))]) Tryz.func41 rfl (sidesD41p K) (Eq.mp (by kernel_rfl) h)

def F42 (a0:OA) (a1:Int) (a2:Int) (w:World) (R:KV) (X:List PanicEntry→World→Prop):Prop :=
 zbt PP 43 #[(.pointer a0),(i6 1)] w (fun v1 w1=>dT3 v1 fun n1 n2=>zbt PP 44 #[(.pointer a0),(.bool ((n1:Int) == a1)),(i6 a2),(i6 n2)] w1 (fun v2 w3=>asT v2 fun t20=>zav t20 (R (.tuple #[]) w3)) (fun ch2 w4=>X ch2 w4)) (fun ch1 w2=>X ch1 w2)
def A42 (R:KV) (X:List PanicEntry→World→Prop):Ann:=(.seq .pan .pan)
theorem sides42 (R:KV) (X:List PanicEntry→World→Prop):fnXSides PP Tryz.f42 (A42 R X) R X:=by
 exact (ai trivial trivial)
theorem call42 (a0:OA) (a1:Int) (a2:Int) (w:World) (R:KV) (X:List PanicEntry→World→Prop) (h:F42 a0 a1 a2 w R X):zbt PP 42 #[(.pointer a0),(i6 a1),(i6 a2)] w R X :=
 callX_of (fn:=Tryz.f42) (an:=A42 R X) (args:=[(.pointer a0),(i6 a1),(i6 a2)]) Tryz.func42 rfl (sides42 R X) (Eq.mp (by kernel_rfl) h)

def L43_1 (R:KV) (X:List PanicEntry→World→Prop):Nat→OA→Int→Int→Int→Int→World→Prop
 | 0=>fun _ _ _ _ _ _=>False
 | k+1=>fun x0 x4 x5 x26 x27 w=>ifB (decide ((x27:Int) < x26)) (zbf w fun w1=>optP x0 fun ad1=>gL w1 ad1 fun l1p l1l l1c=>optP x0 fun ad2=>gI .i64 w1 (Addr.add ad2 1) fun n1=>semK PP (Instr.indexAt 22 (.slice l1p l1l l1c) (i6 n1)) w1 fun v3 w2=>asA v3 fun ad3=>gI .u8 w1 ad3 fun n2=>optP x0 fun ad4=>gI .i64 w1 (Addr.add ad4 1) fun n3=>optP x0 fun ad5=>sU 3 (Addr.add ad5 1) (i6 (IntKind.wrap .i64 (n3+1))) w1 fun w3=>L43_1 R X k x0 (bitI .or .i64 (IntKind.wrap .i64 (x4 * 2 ^ (min (8:Int).toNat 64))) (IntKind.wrap .i64 n2)) x5 x26 (IntKind.wrap .i64 (x27+1)) w3) (R (.tuple #[(i6 x4),(i6 x5)]) w)
def J43_0 (R:KV) (X:List PanicEntry→World→Prop) (x0:OA) (x1:Int) (x4:Int) (x5:Int) (w:World):Prop :=
 ∃ m,L43_1 R X m x0 x4 x5 x1 0 w
def F43 (a0:OA) (a1:Int) (w:World) (R:KV) (X:List PanicEntry→World→Prop):Prop :=
 optP a0 fun ad1=>gI .i64 w (Addr.add ad1 1) fun n1=>optP a0 fun ad2=>gL w ad2 fun l1p l1l l1c=>ifB (decide ((IntKind.wrap .i64 (n1+a1):Int) > (l1l:Nat))) (optP a0 fun ad3=>gL w ad3 fun l2p l2l l2c=>X [{ v:=(.iface 112 (.agg #[(i6 50),(i6 (l2l:Nat))])),recovered:=false }] w) (J43_0 R X a0 a1 0 n1 w)
def A43 (R:KV) (X:List PanicEntry→World→Prop):Ann:=(sN (sN (.join (fun e ds w=>nilD ds (asP (e 0) fun x0=>aI e 1 fun x1=>aI e 4 fun x4=>aI e 5 fun x5=>J43_0 R X x0 x1 x4 x5 w)) (sN (.cond .pan .no)) (.seq (sN (.block (.loop (fun m e ds w=>nilD ds (asP (e 0) fun x0=>aI e 4 fun x4=>aI e 5 fun x5=>aI e 26 fun x26=>aI e 27 fun x27=>L43_1 R X m x0 x4 x5 x26 x27 w)) (fun kL43_1=>(sN (sN (.seq (.block (.seq (.draw [0,1,2,3,4,5,6,7,8,9,10,11,12,13,14]) .no)) .no))))))) .no))))
theorem sides43 (R:KV) (X:List PanicEntry→World→Prop):fnXSides PP Tryz.f43 (A43 R X) R X:=by
 exact (zt (zt (ai (zsi fun e w h=>eP h fun z0 h=>eI h fun z1 h=>eI h fun z4 h=>eI h fun z5 h=>by rw [← zag (aC z0 (aC z1 (aC z4 (aC z5 aN))))];exact zq h) (ai (zt (ai trivial trivial)) (ai (zt (ai (zsi fun e w h=>eP h fun z0 h=>eI h fun z4 h=>eI h fun z5 h=>eI h fun z26 h=>eI h fun z27 h=>h) (ai (fun kL43_1=>zsi fun e w h=>eP h fun z0 h=>eI h fun z4 h=>eI h fun z5 h=>eI h fun z26 h=>eI h fun z27 h=>by rw [← zag (aC z0 (aC z4 (aC z5 (aC z26 (aC z27 aN)))))];exact zq h) (fun kL43_1=>(zt (zt (ai (ai trivial trivial) trivial))))))) trivial)))))
theorem call43 (a0:OA) (a1:Int) (w:World) (R:KV) (X:List PanicEntry→World→Prop) (h:F43 a0 a1 w R X):zbt PP 43 #[(.pointer a0),(i6 a1)] w R X :=
 callX_of (fn:=Tryz.f43) (an:=A43 R X) (args:=[(.pointer a0),(i6 a1)]) Tryz.func43 rfl (sides43 R X) (Eq.mp (by kernel_rfl) h)

def F44 (a0:OA) (a1:Bool) (a2:Int) (a3:Int) (w:World) (R:KV) (X:List PanicEntry→World→Prop):Prop :=
 ifB (!a1) (X [{ v:=(.iface 112 (.agg #[(i6 a2),(i6 a3)])),recovered:=false }] w) (R (.tuple #[]) w)
def A44 (R:KV) (X:List PanicEntry→World→Prop):Ann:=(sN (.cond .pan .no))
theorem sides44 (R:KV) (X:List PanicEntry→World→Prop):fnXSides PP Tryz.f44 (A44 R X) R X:=by
 exact (zt (ai trivial trivial))
theorem call44 (a0:OA) (a1:Bool) (a2:Int) (a3:Int) (w:World) (R:KV) (X:List PanicEntry→World→Prop) (h:F44 a0 a1 a2 a3 w R X):zbt PP 44 #[(.pointer a0),(.bool a1),(i6 a2),(i6 a3)] w R X :=
 callX_of (fn:=Tryz.f44) (an:=A44 R X) (args:=[(.pointer a0),(.bool a1),(i6 a2),(i6 a3)]) Tryz.func44 rfl (sides44 R X) (Eq.mp (by kernel_rfl) h)

def L45_0 (R:KV) (X:List PanicEntry→World→Prop):Nat→OA→Int→OA→Nat→Nat→Int→Int→Int→World→Prop
 | 0=>fun _ _ _ _ _ _ _ _ _=>False
 | k+1=>fun x0 x2 x8p x8l x8c x9 x20 x21 w=>ifB (decide ((x21:Int) < x20)) (zbt PP 43 #[(.pointer x0),(i6 x2)] w (fun v1 w1=>dT3 v1 fun n1 n2=>zbt PP 44 #[(.pointer x0),(.bool (decide ((n1:Int) > 0))),(i6 56),(i6 n2)] w1 (fun v2 w3=>asT v2 fun t20=>zav t20 (zaf w3 (.cells #[(i6 n1)] 3) fun w5=>semK PP (Builtin.append_ #[29,29] 29 #[(.slice x8p x8l x8c),(.slice (some ⟨w3.heap.size,0,none⟩) 1 1)]) w5 fun v3 w6=>asL v3 fun l1p l1l l1c=>L45_0 R X k x0 x2 l1p l1l l1c (IntKind.wrap .i64 (x9+n1)) x20 (IntKind.wrap .i64 (x21+1)) w6)) (fun ch2 w4=>X ch2 w4)) (fun ch1 w2=>X ch1 w2)) (R (.tuple #[(.slice x8p x8l x8c),(i6 x9)]) w)
def F45 (a0:OA) (a1:Int) (a2:Int) (w:World) (R:KV) (X:List PanicEntry→World→Prop):Prop :=
 optP a0 fun ad1=>gL w ad1 fun l1p l1l l1c=>semK PP (Instr.makeSlice 29 (i6 0) (i6 (if ((l1l:Nat):Int) < a1 then (l1l:Nat) else a1))) w fun v2 w1=>asL v2 fun l2p l2l l2c=>∃ m,L45_0 R X m a0 a2 l2p l2l l2c 0 a1 0 w1
def A45 (R:KV) (X:List PanicEntry→World→Prop):Ann:=(sN (sN (sN (.seq (sN (.block (.loop (fun m e ds w=>nilD ds (asP (e 0) fun x0=>aI e 2 fun x2=>asL (e 8) fun x8p x8l x8c=>aI e 9 fun x9=>aI e 20 fun x20=>aI e 21 fun x21=>L45_0 R X m x0 x2 x8p x8l x8c x9 x20 x21 w)) (fun kL45_0=>(sN (sN (.seq (.block (.seq .pan (.seq .pan .no))) .no))))))) .no))))
theorem sides45 (R:KV) (X:List PanicEntry→World→Prop):fnXSides PP Tryz.f45 (A45 R X) R X:=by
 exact (zt (zt (zt (ai (zt (ai (zsi fun e w h=>eP h fun z0 h=>eI h fun z2 h=>eL h fun z8 h=>eI h fun z9 h=>eI h fun z20 h=>eI h fun z21 h=>h) (ai (fun kL45_0=>zsi fun e w h=>eP h fun z0 h=>eI h fun z2 h=>eL h fun z8 h=>eI h fun z9 h=>eI h fun z20 h=>eI h fun z21 h=>by rw [← zag (aC z0 (aC z2 (aC z8 (aC z9 (aC z20 (aC z21 aN))))))];exact zq h) (fun kL45_0=>(zt (zt (ai (zt (ai trivial trivial)) trivial))))))) trivial))))
theorem call45 (a0:OA) (a1:Int) (a2:Int) (w:World) (R:KV) (X:List PanicEntry→World→Prop) (h:F45 a0 a1 a2 w R X):zbt PP 45 #[(.pointer a0),(i6 a1),(i6 a2)] w R X :=
 callX_of (fn:=Tryz.f45) (an:=A45 R X) (args:=[(.pointer a0),(i6 a1),(i6 a2)]) Tryz.func45 rfl (sides45 R X) (Eq.mp (by kernel_rfl) h)

def J46_1 (R:KV) (X:List PanicEntry→World→Prop) (C_L46_0:OA→OA→Addr→Int→Int→World→Prop) (x0:OA) (x1:OA) (x6:Addr) (x14:Int) (x15:Int) (w:World):Prop :=
 C_L46_0 x0 x1 x6 x14 (IntKind.wrap .i64 (x15+1)) w
def J46_2 (R:KV) (X:List PanicEntry→World→Prop) (C_L46_0:OA→OA→Addr→Int→Int→World→Prop) (x0:OA) (x1:OA) (x6:Addr) (x8:Addr) (x14:Int) (x15:Int) (w:World):Prop :=
 zbf w fun w1=>optP x1 fun ad1=>gL w1 ad1 fun l1p l1l l1c=>ma7 w1 x8 fun n1 n2 n3=>zaf w1 (.cells #[(i6 n1),(i6 n2),(i6 n3)] 52) fun w2=>(gL w2 ad1 fun l2p l2l l2c=>((.slice l2p l2l l2c):Value)=(.slice l1p l1l l1c))∧(semK PP (Builtin.append_ #[24,24] 24 #[(.slice l1p l1l l1c),(.slice (some ⟨w1.heap.size,0,none⟩) 1 1)]) w2 fun v6 w3=>asL v6 fun l3p l3l l3c=>optP x1 fun ad2=>sU 24 ad2 (.slice l3p l3l l3c) w3 fun w4=>J46_1 R X C_L46_0 x0 x1 x6 x14 x15 w4)
def L46_3 (R:KV) (X:List PanicEntry→World→Prop) (C_L46_0:OA→OA→Addr→Int→Int→World→Prop):Nat→OA→OA→Addr→Int→Addr→Int→Int→Int→Value→Value→Int→Value→Value→Int→Value→Value→Int→World→Prop
 | 0=>fun _ _ _ _ _ _ _ _ _ _ _ _ _ _ _ _ _ _=>False
 | k+1=>fun x0 x1 x6 x7 x8 x14 x15 x18_0 x18_1 x18_2 x18_3 x18_4 x18_5 x18_6 x18_7 x18_8 x19 w=>ifB (decide ((x19:Int) < 3)) (semK PP (Instr.index 184 (.agg #[(i6 x18_0),x18_1,x18_2,(i6 x18_3),x18_4,x18_5,(i6 x18_6),x18_7,x18_8]) (i6 x19)) w fun v1 w1=>asG v1 fun q10=>hI .i64 q10 fun n1 q11=>asHd q11 fun q1_1x q12=>asHd q12 fun q1_2x q13=>zav q13 (zaf w1 (.cells #[(i6 0),.nilFunc,.nilFunc] 183) fun w2=>sU 183 ⟨w1.heap.size,0,none⟩ (.agg #[(i6 n1),q1_1x,q1_2x]) w2 fun w3=>gI .i64 w3 ⟨w1.heap.size,0,none⟩ fun n2=>zbt PP 43 #[(.pointer x0),(i6 n2)] w3 (fun v3 w4=>dT3 v3 fun n3 n4=>ldK PP w4 ⟨w1.heap.size,1,none⟩ fun v4=>callX PP v4 #[(.bool ((x7:Int) == 0)),(i6 n3)] w4 (fun v5 w6=>asB v5 fun b1=>zbt PP 44 #[(.pointer x0),(.bool b1),(i6 59),(i6 n4)] w6 (fun v6 w8=>asT v6 fun t20=>zav t20 (ldK PP w8 ⟨w1.heap.size,2,none⟩ fun v7=>zau PP v7 #[(.pointer (some x8))] w8 fun v8 w10=>asP v8 fun p1=>optP p1 fun ad1=>sU 3 ad1 (i6 n3) w10 fun w11=>L46_3 R X C_L46_0 k x0 x1 x6 x7 x8 x14 x15 x18_0 x18_1 x18_2 x18_3 x18_4 x18_5 x18_6 x18_7 x18_8 (IntKind.wrap .i64 (x19+1)) w11)) (fun ch3 w9=>X ch3 w9)) (fun ch2 w7=>X ch2 w7)) (fun ch1 w5=>X ch1 w5))) (J46_2 R X C_L46_0 x0 x1 x6 x8 x14 x15 w)
def L46_0 (R:KV) (X:List PanicEntry→World→Prop):Nat→OA→OA→Addr→Int→Int→World→Prop
 | 0=>fun _ _ _ _ _ _=>False
 | k+1=>fun x0 x1 x6 x14 x15 w=>ifB (decide ((x15:Int) < x14)) (zaf w (.cells #[(i6 0),(i6 0),(i6 0)] 52) fun w1=>gI .i64 w1 x6 fun n1=>ldK PP w1 (Addr.add x6 1) fun v2=>ldK PP w1 (Addr.add x6 2) fun v3=>gI .i64 w1 (Addr.add x6 3) fun n2=>ldK PP w1 (Addr.add x6 4) fun v5=>ldK PP w1 (Addr.add x6 5) fun v6=>gI .i64 w1 (Addr.add x6 6) fun n3=>ldK PP w1 (Addr.add x6 7) fun v8=>ldK PP w1 (Addr.add x6 8) fun v9=>∃ m,L46_3 R X (L46_0 R X k) m x0 x1 x6 x15 ⟨w.heap.size,0,none⟩ x14 x15 n1 v2 v3 n2 v5 v6 n3 v8 v9 0 w1) (R (.tuple #[]) w)
def F46 (a0:OA) (a1:OA) (a2:Int) (w:World) (R:KV) (X:List PanicEntry→World→Prop):Prop :=
 CV 84 #[] w fun v1 w1=>asG v1 fun q10=>hI .i64 q10 fun n1 q11=>asHd q11 fun q1_1x q12=>asHd q12 fun q1_2x q13=>hI .i64 q13 fun n2 q14=>asHd q14 fun q1_4x q15=>asHd q15 fun q1_5x q16=>hI .i64 q16 fun n3 q17=>asHd q17 fun q1_7x q18=>asHd q18 fun q1_8x q19=>zav q19 (zaf w1 (.cells #[(i6 0),.nilFunc,.nilFunc,(i6 0),.nilFunc,.nilFunc,(i6 0),.nilFunc,.nilFunc] 184) fun w2=>sU 184 ⟨w1.heap.size,0,none⟩ (.agg #[(i6 n1),q1_1x,q1_2x,(i6 n2),q1_4x,q1_5x,(i6 n3),q1_7x,q1_8x]) w2 fun w3=>∃ m,L46_0 R X m a0 a1 ⟨w1.heap.size,0,none⟩ a2 0 w3)
def A46 (R:KV) (X:List PanicEntry→World→Prop):Ann:=(sN (sN (.block (.loop (fun m e ds w=>nilD ds (asP (e 0) fun x0=>asP (e 1) fun x1=>asA (e 6) fun x6=>aI e 14 fun x14=>aI e 15 fun x15=>L46_0 R X m x0 x1 x6 x14 x15 w)) (fun kL46_0=>(sN (sN (.join (fun e ds w=>nilD ds (asP (e 0) fun x0=>asP (e 1) fun x1=>asA (e 6) fun x6=>aI e 14 fun x14=>aI e 15 fun x15=>J46_1 R X (L46_0 R X kL46_0) x0 x1 x6 x14 x15 w)) (.block (sN (sN (.join (fun e ds w=>nilD ds (asP (e 0) fun x0=>asP (e 1) fun x1=>asA (e 6) fun x6=>asA (e 8) fun x8=>aI e 14 fun x14=>aI e 15 fun x15=>J46_2 R X (L46_0 R X kL46_0) x0 x1 x6 x8 x14 x15 w)) (sN (.block (.loop (fun m e ds w=>nilD ds (asP (e 0) fun x0=>asP (e 1) fun x1=>asA (e 6) fun x6=>aI e 7 fun x7=>asA (e 8) fun x8=>aI e 14 fun x14=>aI e 15 fun x15=>asG (e 18) fun x18s0=>hI .i64 x18s0 fun x18_0 x18s1=>asHd x18s1 fun x18_1v x18s2=>asAny x18_1v fun x18_1=>asHd x18s2 fun x18_2v x18s3=>asAny x18_2v fun x18_2=>hI .i64 x18s3 fun x18_3 x18s4=>asHd x18s4 fun x18_4v x18s5=>asAny x18_4v fun x18_4=>asHd x18s5 fun x18_5v x18s6=>asAny x18_5v fun x18_5=>hI .i64 x18s6 fun x18_6 x18s7=>asHd x18s7 fun x18_7v x18s8=>asAny x18_7v fun x18_7=>asHd x18s8 fun x18_8v x18s9=>asAny x18_8v fun x18_8=>zav x18s9 (aI e 19 fun x19=>L46_3 R X (L46_0 R X kL46_0) m x0 x1 x6 x7 x8 x14 x15 x18_0 x18_1 x18_2 x18_3 x18_4 x18_5 x18_6 x18_7 x18_8 x19 w))) (fun kL46_3=>(sN (sN (.seq (.block (sN (.seq .pan (.seq .pan .no)))) .no))))))) (.draw [0,1,2,3,4,5,6,7,8,9,10]))))) .no))))))))
theorem sides46 (R:KV) (X:List PanicEntry→World→Prop):fnXSides PP Tryz.f46 (A46 R X) R X:=by
 exact (zt (zt (ai (zsi fun e w h=>eP h fun z0 h=>eP h fun z1 h=>eA h fun z6 h=>eI h fun z14 h=>eI h fun z15 h=>h) (ai (fun kL46_0=>zsi fun e w h=>eP h fun z0 h=>eP h fun z1 h=>eA h fun z6 h=>eI h fun z14 h=>eI h fun z15 h=>by rw [← zag (aC z0 (aC z1 (aC z6 (aC z14 (aC z15 aN)))))];exact zq h) (fun kL46_0=>(zt (zt (ai (zsi fun e w h=>eP h fun z0 h=>eP h fun z1 h=>eA h fun z6 h=>eI h fun z14 h=>eI h fun z15 h=>by rw [← zag (aC z0 (aC z1 (aC z6 (aC z14 (aC z15 aN)))))];exact zq h) (ai (zt (zt (ai (zsi fun e w h=>eP h fun z0 h=>eP h fun z1 h=>eA h fun z6 h=>eA h fun z8 h=>eI h fun z14 h=>eI h fun z15 h=>by rw [← zag (aC z0 (aC z1 (aC z6 (aC z8 (aC z14 (aC z15 aN))))))];exact zq h) (ai (zt (ai (by intro e ds w h;replace h:=zad h;obtain ⟨rfl,h⟩:=h;obtain ⟨_,z0,h⟩:=zai h;obtain ⟨_,z1,h⟩:=zai h;obtain ⟨_,z6,h⟩:=zac h;obtain ⟨_,z7,h⟩:=zaa h;obtain ⟨_,z8,h⟩:=zac h;obtain ⟨_,z14,h⟩:=zaa h;obtain ⟨_,z15,h⟩:=zaa h;obtain ⟨_,z18,h⟩:=asG_elim h;obtain ⟨x18_0u,x18l0,z18_0q,h⟩:=zal h;obtain ⟨_,z18_0,h⟩:=zaa h;obtain ⟨x18_1u,x18l1,z18_1q,h⟩:=zal h;obtain ⟨_,z18_1,h⟩:=zax h;obtain ⟨x18_2u,x18l2,z18_2q,h⟩:=zal h;obtain ⟨_,z18_2,h⟩:=zax h;obtain ⟨x18_3u,x18l3,z18_3q,h⟩:=zal h;obtain ⟨_,z18_3,h⟩:=zaa h;obtain ⟨x18_4u,x18l4,z18_4q,h⟩:=zal h;obtain ⟨_,z18_4,h⟩:=zax h;obtain ⟨x18_5u,x18l5,z18_5q,h⟩:=zal h;obtain ⟨_,z18_5,h⟩:=zax h;obtain ⟨x18_6u,x18l6,z18_6q,h⟩:=zal h;obtain ⟨_,z18_6,h⟩:=zaa h;obtain ⟨x18_7u,x18l7,z18_7q,h⟩:=zal h;obtain ⟨_,z18_7,h⟩:=zax h;obtain ⟨x18_8u,x18l8,z18_8q,h⟩:=zal h;obtain ⟨_,z18_8,h⟩:=zax h;have z18_e:=zcz h;replace h:=z18_e.2;rw [z18_0q,z18_1q,z18_2q,z18_3q,z18_4q,z18_5q,z18_6q,z18_7q,z18_8q,z18_e.1,z18_0,z18_1,z18_2,z18_3,z18_4,z18_5,z18_6,z18_7,z18_8] at z18;obtain ⟨_,z19,h⟩:=zaa h;exact h) (ai (by intro kL46_3 e ds w h;replace h:=zad h;obtain ⟨rfl,h⟩:=h;obtain ⟨_,z0,h⟩:=zai h;obtain ⟨_,z1,h⟩:=zai h;obtain ⟨_,z6,h⟩:=zac h;obtain ⟨_,z7,h⟩:=zaa h;obtain ⟨_,z8,h⟩:=zac h;obtain ⟨_,z14,h⟩:=zaa h;obtain ⟨_,z15,h⟩:=zaa h;obtain ⟨_,z18,h⟩:=asG_elim h;obtain ⟨x18_0u,x18l0,z18_0q,h⟩:=zal h;obtain ⟨_,z18_0,h⟩:=zaa h;obtain ⟨x18_1u,x18l1,z18_1q,h⟩:=zal h;obtain ⟨_,z18_1,h⟩:=zax h;obtain ⟨x18_2u,x18l2,z18_2q,h⟩:=zal h;obtain ⟨_,z18_2,h⟩:=zax h;obtain ⟨x18_3u,x18l3,z18_3q,h⟩:=zal h;obtain ⟨_,z18_3,h⟩:=zaa h;obtain ⟨x18_4u,x18l4,z18_4q,h⟩:=zal h;obtain ⟨_,z18_4,h⟩:=zax h;obtain ⟨x18_5u,x18l5,z18_5q,h⟩:=zal h;obtain ⟨_,z18_5,h⟩:=zax h;obtain ⟨x18_6u,x18l6,z18_6q,h⟩:=zal h;obtain ⟨_,z18_6,h⟩:=zaa h;obtain ⟨x18_7u,x18l7,z18_7q,h⟩:=zal h;obtain ⟨_,z18_7,h⟩:=zax h;obtain ⟨x18_8u,x18l8,z18_8q,h⟩:=zal h;obtain ⟨_,z18_8,h⟩:=zax h;have z18_e:=zcz h;replace h:=z18_e.2;rw [z18_0q,z18_1q,z18_2q,z18_3q,z18_4q,z18_5q,z18_6q,z18_7q,z18_8q,z18_e.1,z18_0,z18_1,z18_2,z18_3,z18_4,z18_5,z18_6,z18_7,z18_8] at z18;obtain ⟨_,z19,h⟩:=zaa h;rw [← zag (aC z0 (aC z1 (aC z6 (aC z7 (aC z8 (aC z14 (aC z15 (aC z18 (aC z19 aN)))))))))];exact Eq.mp (by kernel_rfl) h) (fun kL46_3=>(zt (zt (ai (zt (zt (ai trivial trivial))) trivial))))))) trivial)))) trivial)))))))))
theorem call46 (a0:OA) (a1:OA) (a2:Int) (w:World) (R:KV) (X:List PanicEntry→World→Prop) (h:F46 a0 a1 a2 w R X):zbt PP 46 #[(.pointer a0),(.pointer a1),(i6 a2)] w R X :=
 callX_of (fn:=Tryz.f46) (an:=A46 R X) (args:=[(.pointer a0),(.pointer a1),(i6 a2)]) Tryz.func46 rfl (sides46 R X) (Eq.mp (by kernel_rfl) h)

def L47_0 (R:KV):Nat→OA→OA→Nat→Nat→OA→Nat→Nat→Int→Int→World→Prop
 | 0=>fun _ _ _ _ _ _ _ _ _ _=>False
 | k+1=>fun x0 x5p x5l x5c x8p x8l x8c x9 x10 w=>ifB (decide ((x10:Int) < x9)) (semK PP (Instr.indexAt 29 (.slice x8p x8l x8c) (i6 x10)) w fun v1 w1=>asA v1 fun ad1=>gI .i64 w1 ad1 fun n1=>zbf w1 fun w2=>optP x0 fun ad2=>gL w2 ad2 fun l1p l1l l1c=>optP x0 fun ad3=>gI .i64 w2 (Addr.add ad3 1) fun n2=>optP x0 fun ad4=>gI .i64 w2 (Addr.add ad4 1) fun n3=>optP x0 fun ad5=>gI .i64 w2 (Addr.add ad5 1) fun n4=>semK PP (Instr.sliceAt 22 (.slice l1p l1l l1c) (some (i6 n2)) (some (i6 (IntKind.wrap .i64 (n3+n1)))) (some (i6 (IntKind.wrap .i64 (n4+n1))))) w2 fun v7 w3=>asL v7 fun l2p l2l l2c=>CV 28 #[(.slice l2p l2l l2c)] w2 fun v8 w4=>asL v8 fun l3p l3l l3c=>zaf w4 (.cells #[(.slice l3p l3l l3c)] 22) fun w5=>semK PP (Builtin.append_ #[25,25] 25 #[(.slice x5p x5l x5c),(.slice (some ⟨w4.heap.size,0,none⟩) 1 1)]) w5 fun v9 w6=>asL v9 fun l4p l4l l4c=>optP x0 fun ad6=>gI .i64 w6 (Addr.add ad6 1) fun n5=>optP x0 fun ad7=>sU 3 (Addr.add ad7 1) (i6 (IntKind.wrap .i64 (n5+n1))) w6 fun w7=>L47_0 R k x0 l4p l4l l4c x8p x8l x8c x9 (IntKind.wrap .i64 (x10+1)) w7) (R (.slice x5p x5l x5c) w)
def F47 (a0:OA) (a1p:OA) (a1l:Nat) (a1c:Nat) (w:World) (R:KV):Prop :=
 ∃ m,L47_0 R m a0 none 0 0 a1p a1l a1c (a1l:Nat) 0 w
def A47 (R:KV):Ann:=(sN (sN (.seq (sN (.block (.loop (fun m e ds w=>nilD ds (asP (e 0) fun x0=>asL (e 5) fun x5p x5l x5c=>asL (e 8) fun x8p x8l x8c=>aI e 9 fun x9=>aI e 10 fun x10=>L47_0 R m x0 x5p x5l x5c x8p x8l x8c x9 x10 w)) (fun kL47_0=>(sN (sN (.seq (.block (sN (.seq (.draw [0,1,2,3,4,5,6,7,8,9,10,11,12,13,14,15,16,17,18,19,20,21,22,23,24,25]) .no))) .no))))))) .no)))
theorem sides47 (R:KV):zak PP Tryz.f47 (A47 R) R:=by
 exact (zt (zt (ai (zt (ai (zsi fun e w h=>eP h fun z0 h=>eL h fun z5 h=>eL h fun z8 h=>eI h fun z9 h=>eI h fun z10 h=>h) (ai (fun kL47_0=>zsi fun e w h=>eP h fun z0 h=>eL h fun z5 h=>eL h fun z8 h=>eI h fun z9 h=>eI h fun z10 h=>by rw [← zag (aC z0 (aC z5 (aC z8 (aC z9 (aC z10 aN)))))];exact zq h) (fun kL47_0=>(zt (zt (ai (zt (ai trivial trivial)) trivial))))))) trivial)))
theorem call47 (a0:OA) (a1p:OA) (a1l:Nat) (a1c:Nat) (w:World) (R:KV) (h:F47 a0 a1p a1l a1c w R):zaj PP 47 #[(.pointer a0),(.slice a1p a1l a1c)] w R :=
 zah (an:=A47 R) Tryz.func47 rfl (sides47 R) (Eq.mp (by kernel_rfl) h)

def L48_3 (R:KV):Nat→Int→OA→Nat→Nat→Int→Int→World→Prop
 | 0=>fun _ _ _ _ _ _ _=>False
 | k+1=>fun x5 x48p x48l x48c x49 x50 w=>ifB (decide ((x50:Int) < x49)) (semK PP (Instr.indexAt 25 (.slice x48p x48l x48c) (i6 x50)) w fun v1 w1=>asA v1 fun ad1=>gL w1 ad1 fun l1p l1l l1c=>L48_3 R k (IntKind.wrap .i64 (x5+(l1l:Nat))) x48p x48l x48c x49 (IntKind.wrap .i64 (x50+1)) w1) (R (.tuple #[(i6 x5),(i6 0)]) w)
def J48_2 (R:KV) (x1:Addr) (x5:Int) (w:World):Prop :=
 gL w (Addr.add x1 2) fun l1p l1l l1c=>∃ m,L48_3 R m x5 l1p l1l l1c (l1l:Nat) 0 w
def J48_0 (R:KV) (x1:Addr) (x5:Int) (w:World):Prop :=
 gL w (Addr.add x1 2) fun l1p l1l l1c=>ifB (decide (((l1l:Nat):Int) > 0)) (gL w (Addr.add x1 2) fun l2p l2l l2c=>J48_2 R x1 (IntKind.wrap .i64 (x5+(IntKind.wrap .i64 (3+(IntKind.wrap .i64 (4 * (l2l:Nat))))))) w) (J48_2 R x1 x5 w)
def L48_1 (R:KV):Nat→Addr→Int→OA→Nat→Nat→Int→Int→World→Prop
 | 0=>fun _ _ _ _ _ _ _ _=>False
 | k+1=>fun x1 x5 x25p x25l x25c x26 x27 w=>ifB (decide ((x27:Int) < x26)) (semK PP (Instr.indexAt 25 (.slice x25p x25l x25c) (i6 x27)) w fun v1 w1=>asA v1 fun ad1=>gL w1 ad1 fun l1p l1l l1c=>L48_1 R k x1 (IntKind.wrap .i64 (x5+(l1l:Nat))) x25p x25l x25c x26 (IntKind.wrap .i64 (x27+1)) w1) (J48_0 R x1 x5 w)
def F48 (a0_0p:OA) (a0_0l:Nat) (a0_0c:Nat) (a0_1p:OA) (a0_1l:Nat) (a0_1c:Nat) (a0_2p:OA) (a0_2l:Nat) (a0_2c:Nat) (a0_3p:OA) (a0_3l:Nat) (a0_3c:Nat) (a0_4:Int) (w:World) (R:KV):Prop :=
 zaf w (.cells #[(.slice a0_0p a0_0l a0_0c),(.slice a0_1p a0_1l a0_1c),(.slice a0_2p a0_2l a0_2c),(.slice a0_3p a0_3l a0_3c),(i6 a0_4)] 27) fun w1=>mb5 w1 w.heap.size fun l1p l1l l1c l2p l2l l2c l3p l3l l3c l4p l4l l4c n1=>CV 64 #[(.agg #[(.slice l1p l1l l1c),(.slice l2p l2l l2c),(.slice l3p l3l l3c),(.slice l4p l4l l4c),(i6 n1)])] w1 fun v6 w2=>asI .i64 v6 fun n2=>ifB ((n2:Int) != 0) (R (.tuple #[(i6 0),(i6 n2)]) w2) (gL w2 ⟨w.heap.size,1,none⟩ fun l5p l5l l5c=>gL w2 ⟨w.heap.size,3,none⟩ fun l6p l6l l6c=>gL w2 ⟨w.heap.size,1,none⟩ fun l7p l7l l7c=>∃ m,L48_1 R m ⟨w.heap.size,0,none⟩ (IntKind.wrap .i64 ((IntKind.wrap .i64 (13+(IntKind.wrap .i64 (6 * (l5l:Nat)))))+(l6l:Nat))) l7p l7l l7c (l7l:Nat) 0 w2)
def A48 (R:KV):Ann:=(sN (sN (sN (.join (fun e ds w=>nilD ds (asA (e 1) fun x1=>aI e 5 fun x5=>J48_0 R x1 x5 w)) (sN (.block (.loop (fun m e ds w=>nilD ds (asA (e 1) fun x1=>aI e 5 fun x5=>asL (e 25) fun x25p x25l x25c=>aI e 26 fun x26=>aI e 27 fun x27=>L48_1 R m x1 x5 x25p x25l x25c x26 x27 w)) (fun kL48_1=>.no)))) (.join (fun e ds w=>nilD ds (asA (e 1) fun x1=>aI e 5 fun x5=>J48_2 R x1 x5 w)) .no (.seq (sN (.block (.loop (fun m e ds w=>nilD ds (aI e 5 fun x5=>asL (e 48) fun x48p x48l x48c=>aI e 49 fun x49=>aI e 50 fun x50=>L48_3 R m x5 x48p x48l x48c x49 x50 w)) (fun kL48_3=>.no)))) .no))))))
theorem sides48 (R:KV):zak PP Tryz.f48 (A48 R) R:=by
 exact (zt (zt (zt (ai (zsi fun e w h=>eA h fun z1 h=>eI h fun z5 h=>by rw [← zag (aC z1 (aC z5 aN))];exact zq h) (ai (zt (ai (zsi fun e w h=>eA h fun z1 h=>eI h fun z5 h=>eL h fun z25 h=>eI h fun z26 h=>eI h fun z27 h=>h) (ai (fun kL48_1=>zsi fun e w h=>eA h fun z1 h=>eI h fun z5 h=>eL h fun z25 h=>eI h fun z26 h=>eI h fun z27 h=>by rw [← zag (aC z1 (aC z5 (aC z25 (aC z26 (aC z27 aN)))))];exact zq h) (fun kL48_1=>trivial)))) (ai (zsi fun e w h=>eA h fun z1 h=>eI h fun z5 h=>by rw [← zag (aC z1 (aC z5 aN))];exact zq h) (zt (ai (zt (ai (zsi fun e w h=>eI h fun z5 h=>eL h fun z48 h=>eI h fun z49 h=>eI h fun z50 h=>h) (ai (fun kL48_3=>zsi fun e w h=>eI h fun z5 h=>eL h fun z48 h=>eI h fun z49 h=>eI h fun z50 h=>by rw [← zag (aC z5 (aC z48 (aC z49 (aC z50 aN))))];exact zq h) (fun kL48_3=>trivial)))) trivial))))))))
theorem call48 (a0_0p:OA) (a0_0l:Nat) (a0_0c:Nat) (a0_1p:OA) (a0_1l:Nat) (a0_1c:Nat) (a0_2p:OA) (a0_2l:Nat) (a0_2c:Nat) (a0_3p:OA) (a0_3l:Nat) (a0_3c:Nat) (a0_4:Int) (w:World) (R:KV) (h:F48 a0_0p a0_0l a0_0c a0_1p a0_1l a0_1c a0_2p a0_2l a0_2c a0_3p a0_3l a0_3c a0_4 w R):zaj PP 48 #[(.agg #[(.slice a0_0p a0_0l a0_0c),(.slice a0_1p a0_1l a0_1c),(.slice a0_2p a0_2l a0_2c),(.slice a0_3p a0_3l a0_3c),(i6 a0_4)])] w R :=
 zah (an:=A48 R) Tryz.func48 rfl (sides48 R) (Eq.mp (by kernel_rfl) h)

def L49_0 (R:KV):Nat→OA→Nat→Nat→Int→Int→World→Prop
 | 0=>fun _ _ _ _ _ _=>False
 | k+1=>fun x0p x0l x0c x1 x2 w=>ifB (decide ((x2:Int) ≥ 0)) (ifB (decide ((IntKind.wrap .i64 (8 * x2):Int) < 0)) False (zaf w (.cells #[(.int .u8 (IntKind.wrap .u8 (Int.fdiv x1 (2 ^ (min (IntKind.wrap .i64 (8 * x2):Int).toNat 64)))))] 5) fun w1=>semK PP (Builtin.append_ #[22,22] 22 #[(.slice x0p x0l x0c),(.slice (some ⟨w.heap.size,0,none⟩) 1 1)]) w1 fun v1 w2=>asL v1 fun l1p l1l l1c=>L49_0 R k l1p l1l l1c x1 (IntKind.wrap .i64 (x2 - 1)) w2)) (R (.slice x0p x0l x0c) w)
def F49 (a0p:OA) (a0l:Nat) (a0c:Nat) (a1:Int) (a2:Int) (w:World) (R:KV):Prop :=
 ∃ m,L49_0 R m a0p a0l a0c a1 (IntKind.wrap .i64 (a2 - 1)) w
def A49 (R:KV):Ann:=(sN (.seq (sN (.block (.loop (fun m e ds w=>nilD ds (asL (e 0) fun x0p x0l x0c=>aI e 1 fun x1=>aI e 2 fun x2=>L49_0 R m x0p x0l x0c x1 x2 w)) (fun kL49_0=>.no)))) .no))
theorem sides49 (R:KV):zak PP Tryz.f49 (A49 R) R:=by
 exact (zt (ai (zt (ai (zsi fun e w h=>eL h fun z0 h=>eI h fun z1 h=>eI h fun z2 h=>h) (ai (fun kL49_0=>zsi fun e w h=>eL h fun z0 h=>eI h fun z1 h=>eI h fun z2 h=>by rw [← zag (aC z0 (aC z1 (aC z2 aN)))];exact zq h) (fun kL49_0=>trivial)))) trivial))
theorem call49 (a0p:OA) (a0l:Nat) (a0c:Nat) (a1:Int) (a2:Int) (w:World) (R:KV) (h:F49 a0p a0l a0c a1 a2 w R):zaj PP 49 #[(.slice a0p a0l a0c),(i6 a1),(i6 a2)] w R :=
 zah (an:=A49 R) Tryz.func49 rfl (sides49 R) (Eq.mp (by kernel_rfl) h)

end Go.Proofs.YtlfhngoeecjfpaaGreatDoor.W
namespace Go.Proofs.YtlfhngoeecjfpaaGreatDoor.B
open Go Go.RowKit Go.Proofs.YtlfhngoeecjfpaaGreatDoor.Sh Go.Proofs.YtlfhngoeecjfpaaGreatDoor.W
theorem ldStr {P:Program} {Z:Nat→Prop} {w0 w:World} {L:List Ent} {b i:Nat} {cs:Array Value} {t:TypeId} {F:Value→Prop} (h:Hp Z w0 w L) [hm:GetOwn L b cs t] (hi:i < cs.size) (hv:∀ v∈cs.toList,∃ s:ByteArray,v = .string s∧s.size≠0)
  (k:∀ s:ByteArray,s.size≠0→F (.string s)):ldK P w (Addr.add ⟨b,0,none⟩ i) F:=by
 obtain ⟨s,h1,h2⟩:=hv cs[i] (by simp)
 rw [addG]
 exact ldH h hm.pos (v:=.string s) (by rw [← h1];simp [hi]) (k s h2)
theorem f125 {c:Int} {w:World} {K:Value→World→Prop} (h0:16≤c) (h9:c < 256) (k:RowK c (comparedT c) w K):zaj Tryz.prog 125 #[.int .i64 c] w K:=by
 refine call125 _ _ _ ?_
 unfold F125
 simp only [J125_0]
 rw [i64w (n:=c - 16) (by omega) (by omega)]
 have hh:=Hp.start w
 repeat' first|(with_reducible first|refine kk_ ?_|refine nx hh ?_|refine allW fun w' hh=>?_|exact sd_)|((with_reducible refine f123 fun w' hb=>?_);replace hh:=hh.bl hb)|(with_reducible first|refine ifE (fun hc=>?_) (fun hc=>?_)|refine ifD (fun hc=>?_) (fun hc=>?_)|refine ixA (n:=14) (e:=9) (z:=1) (by with_unfolding_all rfl) (by with_unfolding_all rfl) ?_ ?_ ?_|refine ldStr hh ?_ ?_ (fun s hs=>?_)|refine And.intro ?_ ?_|exact vr)|fail
 all_goals first
  | omega
  | (show _ < 14;omega)
  | (intro v hv;simp only [List.mem_cons,List.not_mem_nil,or_false] at hv;rcases hv with rfl|rfl|rfl|rfl|rfl|rfl|rfl|rfl|rfl|rfl|rfl|rfl|rfl|rfl <;> exact ⟨_,rfl,by decide⟩)
  | (refine k _ _ _ _ _ _ _ _ hh.done ?_;unfold comparedT;(repeat' split) <;> first|omega|exact ⟨rfl,hs,rfl,rfl,rfl,rfl,rfl⟩|exact ⟨rfl,by decide,rfl,rfl,rfl,rfl,rfl⟩|exact ⟨rfl,rfl,rfl,rfl,rfl,rfl,rfl⟩)
theorem ifBt {p q:Prop} (h:p):ifB true p q:=h
theorem ifBf {p q:Prop} (h:q):ifB false p q:=h
theorem size_cat (a b:ByteArray) (h:b.size≠0):(a++b).size≠0:=by rw [ByteArray.size_append];omega
theorem j80_0 {c:Int} {b:Nat} {w0 w:World} {K:Value→World→Prop} (h0:0≤c) (h1:c < 256) (n1:¬ (96≤c∧c≤127)) (n2:¬ (128≤c∧c≤143)) (n3:¬ (144≤c∧c≤159)) (n4:¬ (160≤c∧c≤164)) (h16:208≤c) (hh:Hp zan w0 w [.own b #[.int .i64 0,.string ⟨#[]⟩,.int .i64 0,.int .i64 0,.int .i64 0,.int .i64 0,.bool false] 101]) (k:RowK c (opT c) w0 K):J80_0 K c ⟨b,0,none⟩ w:=by
 unfold J80_0
 repeat' first|(with_reducible first|refine kk_ ?_|refine nx hh ?_|refine allW fun w' hh=>?_|exact sd_)|((with_reducible refine f128 fun cd s imm inn out gas e w' hb hr=>?_);replace hh:=hh.bl hb)|(with_reducible first|refine And.intro ?_ ?_|exact vr)|fail
 all_goals refine k _ _ _ _ _ _ _ _ hh.done ?_
 all_goals unfold opT
 all_goals (repeat' split) <;> first|omega|exact hr|exact ⟨rfl,size_cat _ _ hs,rfl,rfl,rfl,rfl,rfl⟩
theorem j80_4 {c:Int} {b:Nat} {w0 w:World} {K:Value→World→Prop} {x:Bool} (hx:x=decide (160≤c∧c≤164)) (h0:0≤c) (h1:c < 256) (n1:¬ (96≤c∧c≤127)) (n2:¬ (128≤c∧c≤143)) (n3:¬ (144≤c∧c≤159)) (hh:Hp zan w0 w [.own b #[.int .i64 0,.string ⟨#[]⟩,.int .i64 0,.int .i64 0,.int .i64 0,.int .i64 0,.bool false] 101]) (k:RowK c (opT c) w0 K):J80_4 K c ⟨b,0,none⟩ x w:=by
 unfold J80_4
 subst hx
 refine ifDB (fun hc=>?_) (fun hc=>?_)
 ·
  have e1:IntKind.wrap .i64 (c - 160)=c - 160:=by rw [i64w (by omega) (by omega)];try omega
  have e2:IntKind.wrap .i64 (c - 160+2)=c - 158:=by rw [i64w (by omega) (by omega)];try omega
  have e3:IntKind.wrap .i64 (c - 160+1)=c - 159:=by rw [i64w (by omega) (by omega)];try omega
  have e4:IntKind.wrap .i64 (375 * (c - 159))=375 * (c - 159):=by rw [i64w (by omega) (by omega)];try omega
  simp only [e1,e2,e3,e4]
  repeat' first|(with_reducible first|refine kk_ ?_|refine nx hh ?_|refine allW fun w' hh=>?_|exact sd_)|((with_reducible refine f123 fun w' hb=>?_);replace hh:=hh.bl hb)|(with_reducible first|refine f122 (by omega) (by omega) fun s hs hz=>?_|refine catStr (by exact Nat.le_trans (Nat.add_le_add (show _≤4 by decide) hz) (by decide)) ?_|refine And.intro ?_ ?_|exact vr)|fail
  all_goals refine k _ _ _ _ _ _ _ _ hh.done ?_
  all_goals unfold opT
  all_goals (repeat' split) <;> first|omega|exact hr|exact ⟨rfl,size_cat _ _ hs,rfl,rfl,rfl,rfl,rfl⟩
 ·have hc':=hc
  clear hc
  repeat' first|(with_reducible first|refine kk_ ?_|refine nx hh ?_|refine allW fun w' hh=>?_|exact sd_)|((with_reducible refine f123 fun w' hb=>?_);replace hh:=hh.bl hb)|((with_reducible refine f124 fun cd s imm inn out gas e w' hb hr=>?_);replace hh:=hh.bl hb)|((with_reducible refine f125 (by omega) (by omega) fun cd s imm inn out gas e w' hb hr=>?_);replace hh:=hh.bl hb)|((with_reducible refine f126 fun cd s imm inn out gas e w' hb hr=>?_);replace hh:=hh.bl hb)|((with_reducible refine f127 fun cd s imm inn out gas e w' hb hr=>?_);replace hh:=hh.bl hb)|(with_reducible first|refine ifD (fun hc=>?_) (fun hc=>?_)|refine And.intro ?_ ?_|exact vr)|fail
  all_goals first
   | exact j80_0 h0 h1 n1 n2 n3 hc' (by omega) hh k
   | refine k _ _ _ _ _ _ _ _ hh.done ?_
  all_goals unfold opT
  all_goals (repeat' split) <;> first|omega|exact hr
theorem j80_3 {c:Int} {b:Nat} {w0 w:World} {K:Value→World→Prop} {x:Bool} (hx:x=decide (144≤c∧c≤159)) (h0:0≤c) (h1:c < 256) (n1:¬ (96≤c∧c≤127)) (n2:¬ (128≤c∧c≤143)) (hh:Hp zan w0 w [.own b #[.int .i64 0,.string ⟨#[]⟩,.int .i64 0,.int .i64 0,.int .i64 0,.int .i64 0,.bool false] 101]) (k:RowK c (opT c) w0 K):J80_3 K c ⟨b,0,none⟩ x w:=by
 unfold J80_3
 subst hx
 refine ifDB (fun hc=>?_) (fun hc=>?_)
 ·
  have e0:IntKind.wrap .i64 (c - 144)=c - 144:=by rw [i64w (by omega) (by omega)];try omega
  have e1:IntKind.wrap .i64 (c - 144+1)=c - 143:=by rw [i64w (by omega) (by omega)];try omega
  have e2:IntKind.wrap .i64 (c - 143+1)=c - 142:=by rw [i64w (by omega) (by omega)];try omega
  simp only [e0,e1,e2]
  repeat' first|(with_reducible first|refine kk_ ?_|refine nx hh ?_|refine allW fun w' hh=>?_|exact sd_)|((with_reducible refine f123 fun w' hb=>?_);replace hh:=hh.bl hb)|(with_reducible first|refine f122 (by omega) (by omega) fun s hs hz=>?_|refine catStr (by exact Nat.le_trans (Nat.add_le_add (show _≤4 by decide) hz) (by decide)) ?_|refine And.intro ?_ ?_|exact vr)|fail
  all_goals refine k _ _ _ _ _ _ _ _ hh.done ?_
  all_goals unfold opT
  all_goals (repeat' split) <;> first|omega|exact hr|exact ⟨rfl,size_cat _ _ hs,rfl,rfl,rfl,rfl,rfl⟩
 ·refine ifDB (fun hd=>?_) (fun hd=>?_)
  ·exact j80_4 (by simp only [decide_eq_decide];omega) h0 h1 n1 n2 hc hh k
  ·exact j80_4 (by simp;omega) h0 h1 n1 n2 hc hh k
theorem j80_2 {c:Int} {b:Nat} {w0 w:World} {K:Value→World→Prop} {x:Bool} (hx:x=decide (128≤c∧c≤143)) (h0:0≤c) (h1:c < 256) (n1:¬ (96≤c∧c≤127)) (hh:Hp zan w0 w [.own b #[.int .i64 0,.string ⟨#[]⟩,.int .i64 0,.int .i64 0,.int .i64 0,.int .i64 0,.bool false] 101]) (k:RowK c (opT c) w0 K):J80_2 K c ⟨b,0,none⟩ x w:=by
 unfold J80_2
 subst hx
 refine ifDB (fun hc=>?_) (fun hc=>?_)
 ·
  have e0:IntKind.wrap .i64 (c - 128)=c - 128:=by rw [i64w (by omega) (by omega)];try omega
  have e1:IntKind.wrap .i64 (c - 128+1)=c - 127:=by rw [i64w (by omega) (by omega)];try omega
  have e2:IntKind.wrap .i64 (c - 127+1)=c - 126:=by rw [i64w (by omega) (by omega)];try omega
  simp only [e0,e1,e2]
  repeat' first|(with_reducible first|refine kk_ ?_|refine nx hh ?_|refine allW fun w' hh=>?_|exact sd_)|((with_reducible refine f123 fun w' hb=>?_);replace hh:=hh.bl hb)|(with_reducible first|refine f122 (by omega) (by omega) fun s hs hz=>?_|refine catStr (by exact Nat.le_trans (Nat.add_le_add (show _≤4 by decide) hz) (by decide)) ?_|refine And.intro ?_ ?_|exact vr)|fail
  all_goals refine k _ _ _ _ _ _ _ _ hh.done ?_
  all_goals unfold opT
  all_goals (repeat' split) <;> first|omega|exact hr|exact ⟨rfl,size_cat _ _ hs,rfl,rfl,rfl,rfl,rfl⟩
 ·refine ifDB (fun hd=>?_) (fun hd=>?_)
  ·exact j80_3 (by simp only [decide_eq_decide];omega) h0 h1 n1 hc hh k
  ·exact j80_3 (by simp;omega) h0 h1 n1 hc hh k
theorem j80_1 {c:Int} {b:Nat} {w0 w:World} {K:Value→World→Prop} {x:Bool} (hx:x=decide (96≤c∧c≤127)) (h0:0≤c) (h1:c < 256) (hh:Hp zan w0 w [.own b #[.int .i64 0,.string ⟨#[]⟩,.int .i64 0,.int .i64 0,.int .i64 0,.int .i64 0,.bool false] 101]) (k:RowK c (opT c) w0 K):J80_1 K c ⟨b,0,none⟩ x w:=by
 unfold J80_1
 subst hx
 refine ifDB (fun hc=>?_) (fun hc=>?_)
 ·
  have e0:IntKind.wrap .i64 (c - 96)=c - 96:=by rw [i64w (by omega) (by omega)];try omega
  have e1:IntKind.wrap .i64 (c - 96+1)=c - 95:=by rw [i64w (by omega) (by omega)];try omega
  simp only [e0,e1]
  repeat' first|(with_reducible first|refine kk_ ?_|refine nx hh ?_|refine allW fun w' hh=>?_|exact sd_)|((with_reducible refine f123 fun w' hb=>?_);replace hh:=hh.bl hb)|(with_reducible first|refine f122 (by omega) (by omega) fun s hs hz=>?_|refine catStr (by exact Nat.le_trans (Nat.add_le_add (show _≤4 by decide) hz) (by decide)) ?_|refine And.intro ?_ ?_|exact vr)|fail
  all_goals refine k _ _ _ _ _ _ _ _ hh.done ?_
  all_goals unfold opT
  all_goals (repeat' split) <;> first|omega|exact hr|exact ⟨rfl,size_cat _ _ hs,rfl,rfl,rfl,rfl,rfl⟩
 ·refine ifDB (fun hd=>?_) (fun hd=>?_)
  ·exact j80_2 (by simp only [decide_eq_decide];omega) h0 h1  hc hh k
  ·exact j80_2 (by simp;omega) h0 h1  hc hh k
theorem f80 {c:Int} {w:World} {K:Value→World→Prop} (h0:0≤c) (h1:c < 256) (k:RowK c (opT c) w K):zaj Tryz.prog 80 #[.int .i64 c] w K:=by
 refine call80 _ _ _ ?_
 unfold F80
 refine zci (Hp.start w) fun w' hh _=>?_
 refine ifDB (fun hd=>?_) (fun hd=>?_)
 ·exact j80_1 (by simp only [decide_eq_decide];omega) h0 h1 hh k
 ·exact j80_1 (by simp;omega) h0 h1 hh k
theorem nameIs {c:Int} {o:Option OpR} {cd imm inn out gas:Int} {s:ByteArray} {e:Bool} (h:RowP c o cd s imm inn out gas e):(!((s:ByteArray).toList == (⟨#[]⟩:ByteArray).toList))=o.isSome:=by
 have e0:(⟨#[]⟩:ByteArray).toList=[]:=by rw [ByteArray.toList_eq]
 cases o with
 | none=>obtain ⟨_,rfl,_⟩:=h;simp [e0]
 | some r =>
  obtain ⟨_,hs,_⟩:=h
  have hl:s.toList≠[]:=by
   intro h
   apply hs
   rw [ByteArray.toList_eq] at h
   have:=congrArg List.length h
   rw [ByteArray.size,← Array.length_toList];simpa using this
  rw [e0]
  cases hh:s.toList with
  | nil=>exact absurd hh hl
  | cons x l=>rfl
theorem f36 {c:Int} {w:World} {K:Value→World→Prop} (h0:0≤c) (h1:c < 256)
  (k:∀ cd s imm inn out gas e w',Bl w w'→RowP c (opT c) cd s imm inn out gas e→K (.tuple #[.agg #[.int .i64 cd,.string s,.int .i64 imm,.int .i64 inn,.int .i64 out,.int .i64 gas,.bool e],.bool (opT c).isSome]) w'):zaj Tryz.prog 36 #[.int .i64 c] w K:=by
 refine call36 _ _ _ ?_
 unfold F36
 have hh:=Hp.start w
 repeat' first|(with_reducible first|refine kk_ ?_|refine nx hh ?_|refine allW fun w' hh=>?_|exact sd_)|((with_reducible refine f80 h0 h1 fun cd s imm inn out gas e w' hb hr=>?_);replace hh:=hh.bl hb)|(with_reducible first|refine And.intro ?_ ?_|refine And.intro ?_ ?_|exact vr)|fail
 all_goals first
  | rfl
  | (rw [nameIs hr];exact k _ _ _ _ _ _ _ _ hh.done hr)
end Go.Proofs.YtlfhngoeecjfpaaGreatDoor.B
