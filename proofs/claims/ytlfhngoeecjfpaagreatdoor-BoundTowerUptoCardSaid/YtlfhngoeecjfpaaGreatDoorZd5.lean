/- Lemmas of the claim, part 5. No condition. -/
import Derived.Test.YtlfhngoeecjfpaaGreatDoorZd4
set_option linter.unusedVariables false
set_option linter.unusedSimpArgs false
set_option maxRecDepth 100000
set_option maxHeartbeats 4000000
namespace Go.Proofs.YtlfhngoeecjfpaaGreatDoor.B
open Go Go.RowKit Go.Proofs.YtlfhngoeecjfpaaGreatDoor.Sh Go.Proofs.YtlfhngoeecjfpaaGreatDoor.W
def towK (n c s:Nat):Nat:=if s+1 < n then c else 0
def towE (n c w s:Nat):List Enc:=List.replicate w (0x5F,[])++List.replicate (towK n c s) (0xE3,[b8 (((s:Int)+1) / 256),b8 ((s:Int)+1)])++List.replicate w (0x50,[])++[(if s=0 then 0 else 0xE4,[])]
def towT (w s:Nat):Ty:=⟨0,if s=0 then 128 else 0,w⟩
def towP (n c w s:Nat):Part:=(towT w s,encB (towE n c w s))
def towL (n c w:Nat):List Part:=(List.range n).map (towP n c w)
def towC (n c w:Nat):Cont:=⟨(towL n c w).map (·.1),(towL n c w).map (·.2),[],[],0⟩
def towG (n c w s:Nat) (m:Nat):Int:=if m≤w then m else if m≤w+towK n c s then w else (2 * w+towK n c s:Int) - m
section
variable {n c w s:Nat}
theorem zdr:(towE n c w s).length=2 * w+towK n c s+1:=by simp [towE];omega
theorem towE_get {m:Nat} {x:Enc} (h:(towE n c w s)[m]? = some x) :
  (m < w∧x=(0x5F,[]))∨(w≤m∧m < w+towK n c s∧x=(0xE3,[b8 (((s:Int)+1) / 256),b8 ((s:Int)+1)]))∨(w+towK n c s≤m∧m < 2 * w+towK n c s∧x=(0x50,[]))∨(m=2 * w+towK n c s∧x=(if s=0 then 0 else 0xE4,[])):=by
 unfold towE at h
 by_cases h1:m < w
 ·rw [List.getElem?_append_left (by simp;omega),List.getElem?_append_left (by simp;omega),List.getElem?_append_left (by simp;omega),List.getElem?_replicate,if_pos h1] at h
  exact .inl ⟨h1,(Option.some.inj h).symm⟩
 ·by_cases h2:m < w+towK n c s
  ·rw [List.getElem?_append_left (by simp;omega),List.getElem?_append_left (by simp;omega),List.getElem?_append_right (by simp;omega),List.getElem?_replicate,if_pos (by simp;omega)] at h
   exact .inr (.inl ⟨by omega,h2,(Option.some.inj h).symm⟩)
  ·by_cases h3:m < 2 * w+towK n c s
   ·rw [List.getElem?_append_left (by simp;omega),List.getElem?_append_right (by simp;omega),List.getElem?_replicate,if_pos (by simp;omega)] at h
    exact .inr (.inr (.inl ⟨by omega,h3,(Option.some.inj h).symm⟩))
   ·have hl:=(List.getElem?_eq_some_iff.1 h).1
    have hm:m=2 * w+towK n c s:=by simp at hl;omega
    rw [List.getElem?_append_right (by simp;omega)] at h
    subst hm
    simp only [List.length_append,List.length_replicate] at h
    rw [show 2 * w+towK n c s - (w+towK n c s+w)=0 by omega] at h
    exact .inr (.inr (.inr ⟨rfl,(Option.some.inj h).symm⟩))
theorem tow_enc:∀ x∈towE n c w s,OkE x:=by
 intro x hx
 obtain ⟨m,hm,rfl⟩:=List.getElem_of_mem hx
 rcases towE_get (List.getElem?_eq_getElem hm) with ⟨_,h⟩|⟨_,_,h⟩|⟨_,_,h⟩|⟨_,h⟩
 ·rw [h];exact ⟨_,rfl,rfl⟩
 ·rw [h];exact ⟨_,rfl,rfl⟩
 ·rw [h];exact ⟨_,rfl,rfl⟩
 ·rw [h]
  by_cases hs:s=0
  ·rw [if_pos hs];exact ⟨_,rfl,rfl⟩
  ·rw [if_neg hs];exact ⟨_,rfl,rfl⟩
theorem tow_types {k:Nat} (hk:k < n):(towC n c w).types.getD k ⟨0,0,0⟩=towT w k:=by
 simp [towC,towL,hk,towP]
theorem tow_codes {k:Nat} (hk:k < n):(towC n c w).codes.getD k []=encB (towE n c w k):=by
 simp [towC,towL,hk,towP]
theorem zcp:(towC n c w).codes.length=n:=by simp [towC,towL]
theorem tow_tlen:(towC n c w).types.length=n:=by simp [towC,towL]
theorem encB_le (E:List Enc) (h:∀ x∈E,x.2.length≤2):(encB E).length≤3 * E.length:=by
 induction E with
 | nil=>exact Nat.le_refl _
 | cons x E ih =>
  have:=h x List.mem_cons_self
  have:=ih fun y hy=>h y (List.mem_cons_of_mem _ hy)
  simp only [encB,List.flatMap_cons,List.length_append,List.length_cons] at this ⊢;omega
theorem tow_blen (hc:c≤4) (hw:w≤7):(encB (towE n c w s)).length≤65535∧0 < (encB (towE n c w s)).length:=by
 have h1:=encB_le (towE n c w s) fun x hx=>by
  obtain ⟨m,hm,rfl⟩:=List.getElem_of_mem hx
  rcases towE_get (List.getElem?_eq_getElem hm) with ⟨_,h⟩|⟨_,_,h⟩|⟨_,_,h⟩|⟨_,h⟩ <;> rw [h] <;> simp
 have h2:=encB_len (towE n c w s)
 rw [zdr] at h1 h2
 have:towK n c s≤4:=by unfold towK;split <;> omega
 omega
theorem tow_ins {m:Nat} {i:Ins} (hc:c≤4) (hw:w≤7) (hn:n≤128) (h:(insL 0 (towE n c w s))[m]? = some i) :
  (m < w∧i.code=95∧i.imm=[])∨(w≤m∧m < w+towK n c s∧i.code=227∧s+1 < n∧zae i=((s:Int)+1,true))∨(w+towK n c s≤m∧m < 2 * w+towK n c s∧i.code=80∧i.imm=[])∨(m=2 * w+towK n c s∧i.code=(if s=0 then 0 else 228)∧i.imm=[]):=by
 obtain ⟨x,hx,h1,h2,h3,h4,_⟩:=insL_get h
 rcases towE_get hx with ⟨a,e⟩|⟨a,b,e⟩|⟨a,b,e⟩|⟨a,e⟩
 ·subst e;exact .inl ⟨a,h1,h2⟩
 ·subst e
  have hs:s+1 < n:=by
   unfold towK at b
   split at b
   ·assumption
   ·omega
  refine .inr (.inl ⟨a,b,h1,hs,?_⟩)
  have hmem:i∈allT (encB (towE n c w s)):=by rw [allT_enc tow_enc];exact List.mem_of_getElem? h
  have hp:=allT_props hmem
  have hb:=(tow_blen (n:=n) (s:=s) hc hw).1
  unfold zae
  have hst:zdb i.at_ i.code i.imm i.next=true:=by
   rw [h1,h2,h3]
   have ho:opT (((227:UInt8).toNat:Int))=some ⟨2,0,0,5,false⟩:=rfl
   unfold zdb
   rw [show ((0xE3:UInt8).toNat:Int)=((227:UInt8).toNat:Int) from rfl,ho]
   simp only [lenT]
   rw [if_neg (by decide),decide_eq_true (show 0≤i.at_ by omega),decide_eq_true (show i.at_≤1048576 by omega)]
   simp
  rw [if_pos hst,if_pos (.inl h1)]
  congr 1
  rw [h2]
  have e1:=b8_nat (((s:Int)+1) / 256)
  have e2:=b8_nat ((s:Int)+1)
  simp only [pairT,List.getD_cons_zero,List.getD_cons_succ,e1,e2]
  omega
 ·subst e;exact .inr (.inr (.inl ⟨a,b,h1,h2⟩))
 ·subst e
  refine .inr (.inr (.inr ⟨a,?_,h2⟩))
  rw [h1]
  by_cases hs:s=0
  ·rw [if_pos hs,if_pos hs];rfl
  ·rw [if_neg hs,if_neg hs];rfl
theorem tow_tyAt {i:Ins} (hs:s+1 < n) (hi:zae i=((s:Int)+1,true)):tyAt (towC n c w).types i=⟨0,0,w⟩:=by
 unfold tyAt
 rw [hi,show ((s:Int)+1).toNat=s+1 by omega,tow_types hs]
 unfold towT
 rw [if_neg (by omega)]
theorem tow_sec (hc:c≤4) (hw:w≤7) (hn:n≤128) (hs:s < n):SecE (towC n c w) 1 s (towE n c w s) (towG n c w s):=by
 have hT:=tow_types (c:=c) (w:=w) hs
 have hI:=fun {m:Nat} {i:Ins}=>tow_ins (n:=n) (c:=c) (w:=w) (s:=s) (m:=m) (i:=i) hc hw hn
 have hk:towK n c s≤4:=by unfold towK;split <;> omega
 have mem:∀ i∈insL 0 (towE n c w s),∃ m,(insL 0 (towE n c w s))[m]? = some i:=fun i hi=>by
  obtain ⟨m,hm,rfl⟩:=List.getElem_of_mem hi
  exact ⟨m,List.getElem?_eq_getElem hm⟩
 have lastc:(if s=0 then (0:Int) else 228)=0∨(if s=0 then (0:Int) else 228)=228:=by split <;> simp
 have hT1:(towC n c w).types.getD s ⟨0,0,0⟩=⟨0,if s=0 then 128 else 0,w⟩:=hT
 refine ⟨by rw [zcp];exact hs,by rw [zcp,tow_tlen],fun t ht=>?_,tow_codes hs,tow_enc,⟨?_,fun i hi=>?_,fun m i hi=>?_,?_,fun m i hi hl=>?_,fun m i hi=>?_⟩,fun i hi=>?_,fun i hi st0 st=>?_,⟨fun k hk2=>?_,w,by rw [zdr];omega,?_⟩,fun ho=>?_⟩
 ·simp only [towC,towL,List.map_map,List.mem_map] at ht
  obtain ⟨k,_,rfl⟩:=ht
  simp only [Function.comp,towP,towT,TyOK]
  split <;> omega
 ·intro h
  have:=congrArg List.length h
  rw [zef,zdr] at this
  simp at this
 ·obtain ⟨m,hm⟩:=mem i hi
  rcases hI hm with ⟨_,h,_⟩|⟨_,_,h,_⟩|⟨_,_,h,_⟩|⟨_,h,_⟩
  ·exact zch (by omega) (by omega) (by omega)
  ·exact zch (by omega) (by omega) (by omega)
  ·exact zch (by omega) (by omega) (by omega)
  ·rcases lastc with e|e <;> rw [e] at h <;> exact zch (by omega) (by omega) (by omega)
 ·rw [zef,zdr]
  rcases hI hi with ⟨a,h,_⟩|⟨a,b,h,_⟩|⟨a,b,h,_⟩|⟨a,h,_⟩
  ·rw [h];exact ⟨fun hh=>(by cases hh),fun hh=>by omega⟩
  ·rw [h];exact ⟨fun hh=>(by cases hh),fun hh=>by omega⟩
  ·rw [h];exact ⟨fun hh=>(by cases hh),fun hh=>by omega⟩
  ·rw [h]
   refine ⟨fun _=>by omega,fun _=>?_⟩
   rcases lastc with e|e <;> rw [e] <;> rfl
 ·rw [hT1];unfold towG;rw [if_pos (Nat.zero_le _)];rfl
 ·rw [zef,zdr] at hl
  rcases hI hi with ⟨a,h,hi2⟩|⟨a,b,h,hs2,hnm⟩|⟨a,b,h,hi2⟩|⟨a,h,_⟩
  ·have ht:zav (towC n c w).types ((towC n c w).types.getD s ⟨0,0,0⟩) i=(0,1):=by
    unfold zav;rw [h,hi2];rfl
   rw [ht]
   unfold towG
   rw [if_pos (show m+1≤w by omega),if_pos (show m≤w by omega)]
   simp
  ·have ht:zav (towC n c w).types ((towC n c w).types.getD s ⟨0,0,0⟩) i=(0,0):=by
    unfold zav;rw [if_pos h,tow_tyAt hs2 hnm]
   rw [ht]
   unfold towG
   by_cases hm:m=w
   ·subst hm
    rw [if_neg (by omega),if_pos (by omega),if_pos (Nat.le_refl _)];simp
   ·rw [if_neg (by omega),if_pos (by omega),if_neg (by omega),if_pos (by omega)];simp
  ·have ht:zav (towC n c w).types ((towC n c w).types.getD s ⟨0,0,0⟩) i=(1,0):=by
    unfold zav;rw [h,hi2];rfl
   rw [ht]
   unfold towG
   by_cases hm:m≤w
   ·have:m=w:=by omega
    rw [if_neg (by omega),if_neg (by omega),if_pos hm];simp only;omega
   ·by_cases hm2:m≤w+towK n c s
    ·rw [if_neg (by omega),if_neg (by omega),if_neg hm,if_pos hm2];simp only;omega
    ·rw [if_neg (by omega),if_neg (by omega),if_neg hm,if_neg hm2];simp only;omega
  ·omega
 ·have hge:0≤towG n c w s m∧towG n c w s m≤7∨m > 2 * w+towK n c s:=by
   unfold towG
   split
   ·omega
   split <;> omega
  rcases hI hi with ⟨a,h,hi2⟩|⟨a,b,h,hs2,hnm⟩|⟨a,b,h,hi2⟩|⟨a,h,hi2⟩
  ·have ht:zav (towC n c w).types ((towC n c w).types.getD s ⟨0,0,0⟩) i=(0,1):=by
    unfold zav;rw [h,hi2];rfl
   unfold wrongT
   rw [ht,if_neg (by omega)]
   simp only
   rw [if_neg (by omega),if_neg (by omega),if_neg (by omega),if_neg (by omega)]
  ·have hta:=tow_tyAt (c:=c) (w:=w) hs2 hnm
   have ht:zav (towC n c w).types ((towC n c w).types.getD s ⟨0,0,0⟩) i=(0,0):=by
    unfold zav;rw [if_pos h,hta]
   unfold wrongT
   rw [ht,hta,if_neg (by omega)]
   simp only
   rw [if_neg (by omega),if_neg (by omega),if_neg (by omega),if_neg (by omega)]
  ·have ht:zav (towC n c w).types ((towC n c w).types.getD s ⟨0,0,0⟩) i=(1,0):=by
    unfold zav;rw [h,hi2];rfl
   have hg1:1≤towG n c w s m:=by
    unfold towG
    split
    ·omega
    split <;> omega
   unfold wrongT
   rw [ht,if_neg (by omega)]
   simp only
   rw [if_neg (by omega),if_neg (by omega),if_neg (by omega),if_neg (by omega)]
  ·have hg0:towG n c w s m=0:=by
    unfold towG
    split
    ·omega
    split <;> omega
   by_cases hs0:s=0
   ·rw [if_pos hs0] at h
    have ht:zav (towC n c w).types ((towC n c w).types.getD s ⟨0,0,0⟩) i=(0,0):=by
     unfold zav;rw [h,hi2];rfl
    unfold wrongT
    rw [ht,if_neg (by omega),hg0]
    simp only
    rw [if_neg (by omega),if_neg (by omega),if_neg (by omega),if_neg (by omega)]
   ·rw [if_neg hs0] at h
    have ht:zav (towC n c w).types ((towC n c w).types.getD s ⟨0,0,0⟩) i=(0,0):=by
     unfold zav;rw [if_neg (by omega),if_neg (by omega),if_pos h,hT1,if_neg hs0]
    unfold wrongT
    rw [ht,if_pos h,hg0]
    rfl
 ·obtain ⟨m,hm⟩:=mem i hi
  unfold namedP
  rcases hI hm with ⟨_,h,_⟩|⟨_,_,h,hs2,hnm⟩|⟨_,_,h,_⟩|⟨_,h,_⟩
  ·rw [if_neg (by omega),if_pos (by omega)]
  ·rw [if_neg (by omega),if_neg (by omega),hnm,tow_tlen,if_neg (by omega),if_pos h,tow_tyAt hs2 hnm];rfl
  ·rw [if_neg (by omega),if_pos (by omega)]
  ·by_cases hs0:s=0
   ·rw [if_pos hs0] at h
    rw [if_neg (by omega),if_pos (by omega)]
   ·rw [if_neg hs0] at h
    rw [if_pos h,hT1,if_neg hs0];rfl
 ·obtain ⟨m,hm⟩:=mem i hi
  have hle:zax i=[]:=by
   rcases hI hm with ⟨_,h,_⟩|⟨_,_,h,_⟩|⟨_,_,h,_⟩|⟨_,h,_⟩
   ·exact zch (by omega) (by omega) (by omega)
   ·exact zch (by omega) (by omega) (by omega)
   ·exact zch (by omega) (by omega) (by omega)
   ·rcases lastc with e|e <;> rw [e] at h <;> exact zch (by omega) (by omega) (by omega)
  have hbar:barsT i.code 1=false:=by
   unfold barsT
   rw [if_neg (by decide),if_pos rfl,beq_eq_false_iff_ne]
   rcases hI hm with ⟨_,h,_⟩|⟨_,_,h,_⟩|⟨_,_,h,_⟩|⟨_,h,_⟩
   ·omega
   ·omega
   ·omega
   ·rcases lastc with e|e <;> omega
  unfold zbx
  rw [hbar,hle,if_neg (by decide),if_neg (by simp [badL])]
  rcases hI hm with ⟨_,h,_⟩|⟨_,_,h,hs2,hnm⟩|⟨_,_,h,_⟩|⟨_,h,_⟩
  ·rw [if_neg (by omega),if_neg (by omega),if_neg (by omega),if_neg (by omega)]
  ·rw [if_pos (.inl h),hnm,tow_tlen,if_neg (by omega)]
   simp only
   unfold goesT
   rw [tow_tyAt hs2 hnm,if_neg (by simp),if_pos (.inl h)]
  ·rw [if_neg (by omega),if_neg (by omega),if_neg (by omega),if_neg (by omega)]
  ·by_cases hs0:s=0
   ·rw [if_pos hs0] at h
    rw [if_neg (by omega),if_neg (by omega),if_neg (by omega),if_neg (by omega)]
   ·rw [if_neg hs0] at h
    rw [if_neg (by omega),if_pos h,hT1,if_neg hs0];rfl
 ·rw [hT1]
  rw [zdr] at hk2
  unfold towG
  simp only
  split
  ·omega
  split <;> omega
 ·rw [hT1];unfold towG;rw [if_pos (Nat.le_refl _)]
 ·rw [hT1] at ho
  have hs0:s≠0:=fun h=>by rw [if_pos h] at ho;exact ho rfl
  rw [List.any_eq_true]
  have hl:2 * w+towK n c s < (insL 0 (towE n c w s)).length:=by rw [zef,zdr];omega
  have hg:(insL 0 (towE n c w s))[2 * w+towK n c s]? = some (insL 0 (towE n c w s))[2 * w+towK n c s]:=List.getElem?_eq_getElem hl
  refine ⟨_,List.mem_of_getElem? hg,?_⟩
  rcases hI hg with ⟨a,h,_⟩|⟨a,b,h,_⟩|⟨a,b,h,_⟩|⟨_,h,_⟩
  ·omega
  ·omega
  ·omega
  ·rw [if_neg hs0] at h
   unfold retP
   rw [h];rfl
end
theorem all_le:∀ (m:Nat) (l:List Int),l.Nodup→(∀ n,n < m→(n:Int)∈l)→m≤l.length
 | 0,l,_,_=>Nat.zero_le _
 | m+1,l,hn,h=>by
  have hm:=h m (by omega)
  have ih:=all_le m (l.erase (m:Int)) (hn.erase _) fun n hnm=>(List.mem_erase_of_ne (by omega)).2 (h n (by omega))
  rw [List.length_erase_of_mem hm] at ih
  have:=List.length_pos_of_mem hm
  omega
theorem insL_next:∀ {E:List Enc} {a:Int} {n:Nat} {i j:Ins},(insL a E)[n]? = some i→(insL a E)[n+1]? = some j→j.at_=i.next
 | [],a,n,i,j,h,g=>by simp [insL] at h
 | x::E,a,0,i,j,h,g=>by
  simp only [insL,List.getElem?_cons_zero,Option.some.injEq,List.getElem?_cons_succ] at h g
  subst h
  obtain ⟨_,_,_,_,_,_,h0⟩:=insL_get g
  exact h0 rfl
 | x::E,a,n+1,i,j,h,g=>by
  simp only [insL,List.getElem?_cons_succ] at h g
  exact insL_next h g
theorem partsT0 {most:Int}:∀ {l:List (List UInt8)},(∀ x∈l,0 < x.length∧(x.length:Int)≤most)→partsT most l=0
 | [],_=>rfl
 | x::l,h=>by
  have hx:=h x List.mem_cons_self
  rw [partsT,if_neg (by omega),if_neg (by omega)]
  exact partsT0 fun y hy=>h y (List.mem_cons_of_mem _ hy)
section
variable {n c w:Nat}
theorem tow_fit (hw:w≤7) (s:Nat):fitT (decide (s=0)) (towT w s)=true:=by
 unfold fitT fitIn zdo zdl towT
 by_cases hs:s=0
 ·subst hs
  simp;omega
 ·simp [hs];omega
theorem tow_parse (h0:0 < n) (hn:n≤128) (hc:c≤4) (hw:w≤7):zba (zcc (towL n c w)) false = .ok (towC n c w):=by
 refine parse_made (l:=towL n c w) (by simp [towL];omega) (by simp [towL];omega) (fun p hp=>?_) fun j p hj=>?_
 ·simp only [towL,List.mem_map,List.mem_range] at hp
  obtain ⟨s,hs,rfl⟩:=hp
  have:=tow_blen (n:=n) (c:=c) (w:=w) (s:=s) hc hw
  exact ⟨this.2,this.1⟩
 ·simp only [towL,List.getElem?_map] at hj
  cases hr:(List.range n)[j]? with
  | none=>rw [hr] at hj;cases hj
  | some k =>
   rw [hr] at hj
   have:k=j:=by
    obtain ⟨h1,h2⟩:=List.getElem?_eq_some_iff.1 hr
    simpa using h2.symm
   subst this
   simp only [Option.map_some,Option.some.injEq] at hj
   subst hj
   exact tow_fit hw k
theorem tow_check (h0:0 < n) (hn:n≤128) (hc:c≤4) (hw:w≤7):zbq (towC n c w)=0:=by
 unfold zbq
 have h1:=zcp (n:=n) (c:=c) (w:=w)
 have h2:=tow_tlen (n:=n) (c:=c) (w:=w)
 have hp:partsT 65535 (towC n c w).codes=0:=partsT0 fun x hx=>by
  simp only [towC,towL,List.map_map,List.mem_map,List.mem_range] at hx
  obtain ⟨s,hs,rfl⟩:=hx
  have:=tow_blen (n:=n) (c:=c) (w:=w) (s:=s) hc hw
  simp only [Function.comp,towP]
  omega
 have ht:zea (towC n c w).types=true:=by
  unfold zea
  rw [List.all_eq_true]
  intro k hk
  rw [List.mem_range,h2] at hk
  rw [tow_types hk]
  exact tow_fit hw k
 rw [if_neg (by omega),if_neg (by omega),if_neg (by omega),if_neg (by rw [hp];simp),if_neg (by simp [towC]),if_neg (by simp [towC,partsT]),if_neg (by simp [towC]),if_neg (by simp [towC]),if_pos ht]
theorem tow_dT {s:Nat} (hs:s < n):dT (towC n c w) (s:Int)=insL 0 (towE n c w s):=by
 unfold dT
 rw [secT_in (by rw [zcp];exact hs),tow_codes hs,allT_enc tow_enc]
theorem tow_call (hc0:0 < c) (hc:c≤4) (hw:w≤7) (hn:n≤128) {s:Nat} (hs:s+1 < n):∃ i,(insL 0 (towE n c w s))[w]? = some i∧i.code=227∧zae i=((s:Int)+1,true):=by
 have hk:towK n c s=c:=by unfold towK;rw [if_pos hs]
 have hl:w < (insL 0 (towE n c w s)).length:=by rw [zef,zdr];omega
 have hg:=List.getElem?_eq_getElem hl
 refine ⟨_,hg,?_⟩
 rcases tow_ins hc hw hn hg with ⟨a,_⟩|⟨_,_,h,_,h2⟩|⟨a,_⟩|⟨a,_⟩
 ·omega
 ·exact ⟨h,h2⟩
 ·omega
 ·omega
theorem tow_reach (hc0:0 < c) (hc:c≤4) (hw:w≤7) (hn:n≤128):∀ k:Nat,k < n→CR (towC n c w) 0 k
 | 0,_=>.refl
 | k+1,hk=>by
  obtain ⟨i,hi,h7,hnm⟩:=tow_call (w:=w) hc0 hc hw hn hk
  have:=CR.step (tow_reach hc0 hc hw hn k (by omega)) (i:=i) (by rw [tow_dT (by omega)];exact List.mem_of_getElem? hi) (.inl h7)
  rw [hnm] at this
  exact this
theorem tow_valid (h0:0 < n) (hn:n≤128) (hc0:0 < c) (hc:c≤4) (hw:w≤7):zdm (zcc (towL n c w)) 1 = .ok (towC n c w) :=
 valid_str (tow_parse h0 hn hc hw) (by decide) (tow_check h0 hn hc hw) rfl (fun s hs=>⟨_,_,tow_sec hc hw hn (by rwa [zcp] at hs)⟩) fun k hk=>tow_reach hc0 hc hw hn k (by rwa [zcp] at hk)
theorem tow_in {s:Int} {i:Ins} (hi:i∈dT (towC n c w) s):∃ k m:Nat,s=k∧k < n∧(insL 0 (towE n c w k))[m]? = some i:=by
 have hin:InR (towC n c w) s:=by
  unfold dT secT at hi
  split at hi
  ·assumption
  ·simp [allT,allF,zcl] at hi
 obtain ⟨k,rfl⟩:=Int.eq_ofNat_of_zero_le hin.1
 have hk:k < n:=by have:=hin.2;rw [zcp] at this;omega
 rw [tow_dT hk] at hi
 obtain ⟨m,hm,rfl⟩:=List.getElem_of_mem hi
 exact ⟨k,m,rfl,hk,List.getElem?_eq_getElem hm⟩
theorem tow_named (hc:c≤4) (hw:w≤7) (hn:n≤128) {s:Int} {i:Ins} (hi:i∈dT (towC n c w) s) (hci:zcg i):i.code=227∧(zae i).1=s+1∧s+1 < n:=by
 obtain ⟨k,m,rfl,hk,hm⟩:=tow_in hi
 rcases tow_ins hc hw hn hm with ⟨_,h,_⟩|⟨_,_,h,h1,h2⟩|⟨_,_,h,_⟩|⟨_,h,_⟩
 ·unfold zcg at hci;omega
 ·exact ⟨h,by rw [h2],by omega⟩
 ·unfold zcg at hci;omega
 ·unfold zcg at hci;split at h <;> omega
theorem tow_up (hc:c≤4) (hw:w≤7) (hn:n≤128) {a b:Int} (h:CR (towC n c w) a b):a≤b:=by
 induction h with
 | refl=>exact Int.le_refl _
 | step _ hi hci ih=>have:=(tow_named hc hw hn hi hci).2.1;omega
theorem tow_su (hc:c≤4) (hw:w≤7) (hn:n≤128) (hv:VC (towC n c w)) {s m:Nat} {i:Ins} (hs:s < n) (hi:(insL 0 (towE n c w s))[m]? = some i) :
  (m+1=(insL 0 (towE n c w s)).length∧zdg i.code=true∧zax i=[])∨∃ j,(insL 0 (towE n c w s))[m+1]? = some j∧zdg i.code=false∧zax i=[]∧zam i=[j.at_]:=by
 have hS:=(tow_sec (n:=n) (c:=c) (w:=w) (s:=s) hc hw hn hs).str
 have hle:=hS.leads i (List.mem_of_getElem? hi)
 by_cases he:zdg i.code=true
 ·exact .inl ⟨(hS.last m i hi).1 he,he,hle⟩
 ·have hml:=(List.getElem?_eq_some_iff.1 hi).1
  have hl:m+1 < (insL 0 (towE n c w s)).length:=by
   have:¬ m+1=(insL 0 (towE n c w s)).length:=fun h=>he ((hS.last m i hi).2 h)
   omega
  have hj:=List.getElem?_eq_getElem hl
  refine .inr ⟨_,hj,by simpa using he,hle,?_⟩
  unfold zam
  rw [hle,if_neg he,insL_next hi hj];rfl
theorem tow_sorted (hc:c≤4) (hw:w≤7) (hn:n≤128) (hv:VC (towC n c w)) {s:Nat} (hs:s < n):(zcz (dT (towC n c w) (s:Int))).length=(dT (towC n c w) (s:Int)).length:=by
 have hsp:=hv.srt s ⟨by omega,by rw [zcp];omega⟩
 have ho:=sortT_ord hsp
 rw [tow_dT hs] at hsp ho ⊢
 have key:∀ j m,m+1+j=(insL 0 (towE n c w s)).length→(m:Int)∈zcz (insL 0 (towE n c w s)):=by
  intro j
  induction j with
  | zero =>
   intro m hm
   refine Classical.byContradiction fun hx=>?_
   obtain ⟨k,hk,_⟩:=ho.stuck m (by omega) hx
   have hg:(insL 0 (towE n c w s))[m]? = some (insL 0 (towE n c w s))[m]:=List.getElem?_eq_getElem (by omega)
   rcases tow_su hc hw hn hv hs hg with ⟨_,h1,h2⟩|⟨j,h1,_⟩
   ·rw [su_get hg] at hk
    unfold zam at hk
    rw [h1,h2] at hk
    simp at hk
   ·have:=(List.getElem?_eq_some_iff.1 h1).1;omega
  | succ j ih =>
   intro m hm
   refine Classical.byContradiction fun hx=>?_
   obtain ⟨k,hk,hk2⟩:=ho.stuck m (by omega) hx
   have hg:(insL 0 (towE n c w s))[m]? = some (insL 0 (towE n c w s))[m]:=List.getElem?_eq_getElem (by omega)
   rcases tow_su hc hw hn hv hs hg with ⟨h1,_⟩|⟨i',h1,_,_,h4⟩
   ·omega
   ·obtain ⟨i2,h5,h6⟩:=su_goes hsp hg hk
    rw [h4,List.mem_singleton] at h6
    have hal:=allT_enc (tow_enc (n:=n) (c:=c) (w:=w) (s:=s))
    have:k=m+1:=by
     rw [← hal] at h5 h1
     exact at_inj h5 h1 h6
    subst this
    exact hk2 (ih (m+1) (by omega))
 have h1:=all_le (insL 0 (towE n c w s)).length _ ho.nd fun m hm=>key ((insL 0 (towE n c w s)).length - 1 - m) m (by omega)
 have h2:=nodup_le _ _ ho.nd ho.rg
 omega
theorem tow_circ (hc:c≤4) (hw:w≤7) (hn:n≤128) (hv:VC (towC n c w)):¬ Circ (towC n c w):=by
 rintro (⟨s,hs,h⟩|⟨j,i,hj,hi,hci,hr⟩)
 ·obtain ⟨k,rfl⟩:=Int.eq_ofNat_of_zero_le hs.1
  exact h (tow_sorted hc hw hn hv (by have:=hs.2;rw [zcp] at this;omega))
 ·have h1:=tow_named hc hw hn hi hci
  have h2:=tow_up hc hw hn hr
  omega
end
def satN (a:Nat):Int:=if (a:Int) > 18446744073709551615 then 18446744073709551615 else a
theorem satN_rng (a:Nat):0≤satN a∧satN a≤18446744073709551615:=by unfold satN;split <;> omega
theorem satN_sum (a b:Nat):sumT (satN a) (satN b)=satN (a+b):=by
 unfold sumT satN
 (repeat' split) <;> omega
def ndN (a b:Nat):Need:=⟨satN a,satN b,true⟩
theorem and_nd (a b a' b':Nat):andT (ndN a b) (ndN a' b')=ndN (a+a') (b+b'):=by
 unfold andT ndN
 simp only
 rw [if_neg (by simp),satN_sum,satN_sum]
theorem own_nd {g:Nat} (hg:g≤1000):(⟨1,(g:Int),true⟩:Need)=ndN 1 g:=by
 unfold ndN satN
 rw [if_neg (by omega),if_neg (by omega)];rfl
def tauN (c w:Nat):Nat→Nat
 | 0=>2 * w+1
 | r+1=>2 * w+1+c * (1+tauN c w r)
def gamN (c w:Nat):Nat→Nat
 | 0=>4 * w+3
 | r+1=>4 * w+3+c * (5+gamN c w r)
def restS (w K T m:Nat):Nat:=(w - m)+(K - (m - w)) * (1+T)+(w - (m - (w+K)))+1
def restG (w K G e m:Nat):Nat:=2 * (w - m)+(K - (m - w)) * (5+G)+2 * (w - (m - (w+K)))+e
theorem rest_a {w K T G e m:Nat} (h:m < w):restS w K T m=1+restS w K T (m+1)∧restG w K G e m=2+restG w K G e (m+1):=by
 have e1:K - (m - w)=K - (m+1 - w):=by omega
 unfold restS restG
 rw [e1];omega
theorem rest_b {w K T G e m:Nat} (h:w≤m) (h2:m < w+K):restS w K T m=1+T+restS w K T (m+1)∧restG w K G e m=5+G+restG w K G e (m+1):=by
 have e1:K - (m - w)=(K - (m+1 - w))+1:=by omega
 unfold restS restG
 rw [e1,Nat.succ_mul _ (1+T),Nat.succ_mul _ (5+G)];omega
theorem rest_c {w K T G e m:Nat} (h:w+K≤m) (h2:m < 2 * w+K):restS w K T m=1+restS w K T (m+1)∧restG w K G e m=2+restG w K G e (m+1):=by
 have e1:K - (m - w)=0:=by omega
 have e2:K - (m+1 - w)=0:=by omega
 unfold restS restG
 rw [e1,e2,Nat.zero_mul,Nat.zero_mul];omega
theorem rest_d {w K T G e:Nat}:restS w K T (2 * w+K)=1∧restG w K G e (2 * w+K)=e:=by
 have e1:K - (2 * w+K - w)=0:=by omega
 unfold restS restG
 rw [e1,Nat.zero_mul,Nat.zero_mul];omega
theorem rest_0 {w K T G e:Nat}:restS w K T 0=2 * w+1+K * (1+T)∧restG w K G e 0=4 * w+e+K * (5+G):=by
 unfold restS restG
 rw [show K - (0 - w)=K by omega];omega
def woN (s:Nat) (x:Need):Worth:=if s=0 then ⟨need0,x⟩ else ⟨x,need0⟩
theorem wo_and {s:Nat} {a x:Need}:(⟨andT a (woN s x).back,andT a (woN s x).fin⟩:Worth)=woN s (andT a x):=by
 unfold woN
 split <;> simp only [and0]
section
variable {n c w:Nat} {S:WS}
theorem far_one {kn:KN} {s:Int} {t:Int} {v:Worth} (h:vT kn (s,t)=v):farT kn s [t] zbt=v:=by
 unfold vT at h
 rw [farT,farT,h]
 simp only [zbt,or0]
theorem tow_vals (hc:c≤4) (hw:w≤7) (hn:n≤128) (hv:VC (towC n c w)) (hk:Known (towC n c w) S) (hcl:∀ s,InR (towC n c w) s→clo S s) {s:Nat} (hs:s < n) {T G:Nat}
  (hT:s+1 < n→vT S.kn ((s:Int)+1,0)=⟨ndN T G,need0⟩) :
  ∀ (j m:Nat) i,m+j=2 * w+towK n c s→(insL 0 (towE n c w s))[m]? = some i→vT S.kn ((s:Int),i.at_)=woN s (ndN (restS w (towK n c s) T m) (restG w (towK n c s) G (if s=0 then 0 else 3) m)):=by
 have hE:=zdr (n:=n) (c:=c) (w:=w) (s:=s)
 have hcs:clo S s:=hcl s ⟨by omega,by rw [zcp];omega⟩
 have eqn:∀ {m:Nat} {i:Ins},(insL 0 (towE n c w s))[m]? = some i→vT S.kn ((s:Int),i.at_)=zda S.kn s i:=fun hi =>
  vT_eqn hk.inv hcs (by rw [tow_dT hs];exact List.mem_of_getElem? hi)
 have plain:∀ {m:Nat} {i j:Ins} {x:Need},(insL 0 (towE n c w s))[m]? = some i→zam i=[j.at_]→zdg i.code=false→gasT i.code=2→i.code≠228→i.code≠229→i.code≠227→vT S.kn ((s:Int),j.at_)=woN s x →
   vT S.kn ((s:Int),i.at_)=woN s (andT (ndN 1 2) x):=fun {m i j x} hi hg he h2 n8 n9 n7 hx=>by
  rw [eqn hi]
  unfold zda
  rw [if_neg n8,if_neg n9,if_neg n7,if_neg (by rw [he];simp),hg,far_one hx,h2,wo_and,← own_nd (g:=2) (by decide)];rfl
 intro j
 induction j with
 | zero =>
  intro m i hm hi
  rcases tow_ins hc hw hn hi with ⟨a,_⟩|⟨a,b,_⟩|⟨a,b,_⟩|⟨a,h,hi2⟩
  ·omega
  ·omega
  ·omega
  ·subst a
   rw [eqn hi,(rest_d (w:=w) (K:=towK n c s) (T:=T) (G:=G) (e:=0)).1,(rest_d (T:=0)).2]
   unfold zda woN
   by_cases h0:s=0
   ·rw [if_pos h0] at h
    rw [h,if_neg (by decide),if_neg (by decide),if_neg (by decide),if_pos ⟨rfl,zch (by omega) (by omega) (by omega)⟩,if_pos h0,if_pos h0,← own_nd (g:=0) (by decide)];rfl
   ·rw [if_neg h0] at h
    rw [h,if_pos rfl,if_neg h0,if_neg h0,← own_nd (g:=3) (by decide)];rfl
 | succ j ih =>
  intro m i hm hi
  rcases tow_su hc hw hn hv hs hi with ⟨h1,_⟩|⟨i',h1,h2,h3,h4⟩
  ·rw [zef] at h1;omega
  ·have hx:=ih (m+1) i' (by omega) h1
   rcases tow_ins hc hw hn hi with ⟨a,h,_⟩|⟨a,b,h,hs2,hnm⟩|⟨a,b,h,hi2⟩|⟨a,h,hi2⟩
   ·rw [plain hi h4 h2 (by rw [h];rfl) (by omega) (by omega) (by omega) hx,and_nd,(rest_a (T:=T) (G:=G) (e:=if s=0 then 0 else 3) a).1,(rest_a (T:=T) a).2]
   ·rw [eqn hi]
    have hnv:((S.kn ((zae i).1,0)).getD zbt)=⟨ndN T G,need0⟩:=by rw [hnm];exact hT hs2
    have hg:gasT i.code=5:=by rw [h];rfl
    unfold zda
    rw [if_neg (by omega),if_neg (by omega),if_pos h,h4,far_one hx,hnv,hg,(rest_b (T:=T) (G:=G) (e:=if s=0 then 0 else 3) a b).1,(rest_b (T:=T) a b).2]
    simp only
    rw [and0,or0,wo_and,show (⟨1,5,true⟩:Need)=ndN 1 5 from own_nd (g:=5) (by decide),and_nd,and_nd]
   ·rw [plain hi h4 h2 (by rw [h];rfl) (by omega) (by omega) (by omega) hx,and_nd,(rest_c (T:=T) (G:=G) (e:=if s=0 then 0 else 3) a b).1,(rest_c (T:=T) a b).2]
   ·omega
theorem tow_vS (hc:c≤4) (hw:w≤7) (hn:n≤128) (hv:VC (towC n c w)) (hk:Known (towC n c w) S) (hcl:∀ s,InR (towC n c w) s→clo S s) :
  ∀ (r s:Nat),s+1+r=n→vT S.kn ((s:Int),0)=woN s (ndN (tauN c w r) (gamN c w r - (if s=0 then 3 else 0))):=by
 have start:∀ s:Nat,s < n→∃ i,(insL 0 (towE n c w s))[0]? = some i∧i.at_=0:=fun s hs=>by
  have hl:0 < (insL 0 (towE n c w s)).length:=by rw [zef,zdr];omega
  have hg:=List.getElem?_eq_getElem hl
  obtain ⟨_,_,_,_,_,_,h⟩:=insL_get hg
  exact ⟨_,hg,h rfl⟩
 intro r
 induction r with
 | zero =>
  intro s hs
  obtain ⟨i,hi,h0⟩:=start s (by omega)
  have hK:towK n c s=0:=by unfold towK;rw [if_neg (by omega)]
  have:=tow_vals (T:=0) (G:=0) hc hw hn hv hk hcl (s:=s) (by omega) (fun h=>by omega) (2 * w+towK n c s) 0 i (by omega) hi
  rw [h0,(rest_0 (G:=0) (e:=0)).1,(rest_0 (T:=0)).2,hK] at this
  simp only [Nat.zero_mul] at this
  rw [this]
  congr 2
  unfold gamN
  split <;> omega
 | succ r ih =>
  intro s hs
  obtain ⟨i,hi,h0⟩:=start s (by omega)
  have hK:towK n c s=c:=by unfold towK;rw [if_pos (by omega)]
  have hT:=ih (s+1) (by omega)
  unfold woN at hT
  rw [if_neg (by omega),if_neg (by omega),Nat.sub_zero,show (((s+1:Nat):Int))=(s:Int)+1 by omega] at hT
  have:=tow_vals (T:=tauN c w r) (G:=gamN c w r) hc hw hn hv hk hcl (s:=s) (by omega) (fun _=>hT) (2 * w+towK n c s) 0 i (by omega) hi
  rw [h0,(rest_0 (G:=0) (e:=0)).1,(rest_0 (T:=0)).2,hK] at this
  rw [this]
  have e1:tauN c w (r+1)=2 * w+1+c * (1+tauN c w r):=rfl
  have e2:gamN c w (r+1)=4 * w+3+c * (5+gamN c w r):=rfl
  rw [e1,e2]
  congr 2
  split <;> omega
theorem tow_places (hc0:0 < c) (hc:c≤4) (hw:w≤7) (hn:n≤128) (hk:Known (towC n c w) S) (hcl:∀ s,InR (towC n c w) s→clo S s) :
  ∀ (r s:Nat),s+1+r=n→plP S (s:Int)=r:=by
 intro r
 induction r with
 | zero =>
  intro s hs
  rcases hk.plx s (hcl s ⟨by omega,by rw [zcp];omega⟩) with h|⟨i,hi,h⟩
  ·exact h
  ·have:=(tow_named hc hw hn hi (h.imp (·.1) (·.1))).2.2;omega
 | succ r ih =>
  intro s hs
  have hcs:=hcl s ⟨by omega,by rw [zcp];omega⟩
  obtain ⟨i,hi,h7,hnm⟩:=tow_call (w:=w) hc0 hc hw hn (s:=s) (by omega)
  have hid:i∈dT (towC n c w) (s:Int):=by rw [tow_dT (by omega)];exact List.mem_of_getElem? hi
  have h1:=hk.pl7 s hcs i hid h7
  have hr:=ih (s+1) (by omega)
  have e:(((s+1:Nat):Int))=(s:Int)+1:=by omega
  rw [e] at hr
  rw [hnm,hr] at h1
  rcases hk.plx s hcs with h|⟨j,hj,h⟩
  ·omega
  ·have hnj:=tow_named hc hw hn hj (h.imp (·.1) (·.1))
   rw [hnj.2.1,hr] at h
   omega
end
theorem wholeL_h {C:Cont} {wh:Int→Option Whole} {d:List Ins} {B:Int} (hB:B≤1000000):∀ (r:List Ty) (n:Nat) (x:Whole),n+r.length≤d.length →
  (∀ m t,r[m]? = some t→0≤t.most∧t.most≤B∧∀ i,d[n+m]? = some i→zcg i→(tyT C (zae i).1).inn=0∧0≤((wh (zae i).1).getD zaz).height∧t.most+((wh (zae i).1).getD zaz).height≤B)→x.height≤B →
  x.height≤(zck C wh d n r x).height∧(zck C wh d n r x).height≤B∧∀ m t,r[m]? = some t→t.most≤(zck C wh d n r x).height∧∀ i,d[n+m]? = some i→zcg i→t.most+((wh (zae i).1).getD zaz).height≤(zck C wh d n r x).height
 | [],n,x,hl,h,hx=>⟨Int.le_refl _,hx,fun m t ht=>by simp at ht⟩
 | t::r,n,x,hl,h,hx=>by
  rw [List.length_cons] at hl
  have hnl:n < d.length:=by omega
  have hgi:d[n]? = some d[n]:=List.getElem?_eq_getElem hnl
  generalize d[n]=i at hgi
  obtain ⟨t0,t1,t2⟩:=h 0 t rfl
  have hr:∀ m u,r[m]? = some u→0≤u.most∧u.most≤B∧∀ i,d[n+1+m]? = some i→zcg i→(tyT C (zae i).1).inn=0∧0≤((wh (zae i).1).getD zaz).height∧u.most+((wh (zae i).1).getD zaz).height≤B:=fun m u hu=>by
   have:=h (m+1) u (by simpa using hu)
   rwa [show n+(m+1)=n+1+m by omega] at this
  rw [zck,hgi]
  simp only
  split
  ·rename_i hc
   have hm:maxI x.height t.most≤B∧x.height≤maxI x.height t.most∧t.most≤maxI x.height t.most:=by unfold maxI;split <;> omega
   obtain ⟨g1,g2,g3⟩:=wholeL_h hB r (n+1) ⟨maxI x.height t.most,x.places,x.isOpen⟩ (by omega) hr hm.1
   simp only at g1
   refine ⟨by omega,g2,fun m u hu=>?_⟩
   cases m with
   | zero =>
    simp only [List.getElem?_cons_zero,Option.some.injEq] at hu
    subst hu
    refine ⟨by omega,fun j hj hcj=>?_⟩
    rw [Nat.add_zero,hgi] at hj
    cases hj
    unfold zcg at hcj;omega
   | succ m =>
    have:=g3 m u (by simpa using hu)
    rwa [show n+1+m=n+(m+1) by omega] at this
  ·rename_i hc
   have hci:zcg i:=by unfold zcg;omega
   obtain ⟨a1,a2,a3⟩:=t2 i (by rw [Nat.add_zero];exact hgi) hci
   generalize hz:(wh (zae i).1).getD zaz=z at a2 a3
   have hh:(calledT C i t.most ⟨maxI x.height t.most,x.places,x.isOpen⟩ z).height=maxI (maxI x.height t.most) (t.most+z.height):=by
    unfold calledT
    simp only
    rw [a1,Int.sub_zero,i64w (n:=t.most) (by omega) (by omega),i64w (n:=t.most+z.height) (by omega) (by omega)]
   have hm:maxI (maxI x.height t.most) (t.most+z.height)≤B∧x.height≤maxI (maxI x.height t.most) (t.most+z.height)∧t.most≤maxI (maxI x.height t.most) (t.most+z.height)∧t.most+z.height≤maxI (maxI x.height t.most) (t.most+z.height):=by
    unfold maxI
    (repeat' split) <;> omega
   obtain ⟨g1,g2,g3⟩:=wholeL_h hB r (n+1) (calledT C i t.most ⟨maxI x.height t.most,x.places,x.isOpen⟩ z) (by omega) hr (by rw [hh];exact hm.1)
   rw [hh] at g1
   refine ⟨by omega,g2,fun m u hu=>?_⟩
   cases m with
   | zero =>
    simp only [List.getElem?_cons_zero,Option.some.injEq] at hu
    subst hu
    refine ⟨by omega,fun j hj hcj=>?_⟩
    rw [Nat.add_zero,hgi] at hj
    cases hj
    rw [hz];omega
   | succ m =>
    have:=g3 m u (by simpa using hu)
    rwa [show n+1+m=n+(m+1) by omega] at this
section
variable {n c w:Nat} {S:WS}
theorem tow_height (hc0:0 < c) (hc:c≤4) (hw:w≤7) (hn:n≤128) (hv:VC (towC n c w)) (hk:Known (towC n c w) S) (hcl:∀ s,InR (towC n c w) s→clo S s) :
  ∀ (r s:Nat),s+1+r=n→((S.wh (s:Int)).getD zaz).height=((w * (r+1):Nat):Int):=by
 have gen:∀ s:Nat,s < n→∀ H:Int,0≤H→H≤100000→(s+1 < n→((S.wh ((s:Int)+1)).getD zaz).height=H)→((S.wh (s:Int)).getD zaz).height=if s+1 < n then (w:Int)+H else w:=fun s hs H hH0 hH hT=>by
  obtain ⟨x,hx,ho⟩:=hcl s ⟨by omega,by rw [zcp];omega⟩
  have hwl:=hk.inv.whl s x hx ho
  have hE:=tow_sec (n:=n) (c:=c) (w:=w) (s:=s) hc hw hn hs
  have hd:=tow_dT (n:=n) (c:=c) (w:=w) hs
  have hgt:hgtI (towC n c w) (s:Int)=htsT (insL 0 (towE n c w s)) (hvG (insL 0 (towE n c w s)).length (towG n c w s) (insL 0 (towE n c w s)).length):=by
   unfold hgtI
   rw [if_pos ⟨by omega,by rw [zcp];omega⟩,Int.toNat_natCast]
   unfold hgtT
   rw [hE.heights]
  have hl:=hv.hl s ⟨by omega,by rw [zcp];omega⟩
  rw [hd] at hl hwl
  have hlE:(insL 0 (towE n c w s)).length=2 * w+towK n c s+1:=by rw [zef,zdr]
  have at_:∀ m,m < 2 * w+towK n c s+1→∃ a,(hgtI (towC n c w) (s:Int))[m]? = some ⟨a,towG n c w s m,towG n c w s m⟩:=fun m hm=>by
   rw [hgt]
   exact ⟨_,htsT_at (by rw [hlE];exact hm)⟩
  have hG:∀ m,m < 2 * w+towK n c s+1→0≤towG n c w s m∧towG n c w s m≤w:=fun m hm=>by
   unfold towG
   split
   ·omega
   split <;> omega
  have hty:s+1 < n→(tyT (towC n c w) ((s:Int)+1)).inn=0:=fun h=>by
   unfold tyT
   split
   ·rw [show ((s:Int)+1).toNat=s+1 by omega,tow_types h];rfl
   ·rfl
  rw [hx,Option.getD_some,hwl]
  by_cases hlast:s+1 < n
  ·rw [if_pos hlast]
   obtain ⟨g1,g2,g3⟩:=wholeL_h (C:=towC n c w) (wh:=S.wh) (d:=insL 0 (towE n c w s)) (B:=(w:Int)+H) (by omega) (hgtI (towC n c w) (s:Int)) 0 zaz (by omega) (fun m t ht=>by
    have hm:=(List.getElem?_eq_some_iff.1 ht).1
    obtain ⟨a,ha⟩:=at_ m (by omega)
    rw [ht] at ha
    cases ha
    have:=hG m (by omega)
    refine ⟨this.1,(by show towG n c w s m≤(w:Int)+H;omega),fun i hi hci=>?_⟩
    rw [Nat.zero_add] at hi
    obtain ⟨_,e,_⟩:=tow_named hc hw hn (by rw [hd];exact List.mem_of_getElem? hi) hci
    rw [e,hT hlast]
    exact ⟨hty hlast,hH0,(by show towG n c w s m+H≤(w:Int)+H;omega)⟩) (by show (0:Int)≤(w:Int)+H;omega)
   obtain ⟨i,hi,h7,hnm⟩:=tow_call (w:=w) hc0 hc hw hn hlast
   have hK:towK n c s=c:=by unfold towK;rw [if_pos hlast]
   obtain ⟨a,ha⟩:=at_ w (by omega)
   have:=(g3 w _ ha).2 i (by rw [Nat.zero_add];exact hi) (.inl h7)
   rw [hnm,hT hlast] at this
   have e:towG n c w s w=w:=by unfold towG;rw [if_pos (Nat.le_refl _)]
   simp only [e] at this
   omega
  ·rw [if_neg hlast]
   have hK:towK n c s=0:=by unfold towK;rw [if_neg hlast]
   obtain ⟨g1,g2,g3⟩:=wholeL_h (C:=towC n c w) (wh:=S.wh) (d:=insL 0 (towE n c w s)) (B:=(w:Int)) (by omega) (hgtI (towC n c w) (s:Int)) 0 zaz (by omega) (fun m t ht=>by
    have hm:=(List.getElem?_eq_some_iff.1 ht).1
    obtain ⟨a,ha⟩:=at_ m (by omega)
    rw [ht] at ha
    cases ha
    have:=hG m (by omega)
    refine ⟨this.1,this.2,fun i hi hci=>?_⟩
    rw [Nat.zero_add] at hi
    have:=(tow_named hc hw hn (by rw [hd];exact List.mem_of_getElem? hi) hci).2.2
    omega) (by show (0:Int)≤(w:Int);omega)
   obtain ⟨a,ha⟩:=at_ w (by omega)
   have:=(g3 w _ ha).1
   have e:towG n c w s w=w:=by unfold towG;rw [if_pos (Nat.le_refl _)]
   simp only [e] at this
   omega
 intro r
 induction r with
 | zero =>
  intro s hs
  rw [gen s (by omega) 0 (by omega) (by omega) fun h=>by omega,if_neg (by omega)];omega
 | succ r ih =>
  intro s hs
  have:=ih (s+1) (by omega)
  have e:(((s+1:Nat):Int))=(s:Int)+1:=by omega
  rw [e] at this
  have hb:w * (r+1)≤7 * 128:=Nat.mul_le_mul hw (by omega)
  rw [gen s (by omega) ((w * (r+1):Nat):Int) (by omega) (by omega) fun _=>this,if_pos (by omega)]
  rw [Nat.mul_add w (r+1) 1]
  omega
theorem tow_of (h0:0 < n) (hn:n≤128) (hc0:0 < c) (hc:c≤4) (hw:w≤7) :
  zdm (zcc (towL n c w)) 1 = .ok (towC n c w)∧ofT (towC n c w)=(⟨satN (tauN c w (n - 1)),satN (gamN c w (n - 1) - 3),((w * n:Nat):Int),((n - 1:Nat):Int)⟩,true):=by
 have hval:=tow_valid h0 hn hc0 hc hw
 refine ⟨hval,?_⟩
 have hv:=vc_of hval
 have hb:(secW (towC n c w) ((towC n c w).codes.length+1) 0 ws0).1=true:=by
  cases h:(secW (towC n c w) ((towC n c w).codes.length+1) 0 ws0).1 with
  | true=>rfl
  | false=>exact absurd (sec0_no hv h) (tow_circ hc hw hn hv)
 obtain ⟨h1,h2⟩:=sec0_yes hv hb
 have hk:=known_of hv h1
 unfold ofT
 rw [if_pos hb]
 generalize (secW (towC n c w) ((towC n c w).codes.length+1) 0 ws0).2=S at h1 h2 hk ⊢
 have e1:=tow_vS hc hw hn hv hk h2 (n - 1) 0 (by omega)
 have e2:=tow_height hc0 hc hw hn hv hk h2 (n - 1) 0 (by omega)
 have e3:=tow_places hc0 hc hw hn hk h2 (n - 1) 0 (by omega)
 unfold vT at e1
 unfold plP at e3
 unfold woN at e1
 rw [if_pos rfl,if_pos rfl] at e1
 rw [show ((0:Nat):Int)=0 from rfl] at e1 e2 e3
 rw [e1,e2,e3,show n - 1+1=n by omega]
 rfl
end
def able1L:List UInt8:=zcc [(⟨0,128,2⟩,[0x5F,0x5F,0x01,0x50,0x00])]
def able2L:List UInt8:=zcc [(⟨0,128,0⟩,[0xE0,0xFF,0xFD])]
section
variable {w0:World} {K:Value→World→Prop}
theorem made1 {Z:Nat→Prop} {w0 w:World} {L:List Ent} {K:Value→World→Prop} {b1 b2:Nat} {t:Ty} {l:List UInt8} (hh:Hp Z w0 w L) (h1:Ent.own b1 (u8s l).toArray 5∈L) (h2:Ent.own b2 #[.int .i64 t.inn,.int .i64 t.out,.int .i64 t.most,.slice (some ⟨b1,0,none⟩) l.length l.length] 54∈L) (hl:l.length≤65535)
  (kk:∀ q cap w',Hp Z w0 w' (.row 1 q (zcc [(t,l)]).length cap 5 (u8s (zcc [(t,l)]))::L)→K (.slice q (zcc [(t,l)]).length cap) w') :
  zaj Tryz.prog 17 #[.slice (some ⟨b2,0,none⟩) 1 1] w K:=by
 have s1:Sees w 1 (some ⟨b1,0,none⟩) l.length l.length (u8s l):=Own.sees (hh.own h1) (u8s_len l)
 have s2:Sees w 4 (some ⟨b2,0,none⟩) 1 1 (zbm [((t,l),⟨some ⟨b1,0,none⟩,l.length,l.length⟩)]):=by
  have ho:=hh.own h2
  refine ⟨rfl,Nat.le_refl _,fun j u hu=>⟨_,rfl,?_⟩⟩
  rw [addG,ho.cell]
  simpa [zbm] using hu
 refine f17 (h:=⟨some ⟨b2,0,none⟩,1,1⟩) (pl:=[((t,l),⟨some ⟨b1,0,none⟩,l.length,l.length⟩)]) ⟨s2,fun x hx=>by simp only [List.mem_singleton] at hx;subst hx;exact s1⟩ (fun x hx=>by simp only [List.mem_singleton] at hx;subst hx;exact hl) (show (1:Nat)≤1024 by decide) fun q m cap w' hm h'=>?_
 simp only [List.map_cons,List.map_nil] at hm h'
 subst hm
 refine kk q cap w' (hh.take h' fun x hx k hk=>?_)
 simp only [List.mem_singleton] at hx
 subst hx
 exact Or.resolve_left (h'.may _ List.mem_cons_self k hk) fun h=>h
theorem f10 (h1:ofLT able1L 1=(⟨5,9,2,0⟩,true,true)) (h2:ofLT able2L 1=(⟨0,0,0,0⟩,false,true)) {Z:Nat→Prop} {w:World} {L:List Ent} (hh:Hp Z w0 w L) (kk:∀ w',Hp Z w0 w' L→K (.bool true) w'):zaj Tryz.prog 10 #[] w K:=by
 refine call10 _ _ ?_
 unfold F10
 with_reducible refine zce hh fun w1 hh _=>?_
 with_reducible refine zce hh fun w2 hh _=>?_
 generalize w.heap.size=b1 at hh ⊢
 generalize w1.heap.size=b2 at hh ⊢
 refine made1 (b1:=b1) (b2:=b2) (t:=⟨0,128,2⟩) (l:=[0x5F,0x5F,0x01,0x50,0x00]) hh (by simp [u8s]) (by simp) (by decide) fun q cap w3 hh=>?_
 refine kL ?_
 have hs:=(hh.row (z:=1) (p:=q) (n:=able1L.length) (c:=cap) (e:=5) (xs:=u8s able1L) List.mem_cons_self).sees
 refine f16 (l:=able1L) (fun C=>valid_ok) hh hs (by decide) fun w4 hh=>?_
 rw [h1]
 with_reducible repeat' first|refine kk_ ?_|refine nx hh ?_|refine allW fun w' hh=>?_|exact sd_|refine ai ?_ ?_|exact vr|fail
 refine made1 (t:=⟨0,128,0⟩) (l:=[0xE0,0xFF,0xFD]) hh (by repeat (first|exact List.mem_cons_self|apply List.mem_cons_of_mem)) (by repeat (first|exact List.mem_cons_self|apply List.mem_cons_of_mem)) (by decide) fun q2 cap2 w5 hh=>?_
 refine kL ?_
 have hs:=(hh.row (z:=1) (p:=q2) (n:=able2L.length) (c:=cap2) (e:=5) (xs:=u8s able2L) List.mem_cons_self).sees
 refine f16 (l:=able2L) (fun C=>valid_ok) hh hs (by decide) fun w6 hh=>?_
 first|rw [h2]|(dsimp only;rw [h2])
 with_reducible repeat' first|refine kk_ ?_|refine nx hh ?_|refine allW fun w' hh=>?_|exact sd_|refine ai ?_ ?_|exact vr|fail
 refine ifBt (ifBt ?_)
 with_reducible repeat' first|refine kk_ ?_|refine nx hh ?_|refine allW fun w' hh=>?_|exact sd_|refine ai ?_ ?_|exact vr|fail
 refine ifBt (zcn (ifBt ?_))
 with_reducible repeat' first|refine kk_ ?_|refine nx hh ?_|refine allW fun w' hh=>?_|exact sd_|refine ai ?_ ?_|exact vr|fail
 exact kk _ (hh.sublist (by repeat (first|exact List.Sublist.refl _|apply List.Sublist.cons)))
end
def able1C:Cont:=⟨[⟨0,128,2⟩],[[0x5F,0x5F,0x01,0x50,0x00]],[],[],0⟩
def able2C:Cont:=⟨[⟨0,128,0⟩],[[0xE0,0xFF,0xFD]],[],[],0⟩
theorem judge_one {C:Cont} {kind:Int} {f:Nat} (hk:¬ (kind≠1∧kind≠2)) (h1:zbq C=0) (h2:(zaq C kind (List.range C.codes.length) (st00 C)).1=0) (h3:C.codes.length=1) (h4:C.subs=[]):zct (f+1) C kind=0:=by
 rw [zct,if_neg hk,if_neg (by rw [h1];decide),if_neg (by rw [h2];decide),if_neg]
 ·unfold nestedT
  rw [h4]
  rfl
 ·rintro ⟨k,hk,hn⟩
  have:k=0:=by omega
  subst this
  exact hn .zero
theorem valid_one {l:List UInt8} {kind:Int} {C:Cont} (hp:zba l false = .ok C) (hk:¬ (kind≠1∧kind≠2)) (h1:zbq C=0) (h2:(zaq C kind (List.range C.codes.length) (st00 C)).1=0) (h3:C.codes.length=1) (h4:C.subs=[]):zdm l kind = .ok C:=by
 unfold zdm
 rw [if_neg hk,hp]
 simp only
 rw [judge_one hk h1 h2 h3 h4,if_neg (by decide)]
theorem able1_ok:ofLT able1L 1=(⟨5,9,2,0⟩,true,true):=by
 unfold ofLT
 rw [valid_one (C:=able1C) (by kernel_rfl) (by decide) (by kernel_rfl) (by kernel_rfl) rfl rfl]
 kernel_rfl
theorem able2_ok:ofLT able2L 1=(⟨0,0,0,0⟩,false,true):=by
 unfold ofLT
 rw [valid_one (C:=able2C) (by kernel_rfl) (by decide) (by kernel_rfl) (by kernel_rfl) rfl rfl]
 kernel_rfl
section
variable {w0 w:World} {K:Value→World→Prop} {Z:Nat→Prop} {L:List Ent}
theorem f10' (hh:Hp Z w0 w L) (kk:∀ w',Hp Z w0 w' L→K (.bool true) w'):zaj Tryz.prog 10 #[] w K:=f10 able1_ok able2_ok hh kk
end
def BytS (w:World) (l:List (Part × Hd)):Prop:=∀ x∈l,Sees w 1 x.2.p x.2.n x.2.c (u8s x.1.2)
def bytS (l:List (Part × Hd)) (k:Nat):Prop:=∃ x∈l,seeS 1 x.2 (u8s x.1.2) k
abbrev bytF (l:List (Part × Hd)):Ent:=.fact (bytS l) fun w=>BytS w l
theorem bytF_on {w:World} {l:List (Part × Hd)} (h:BytS w l):(bytF l).at_ w :=
 ⟨h,fun k ⟨x,hx,hk⟩=>seeS_lt (h x hx) hk,fun v v' hv hk x hx=>seeS_same (hv x hx) fun g hg=>hk g ⟨x,hx,hg⟩⟩
theorem addPart {w0 w':World} {q p7:Option Addr} {m cap l7 c7:Nat} {bs:List UInt8} {t:Ty} {pl:List (Part × Hd)}
  (hh:Hp zao w0 w' [.row 1 q m cap 5 (u8s bs),.row 4 p7 l7 c7 54 (zbm pl++[.int .i64 t.inn,.int .i64 t.out,.int .i64 t.most,.slice q m cap]),bytF pl]) :
  Hp zao w0 w' [.row 4 p7 l7 c7 54 (zbm (pl++[((t,bs),(⟨q,m,cap⟩:Hd))])),bytF (pl++[((t,bs),(⟨q,m,cap⟩:Hd))])]:=by
 have h2:=rowSee hh
 have hs:=h2.sees (z:=1) (p:=q) (n:=m) (c:=cap) (xs:=u8s bs) SeeIn.pos
 have hno:=(h2.on (S:=bytS pl) (A:=fun w=>BytS w pl) (by repeat (first|exact List.mem_cons_self|apply List.mem_cons_of_mem))).holds
 have hx:∀ x∈pl++[((t,bs),(⟨q,m,cap⟩:Hd))],x∈pl∨x=((t,bs),(⟨q,m,cap⟩:Hd)):=fun x hx=>by
  rcases List.mem_append.1 hx with h|h
  ·exact .inl h
  ·exact .inr (List.mem_singleton.1 h)
 have e:zbm (pl++[((t,bs),(⟨q,m,cap⟩:Hd))])=zbm pl++[.int .i64 t.inn,.int .i64 t.out,.int .i64 t.most,.slice q m cap]:=by simp [zbm]
 rw [e]
 exact Hp.merge (y:=bytF (pl++[((t,bs),(⟨q,m,cap⟩:Hd))])) h2 (x:=bytF pl) (by repeat (first|exact Pos.here|apply Pos.there)) (bytF_on fun x hxm=>by
  rcases hx x hxm with h|h
  ·exact hno x h
  ·subst h;exact hs) (fun k hk=>hk) fun k ⟨x,hxm,hk⟩=>by
  rcases hx x hxm with h|h
  ·exact .inl ⟨x,h,hk⟩
  ·subst h;exact .inr hk
def rep (k:Nat) (l:List UInt8):List UInt8:=(List.replicate k l).flatten
theorem rep0 {l:List UInt8}:rep 0 l=[]:=rfl
theorem repS {k:Nat} {l:List UInt8}:rep (k+1) l=l++rep k l:=by unfold rep;rw [List.replicate_succ,List.flatten_cons]
theorem encB_rep (k:Nat) (x:Enc):encB (List.replicate k x)=rep k (x.1::x.2):=by
 induction k with
 | zero=>rfl
 | succ k ih=>rw [List.replicate_succ,repS,← ih];try rfl
theorem encB_app (E F:List Enc):encB (E++F)=encB E++encB F:=by simp [encB]
def callB (s:Nat):List UInt8:=[0xE3,b8 (((s:Int)+1) / 256),b8 ((s:Int)+1)]
def lastB (s:Nat):List UInt8:=[if s=0 then 0 else 0xE4]
theorem tow_bytes (n c w s:Nat):encB (towE n c w s)=rep w [0x5F]++(rep (towK n c s) (callB s)++(rep w [0x50]++lastB s)):=by
 unfold towE
 rw [encB_app,encB_app,encB_app,encB_rep,encB_rep,encB_rep]
 simp only [List.append_assoc]
 rfl
theorem pre_len {a b l:List UInt8} (h:a++b=l) (hl:l.length≤65535):a.length≤65535:=by
 rw [← h,List.length_append] at hl;omega
section
variable {w0:World} {K:Value→World→Prop} {C5:Int→Int→Int→Option Addr→Nat→Nat→Int→World→Prop} {n c wd s:Nat} {p7:Option Addr} {l7 c7:Nat} {pl:List (Part × Hd)}
abbrev Nxt (w0:World) (C5:Int→Int→Int→Option Addr→Nat→Nat→Int→World→Prop) (n c wd s:Nat):Prop :=
 ∀ (pl':List (Part × Hd)) (p7:Option Addr) (l7 c7:Nat) (w':World),pl'.map (·.1)=(List.range (s+1)).map (towP n c wd)→l7=s+1→Hp zao w0 w' [.row 4 p7 l7 c7 54 (zbm pl'),bytF pl']→C5 (n:Int) (c:Int) (wd:Int) p7 l7 c7 ((s:Int)+1) w'
theorem j5_8 (hc:c≤4) (hw:wd≤7) (hn:n≤128) (hs:s < n) (hpl:pl.map (·.1)=(List.range s).map (towP n c wd)) (hl7:l7=s) (nxt:Nxt w0 C5 n c wd s) {q:Option Addr} {m cap:Nat} {acc:List UInt8} {w:World}
  (hm:m=acc.length) (he:acc++lastB s=encB (towE n c wd s)) (hh:Hp zao w0 w [.row 1 q m cap 5 (u8s acc),.row 4 p7 l7 c7 54 (zbm pl),bytF pl]) :
  J5_8 K C5 (n:Int) (c:Int) (wd:Int) p7 l7 c7 (s:Int) q m cap w:=by
 have hb:=pre_len he (tow_blen hc hw).1
 have map_:∀ (h:Hd),(pl++[((towT wd s,encB (towE n c wd s)),h)]).map (·.1)=(List.range (s+1)).map (towP n c wd):=fun h=>by
  rw [List.range_succ,List.map_append,List.map_append,hpl];rfl
 unfold J5_8
 by_cases h0:s=0
 ·subst h0
  refine ifE (fun _=>?_) fun h=>absurd rfl h
  repeat' first|(with_reducible first|refine kk_ ?_|refine nx hh ?_|refine allW fun w' hh=>?_|exact sd_)|((with_reducible refine appH hh (by with_unfolding_all rfl) (by with_unfolding_all rfl) (by with_unfolding_all rfl) (by with_unfolding_all rfl) (by with_unfolding_all rfl) (by with_unfolding_all rfl) (by with_unfolding_all rfl) (by omega) (by with_unfolding_all rfl) fun g9 cap9 w4 hh=>?_);(replace hh:=hh.tail))|(with_reducible first|refine And.intro ?_ ?_|exact vr)|fail
  have e1:u8s acc++#[Value.int .u8 0].toList=u8s (encB (towE n c wd 0)):=by rw [← he];simp [u8s,lastB]
  rw [e1] at hh
  unfold J5_2
  first|rw [i64w (by omega) (by omega)]|(dsimp only;rw [i64w (by omega) (by omega)])
  exact nxt _ _ _ _ _ (map_ _) (by omega) (addPart (t:=towT wd 0) hh)
 ·refine ifE (fun h=>by omega) fun h=>?_
  repeat' first|(with_reducible first|refine kk_ ?_|refine nx hh ?_|refine allW fun w' hh=>?_|exact sd_)|((with_reducible refine appH hh (by with_unfolding_all rfl) (by with_unfolding_all rfl) (by with_unfolding_all rfl) (by with_unfolding_all rfl) (by with_unfolding_all rfl) (by with_unfolding_all rfl) (by with_unfolding_all rfl) (by omega) (by with_unfolding_all rfl) fun g9 cap9 w4 hh=>?_);(replace hh:=hh.tail))|(with_reducible first|refine And.intro ?_ ?_|exact vr)|fail
  have e1:u8s acc++#[Value.int .u8 228].toList=u8s (encB (towE n c wd s)):=by rw [← he];simp [u8s,lastB,h0]
  rw [e1] at hh
  unfold J5_2
  first|rw [i64w (by omega) (by omega)]|(dsimp only;rw [i64w (by omega) (by omega)])
  have hh2:=addPart (t:=⟨0,0,(wd:Int)⟩) hh
  have e2:towT wd s=⟨0,0,(wd:Int)⟩:=by unfold towT;rw [if_neg h0]
  rw [← e2] at hh2
  exact nxt _ _ _ _ _ (map_ _) (by omega) hh2
theorem l5_9 (hc:c≤4) (hw:wd≤7) (hn:n≤128) (hs:s < n) (hpl:pl.map (·.1)=(List.range s).map (towP n c wd)) (hl7:l7=s) (nxt:Nxt w0 C5 n c wd s) :
  ∀ (f j:Nat) (q:Option Addr) (m cap:Nat) (acc:List UInt8) (w:World),j+f=wd→m=acc.length→acc++(rep f [0x50]++lastB s)=encB (towE n c wd s)→Hp zao w0 w [.row 1 q m cap 5 (u8s acc),.row 4 p7 l7 c7 54 (zbm pl),bytF pl] →
   L5_9 K C5 (f+1) (n:Int) (c:Int) (wd:Int) p7 l7 c7 (s:Int) q m cap (j:Int) w:=by
 intro f
 induction f with
 | zero =>
  intro j q m cap acc w hj hm he hh
  unfold L5_9
  refine ifD (fun h=>by omega) fun _=>?_
  exact j5_8 hc hw hn hs hpl hl7 nxt hm (by rw [rep0,List.nil_append] at he;exact he) hh
 | succ f ih =>
  intro j q m cap acc w hj hm he hh
  have hb:=pre_len he (tow_blen hc hw).1
  unfold L5_9
  refine ifD (fun _=>?_) fun h=>by omega
  repeat' first|(with_reducible first|refine kk_ ?_|refine nx hh ?_|refine allW fun w' hh=>?_|exact sd_)|((with_reducible refine appH hh (by with_unfolding_all rfl) (by with_unfolding_all rfl) (by with_unfolding_all rfl) (by with_unfolding_all rfl) (by with_unfolding_all rfl) (by with_unfolding_all rfl) (by with_unfolding_all rfl) (by omega) (by with_unfolding_all rfl) fun g9 cap9 w4 hh=>?_);(replace hh:=hh.tail))|(with_reducible first|refine And.intro ?_ ?_|exact vr)|fail
  have e1:u8s acc++#[Value.int .u8 80].toList=u8s (acc++[0x50]):=by simp [u8s]
  rw [e1] at hh
  first|rw [i64w (n:=(j:Int)+1) (by omega) (by omega)]|(dsimp only;rw [i64w (n:=(j:Int)+1) (by omega) (by omega)])
  exact_mod_cast ih (j+1) _ (m+1) _ _ _ (by omega) (by rw [List.length_append,hm];rfl) (by rw [← he,repS];simp) hh
theorem l5_6 (hc:c≤4) (hw:wd≤7) (hn:n≤128) (hs:s+1 < n) (hpl:pl.map (·.1)=(List.range s).map (towP n c wd)) (hl7:l7=s) (nxt:Nxt w0 C5 n c wd s) :
  ∀ (f j:Nat) (q:Option Addr) (m cap:Nat) (acc:List UInt8) (w:World),j+f=c→m=acc.length→acc++(rep f (callB s)++(rep wd [0x50]++lastB s))=encB (towE n c wd s)→Hp zao w0 w [.row 1 q m cap 5 (u8s acc),.row 4 p7 l7 c7 54 (zbm pl),bytF pl] →
   L5_6 K C5 (f+1) (n:Int) (c:Int) (wd:Int) p7 l7 c7 (s:Int) q m cap (j:Int) w:=by
 intro f
 induction f with
 | zero =>
  intro j q m cap acc w hj hm he hh
  unfold L5_6
  refine ifD (fun h=>by omega) fun _=>?_
  unfold J5_5
  exact ⟨wd+1,by exact_mod_cast l5_9 hc hw hn (by omega) hpl hl7 nxt wd 0 q m cap acc w (by omega) hm (by rw [rep0,List.nil_append] at he;exact he) hh⟩
 | succ f ih =>
  intro j q m cap acc w hj hm he hh
  have hb:=pre_len he (tow_blen hc hw).1
  unfold L5_6
  rw [i64w (n:=(n:Int) - 1) (by omega) (by omega)]
  refine ifD (fun _=>ifD (fun _=>?_) fun h=>by omega) fun h=>by omega
  unfold J5_7
  rw [i64w (n:=(s:Int)+1) (by omega) (by omega),u8w,u8w]
  repeat' first|(with_reducible first|refine kk_ ?_|refine nx hh ?_|refine allW fun w' hh=>?_|exact sd_)|((with_reducible refine appH hh (by with_unfolding_all rfl) (by with_unfolding_all rfl) (by with_unfolding_all rfl) (by with_unfolding_all rfl) (by with_unfolding_all rfl) (by with_unfolding_all rfl) (by with_unfolding_all rfl) (by omega) (by with_unfolding_all rfl) fun g9 cap9 w4 hh=>?_);(replace hh:=hh.tail))|(with_reducible first|refine And.intro ?_ ?_|exact vr)|fail
  have e1:u8s acc++#[Value.int .u8 227,.int .u8 ((b8 (Int.fdiv ((s:Int)+1) (2 ^ (min (8:Int).toNat 64)))).toNat:Int),.int .u8 ((b8 ((s:Int)+1)).toNat:Int)].toList=u8s (acc++callB s):=by
   first|rw [show (2:Int) ^ (min (8:Int).toNat 64)=256 from rfl,Int.fdiv_eq_ediv_of_nonneg _ (by decide)]|(dsimp only;rw [show (2:Int) ^ (min (8:Int).toNat 64)=256 from rfl,Int.fdiv_eq_ediv_of_nonneg _ (by decide)])
   simp [u8s,callB]
  rw [e1] at hh
  first|rw [i64w (n:=(j:Int)+1) (by omega) (by omega)]|(dsimp only;rw [i64w (n:=(j:Int)+1) (by omega) (by omega)])
  exact_mod_cast ih (j+1) _ (m+3) _ _ _ (by omega) (by rw [List.length_append,hm];rfl) (by rw [← he,repS];simp) hh
theorem l5_4 (hc0:0 < c) (hc:c≤4) (hw:wd≤7) (hn:n≤128) (hs:s < n) (hpl:pl.map (·.1)=(List.range s).map (towP n c wd)) (hl7:l7=s) (nxt:Nxt w0 C5 n c wd s) :
  ∀ (f j:Nat) (q:Option Addr) (m cap:Nat) (acc:List UInt8) (w:World),j+f=wd→m=acc.length→acc++(rep f [0x5F]++(rep (towK n c s) (callB s)++(rep wd [0x50]++lastB s)))=encB (towE n c wd s)→Hp zao w0 w [.row 1 q m cap 5 (u8s acc),.row 4 p7 l7 c7 54 (zbm pl),bytF pl] →
   L5_4 K C5 (f+1) (n:Int) (c:Int) (wd:Int) p7 l7 c7 (s:Int) q m cap (j:Int) w:=by
 intro f
 induction f with
 | zero =>
  intro j q m cap acc w hj hm he hh
  unfold L5_4
  refine ifD (fun h=>by omega) fun _=>?_
  unfold J5_3
  rw [rep0,List.nil_append] at he
  by_cases hlast:s+1 < n
  ·have hK:towK n c s=c:=by unfold towK;rw [if_pos hlast]
   rw [hK] at he
   exact ⟨c+1,by exact_mod_cast l5_6 hc hw hn hlast hpl hl7 nxt c 0 q m cap acc w (by omega) hm he hh⟩
  ·have hK:towK n c s=0:=by unfold towK;rw [if_neg hlast]
   rw [hK,rep0,List.nil_append] at he
   refine ⟨1,?_⟩
   unfold L5_6
   rw [i64w (n:=(n:Int) - 1) (by omega) (by omega)]
   refine ifD (fun _=>ifD (fun h=>by omega) fun _=>?_) fun h=>by omega
   unfold J5_5
   exact ⟨wd+1,by exact_mod_cast l5_9 hc hw hn (by omega) hpl hl7 nxt wd 0 q m cap acc w (by omega) hm he hh⟩
 | succ f ih =>
  intro j q m cap acc w hj hm he hh
  have hb:=pre_len he (tow_blen hc hw).1
  unfold L5_4
  refine ifD (fun _=>?_) fun h=>by omega
  repeat' first|(with_reducible first|refine kk_ ?_|refine nx hh ?_|refine allW fun w' hh=>?_|exact sd_)|((with_reducible refine appH hh (by with_unfolding_all rfl) (by with_unfolding_all rfl) (by with_unfolding_all rfl) (by with_unfolding_all rfl) (by with_unfolding_all rfl) (by with_unfolding_all rfl) (by with_unfolding_all rfl) (by omega) (by with_unfolding_all rfl) fun g9 cap9 w4 hh=>?_);(replace hh:=hh.tail))|(with_reducible first|refine And.intro ?_ ?_|exact vr)|fail
  have e1:u8s acc++#[Value.int .u8 95].toList=u8s (acc++[0x5F]):=by simp [u8s]
  rw [e1] at hh
  first|rw [i64w (n:=(j:Int)+1) (by omega) (by omega)]|(dsimp only;rw [i64w (n:=(j:Int)+1) (by omega) (by omega)])
  exact_mod_cast ih (j+1) _ (m+1) _ _ _ (by omega) (by rw [List.length_append,hm];rfl) (by rw [← he,repS];simp) hh
theorem l5_1 (hc0:0 < c) (hc:c≤4) (hw:wd≤7) (hn:n≤128)
  (fin:∀ (pl':List (Part × Hd)) (p7:Option Addr) (l7 c7:Nat) (w':World),pl'.map (·.1)=towL n c wd→l7=n→Hp zao w0 w' [.row 4 p7 l7 c7 54 (zbm pl'),bytF pl']→J5_0 K (n:Int) (c:Int) (wd:Int) p7 l7 c7 w') :
  ∀ (f s:Nat) (pl:List (Part × Hd)) (p7:Option Addr) (l7 c7:Nat) (w:World),s+f=n→pl.map (·.1)=(List.range s).map (towP n c wd)→l7=s→Hp zao w0 w [.row 4 p7 l7 c7 54 (zbm pl),bytF pl] →
   L5_1 K (f+1) (n:Int) (c:Int) (wd:Int) p7 l7 c7 (s:Int) w:=by
 intro f
 induction f with
 | zero =>
  intro s pl p7 l7 c7 w hs hpl hl7 hh
  unfold L5_1
  refine ifD (fun h=>by omega) fun _=>?_
  have:s=n:=by omega
  subst this
  exact fin pl p7 l7 c7 w hpl hl7 hh
 | succ f ih =>
  intro s pl p7 l7 c7 w hs hpl hl7 hh
  unfold L5_1
  refine ifD (fun _=>?_) fun h=>by omega
  have nxt:Nxt w0 (L5_1 K (f+1)) n c wd s:=fun pl' p7 l7 c7 w' h1 h2 h3=>by exact_mod_cast ih (s+1) pl' p7 l7 c7 w' (by omega) h1 h2 h3
  exact ⟨wd+1,by exact_mod_cast l5_4 hc0 hc hw hn (by omega) hpl hl7 nxt wd 0 none 0 0 [] w (by omega) rfl (by rw [tow_bytes];rfl) (hh.rowNil 1 5)⟩
end
theorem and_small {a:Int} {k:Nat} (hk:k < 1000):∃ r:Nat,r≤k∧bitI .and .i64 a (k:Int)=r:=by
 have e2:(BitVec.ofInt 64 (k:Int)).toNat=k:=by rw [BitVec.toNat_ofInt];omega
 have e:(BitVec.ofInt 64 a &&& BitVec.ofInt 64 (k:Int)).toNat≤k:=by
  rw [BitVec.toNat_and,e2];exact Nat.and_le_right
 refine ⟨_,e,?_⟩
 show IntKind.wrap .i64 (((BitVec.ofInt 64 a &&& BitVec.ofInt 64 (k:Int)).toNat:Nat):Int)=_
 exact i64w (by omega) (by omega)
section
variable {w0:World} {K:Value→World→Prop} {C11:Int→Int→Int→Addr→Bool→Bool→Addr→Int→World→Prop} {n c wd s T G e2 b13 b16:Nat} {t1 t2:Bool} {a b:Int} {xs:Array Value}
abbrev E5w (b13 b16:Nat) (xs:Array Value) (a b h r:Int):List Ent:=[.own b16 #[.int .u64 a,.int .u64 b,.int .i64 h,.int .i64 r] 40,.own b13 xs 40]
theorem j5_14 {A B:Int} (hs:s < 1000) (nxt:∀ w',Hp zao w0 w' (E5w b13 b16 xs A B 0 0)→C11 (n:Int) (c:Int) (wd:Int) ⟨b13,0,none⟩ t1 t2 ⟨b16,0,none⟩ ((s:Int) - 1) w') {w:World} (hh:Hp zao w0 w (E5w b13 b16 xs a b 0 0)) :
  J5_14 K C11 (n:Int) (c:Int) (wd:Int) ⟨b13,0,none⟩ t1 t2 ⟨b16,0,none⟩ (s:Int) A B w:=by
 unfold J5_14
 with_reducible repeat' first|refine kk_ ?_|refine nx hh ?_|refine allW fun w' hh=>?_|exact sd_|refine ai ?_ ?_|exact vr|fail
 unfold J5_12
 first|rw [i64w (by omega) (by omega)]|(dsimp only;rw [i64w (by omega) (by omega)])
 exact nxt _ hh
theorem l5_15 (hc:c≤4) (hn:n≤128) (hs:s < n) (ha:s+1 < n→a=satN T∧b=satN G) (hK:0 < c)
  (nxt:∀ w',Hp zao w0 w' (E5w b13 b16 xs (satN (2 * wd+1+towK n c s * (1+T))) (satN (e2+towK n c s * (5+G))) 0 0)→C11 (n:Int) (c:Int) (wd:Int) ⟨b13,0,none⟩ t1 t2 ⟨b16,0,none⟩ ((s:Int) - 1) w') :
  ∀ (f j:Nat) (x18 x19:Int) (w:World),j+f=c→(s+1 < n∨j=0)→x18=satN (2 * wd+1+j * (1+T))→x19=satN (e2+j * (5+G))→Hp zao w0 w (E5w b13 b16 xs a b 0 0) →
   L5_15 K C11 (f+1) (n:Int) (c:Int) (wd:Int) ⟨b13,0,none⟩ t1 t2 ⟨b16,0,none⟩ (s:Int) x18 x19 (j:Int) w:=by
 intro f
 induction f with
 | zero =>
  intro j x18 x19 w hj hl h18 h19 hh
  unfold L5_15
  refine ifD (fun h=>by omega) fun _=>?_
  have hlast:s+1 < n:=by omega
  have hk:towK n c s=c:=by unfold towK;rw [if_pos hlast]
  rw [hk] at nxt
  have hjc:j=c:=by omega
  subst hjc
  subst h18
  subst h19
  exact j5_14 (by omega) nxt hh
 | succ f ih =>
  intro j x18 x19 w hj hl h18 h19 hh
  unfold L5_15
  rw [i64w (n:=(n:Int) - 1) (by omega) (by omega)]
  refine ifD (fun _=>ifD (fun hlt=>?_) fun hlt=>?_) fun h=>by omega
  ·obtain ⟨rfl,rfl⟩:=ha (by omega)
   have r1:=satN_rng (2 * wd+1+j * (1+T))
   have r2:=satN_rng T
   have r3:=satN_rng (e2+j * (5+G))
   have r4:=satN_rng G
   have r5:=satN_rng (2 * wd+1+j * (1+T)+1)
   have r6:=satN_rng (e2+j * (5+G)+5)
   subst h18
   subst h19
   have q1:sumT (satN (2 * wd+1+j * (1+T))) 1=satN (2 * wd+1+j * (1+T)+1):=satN_sum _ 1
   have q5:sumT (satN (e2+j * (5+G))) 5=satN (e2+j * (5+G)+5):=satN_sum _ 5
   unfold J5_16
   with_reducible repeat' first|refine kk_ ?_|refine nx hh ?_|refine allW fun w' hh=>?_|exact sd_|refine ai ?_ ?_|exact vr|fail
   refine f18 r1.1 r1.2 (by decide) (by decide) ?_
   first|rw [q1]|(dsimp only;rw [q1])
   with_reducible repeat' first|refine kk_ ?_|refine nx hh ?_|refine allW fun w' hh=>?_|exact sd_|refine ai ?_ ?_|exact vr|fail
   refine f18 r5.1 r5.2 r2.1 r2.2 ?_
   first|rw [satN_sum]|(dsimp only;rw [satN_sum])
   with_reducible repeat' first|refine kk_ ?_|refine nx hh ?_|refine allW fun w' hh=>?_|exact sd_|refine ai ?_ ?_|exact vr|fail
   refine f18 r3.1 r3.2 (by decide) (by decide) ?_
   first|rw [q5]|(dsimp only;rw [q5])
   with_reducible repeat' first|refine kk_ ?_|refine nx hh ?_|refine allW fun w' hh=>?_|exact sd_|refine ai ?_ ?_|exact vr|fail
   refine f18 r6.1 r6.2 r4.1 r4.2 ?_
   first|rw [satN_sum]|(dsimp only;rw [satN_sum])
   with_reducible repeat' first|refine kk_ ?_|refine nx hh ?_|refine allW fun w' hh=>?_|exact sd_|refine ai ?_ ?_|exact vr|fail
   first|rw [i64w (n:=(j:Int)+1) (by omega) (by omega)]|(dsimp only;rw [i64w (n:=(j:Int)+1) (by omega) (by omega)])
   exact_mod_cast ih (j+1) _ _ _ (by omega) (.inl (by omega)) (by rw [Nat.succ_mul j (1+T)];congr 1;omega) (by rw [Nat.succ_mul j (5+G)];congr 1;omega) hh
  ·have hj0:j=0:=by omega
   have hk:towK n c s=0:=by unfold towK;rw [if_neg (by omega)]
   subst hj0
   rw [hk] at nxt
   subst h18
   subst h19
   exact j5_14 (by omega) nxt hh
theorem l5_11 (hc0:0 < c) (hc:c≤4) (hw:wd≤7) (hn0:0 < n) (hn:n≤128) (kk:∀ w',Bl w0 w'→K (.bool true) w')
  (hxs:xs=#[.int .u64 (satN (tauN c wd (n - 1))),.int .u64 (satN (gamN c wd (n - 1) - 3)),.int .i64 ((wd * n:Nat):Int),.int .i64 ((n - 1:Nat):Int)]) :
  ∀ (s r:Nat) (a b:Int) (w:World),s+1+r=n→(0 < r→a=satN (tauN c wd (r - 1))∧b=satN (gamN c wd (r - 1)))→Hp zao w0 w (E5w b13 b16 xs a b 0 0) →
   L5_11 K (s+2) (n:Int) (c:Int) (wd:Int) ⟨b13,0,none⟩ true true ⟨b16,0,none⟩ (s:Int) w:=by
 have hmul:wd * n≤7 * 128:=Nat.mul_le_mul hw hn
 have fin:∀ w,Hp zao w0 w (E5w b13 b16 xs (satN (tauN c wd (n - 1))) (satN (gamN c wd (n - 1) - 3)) 0 0)→L5_11 K 1 (n:Int) (c:Int) (wd:Int) ⟨b13,0,none⟩ true true ⟨b16,0,none⟩ (((0:Nat):Int) - 1) w:=by
  intro w hh
  subst hxs
  unfold L5_11
  refine ifD (fun h=>by omega) fun _=>?_
  unfold J5_10
  have e1:IntKind.wrap .i64 ((wd:Int) * (n:Int))=((wd * n:Nat):Int):=by
   rw [← Int.natCast_mul];exact i64w (by omega) (by omega)
  have e2:IntKind.wrap .i64 ((n:Int) - 1)=((n - 1:Nat):Int):=by rw [i64w (by omega) (by omega)];omega
  rw [e1,e2]
  with_reducible repeat' first|refine kk_ ?_|refine nx hh ?_|refine allW fun w' hh=>?_|exact sd_|refine ai ?_ ?_|exact vr|fail
  refine ifBt (ifBt ?_)
  with_reducible repeat' first|refine kk_ ?_|refine nx hh ?_|refine allW fun w' hh=>?_|exact sd_|refine ai ?_ ?_|exact vr|fail
  have:∀ x y z u:Int,((x == x) && ((y == y) && ((z == z) && (u == u))))=true:=fun x y z u=>by simp
  first|rw [this]|(dsimp only;rw [this])
  exact kk _ hh.done
 -- what a section is worth
 have val:∀ (s r:Nat),s+1+r=n→∀ T G:Nat,(0 < r→T=tauN c wd (r - 1)∧G=gamN c wd (r - 1))→2 * wd+1+towK n c s * (1+T)=tauN c wd r∧4 * wd+3+towK n c s * (5+G)=gamN c wd r∧4 * wd+towK n c s * (5+G)=gamN c wd r - 3:=fun s r hr T G hTG=>by
  cases r with
  | zero =>
   have hk:towK n c s=0:=by unfold towK;rw [if_neg (by omega)]
   rw [hk,Nat.zero_mul,Nat.zero_mul]
   have e1:tauN c wd 0=2 * wd+1:=rfl
   have e2:gamN c wd 0=4 * wd+3:=rfl
   omega
  | succ r =>
   have hk:towK n c s=c:=by unfold towK;rw [if_pos (by omega)]
   obtain ⟨h1,h2⟩:=hTG (by omega)
   rw [Nat.add_sub_cancel] at h1 h2
   subst h1
   subst h2
   have e1:tauN c wd (r+1)=2 * wd+1+c * (1+tauN c wd r):=rfl
   have e2:gamN c wd (r+1)=4 * wd+3+c * (5+gamN c wd r):=rfl
   rw [hk,e1,e2]
   omega
 have i1:IntKind.wrap .u64 (IntKind.wrap .i64 ((IntKind.wrap .i64 (2 * (wd:Int)))+1))=2 * (wd:Int)+1:=by
  rw [i64w (n:=2 * (wd:Int)) (by omega) (by omega),i64w (by omega) (by omega),u64w];omega
 have i2:IntKind.wrap .u64 (IntKind.wrap .i64 (4 * (wd:Int)))=4 * (wd:Int):=by
  rw [i64w (by omega) (by omega),u64w];omega
 have i3:IntKind.wrap .u64 (4 * (wd:Int)+3)=4 * (wd:Int)+3:=by rw [u64w];omega
 have s1:(2 * (wd:Int)+1)=satN (2 * wd+1):=by unfold satN;rw [if_neg (by omega)];omega
 have s2:(4 * (wd:Int))=satN (4 * wd):=by unfold satN;rw [if_neg (by omega)];omega
 have s3:(4 * (wd:Int)+3)=satN (4 * wd+3):=by unfold satN;rw [if_neg (by omega)];omega
 intro s
 induction s with
 | zero =>
  intro r a b w hr hab hh
  have hv:=val 0 r hr (tauN c wd (r - 1)) (gamN c wd (r - 1)) (fun _=>⟨rfl,rfl⟩)
  have hrn:r=n - 1:=by omega
  unfold L5_11
  rw [i1,i2]
  refine ifD (fun _=>ifD (fun h=>by omega) fun _=>?_) fun h=>by omega
  unfold J5_13
  refine ⟨c+1,?_⟩
  have:=l5_15 (K:=K) (C11:=L5_11 K 1) (n:=n) (c:=c) (wd:=wd) (s:=0) (T:=tauN c wd (r - 1)) (G:=gamN c wd (r - 1)) (e2:=4 * wd) (t1:=true) (t2:=true) (xs:=xs) (b13:=b13) (b16:=b16) (w0:=w0) (a:=a) (b:=b) hc hn (by omega) (fun h=>hab (by omega)) hc0 (fun w' hh=>by
   rw [hv.1,hv.2.2,hrn] at hh
   exact fin w' hh) c 0 (2 * (wd:Int)+1) (4 * (wd:Int)) w (by omega) (.inr rfl) (by rw [s1,Nat.zero_mul]) (by rw [s2,Nat.zero_mul,Nat.add_zero]) hh
  exact_mod_cast this
 | succ s ih =>
  intro r a b w hr hab hh
  have hv:=val (s+1) r hr (tauN c wd (r - 1)) (gamN c wd (r - 1)) (fun _=>⟨rfl,rfl⟩)
  unfold L5_11
  rw [i1,i2,i3]
  refine ifD (fun _=>ifD (fun _=>?_) fun h=>by omega) fun h=>by omega
  unfold J5_13
  refine ⟨c+1,?_⟩
  have:=l5_15 (K:=K) (C11:=L5_11 K (s+2)) (n:=n) (c:=c) (wd:=wd) (s:=s+1) (T:=tauN c wd (r - 1)) (G:=gamN c wd (r - 1)) (e2:=4 * wd+3) (t1:=true) (t2:=true) (xs:=xs) (b13:=b13) (b16:=b16) (w0:=w0) (a:=a) (b:=b) hc hn (by omega) (fun h=>hab (by omega)) hc0 (fun w' hh=>by
   rw [hv.1,hv.2.1] at hh
   have e:(((s+1:Nat):Int)) - 1=(s:Int):=by omega
   rw [e]
   exact ih (r+1) _ _ w' (by omega) (fun _=>⟨rfl,rfl⟩) hh) c 0 (2 * (wd:Int)+1) (4 * (wd:Int)+3) w (by omega) (.inr rfl) (by rw [s1,Nat.zero_mul]) (by rw [s3,Nat.zero_mul]) hh
  exact_mod_cast this
end
theorem flat_le {B:Nat}:∀ {l:List Part},(∀ p∈l,p.2.length≤B)→(l.flatMap (·.2)).length≤l.length * B
 | [],_=>by simp
 | p::l,h=>by
  have h1:=h p List.mem_cons_self
  have h2:=flat_le (l:=l) fun q hq=>h q (List.mem_cons_of_mem _ hq)
  rw [List.flatMap_cons,List.length_append,List.length_cons,Nat.succ_mul];omega
theorem tow_len {n c wd:Nat} (hc:c≤4) (hw:wd≤7) (hn:n≤128):(zcc (towL n c wd)).length≤100000:=by
 have h1:(towL n c wd).length=n:=by simp [towL]
 have h2:=flat_le (B:=100) (l:=towL n c wd) fun p hp=>by
  simp only [towL,List.mem_map,List.mem_range] at hp
  obtain ⟨s,_,rfl⟩:=hp
  have h3:=encB_le (towE n c wd s) fun x hx=>by
   obtain ⟨m,hm,rfl⟩:=List.getElem_of_mem hx
   rcases towE_get (List.getElem?_eq_getElem hm) with ⟨_,h⟩|⟨_,_,h⟩|⟨_,_,h⟩|⟨_,h⟩ <;> rw [h] <;> simp
  rw [zdr] at h3
  have:towK n c s≤4:=by unfold towK;split <;> omega
  show (encB (towE n c wd s)).length≤100
  omega
 rw [h1] at h2
 unfold zcc
 simp only [List.length_append,List.length_cons,List.length_nil,sizesB_len,typesB_len,h1]
 have:n * 100≤12800:=by omega
 omega
theorem boundTower {x0 x1 x2:Int} {w:World} {K:Value→World→Prop} (kk:∀ w',Bl w w'→K (.bool true) w'):zaj Tryz.prog 5 #[.int .i64 x0,.int .i64 x1,.int .i64 x2] w K:=by
 refine call5 _ _ _ _ _ ?_
 unfold F5
 have hh:=Hp.start w
 refine f10' hh fun w1 hh=>?_
 refine kB ?_
 refine zcm ?_
 obtain ⟨r0,h0,e0⟩:=and_small (a:=x0) (k:=127) (by decide)
 obtain ⟨r1,h1,e1⟩:=and_small (a:=x1) (k:=3) (by decide)
 obtain ⟨wd,hw,e2⟩:=and_small (a:=x2) (k:=7) (by decide)
 have e0':bitI .and .i64 x0 127=r0:=e0
 have e1':bitI .and .i64 x1 3=r1:=e1
 have e2':bitI .and .i64 x2 7=wd:=e2
 rw [e0',e1',e2',i64w (n:=1+(r0:Int)) (by omega) (by omega),i64w (n:=1+(r1:Int)) (by omega) (by omega)]
 obtain ⟨n,hn⟩:∃ n:Nat,1+(r0:Int)=n:=⟨1+r0,by omega⟩
 obtain ⟨c,hc⟩:∃ c:Nat,1+(r1:Int)=c:=⟨1+r1,by omega⟩
 rw [hn,hc]
 obtain ⟨hval,hof⟩:=tow_of (n:=n) (c:=c) (w:=wd) (by omega) (by omega) (by omega) (by omega) hw
 have hlt:ofLT (zcc (towL n c wd)) 1=(⟨satN (tauN c wd (n - 1)),satN (gamN c wd (n - 1) - 3),((wd * n:Nat):Int),((n - 1:Nat):Int)⟩,true,true):=by
  unfold ofLT
  rw [hval]
  simp only
  rw [hof]
 refine ⟨n+1,?_⟩
 have hml:=tow_len (n:=n) (c:=c) (wd:=wd) (by omega) hw (by omega)
 have:=l5_1 (K:=K) (w0:=w) (n:=n) (c:=c) (wd:=wd) (by omega) (by omega) hw (by omega) (fun pl p7 l7 c7 wx hpl hl7 hx=>by
  unfold J5_0
  have hb:=(hx.on (S:=bytS pl) (A:=fun w=>BytS w pl) (by repeat (first|exact List.mem_cons_self|apply List.mem_cons_of_mem))).holds
  have hs:=(hx.row (z:=4) (p:=p7) (n:=l7) (c:=c7) (e:=54) (xs:=zbm pl) List.mem_cons_self).sees
  have hpl2:∀ x∈pl,x.1.2.length≤65535:=fun x hxm=>by
   have:x.1∈towL n c wd:=by rw [← hpl];exact List.mem_map.2 ⟨x,hxm,rfl⟩
   simp only [towL,List.mem_map,List.mem_range] at this
   obtain ⟨s,hs,e⟩:=this
   rw [← e]
   exact (tow_blen (n:=n) (c:=c) (w:=wd) (s:=s) (by omega) hw).1
  refine f17 (h:=⟨p7,l7,c7⟩) (pl:=pl) ⟨hs,hb⟩ hpl2 (by show l7≤1024;omega) fun q m cap w2 hm h2=>?_
  rw [hpl] at h2 hm
  refine kL ?_
  refine f16 (fun C hC=>valid_ok hC) h2 (h2.row (z:=1) (p:=q) (n:=m) (c:=cap) (e:=5) (xs:=u8s (zcc (towL n c wd))) List.mem_cons_self).sees (by omega) fun w3 h3=>?_
  rw [hlt]
  have hh:=h3
  with_reducible repeat' first|refine kk_ ?_|refine nx hh ?_|refine allW fun w' hh=>?_|exact sd_|refine ai ?_ ?_|exact vr|fail
  obtain ⟨s,hs1⟩:∃ s:Nat,s+1=n:=⟨n - 1,by omega⟩
  refine ⟨s+2,?_⟩
  have e3:IntKind.wrap .i64 ((n:Int) - 1)=(s:Int):=by rw [i64w (by omega) (by omega)];omega
  first|rw [e3]|(dsimp only;rw [e3])
  exact l5_11 (w0:=wx) (by omega) (by omega) hw (by omega) (by omega) (fun w' hb'=>kk w' (hx.done.trans hb')) rfl s 0 0 0 _ (by omega) (fun h=>by omega) (hh.sublist (.cons_cons _ (.cons_cons _ (.cons _ (.refl _)))))) n 0 [] none 0 0 w1 (by omega) rfl rfl (by
   have h1:=hh.rowNil 4 54
   have h2:=h1.know (x:=bytF []) (bytF_on fun x hx=>by cases hx) (fun k hk=>hk) fun y hy k hk ⟨z,hz,_⟩=>by cases hz
   exact h2.front (x:=.row 4 none 0 0 54 []) (by repeat (first|exact Pick.here|apply Pick.there)))
 exact_mod_cast this
theorem boundTower_walk (x0 x1 x2:Int) (W:World) (_:(Lit.int .i64 x0).wf=true) (_:(Lit.int .i64 x1).wf=true) (_:(Lit.int .i64 x2).wf=true) :
  Calls Tryz.prog 5 #[.int .i64 x0,.int .i64 x1,.int .i64 x2] W fun e W'=>e = .returned (.bool true)∧Below W.heap.size W W' :=
 Calls.mono (boundTower (K:=fun v w'=>v = .bool true∧Bl W w') fun w' b=>⟨rfl,b⟩) fun e w' ⟨v,he,hv,hb⟩=>⟨by rw [he,hv],hb⟩
end Go.Proofs.YtlfhngoeecjfpaaGreatDoor.B
