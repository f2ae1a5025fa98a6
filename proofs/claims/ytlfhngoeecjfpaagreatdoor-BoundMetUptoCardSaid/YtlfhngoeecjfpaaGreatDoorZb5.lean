/- What the claim of LBoundMet asks: part 5 of its lemmas. No condition. Joined by bundle.py, a program of ours, out of texts of ours. -/
import Derived.Test.YtlfhngoeecjfpaaGreatDoorZb4
set_option linter.unusedVariables false
set_option linter.unusedSimpArgs false
set_option maxRecDepth 100000
set_option maxHeartbeats 4000000
namespace Go.Proofs.YtlfhngoeecjfpaaGreatDoor.B
open Go Go.RowKit Go.Proofs.YtlfhngoeecjfpaaGreatDoor.Sh Go.Proofs.YtlfhngoeecjfpaaGreatDoor.W
theorem partCells_get {pl:List (Part × Hd)} {k j:Nat} {x:Part × Hd} (h:pl[k]? = some x) (hj:j < 4):(partCells pl)[k * 4+j]? = [Value.int .i64 x.1.1.inn,.int .i64 x.1.1.out,.int .i64 x.1.1.most,x.2.v][j]?:=by
 induction pl generalizing k with
 | nil=>simp at h
 | cons y r ih =>
  show ([Value.int .i64 y.1.1.inn,.int .i64 y.1.1.out,.int .i64 y.1.1.most,y.2.v]++partCells r)[k * 4+j]? = _
  cases k with
  | zero =>
   simp only [List.getElem?_cons_zero,Option.some.injEq] at h;subst h
   rw [Nat.zero_mul,Nat.zero_add,List.getElem?_append_left (by simpa using hj)]
  | succ k =>
   simp only [List.getElem?_cons_succ] at h
   rw [List.getElem?_append_right (by simp;omega),← ih h]
   congr 1;simp;omega
theorem partCells_len (pl:List (Part × Hd)):(partCells pl).length=pl.length * 4:=by
 induction pl with
 | nil=>rfl
 | cons y r ih=>show ([Value.int .i64 y.1.1.inn,.int .i64 y.1.1.out,.int .i64 y.1.1.most,y.2.v]++partCells r).length=_;rw [List.length_append,ih];simp;omega
theorem PartL.n {w:World} {h:Hd} {pl:List (Part × Hd)} (a:PartL w h pl):h.n=pl.length:=by have:=a.sees.len;rw [partCells_len] at this;omega
theorem rdPart {P:Program} {w:World} {t e:Nat} {h:Hd} {k:IntKind} {i:Nat} {pl:List (Part × Hd)} {F:Value→World→Prop} (hs:PartL w h pl) (ht:P.underlying t=some (.slice e)) (hz:(P.info? e).map (·.size)=some 4) (h1:i < h.n)
  (kk:∀ x ad,pl[i]? = some x→w.cell? ad=some (.int .i64 x.1.1.inn)→w.cell? (ad.add 1)=some (.int .i64 x.1.1.out)→w.cell? (ad.add 2)=some (.int .i64 x.1.1.most)→w.cell? (ad.add 3)=some x.2.v→Sees w 1 x.2.p x.2.n x.2.c (u8s x.1.2)→F (.pointer (some ad)) w):semK P (Instr.indexAt t (.slice h.p h.n h.c) (.int k (i:Int))) w F:=by
 have hn:=hs.n
 have hx:pl[i]? = some (pl[i]'(by omega)):=List.getElem?_eq_getElem (by omega)
 refine ixSee hs.sees (by decide) ht hz (by omega) (by omega) fun ad had=>?_
 rw [Int.toNat_natCast] at had
 have h:=fun j (hj:j < 4) u hu=>had j u hj (by rw [partCells_get hx hj];exact hu)
 have h00:=h 0 (by decide) _ rfl
 rw [add_zero] at h00
 exact kk _ ad hx h00 (h 1 (by decide) _ rfl) (h 2 (by decide) _ rfl) (h 3 (by decide) _ rfl) (hs.each _ (List.mem_of_getElem? hx))
section
variable {w0:World} {K:Value→World→Prop} {h:Hd} {pl:List (Part × Hd)} {R:List Ent}
theorem l17_4 (hp:PartL w0 h pl) (hb:∀ x∈pl,x.1.2.length≤65535) (hn:h.n≤1024) {out:List UInt8}
  (kk:∀ q m cap w',m=out.length→Hp zao w0 w' (.row 1 q m cap 5 (u8s out)::R)→K (.slice q m cap) w') :
  ∀ (f j:Nat) (q:Option Addr) (m cap:Nat) (acc:List UInt8) (w:World),j+f=h.n→m=acc.length→acc.length≤1000000+65536 * j→acc++(pl.drop j).flatMap (·.1.2)=out→Hp zao w0 w (.row 1 q m cap 5 (u8s acc)::R) →
   L17_4 K (f+1) h.p h.n h.c (h.n:Int) q m cap (j:Int) w:=by
 have hpn:=hp.n
 intro f
 induction f with
 | zero =>
  intro j q m cap acc w hj hm ha he hh
  unfold L17_4
  refine ifD (fun h=>by omega) fun _=>?_
  rw [List.drop_of_length_le (by omega)] at he
  simp only [List.flatMap_nil,List.append_nil] at he
  subst he
  exact kk q m cap w hm hh
 | succ f ih =>
  intro j q m cap acc w hj hm ha he hh
  unfold L17_4
  refine ifD (fun _=>?_) fun h=>by omega
  refine rdPart (hp.bl hh.done) (by with_unfolding_all rfl) (by with_unfolding_all rfl) (by omega) fun x ad hx c0 c1 c2 c3 hs=>?_
  have hd:pl.drop j=x::pl.drop (j+1):=by
   have hlt:j < pl.length:=by omega
   rw [List.getElem?_eq_getElem hlt] at hx
   cases hx
   exact List.drop_eq_getElem_cons hlt
  have hxb:=hb x (List.mem_of_getElem? hx)
  have hsn:=hs.bytes
  refine kA (ld c3 (kL ?_))
  have hr:=hh.row (z:=1) (p:=q) (n:=m) (c:=cap) (e:=5) (xs:=u8s acc) List.mem_cons_self
  refine appS (P:=Tryz.prog) (t:=22) (e:=5) hr hs (by decide) (by with_unfolding_all rfl) (by with_unfolding_all rfl) (by with_unfolding_all rfl) (u8s_one _) (by omega) (by decide) fun q2 cap2 w2 hr2 he2 hq=>?_
  have hh2:=hh.turn (y:=.row 1 q2 (m+x.2.n) cap2 5 (u8s acc++u8s x.1.2)) .here he2 hr2 fun i hi=>(hq i hi).imp id fun h=>Nat.le_of_eq h.symm
  have e1:u8s acc++u8s x.1.2=u8s (acc++x.1.2):=by simp [u8s]
  rw [e1] at hh2
  refine kL ?_
  rw [i64w (n:=(j:Int)+1) (by omega) (by omega)]
  exact_mod_cast ih (j+1) q2 (m+x.2.n) cap2 (acc++x.1.2) w2 (by omega) (by rw [List.length_append];omega) (by rw [List.length_append];omega) (by rw [← he,hd];simp) hh2
theorem l17_3 (hp:PartL w0 h pl) (hb:∀ x∈pl,x.1.2.length≤65535) (hn:h.n≤1024) {out:List UInt8}
  (kk:∀ q m cap w',m=out.length→Hp zao w0 w' (.row 1 q m cap 5 (u8s out)::R)→K (.slice q m cap) w') :
  ∀ (f j:Nat) (q:Option Addr) (m cap:Nat) (acc:List UInt8) (w:World),j+f=h.n→m=acc.length→acc.length≤10000+4 * j→acc++typesB ((pl.drop j).map (·.1))++pl.flatMap (·.1.2)=out→Hp zao w0 w (.row 1 q m cap 5 (u8s acc)::R) →
   L17_3 K (f+1) h.p h.n h.c (h.n:Int) q m cap (j:Int) w:=by
 have hpn:=hp.n
 intro f
 induction f with
 | zero =>
  intro j q m cap acc w hj hm ha he hh
  unfold L17_3
  refine ifD (fun h=>by omega) fun _=>?_
  unfold J17_2
  rw [List.drop_of_length_le (by omega)] at he
  simp only [List.map_nil,typesB,List.append_nil] at he
  refine ⟨h.n+1,?_⟩
  have:=l17_4 (K:=K) hp hb hn kk h.n 0 q m cap acc w (by omega) hm (by omega) (by rw [List.drop_zero];exact he) hh
  exact_mod_cast this
 | succ f ih =>
  intro j q m cap acc w hj hm ha he hh
  unfold L17_3
  refine ifD (fun _=>?_) fun h=>by omega
  with_reducible refine drewH hh fun w1 hh _=>?_
  refine rdPart (hp.bl hh.done) (by with_unfolding_all rfl) (by with_unfolding_all rfl) (by omega) fun x ad hx c0 c1 c2 c3 hs=>?_
  have hd:pl.drop j=x::pl.drop (j+1):=by
   have hlt:j < pl.length:=by omega
   rw [List.getElem?_eq_getElem hlt] at hx
   cases hx
   exact List.drop_eq_getElem_cons hlt
  refine kA (ld c0 (kI ?_))
  refine rdPart (hp.bl hh.done) (by with_unfolding_all rfl) (by with_unfolding_all rfl) (by omega) fun x1 ad1 hx1 _ d1 _ _ _=>?_
  rw [hx] at hx1;cases hx1
  refine kA (ld d1 (kI ?_))
  refine rdPart (hp.bl hh.done) (by with_unfolding_all rfl) (by with_unfolding_all rfl) (by omega) fun x1 ad2 hx1 _ _ d2 _ _=>?_
  rw [hx] at hx1;cases hx1
  refine kA (ld d2 (kI ?_))
  refine rdPart (hp.bl hh.done) (by with_unfolding_all rfl) (by with_unfolding_all rfl) (by omega) fun x1 ad3 hx1 _ _ d3 _ _=>?_
  rw [hx] at hx1;cases hx1
  refine kA (ld d3 (kI ?_))
  rw [u8w,u8w,u8w,u8w]
  repeat' first|(with_reducible first|refine kk_ ?_|refine nx hh ?_|refine allW fun w' hh=>?_|exact sd_)|((with_reducible refine appH hh (by with_unfolding_all rfl) (by with_unfolding_all rfl) (by with_unfolding_all rfl) (by with_unfolding_all rfl) (by with_unfolding_all rfl) (by with_unfolding_all rfl) (by with_unfolding_all rfl) (by omega) (by with_unfolding_all rfl) fun g9 cap9 w4 hh=>?_);(replace hh:=hh.tail))|(with_reducible first|refine And.intro ?_ ?_|exact vr)|fail
  have e1:u8s acc++#[Value.int .u8 ((b8 x.1.1.inn).toNat:Int),.int .u8 ((b8 x.1.1.out).toNat:Int),.int .u8 ((b8 (Int.fdiv x.1.1.most (2 ^ (min (8:Int).toNat 64)))).toNat:Int),.int .u8 ((b8 x.1.1.most).toNat:Int)].toList=u8s (acc++[b8 x.1.1.inn,b8 x.1.1.out,b8 (x.1.1.most.fdiv 256),b8 x.1.1.most]):=by
   first|rw [show (2:Int) ^ (min (8:Int).toNat 64)=256 from rfl]|(dsimp only;rw [show (2:Int) ^ (min (8:Int).toNat 64)=256 from rfl])
   simp [u8s]
  rw [e1] at hh
  have hh2:=hh
  first|rw [i64w (n:=(j:Int)+1) (by omega) (by omega)]|(dsimp only;rw [i64w (n:=(j:Int)+1) (by omega) (by omega)])
  exact_mod_cast ih (j+1) (some ⟨g9,0,none⟩) (m+4) cap9 _ _ (by omega) (by rw [List.length_append];simp;omega) (by rw [List.length_append];simp;omega) (by rw [← he,hd];simp [typesB]) hh2
end
section
variable {w0:World} {K:Value→World→Prop} {h:Hd} {pl:List (Part × Hd)} {R:List Ent}
theorem l17_1 (hp:PartL w0 h pl) (hb:∀ x∈pl,x.1.2.length≤65535) (hn:h.n≤1024) {out:List UInt8}
  (kk:∀ q m cap w',m=out.length→Hp zao w0 w' (.row 1 q m cap 5 (u8s out)::R)→K (.slice q m cap) w') :
  ∀ (f j:Nat) (q:Option Addr) (m cap:Nat) (acc:List UInt8) (w:World),j+f=h.n→m=acc.length→acc.length≤9+2 * j→acc++sizesB ((pl.drop j).map (·.1))++[0xFF,0,0,0]++typesB (pl.map (·.1))++pl.flatMap (·.1.2)=out→Hp zao w0 w (.row 1 q m cap 5 (u8s acc)::R) →
   L17_1 K (f+1) h.p h.n h.c (h.n:Int) q m cap (j:Int) w:=by
 have hpn:=hp.n
 intro f
 induction f with
 | zero =>
  intro j q m cap acc w hj hm ha he hh
  unfold L17_1
  refine ifD (fun h=>by omega) fun _=>?_
  unfold J17_0
  rw [List.drop_of_length_le (by omega)] at he
  simp only [List.map_nil,sizesB,List.append_nil] at he
  repeat' first|(with_reducible first|refine kk_ ?_|refine nx hh ?_|refine allW fun w' hh=>?_|exact sd_)|((with_reducible refine appH hh (by with_unfolding_all rfl) (by with_unfolding_all rfl) (by with_unfolding_all rfl) (by with_unfolding_all rfl) (by with_unfolding_all rfl) (by with_unfolding_all rfl) (by with_unfolding_all rfl) (by omega) (by with_unfolding_all rfl) fun g9 cap9 w4 hh=>?_);(replace hh:=hh.tail))|(with_reducible first|refine And.intro ?_ ?_|exact vr)|fail
  have e1:u8s acc++#[Value.int .u8 255,.int .u8 0,.int .u8 0,.int .u8 0].toList=u8s (acc++[0xFF,0,0,0]):=by simp [u8s]
  rw [e1] at hh
  have hh2:=hh
  refine ⟨h.n+1,?_⟩
  have:=l17_3 (K:=K) hp hb hn kk h.n 0 _ (m+4) _ _ _ (by omega) (by rw [List.length_append];simp;omega) (by rw [List.length_append];simp;omega) (by rw [List.drop_zero];exact he) hh2
  exact_mod_cast this
 | succ f ih =>
  intro j q m cap acc w hj hm ha he hh
  unfold L17_1
  refine ifD (fun _=>?_) fun h=>by omega
  with_reducible refine drewH hh fun w1 hh _=>?_
  refine rdPart (hp.bl hh.done) (by with_unfolding_all rfl) (by with_unfolding_all rfl) (by omega) fun x ad hx c0 c1 c2 c3 hs=>?_
  have hd:pl.drop j=x::pl.drop (j+1):=by
   have hlt:j < pl.length:=by omega
   rw [List.getElem?_eq_getElem hlt] at hx
   cases hx
   exact List.drop_eq_getElem_cons hlt
  refine kA (ld c3 (kL ?_))
  refine rdPart (hp.bl hh.done) (by with_unfolding_all rfl) (by with_unfolding_all rfl) (by omega) fun x1 ad1 hx1 _ _ _ d3 _=>?_
  rw [hx] at hx1;cases hx1
  refine kA (ld d3 (kL ?_))
  have hsn:=hs.bytes
  rw [u8w,u8w]
  repeat' first|(with_reducible first|refine kk_ ?_|refine nx hh ?_|refine allW fun w' hh=>?_|exact sd_)|((with_reducible refine appH hh (by with_unfolding_all rfl) (by with_unfolding_all rfl) (by with_unfolding_all rfl) (by with_unfolding_all rfl) (by with_unfolding_all rfl) (by with_unfolding_all rfl) (by with_unfolding_all rfl) (by omega) (by with_unfolding_all rfl) fun g9 cap9 w4 hh=>?_);(replace hh:=hh.tail))|(with_reducible first|refine And.intro ?_ ?_|exact vr)|fail
  have e1:u8s acc++#[Value.int .u8 ((b8 (Int.fdiv ((x.2.n:Nat):Int) (2 ^ (min (8:Int).toNat 64)))).toNat:Int),.int .u8 ((b8 ((x.2.n:Nat):Int)).toNat:Int)].toList=u8s (acc++[b8 ((x.1.2.length:Int) / 256),b8 (x.1.2.length:Int)]):=by
   first|rw [show (2:Int) ^ (min (8:Int).toNat 64)=256 from rfl,Int.fdiv_eq_ediv_of_nonneg _ (by decide),hsn]|(dsimp only;rw [show (2:Int) ^ (min (8:Int).toNat 64)=256 from rfl,Int.fdiv_eq_ediv_of_nonneg _ (by decide),hsn])
   simp [u8s]
  rw [e1] at hh
  have hh2:=hh
  first|rw [i64w (n:=(j:Int)+1) (by omega) (by omega)]|(dsimp only;rw [i64w (n:=(j:Int)+1) (by omega) (by omega)])
  exact_mod_cast ih (j+1) (some ⟨g9,0,none⟩) (m+2) cap9 _ _ (by omega) (by rw [List.length_append];simp;omega) (by rw [List.length_append];simp;omega) (by rw [← he,hd];simp [sizesB]) hh2
theorem f17 {w:World} (hp:PartL w h pl) (hb:∀ x∈pl,x.1.2.length≤65535) (hn:h.n≤1024)
  (kk:∀ q m cap w',m=(madeT (pl.map (·.1))).length→Hp zao w w' [.row 1 q m cap 5 (u8s (madeT (pl.map (·.1))))]→K (.slice q m cap) w') :
  zaj Tryz.prog 17 #[h.v] w K:=by
 refine call17 _ _ _ _ _ ?_
 unfold F17
 have hpn:=hp.n
 have hh:=Hp.start w
 with_reducible refine zbv hh fun w1 hh _=>?_
 rw [i64w (n:=4 * ((h.n:Nat):Int)) (by omega) (by omega),u8w,u8w,u8w,u8w,show (2:Int) ^ (min (8:Int).toNat 64)=256 from rfl,Int.fdiv_eq_ediv_of_nonneg _ (by decide),Int.fdiv_eq_ediv_of_nonneg _ (by decide)] at hh
 have e1:#[Value.int .u8 239,.int .u8 0,.int .u8 1,.int .u8 1,.int .u8 ((b8 (4 * ((h.n:Nat):Int) / 256)).toNat:Int),.int .u8 ((b8 (4 * ((h.n:Nat):Int))).toNat:Int),.int .u8 2,.int .u8 ((b8 (((h.n:Nat):Int) / 256)).toNat:Int),.int .u8 ((b8 ((h.n:Nat):Int)).toNat:Int)] =
   (u8s [0xEF,0,1,1,b8 (4 * ((h.n:Nat):Int) / 256),b8 (4 * ((h.n:Nat):Int)),2,b8 (((h.n:Nat):Int) / 256),b8 ((h.n:Nat):Int)]).toArray:=by simp [u8s]
 rw [e1] at hh
 have hh2:=Hp.rowOwn hh (by simp [u8s])
 refine ⟨h.n+1,?_⟩
 have:=l17_1 (K:=K) (R:=[]) hp hb hn kk h.n 0 _ 9 9 _ w1 (by omega) rfl (by simp) (by rw [List.drop_zero,hpn,madeT,List.length_map,List.flatMap_map]) hh2
 exact_mod_cast this
end
def able1L:List UInt8:=madeT [(⟨0,128,2⟩,[0x5F,0x5F,0x01,0x50,0x00])]
def able2L:List UInt8:=madeT [(⟨0,128,0⟩,[0xE0,0xFF,0xFD])]
section
variable {w0:World} {K:Value→World→Prop}
theorem made1 {Z:Nat→Prop} {w0 w:World} {L:List Ent} {K:Value→World→Prop} {b1 b2:Nat} {t:Ty} {l:List UInt8} (hh:Hp Z w0 w L) (h1:Ent.own b1 (u8s l).toArray 5∈L) (h2:Ent.own b2 #[.int .i64 t.inn,.int .i64 t.out,.int .i64 t.most,.slice (some ⟨b1,0,none⟩) l.length l.length] 54∈L) (hl:l.length≤65535)
  (kk:∀ q cap w',Hp Z w0 w' (.row 1 q (madeT [(t,l)]).length cap 5 (u8s (madeT [(t,l)]))::L)→K (.slice q (madeT [(t,l)]).length cap) w') :
  zaj Tryz.prog 17 #[.slice (some ⟨b2,0,none⟩) 1 1] w K:=by
 have s1:Sees w 1 (some ⟨b1,0,none⟩) l.length l.length (u8s l):=Own.sees (hh.own h1) (u8s_len l)
 have s2:Sees w 4 (some ⟨b2,0,none⟩) 1 1 (partCells [((t,l),⟨some ⟨b1,0,none⟩,l.length,l.length⟩)]):=by
  have ho:=hh.own h2
  refine ⟨rfl,Nat.le_refl _,fun j u hu=>⟨_,rfl,?_⟩⟩
  rw [addG,ho.cell]
  simpa [partCells] using hu
 refine f17 (h:=⟨some ⟨b2,0,none⟩,1,1⟩) (pl:=[((t,l),⟨some ⟨b1,0,none⟩,l.length,l.length⟩)]) ⟨s2,fun x hx=>by simp only [List.mem_singleton] at hx;subst hx;exact s1⟩ (fun x hx=>by simp only [List.mem_singleton] at hx;subst hx;exact hl) (show (1:Nat)≤1024 by decide) fun q m cap w' hm h'=>?_
 simp only [List.map_cons,List.map_nil] at hm h'
 subst hm
 refine kk q cap w' (hh.take h' fun x hx k hk=>?_)
 simp only [List.mem_singleton] at hx
 subst hx
 exact Or.resolve_left (h'.may _ List.mem_cons_self k hk) fun h=>h
theorem f10 (h1:ofLT able1L 1=(⟨5,9,2,0⟩,true,true)) (h2:ofLT able2L 1=(⟨0,0,0,0⟩,false,true)) {Z:Nat→Prop} {w:World} {L:List Ent} (hh:Hp Z w0 w L) (kk:∀ w',Hp Z w0 w' L→K (.bool true) w'):zaj Tryz.prog 10 #[] w K:=by
 refine call10 _ _ ?_
 unfold F10
 with_reducible refine zbv hh fun w1 hh _=>?_
 with_reducible refine zbv hh fun w2 hh _=>?_
 generalize w.heap.size=b1 at hh ⊢
 generalize w1.heap.size=b2 at hh ⊢
 refine made1 (b1:=b1) (b2:=b2) (t:=⟨0,128,2⟩) (l:=[0x5F,0x5F,0x01,0x50,0x00]) hh (by simp [u8s]) (by simp) (by decide) fun q cap w3 hh=>?_
 refine kL ?_
 have hs:=(hh.row (z:=1) (p:=q) (n:=able1L.length) (c:=cap) (e:=5) (xs:=u8s able1L) List.mem_cons_self).sees
 refine f16 (l:=able1L) (fun C=>valid_ok) hh hs (by decide) fun w4 hh=>?_
 rw [h1]
 repeat' first|(with_reducible first|refine kk_ ?_|refine nx hh ?_|refine allW fun w' hh=>?_|exact sd_|refine And.intro ?_ ?_|exact vr)|fail
 refine made1 (t:=⟨0,128,0⟩) (l:=[0xE0,0xFF,0xFD]) hh (by repeat (first|exact List.mem_cons_self|apply List.mem_cons_of_mem)) (by repeat (first|exact List.mem_cons_self|apply List.mem_cons_of_mem)) (by decide) fun q2 cap2 w5 hh=>?_
 refine kL ?_
 have hs:=(hh.row (z:=1) (p:=q2) (n:=able2L.length) (c:=cap2) (e:=5) (xs:=u8s able2L) List.mem_cons_self).sees
 refine f16 (l:=able2L) (fun C=>valid_ok) hh hs (by decide) fun w6 hh=>?_
 first|rw [h2]|(dsimp only;rw [h2])
 repeat' first|(with_reducible first|refine kk_ ?_|refine nx hh ?_|refine allW fun w' hh=>?_|exact sd_|refine And.intro ?_ ?_|exact vr)|fail
 refine ifBt (ifBt ?_)
 repeat' first|(with_reducible first|refine kk_ ?_|refine nx hh ?_|refine allW fun w' hh=>?_|exact sd_|refine And.intro ?_ ?_|exact vr)|fail
 refine ifBt (zce (ifBt ?_))
 repeat' first|(with_reducible first|refine kk_ ?_|refine nx hh ?_|refine allW fun w' hh=>?_|exact sd_|refine And.intro ?_ ?_|exact vr)|fail
 exact kk _ (hh.sublist (by repeat (first|exact List.Sublist.refl _|apply List.Sublist.cons)))
end
def able1C:Cont:=⟨[⟨0,128,2⟩],[[0x5F,0x5F,0x01,0x50,0x00]],[],[],0⟩
def able2C:Cont:=⟨[⟨0,128,0⟩],[[0xE0,0xFF,0xFD]],[],[],0⟩
theorem judge_one {C:Cont} {kind:Int} {f:Nat} (hk:¬ (kind≠1∧kind≠2)) (h1:zbs C=0) (h2:(zav C kind (List.range C.codes.length) (st00 C)).1=0) (h3:C.codes.length=1) (h4:C.subs=[]):zcw (f+1) C kind=0:=by
 rw [zcw,if_neg hk,if_neg (by rw [h1];decide),if_neg (by rw [h2];decide),if_neg]
 ·unfold nestedT
  rw [h4]
  rfl
 ·rintro ⟨k,hk,hn⟩
  have:k=0:=by omega
  subst this
  exact hn .zero
theorem valid_one {l:List UInt8} {kind:Int} {C:Cont} (hp:zaz l false = .ok C) (hk:¬ (kind≠1∧kind≠2)) (h1:zbs C=0) (h2:(zav C kind (List.range C.codes.length) (st00 C)).1=0) (h3:C.codes.length=1) (h4:C.subs=[]):validT l kind = .ok C:=by
 unfold validT
 rw [if_neg hk,hp]
 simp only
 rw [judge_one hk h1 h2 h3 h4,if_neg (by decide)]
theorem able1_ok:ofLT able1L 1=(⟨5,9,2,0⟩,true,true):=by
 unfold ofLT
 rw [valid_one (C:=able1C) (by kernel_rfl) (by decide) (by kernel_rfl) (by kernel_rfl) rfl rfl]
 kernel_rfl
theorem able2_ok:ofLT able2L 1=(⟨0,0,0,0⟩,false,true):=by
 unfold ofLT
 rw [valid_one (C:=able2C) (by kernel_rfl) (by decide) (by kernel_rfl) (by kernel_rfl) rfl rfl]
 kernel_rfl
section
variable {w0 w:World} {K:Value→World→Prop} {Z:Nat→Prop} {L:List Ent}
theorem f10' (hh:Hp Z w0 w L) (kk:∀ w',Hp Z w0 w' L→K (.bool true) w'):zaj Tryz.prog 10 #[] w K:=f10 able1_ok able2_ok hh kk
theorem law_start {p:Option Addr} {n c:Nat} {l:List UInt8} {kind:Int} {J:Option Addr→World→Prop} (hs:Sees w 1 p n c (u8s l)) (hh:Hp zao w w [])
  (kt:∀ w',Bl w w'→K (.bool true) w')
  (kv:∀ C cb gh bh hd w',l.length≤6000→validT l kind = .ok C→Hp zao w w' [codeO cb gh bh hd C kind,codeH gh (List.replicate C.codes.length none),codeR hd C (List.replicate C.codes.length none)]→J (some ⟨cb,0,none⟩) w') :
  zaj Tryz.prog 10 #[] w fun v1 w1=>asB v1 fun b1=>ifB (!b1) (K (.bool false) w1) (ifB (decide (((n:Nat):Int) > 6000)) (K (.bool true) w1) (zaj Tryz.prog 12 #[(.slice p n c)] w1 fun v2 w2=>asL v2 fun l1p l1l l1c=>zaj Tryz.prog 13 #[(.slice l1p l1l l1c),(.int .i64 kind)] w2 fun v3 w3=>asT v3 fun t1_0=>asHd t1_0 fun t1_0x t1_1=>asP t1_0x fun p1=>asHd t1_1 fun t1_1x t1_2=>asG t1_1x fun q1_0=>asHd q1_0 fun q1_0x q1_1=>asI .i64 q1_0x fun n1=>asHd q1_1 fun q1_1x q1_2=>asL q1_1x fun l2p l2l l2c=>asHd q1_2 fun q1_2x q1_3=>asI .i64 q1_2x fun n2=>asHd q1_3 fun q1_3x q1_4=>asI .i64 q1_3x fun n3=>zaq q1_4 (zaq t1_2 (zae w3 (.cells #[(.int .i64 0),(.slice none 0 0),(.int .i64 0),(.int .i64 0)] 31) fun w4=>semU Tryz.prog (Instr.storeAt 31 (.pointer (some ⟨w3.heap.size,0,none⟩)) (.agg #[(.int .i64 n1),(.slice l2p l2l l2c),(.int .i64 n2),(.int .i64 n3)])) w4 fun w5=>ldK Tryz.prog w5 ⟨w3.heap.size,0,none⟩ fun v4=>asI .i64 v4 fun n4=>ifB ((n4:Int) != 0) (K (.bool true) w5) (ifB (Option.isNone p1) (K (.bool true) w5) (J p1 w5)))))):=by
 refine f10' hh fun w1 hh=>?_
 refine kB ?_
 refine zcd ?_
 have hn:=hs.bytes
 refine ifD (fun _=>kt _ hh.done) fun h6=>?_
 refine f12 hh (hs.bl hh.done) (by omega) fun q cap w2 hh=>?_
 refine kL ?_
 refine f13 (hh.row (z:=1) (p:=q) (n:=n) (c:=cap) (e:=5) (xs:=u8s l) List.mem_cons_self).sees (by omega) (fun e he hne q2 m2 cap2 s a w3 hb3=>?_) (fun C hC cb gh bh hd w3 h3 hnew=>?_)
 ·replace hh:=hh.bl hb3
  repeat' first|(with_reducible first|refine kk_ ?_|refine nx hh ?_|refine allW fun w' hh=>?_|exact sd_|refine And.intro ?_ ?_|exact vr)|fail
  refine ifNe (fun _=>kt _ hh.done) fun h=>absurd h hne
 ·replace hh:=codeTake hh h3 hnew
  repeat' first|(with_reducible first|refine kk_ ?_|refine nx hh ?_|refine allW fun w' hh=>?_|exact sd_|refine And.intro ?_ ?_|exact vr)|fail
  refine ifNe (fun h=>absurd rfl h) fun _=>?_
  refine ifBf ?_
  have hp:=((hh.front (x:=codeR hd C _) (by repeat (first|exact Pick.here|apply Pick.there))).front (x:=codeH gh _) (by repeat (first|exact Pick.here|apply Pick.there))).front (x:=codeO cb gh bh hd C kind) (by repeat (first|exact Pick.here|apply Pick.there))
  exact kv C cb gh bh hd _ (by omega) hC (hp.sublist (.cons_cons _ (.cons_cons _ (.cons_cons _ (List.nil_sublist _)))))
end
def Stp (C:Cont) (a b:Wk):Prop:=a∈(zca C b).1
inductive Rt (C:Cont):Wk→Wk→Prop
 | refl {w:Wk}:Rt C w w
 | head {a b c:Wk}:Stp C b a→Rt C b c→Rt C a c
theorem Rt.trans {C:Cont} {a b c:Wk} (h:Rt C a b) (g:Rt C b c):Rt C a c:=by
 induction h with
 | refl=>exact g
 | head h1 _ ih=>exact .head h1 (ih g)
theorem Rt.next {C:Cont} {a b c:Wk} (h:Rt C a b) (g:Stp C c b):∃ y,Stp C y a∧Rt C y c:=by
 cases h with
 | refl=>exact ⟨c,g,.refl⟩
 | head h1 h2=>exact ⟨_,h1,h2.trans (.head g .refl)⟩
inductive Ends (C:Cont):Wk→Wk→Prop
 | done {w now:Wk}:zca C w=([],now,true)→Ends C w now
 | step {w w' now:Wk}:Stp C w' w→Ends C w' now→Ends C w now
theorem Rt.ends {C:Cont} {a b now:Wk} (h:Rt C a b) (g:Ends C b now):Ends C a now:=by
 induction h with
 | refl=>exact g
 | head h1 _ ih=>exact .step h1 (ih g)
def StV (C:Cont):List (Int × Int)→Prop
 | []=>True
 | p::r=>(InR C p.1∧∃ i∈dT C p.1,i.at_=p.2)∧(r=[]→(tyT C p.1).out=128)∧StV C r
structure WkV (C:Cont) (w:Wk):Prop where
 st:StV C (stW w)
 hi:(w.noted.length:Int)≤w.high
section
variable {C:Cont}
theorem goes_at {w:Wk} (hw:WkV C w):∃ i∈dT C w.sec,i.at_=w.at_∧zch (secT C w.sec) w.at_ = .ok i∧InR C w.sec:=by
 obtain ⟨⟨h1,i,hi,he⟩,_,_⟩:=hw.st
 have he:i.at_=w.at_:=he
 exact ⟨i,hi,he,by rw [← he];exact readT_of hi,h1⟩
theorem go227 {w:Wk} {i:Ins} (hr:zch (secT C w.sec) w.at_ = .ok i) (h:i.code=227):zca C w=([⟨(zaf i).1,0,sumT w.steps 1,sumT w.gas (gasT i.code),w.noted++[(w.sec,i.next)],maxI w.high ((w.noted.length+1:Nat):Int)⟩],nowW w (gasT i.code),true):=by
 unfold zca;rw [hr];simp only;rw [if_pos h]
theorem go229 {w:Wk} {i:Ins} (hr:zch (secT C w.sec) w.at_ = .ok i) (h:i.code=229):zca C w=([⟨(zaf i).1,0,sumT w.steps 1,sumT w.gas (gasT i.code),w.noted,w.high⟩],nowW w (gasT i.code),true):=by
 unfold zca;rw [hr];simp only;rw [if_neg (by omega),if_pos h]
theorem go228 {w:Wk} {i:Ins} {p:Int × Int} {l:List (Int × Int)} (hr:zch (secT C w.sec) w.at_ = .ok i) (h:i.code=228) (hn:w.noted=l++[p]):zca C w=([⟨p.1,p.2,sumT w.steps 1,sumT w.gas (gasT i.code),l,w.high⟩],nowW w (gasT i.code),true):=by
 unfold zca;rw [hr];simp only;rw [if_neg (by omega),if_neg (by omega),if_pos h,hn]
 simp only [List.getLast?_append,List.getLast?_singleton,Option.some_or,List.dropLast_concat]
theorem goElse {w:Wk} {i:Ins} (hr:zch (secT C w.sec) w.at_ = .ok i) (h7:i.code≠227) (h8:i.code≠228) (h9:i.code≠229):zca C w=((zam i).map fun t=>⟨w.sec,t,sumT w.steps 1,sumT w.gas (gasT i.code),w.noted,w.high⟩,nowW w (gasT i.code),true):=by
 unfold zca;rw [hr];simp only;rw [if_neg h7,if_neg h9,if_neg h8]
theorem rev_cons {α:Type} {l r:List α} {p:α} (h:l.reverse=p::r):l=r.reverse++[p]:=by
 have:=congrArg List.reverse h
 rw [List.reverse_reverse,List.reverse_cons] at this
 exact this
theorem max_ge (a b:Int):a≤maxI a b∧b≤maxI a b:=by unfold maxI;split <;> omega
theorem goes_fine (hv:VC C) {w:Wk} (hw:WkV C w):(zca C w).2.2=true∧∀ w',Stp C w' w→WkV C w'∧w.high≤w'.high∧w'.steps=sumT w.steps 1∧(w'.noted.length≤w.noted.length+1)∧∃ g,0≤g∧g≤1000000∧w'.gas=sumT w.gas g:=by
 obtain ⟨i,hi,he,hr,hsr⟩:=goes_at hw
 obtain ⟨_,h2,h3⟩:=hw.st
 have hh:=hw.hi
 have hsp:=hv.srt _ hsr
 obtain ⟨q0,q1,q2⟩:=hsp.ins i hi
 have hg:=gasT_ok q0 q1
 obtain ⟨n,hn,hne⟩:=List.getElem_of_mem hi
 have hgi:(dT C w.sec)[n]? = some i:=by rw [← hne];exact List.getElem?_eq_getElem hn
 have behind:∀ t∈zam i,∃ i'∈dT C w.sec,i'.at_=t:=fun t ht=>by
  obtain ⟨j,i',_,g2,g3⟩:=goes_in hsp hgi ht
  exact ⟨i',List.mem_of_getElem? g2,g3⟩
 have first:∀ k,InR C k→∃ j∈dT C k,j.at_=0:=fun k hk=>by
  obtain ⟨j,hj,hj0⟩:=place0 hv hk
  exact ⟨j,List.mem_of_getElem? hj,hj0⟩
 unfold Stp
 by_cases h7:i.code=227
 ·rw [go227 hr h7]
  have hk:=hv.call _ hsr i hi h7
  obtain ⟨i',b2,b3⟩:=behind i.next (by rw [goes_call h7];exact List.mem_singleton.2 rfl)
  have hm:=max_ge w.high ((w.noted.length+1:Nat):Int)
  refine ⟨rfl,fun w' hw'=>?_⟩
  simp only [List.mem_singleton] at hw'
  subst hw'
  refine ⟨⟨?_,by simp only [List.length_append,List.length_singleton];exact hm.2⟩,hm.1,rfl,by simp,_,hg.1,hg.2,rfl⟩
  unfold stW
  simp only [List.reverse_append,List.reverse_cons,List.reverse_nil,List.nil_append,List.singleton_append]
  exact ⟨⟨hk.1,first _ hk.1⟩,fun h=>(by cases h),⟨hsr,i',b2,b3⟩,h2,h3⟩
 by_cases h9:i.code=229
 ·rw [go229 hr h9]
  have hk:=hv.jump _ hsr i hi h9
  refine ⟨rfl,fun w' hw'=>?_⟩
  simp only [List.mem_singleton] at hw'
  subst hw'
  exact ⟨⟨⟨⟨hk.1,first _ hk.1⟩,fun h=>hk.2 (h2 h),h3⟩,hh⟩,Int.le_refl _,rfl,by simp,_,hg.1,hg.2,rfl⟩
 by_cases h8:i.code=228
 ·cases hnl:w.noted.reverse with
  | nil=>exact absurd (h2 hnl) (hv.ret _ hsr i hi h8)
  | cons p r =>
   rw [hnl] at h3
   have hnt:=rev_cons hnl
   rw [go228 hr h8 hnt]
   have hl:=congrArg List.length hnt
   simp only [List.length_append,List.length_reverse,List.length_singleton] at hl
   refine ⟨rfl,fun w' hw'=>?_⟩
   simp only [List.mem_singleton] at hw'
   subst hw'
   refine ⟨⟨?_,by simp only [List.length_reverse];omega⟩,Int.le_refl _,rfl,by simp only [List.length_reverse];omega,_,hg.1,hg.2,rfl⟩
   unfold stW
   simp only [List.reverse_reverse]
   exact h3
 ·rw [goElse hr h7 h8 h9]
  refine ⟨rfl,fun w' hw'=>?_⟩
  obtain ⟨t,ht,rfl⟩:=List.mem_map.1 hw'
  obtain ⟨i',b2,b3⟩:=behind t ht
  exact ⟨⟨⟨⟨hsr,i',b2,b3⟩,h2,h3⟩,hh⟩,Int.le_refl _,rfl,by simp,_,hg.1,hg.2,rfl⟩
theorem Rt.ok (hv:VC C) {a b:Wk} (h:Rt C a b) (ha:WkV C a):WkV C b∧a.high≤b.high:=by
 induction h with
 | refl=>exact ⟨ha,Int.le_refl _⟩
 | head h1 _ ih =>
  obtain ⟨g1,g2,_⟩:=(goes_fine hv ha).2 _ h1
  obtain ⟨k1,k2⟩:=ih g1
  exact ⟨k1,by omega⟩
theorem allRt {Q:Wk→Prop} (hQ:∀ w,(∀ y,Stp C y w→∀ w',Rt C y w'→Q w')→Q w) {w:Wk} (hA:Acc (Stp C) w):∀ w',Rt C w w'→Q w':=by
 induction hA with
 | intro w _ ih =>
  intro w' h
  cases h with
  | refl=>exact hQ w fun y hy=>ih y hy
  | head h1 h2=>exact ih _ h1 _ h2
theorem Rt.acc {a b:Wk} (h:Rt C a b) (hA:Acc (Stp C) a):Acc (Stp C) b:=by
 induction h with
 | refl=>exact hA
 | head h1 _ ih=>exact ih (hA.inv h1)
structure Full (C:Cont) (w:Wk):Prop where
 at_:∀ (n:Nat) (i:Ins),(dT C w.sec)[n]? = some i→∃ w',Rt C w w'∧w'.sec=w.sec∧w'.at_=i.at_∧w'.noted=w.noted
 back:(tyT C w.sec).out≠128→∃ w',Rt C w w'∧stW w'=w.noted.reverse
theorem edge (hv:VC C) {w:Wk} (hw:WkV C w) {n j:Nat} {i i':Ins} (hi:(dT C w.sec)[n]? = some i) (hi':(dT C w.sec)[j]? = some i') (ha:w.at_=i.at_) (hj:j∈su (dT C w.sec) n)
  (hF:∀ y,Stp C y w→WkV C y→y.at_=0→Full C y):∃ y w',Stp C y w∧Rt C y w'∧w'.sec=w.sec∧w'.at_=i'.at_∧w'.noted=w.noted:=by
 have hsr:=hw.st.1.1
 have hid:=List.mem_of_getElem? hi
 have hr:zch (secT C w.sec) w.at_ = .ok i:=by rw [ha];exact readT_of hid
 obtain ⟨i2,hi2,hgo⟩:=su_goes (hv.srt _ hsr) hi hj
 rw [hi'] at hi2
 cases hi2
 by_cases h7:i.code=227
 ·have hst:Stp C ⟨(zaf i).1,0,sumT w.steps 1,sumT w.gas (gasT i.code),w.noted++[(w.sec,i.next)],maxI w.high ((w.noted.length+1:Nat):Int)⟩ w:=by
   unfold Stp;rw [go227 hr h7];exact List.mem_singleton.2 rfl
  have hy:=((goes_fine hv hw).2 _ hst).1
  obtain ⟨w',h1,h2⟩:=(hF _ hst hy rfl).back (hv.call _ hsr i hid h7).2
  simp only [stW,List.reverse_append,List.reverse_cons,List.reverse_nil,List.nil_append,List.singleton_append,List.cons.injEq,Prod.mk.injEq] at h2
  rw [goes_call h7,List.mem_singleton] at hgo
  exact ⟨_,w',hst,h1,h2.1.1,h2.1.2.trans hgo.symm,List.reverse_inj.1 h2.2⟩
 by_cases h9:i.code=229
 ·have hz:zam i=[]:=goes_nil.2 ⟨by rw [h9];rfl,leads_none (by omega) (by omega) (by omega)⟩
  rw [hz] at hgo;cases hgo
 by_cases h8:i.code=228
 ·have hz:zam i=[]:=goes_nil.2 ⟨by rw [h8];rfl,leads_none (by omega) (by omega) (by omega)⟩
  rw [hz] at hgo;cases hgo
 ·exact ⟨⟨w.sec,i'.at_,sumT w.steps 1,sumT w.gas (gasT i.code),w.noted,w.high⟩,_,by unfold Stp;rw [goElse hr h7 h8 h9];exact List.mem_map.2 ⟨_,hgo,rfl⟩,.refl,rfl,rfl,rfl⟩
theorem full (hv:VC C) {w:Wk} (hA:Acc (Stp C) w):∀ w',Rt C w w'→WkV C w'→w'.at_=0→Full C w':=by
 refine allRt (Q:=fun w=>WkV C w→w.at_=0→Full C w) (fun w ih hw h0=>?_) hA
 have hsr:=hw.st.1.1
 have at_:∀ (n:Nat) (i:Ins),(dT C w.sec)[n]? = some i→∃ w',Rt C w w'∧w'.sec=w.sec∧w'.at_=i.at_∧w'.noted=w.noted:=by
  intro n
  induction n using Nat.strongRecOn with
  | _ n ihn =>
  intro i hi
  by_cases hn:n=0
  ·subst hn
   exact ⟨w,.refl,rfl,by rw [h0,first_at hi],rfl⟩
  ·obtain ⟨m,hm,hsu⟩:=hv.pre _ hsr n (by omega) (List.getElem?_eq_some_iff.1 hi).1
   have hml:m < (dT C w.sec).length:=by have:=(List.getElem?_eq_some_iff.1 hi).1;omega
   obtain ⟨w1,r1,e1,e2,e3⟩:=ihn m hm _ (List.getElem?_eq_getElem hml)
   have hw1:=(r1.ok hv hw).1
   rw [← e1] at hi hsu
   obtain ⟨y,w2,s1,r2,f1,f2,f3⟩:=edge hv hw1 (n:=m) (j:=n) (i:=(dT C w.sec)[m]) (by rw [e1];exact List.getElem?_eq_getElem hml) hi e2 hsu fun y hy hyv hy0=>by
    obtain ⟨z,z1,z2⟩:=r1.next hy
    exact ih z z1 y z2 hyv hy0
   exact ⟨w2,r1.trans (.head s1 r2),f1.trans e1,f2,f3.trans e3⟩
 refine ⟨at_,fun ho=>?_⟩
 obtain ⟨i,hi,hc⟩:=hv.comes _ hsr ho
 obtain ⟨n,hn,hne⟩:=List.getElem_of_mem hi
 obtain ⟨w1,r1,e1,e2,e3⟩:=at_ n i (by rw [← hne];exact List.getElem?_eq_getElem hn)
 have hw1:=(r1.ok hv hw).1
 have hr:zch (secT C w1.sec) w1.at_ = .ok i:=by rw [e1,e2];exact readT_of hi
 rcases hc with h8|⟨h9,hko⟩
 ·cases hnl:w1.noted.reverse with
  | nil =>
   have:=hw1.st.2.1 hnl
   rw [e1] at this
   exact absurd this ho
  | cons p r =>
   have hnt:=rev_cons hnl
   have hst:Stp C ⟨p.1,p.2,sumT w1.steps 1,sumT w1.gas (gasT i.code),r.reverse,w1.high⟩ w1:=by
    unfold Stp;rw [go228 hr h8 hnt];exact List.mem_singleton.2 rfl
   refine ⟨_,r1.trans (.head hst .refl),?_⟩
   rw [← e3,hnl]
   unfold stW
   simp only [List.reverse_reverse]
 ·have hst:Stp C ⟨(zaf i).1,0,sumT w1.steps 1,sumT w1.gas (gasT i.code),w1.noted,w1.high⟩ w1:=by
   unfold Stp;rw [go229 hr h9];exact List.mem_singleton.2 rfl
  have hy:=((goes_fine hv hw1).2 _ hst).1
  obtain ⟨z,z1,z2⟩:=r1.next hst
  obtain ⟨w2,r2,f2⟩:=(ih z z1 _ z2 hy rfl).back hko
  exact ⟨w2,r1.trans (.head hst r2),by rw [f2,← e3]⟩
theorem gocall (hv:VC C) {w:Wk} (hA:Acc (Stp C) w) (hw:WkV C w) (h0:w.at_=0) {i:Ins} (hi:i∈dT C w.sec) (hc:zco i) :
  ∃ y w',Stp C y w∧Rt C y w'∧w'.sec=(zaf i).1∧w'.at_=0∧(i.code=227→w'.noted.length=w.noted.length+1)∧(i.code=229→w'.noted.length=w.noted.length):=by
 obtain ⟨n,hn,hne⟩:=List.getElem_of_mem hi
 obtain ⟨w1,r1,e1,e2,e3⟩:=(full hv hA w .refl hw h0).at_ n i (by rw [← hne];exact List.getElem?_eq_getElem hn)
 have hr:zch (secT C w1.sec) w1.at_ = .ok i:=by rw [e1,e2];exact readT_of hi
 rcases hc with h7|h9
 ·have hst:Stp C ⟨(zaf i).1,0,sumT w1.steps 1,sumT w1.gas (gasT i.code),w1.noted++[(w1.sec,i.next)],maxI w1.high ((w1.noted.length+1:Nat):Int)⟩ w1:=by
   unfold Stp;rw [go227 hr h7];exact List.mem_singleton.2 rfl
  obtain ⟨z,z1,z2⟩:=r1.next hst
  exact ⟨z,_,z1,z2,rfl,rfl,fun _=>by rw [← e3];simp,fun h=>by omega⟩
 ·have hst:Stp C ⟨(zaf i).1,0,sumT w1.steps 1,sumT w1.gas (gasT i.code),w1.noted,w1.high⟩ w1:=by
   unfold Stp;rw [go229 hr h9];exact List.mem_singleton.2 rfl
  obtain ⟨z,z1,z2⟩:=r1.next hst
  exact ⟨z,_,z1,z2,rfl,rfl,fun h=>by omega,fun _=>by rw [← e3]⟩
theorem CR.first {a b:Int} (h:CR C a b):a=b∨∃ i∈dT C a,zco i∧CR C (zaf i).1 b:=by
 induction h with
 | refl=>exact .inl rfl
 | @step k i _ hi hc ih =>
  rcases ih with rfl|⟨j,h1,h2,h3⟩
  ·exact .inr ⟨i,hi,hc,.refl⟩
  ·exact .inr ⟨j,h1,h2,.step h3 hi hc⟩
theorem wk0_V (hv:VC C):WkV C wk0:=by
 have h0:InR C 0:=⟨Int.le_refl 0,by have:=hv.pos;omega⟩
 obtain ⟨i,hi,hi0⟩:=place0 hv h0
 exact ⟨⟨⟨h0,i,List.mem_of_getElem? hi,hi0⟩,fun _=>hv.zero,trivial⟩,Int.le_refl 0⟩
theorem come (hv:VC C) (hA:Acc (Stp C) wk0) {s:Int} (h:CR C 0 s):∃ w,Rt C wk0 w∧w.sec=s∧w.at_=0:=by
 induction h with
 | refl=>exact ⟨wk0,.refl,rfl,rfl⟩
 | @step k i _ hi hc ih =>
  obtain ⟨w,r,e,e0⟩:=ih
  have hw:=(r.ok hv (wk0_V hv)).1
  obtain ⟨y,w',s1,r1,e1,e2,_⟩:=gocall hv (r.acc hA) hw e0 (by rw [e];exact hi) hc
  exact ⟨w',r.trans (.head s1 r1),e1,e2⟩
theorem all_in:∀ (m:Nat) (l:List Int),(∀ n,n < m→(n:Int)∈l)→m≤l.length
 | 0,l,h=>Nat.zero_le _
 | m+1,l,h=>by
  have hm:=h m (by omega)
  have:=all_in m (l.erase (m:Int)) fun n hn=>(List.mem_erase_of_ne (by omega)).2 (h n (by omega))
  rw [List.length_erase_of_mem hm] at this
  have:=List.length_pos_of_mem hm
  omega
theorem no_circ (hv:VC C) (hA:Acc (Stp C) wk0):¬ Circ C:=by
 rintro (⟨s,hs,hl⟩|⟨j,i,hj,hi,hc,hr⟩)
 ·have hp:=hv.srt s hs
  have ho:=sortT_ord hp
  have hx:∃ n,n < (dT C s).length∧(n:Int) ∉ zcm (dT C s):=by
   refine Classical.byContradiction fun hn=>hl ?_
   have h1:=nodup_le _ _ ho.nd ho.rg
   have h2:=all_in (dT C s).length (zcm (dT C s)) fun n hn'=>Classical.byContradiction fun h=>hn ⟨n,hn',h⟩
   omega
  obtain ⟨n,hn,hnr⟩:=hx
  have hgn:(dT C s)[n]? = some (dT C s)[n]:=List.getElem?_eq_getElem hn
  generalize (dT C s)[n]=i0 at hgn
  obtain ⟨w,r,e,e0⟩:=come hv hA (hv.reach s hs)
  have hw:=(r.ok hv (wk0_V hv)).1
  have hAw:=r.acc hA
  obtain ⟨w1,r1,e1,e2,_⟩:=(full hv hAw w .refl hw e0).at_ n i0 (by rw [e];exact hgn)
  have hw1:=(r1.ok hv hw).1
  have key:∀ w',Rt C w1 w'→Acc (Stp C) w'→WkV C w'→w'.sec=s→∀ (m:Nat) (i:Ins),(dT C s)[m]? = some i→(m:Int) ∉ zcm (dT C s)→w'.at_≠i.at_:=by
   refine allRt (Q:=fun w'=>Acc (Stp C) w'→WkV C w'→w'.sec=s→∀ (m:Nat) (i:Ins),(dT C s)[m]? = some i→(m:Int) ∉ zcm (dT C s)→w'.at_≠i.at_) (fun w' ih hA' hw' hs' m i hmi hm ha=>?_) (r1.acc hAw)
   subst hs'
   obtain ⟨k,hk,hkr⟩:=ho.stuck m (List.getElem?_eq_some_iff.1 hmi).1 hm
   obtain ⟨i',hi',_⟩:=su_goes hp hmi hk
   obtain ⟨y,w2,s1,r2,f1,f2,f3⟩:=edge hv hw' hmi hi' ha hk fun y hy hyv hy0=>full hv (hA'.inv hy) y .refl hyv hy0
   have hw2:=((Rt.head s1 r2).ok hv hw').1
   exact ih y s1 w2 r2 ((Rt.head s1 r2).acc hA') hw2 f1 k i' hi' hkr f2
  refine key w1 .refl (r1.acc hAw) hw1 (e1.trans e) n i0 hgn hnr e2
 ·obtain ⟨w,r,e,e0⟩:=come hv hA (hv.reach j hj)
  have hw:=(r.ok hv (wk0_V hv)).1
  have key:∀ w',Rt C w w'→Acc (Stp C) w'→WkV C w'→w'.at_=0→¬ ∃ i∈dT C w'.sec,zco i∧CR C (zaf i).1 w'.sec:=by
   refine allRt (Q:=fun w'=>Acc (Stp C) w'→WkV C w'→w'.at_=0→¬ ∃ i∈dT C w'.sec,zco i∧CR C (zaf i).1 w'.sec) (fun w' ih hA' hw' h0=>?_) (r.acc hA)
   rintro ⟨i,hi,hc,hr⟩
   obtain ⟨y,w2,s1,r2,f1,f2,_⟩:=gocall hv hA' hw' h0 hi hc
   have hR:=Rt.head s1 r2
   refine ih y s1 w2 r2 (hR.acc hA') (hR.ok hv hw').1 f2 ?_
   rw [f1]
   rcases hr.first with he|⟨i2,h1,h2,h3⟩
   ·exact ⟨i,by rw [he];exact hi,hc,.refl⟩
   ·exact ⟨i2,h1,h2,.step h3 hi hc⟩
  exact key w .refl (r.acc hA) hw e0 ⟨i,by rw [e];exact hi,hc,by rw [e];exact hr⟩
theorem ends_ex (hv:VC C) {w:Wk} (hA:Acc (Stp C) w):WkV C w→∃ now,Ends C w now:=by
 induction hA with
 | intro w _ ih =>
  intro hw
  obtain ⟨hf,hn⟩:=goes_fine hv hw
  cases hto:(zca C w).1 with
  | nil=>exact ⟨_,.done (by rw [← hto,← hf])⟩
  | cons y l =>
   have hy:Stp C y w:=by unfold Stp;rw [hto];exact List.mem_cons_self
   obtain ⟨now,h⟩:=ih y hy (hn y hy).1
   exact ⟨now,.step hy h⟩
theorem now_high (w:Wk):(zca C w).2.1.high=w.high:=by
 unfold zca
 cases zch (secT C w.sec) w.at_ with
 | error e=>rfl
 | ok i =>
  simp only
  split
  ·rfl
  split
  ·rfl
  split
  ·split <;> rfl
  ·rfl
theorem Ends.high (hv:VC C) {w now:Wk} (h:Ends C w now):WkV C w→w.high≤now.high:=by
 induction h with
 | @done w now h =>
  intro _
  have:=now_high (C:=C) w
  rw [h] at this
  exact Int.le_of_eq this.symm
 | step h1 _ ih =>
  intro hw
  obtain ⟨g1,g2,_⟩:=(goes_fine hv hw).2 _ h1
  have:=ih g1
  omega
theorem Ends.le {S:WS} {R:Int} (hk:Known C S) {w now:Wk} (h:Ends C w now):WkOK C S R (stW w)→w.high≤R→0≤w.steps→0≤w.gas →
  now.steps≤sumT w.steps (XT S.kn (stW w)).steps∧now.gas≤sumT w.gas (XT S.kn (stW w)).gas∧now.high≤R:=by
 induction h with
 | @done w now h =>
  intro hw hh s0 g0
  obtain ⟨to,g,h0,h1,he,hto,hx⟩:=goes_step hk hw hh
  rw [h] at he
  simp only [Prod.mk.injEq] at he
  obtain ⟨e1,rfl,_⟩:=he
  rcases hx with ⟨_,hx⟩|⟨hx,_⟩
  ·rw [hx];exact ⟨Int.le_refl _,Int.le_refl _,hh⟩
  ·exact absurd e1.symm hx
 | @step w w' now hs _ ih =>
  intro hw hh s0 g0
  obtain ⟨to,g,h0,h1,he,hto,hx⟩:=goes_step hk hw hh
  have hm:w'∈to:=by unfold Stp at hs;rw [he] at hs;exact hs
  obtain ⟨k1,k2,k3,k4⟩:=hto w' hm
  obtain ⟨i1,i2,i3⟩:=ih k1 k2 (by rw [k3];unfold sumT;split <;> omega) (by rw [k4];unfold sumT;split <;> omega)
  rcases hx with ⟨hx,_⟩|⟨_,hx⟩
  ·rw [hx] at hm;cases hm
  have hNN:∀ y∈to.map fun w'=>XT S.kn (stW w'),NN y:=fun y hy=>by obtain ⟨v,hv,rfl⟩:=List.mem_map.1 hy;exact XT_NN hk (hto v hv).1
  have hge:=orL_ge hNN _ (List.mem_map.2 ⟨w',hm,rfl⟩)
  have hxi:=XT_is hk hw (by simp)
  rw [hx,and_is] at hxi
  simp only [Bool.true_and] at hxi
  obtain ⟨o1,_,o3,_⟩:=(orL_NN hNN).ok
  obtain ⟨x1,_,x3,_⟩:=(XT_NN hk k1).ok
  rw [hx]
  unfold andT
  rw [if_neg (by rw [hxi];simp)]
  simp only
  rw [k3] at i1
  rw [k4] at i2
  refine ⟨Int.le_trans i1 ?_,Int.le_trans i2 ?_,i3⟩
  ·unfold sumT
   (repeat' split) <;> omega
  ·unfold sumT
   (repeat' split) <;> omega
theorem most {S:WS} {R:Int} (hk:Known C S) {w:Wk} (hA:Acc (Stp C) w):WkOK C S R (stW w)→w.high≤R→0≤w.steps→0≤w.gas →
  (∃ now,Ends C w now∧now.steps=sumT w.steps (XT S.kn (stW w)).steps)∧∃ now,Ends C w now∧now.gas=sumT w.gas (XT S.kn (stW w)).gas:=by
 induction hA with
 | intro w _ ih =>
  intro hw hh s0 g0
  obtain ⟨to,g,h0,h1,he,hto,hx⟩:=goes_step hk hw hh
  rcases hx with ⟨hx1,hx⟩|⟨_,hx⟩
  ·subst hx1
   rw [hx]
   exact ⟨⟨_,.done he,rfl⟩,_,.done he,rfl⟩
  ·have hNN:∀ y∈to.map fun w'=>XT S.kn (stW w'),NN y:=fun y hy=>by obtain ⟨v,hv,rfl⟩:=List.mem_map.1 hy;exact XT_NN hk (hto v hv).1
   have hxi:=XT_is hk hw (by simp)
   rw [hx,and_is] at hxi
   simp only [Bool.true_and] at hxi
   obtain ⟨o1,_,o3,_⟩:=(orL_NN hNN).ok
   obtain ⟨⟨y,hy,_,y2⟩,z,hz,_,z2⟩:=orL_at hxi
   obtain ⟨a,ha,rfl⟩:=List.mem_map.1 hy
   obtain ⟨b,hb,rfl⟩:=List.mem_map.1 hz
   have st:∀ v∈to,Stp C v w:=fun v hv=>by unfold Stp;rw [he];exact hv
   have nn:∀ v∈to,0≤v.steps∧0≤v.gas:=fun v hv=>by
    obtain ⟨_,_,k3,k4⟩:=hto v hv
    rw [k3,k4]
    unfold sumT
    constructor <;> split <;> omega
   obtain ⟨⟨n1,e1,q1⟩,_⟩:=ih a (st a ha) (hto a ha).1 (hto a ha).2.1 (nn a ha).1 (nn a ha).2
   obtain ⟨_,n2,e2,q2⟩:=ih b (st b hb) (hto b hb).1 (hto b hb).2.1 (nn b hb).1 (nn b hb).2
   rw [hx]
   unfold andT
   rw [if_neg (by rw [hxi];simp)]
   simp only
   refine ⟨⟨n1,.step (st a ha) e1,?_⟩,n2,.step (st b hb) e2,?_⟩
   ·rw [q1,(hto a ha).2.2.1,y2]
    exact sum_assoc s0 (by decide) o1
   ·rw [q2,(hto b hb).2.2.2,z2]
    exact sum_assoc g0 h0 o3
theorem highest {S:WS} (hk:Known C S) (hcl:∀ s,InR C s→clo S s) {w:Wk} (hA:Acc (Stp C) w) (hw:WkV C w) (h0:w.at_=0):∃ w',Rt C w w'∧(w.noted.length:Int)+plP S w.sec≤w'.high:=by
 have hv:=hk.vc
 have key:∀ w',Rt C w w'→Acc (Stp C) w'→WkV C w'→w'.at_=0→∃ w2,Rt C w' w2∧(w'.noted.length:Int)+plP S w'.sec≤w2.high:=by
  refine allRt (Q:=fun w'=>Acc (Stp C) w'→WkV C w'→w'.at_=0→∃ w2,Rt C w' w2∧(w'.noted.length:Int)+plP S w'.sec≤w2.high) (fun w' ih hA' hw' h0'=>?_) hA
  have hhi:=hw'.hi
  rcases hk.plx _ (hcl _ hw'.st.1.1) with hp|⟨i,hi,hp⟩
  ·exact ⟨w',.refl,by simp only at hp;omega⟩
  ·have hc:zco i:=by rcases hp with ⟨h,_⟩|⟨h,_⟩;exact .inl h;exact .inr h
   obtain ⟨y,w2,s1,r2,f1,f2,f3,f4⟩:=gocall hv hA' hw' h0' hi hc
   have hR:=Rt.head s1 r2
   obtain ⟨w3,r3,hle⟩:=ih y s1 w2 r2 (hR.acc hA') (hR.ok hv hw').1 f2
   refine ⟨w3,hR.trans r3,?_⟩
   rw [f1] at hle
   rcases hp with ⟨h7,hp⟩|⟨h9,hp⟩
   ·have:=f3 h7;simp only at hp;omega
   ·have:=f4 h9;simp only at hp;omega
 exact key w .refl hA hw h0
end
structure Got where
 steps:Int
 gas:Int
 high:Int
def Got.put (x:Got) (w:Wk):Got:=⟨if w.steps > x.steps then w.steps else x.steps,if w.gas > x.gas then w.gas else x.gas,if w.high > x.high then w.high else x.high⟩
def metT (C:Cont):Nat→List Wk→Got→Option Got
 | 0,work,x=>if work=[] then some x else none
 | f+1,[],x=>some x
 | f+1,w::r,x=>metT C f ((zca C w).1.reverse++r) (if (zca C w).1=[] then x.put (zca C w).2.1 else x)
section
variable {C:Cont}
theorem Got.ge (x:Got) (w:Wk):x.steps≤(x.put w).steps∧x.gas≤(x.put w).gas∧x.high≤(x.put w).high∧w.steps≤(x.put w).steps∧w.gas≤(x.put w).gas∧w.high≤(x.put w).high:=by
 unfold Got.put
 simp only
 refine ⟨?_,?_,?_,?_,?_,?_⟩ <;> split <;> omega
structure GotP (C:Cont) (work:List Wk) (x y:Got):Prop where
 acc:∀ w∈work,Acc (Stp C) w
 s1:x.steps≤y.steps
 g1:x.gas≤y.gas
 h1:x.high≤y.high
 all:∀ w∈work,∀ now,Ends C w now→now.steps≤y.steps∧now.gas≤y.gas∧now.high≤y.high
 s:y.steps=x.steps∨∃ w∈work,∃ now,Ends C w now∧y.steps=now.steps
 g:y.gas=x.gas∨∃ w∈work,∃ now,Ends C w now∧y.gas=now.gas
 h:y.high=x.high∨∃ w∈work,∃ now,Ends C w now∧y.high=now.high
theorem GotP.nil (x:Got):GotP C [] x x:=⟨fun w h=>(by cases h),Int.le_refl _,Int.le_refl _,Int.le_refl _,fun w h=>(by cases h),.inl rfl,.inl rfl,.inl rfl⟩
theorem metT_got (hv:VC C):∀ (f:Nat) (work:List Wk) (x y:Got),(∀ w∈work,WkV C w)→metT C f work x=some y→GotP C work x y
 | 0,work,x,y,hw,h=>by
  rw [metT] at h
  split at h
  ·rename_i he
   cases h
   subst he
   exact .nil x
  ·cases h
 | f+1,[],x,y,hw,h=>by
  rw [metT] at h
  cases h
  exact .nil x
 | f+1,w::r,x,y,hw,h=>by
  rw [metT] at h
  have hww:=hw w List.mem_cons_self
  obtain ⟨hf,hn⟩:=goes_fine hv hww
  have hG:=metT_got hv f _ _ _ (fun v hv'=>by
   rcases List.mem_append.1 hv' with h1|h1
   ·exact (hn v (List.mem_reverse.1 h1)).1
   ·exact hw v (List.mem_cons_of_mem _ h1)) h
  have hA:Acc (Stp C) w:=⟨w,fun v hv'=>hG.acc v (List.mem_append_left _ (List.mem_reverse.2 hv'))⟩
  have up:∀ {P:Wk→Prop},(∃ v∈(zca C w).1.reverse++r,∃ now,Ends C v now∧P now)→∃ v∈w::r,∃ now,Ends C v now∧P now:=by
   rintro P ⟨v,hv',now,he,hp⟩
   rcases List.mem_append.1 hv' with h1|h1
   ·exact ⟨w,List.mem_cons_self,now,.step (List.mem_reverse.1 h1) he,hp⟩
   ·exact ⟨v,List.mem_cons_of_mem _ h1,now,he,hp⟩
  have hx:=Got.ge x (zca C w).2.1
  by_cases hnil:(zca C w).1=[]
  ·rw [if_pos hnil] at hG
   have hE:Ends C w (zca C w).2.1:=.done (by rw [← hnil,← hf])
   have only:∀ now,Ends C w now→now=(zca C w).2.1:=fun now he=>by
    cases he with
    | done h=>rw [h]
    | step h _=>unfold Stp at h;rw [hnil] at h;cases h
   obtain ⟨q1,q2,q3,q4,q5,q6⟩:=hx
   have p1:=hG.s1
   have p2:=hG.g1
   have p3:=hG.h1
   refine ⟨fun v hv'=>?_,by omega,by omega,by omega,fun v hv' now he=>?_,?_,?_,?_⟩
   ·rcases List.mem_cons.1 hv' with rfl|h1
    ·exact hA
    ·exact hG.acc v (List.mem_append_right _ h1)
   ·rcases List.mem_cons.1 hv' with rfl|h1
    ·rw [only now he];exact ⟨by omega,by omega,by omega⟩
    ·exact hG.all v (List.mem_append_right _ h1) now he
   ·rcases hG.s with h|h
    ·rw [h]
     unfold Got.put
     simp only
     split
     ·exact .inr ⟨w,List.mem_cons_self,_,hE,rfl⟩
     ·exact .inl rfl
    ·exact .inr (up h)
   ·rcases hG.g with h|h
    ·rw [h]
     unfold Got.put
     simp only
     split
     ·exact .inr ⟨w,List.mem_cons_self,_,hE,rfl⟩
     ·exact .inl rfl
    ·exact .inr (up h)
   ·rcases hG.h with h|h
    ·rw [h]
     unfold Got.put
     simp only
     split
     ·exact .inr ⟨w,List.mem_cons_self,_,hE,rfl⟩
     ·exact .inl rfl
    ·exact .inr (up h)
  ·rw [if_neg hnil] at hG
   refine ⟨fun v hv'=>?_,hG.s1,hG.g1,hG.h1,fun v hv' now he=>?_,hG.s.imp id up,hG.g.imp id up,hG.h.imp id up⟩
   ·rcases List.mem_cons.1 hv' with rfl|h1
    ·exact hA
    ·exact hG.acc v (List.mem_append_right _ h1)
   ·rcases List.mem_cons.1 hv' with rfl|h1
    ·cases he with
     | done h=>rw [h] at hnil;exact absurd rfl hnil
     | step h1 h2=>exact hG.all _ (List.mem_append_left _ (List.mem_reverse.2 h1)) now h2
    ·exact hG.all v (List.mem_append_right _ h1) now he
theorem met_all (hv:VC C) {f:Nat} {y:Got} (h:metT C f [wk0] ⟨0,0,0⟩=some y):(ofT C).2=true∧(ofT C).1.steps=y.steps∧(ofT C).1.gas=y.gas∧(ofT C).1.returns=y.high:=by
 have hG:=metT_got hv f _ _ _ (fun w hw=>by rw [List.mem_singleton] at hw;subst hw;exact wk0_V hv) h
 have hA:=hG.acc wk0 List.mem_cons_self
 have hb:(ofT C).2=true:=by
  cases hb:(ofT C).2 with
  | true=>rfl
  | false=>exact absurd (sec0_no hv (of_no hb).2) (no_circ hv hA)
 refine ⟨hb,?_⟩
 obtain ⟨S,hk,hcl,e1,e2,e3⟩:=of_yes hv hb
 have hc0:=hcl 0 ⟨Int.le_refl 0,by have:=hv.pos;omega⟩
 obtain ⟨g1,g2⟩:=wk0_ok hk hc0
 have e:stW wk0=[(0,0)]:=rfl
 obtain ⟨x1,x2,x3,x4⟩:=(XT_NN hk g1).ok
 have hle:∀ now,Ends C wk0 now→now.steps≤(ofT C).1.steps∧now.gas≤(ofT C).1.gas∧now.high≤(ofT C).1.returns:=fun now he=>by
  have:=Ends.le hk he g1 g2 (Int.le_refl 0) (Int.le_refl 0)
  rw [e1,e2,e3]
  rw [e] at this x1 x2 x3 x4
  obtain ⟨t1,t2,t3⟩:=this
  refine ⟨Int.le_trans t1 ?_,Int.le_trans t2 ?_,t3⟩
  ·unfold sumT wk0;simp only;split <;> omega
  ·unfold sumT wk0;simp only;split <;> omega
 obtain ⟨⟨n1,en1,q1⟩,n2,en2,q2⟩:=most hk hA g1 g2 (Int.le_refl 0) (Int.le_refl 0)
 have hs0:∀ a:Int,0≤a→a≤18446744073709551615→sumT 0 a=a:=fun a h0 h1=>by unfold sumT;split <;> omega
 rw [show wk0.steps=0 from rfl,hs0 _ x1 x2] at q1
 rw [show wk0.gas=0 from rfl,hs0 _ x3 x4] at q2
 obtain ⟨w3,r3,h3⟩:=highest hk hcl hA (wk0_V hv) rfl
 obtain ⟨n3,en3⟩:=ends_ex hv (r3.acc hA) (r3.ok hv (wk0_V hv)).1
 have h4:=en3.high hv (r3.ok hv (wk0_V hv)).1
 have a1:=hG.all wk0 List.mem_cons_self n1 en1
 have a2:=hG.all wk0 List.mem_cons_self n2 en2
 have a3:=hG.all wk0 List.mem_cons_self n3 (r3.ends en3)
 have b1:=hle n1 en1
 have l3:(wk0.noted.length:Int)=0:=rfl
 have l4:wk0.sec=0:=rfl
 rw [l3,l4] at h3
 have n0:=hk.pl0 0 hc0
 rw [e] at q1 q2 x1 x3
 have c1:y.steps≤(ofT C).1.steps:=by
  rcases hG.s with h|⟨w,hw,now,he,h⟩
  ·rw [h,e1];exact x1
  ·rw [List.mem_singleton] at hw;subst hw;rw [h];exact (hle now he).1
 have c2:y.gas≤(ofT C).1.gas:=by
  rcases hG.g with h|⟨w,hw,now,he,h⟩
  ·rw [h,e2];exact x3
  ·rw [List.mem_singleton] at hw;subst hw;rw [h];exact (hle now he).2.1
 have c3:y.high≤(ofT C).1.returns:=by
  rcases hG.h with h|⟨w,hw,now,he,h⟩
  ·rw [h,e3];exact n0
  ·rw [List.mem_singleton] at hw;subst hw;rw [h];exact (hle now he).2.2
 refine ⟨?_,?_,?_⟩
 ·rw [← e1] at q1;omega
 ·rw [← e2] at q2;omega
 ·rw [← e3] at h3;omega
end
theorem RowZ.cut {w:World} {z n x c:Nat} {p:Option Addr} {e:TypeId} {xs:List Value} (h:RowZ w z (.slice p n c) e n xs) (hx:x≤n):RowZ w z (.slice p x c) e x (xs.take (x * z)):=by
 have hl:=h.len
 have hxz:x * z≤n * z:=Nat.mul_le_mul_right z hx
 refine ⟨by rw [List.length_take];omega,?_⟩
 rcases h.2 with ⟨h0,h1⟩|⟨g,cap,cur,hv,hb,hg,hc,hm,hs,ht⟩
 ·simp only [Value.slice.injEq] at h0
  obtain ⟨rfl,h2,rfl⟩:=h0
  refine .inl ⟨?_,by omega⟩
  rw [show x=0 by omega]
 ·simp only [Value.slice.injEq] at hv
  obtain ⟨rfl,_,rfl⟩:=hv
  refine .inr ⟨g,c,cur,rfl,hb,hg,by omega,hm,hs,?_⟩
  rw [← ht,List.take_take]
  congr 1;omega
theorem rowCutZ {Z:Nat→Prop} {w0 w:World} {L:List Ent} {p:Option Addr} {z n c x:Nat} {e:TypeId} {xs:List Value} (h:Hp Z w0 w (.row z p n c e xs::L)) (hx:x≤n):Hp Z w0 w (.row z p x c e (xs.take (x * z))::L):=by
 have hr:=h.row List.mem_cons_self
 refine h.less .here (RowZ.cut (w:=w) hr hx) (fun k hk=>?_) fun k hk=>?_
 all_goals
  have hk:Blk (.slice p x c) k:=hk
  show Blk (.slice p n c) k
  unfold Blk at hk ⊢
  cases p with
  | none=>simp [Value.ownBlock] at hk
  | some a=>simpa [Value.ownBlock] using hk
theorem rowOne {Z:Nat→Prop} {w0 w:World} {L:List Ent} {b z:Nat} {cs:List Value} {e:TypeId} (h:Hp Z w0 w (.own b cs.toArray e::L)) (hl:cs.length=z) (hz:z≤1000):Hp Z w0 w (.row z (some ⟨b,0,none⟩) 1 1 e cs::L):=by
 have hr:RowZ w z (.slice (some ⟨b,0,none⟩) 1 1) e 1 cs:=⟨by omega,.inr ⟨b,1,cs.toArray,rfl,Nat.zero_le _,h.own List.mem_cons_self,Nat.le_refl _,by decide,by simp [hl],by simp [← hl]⟩⟩
 refine h.turn .here (Ext.refl w) hr fun k hk=>.inl ?_
 have hk:Blk (.slice (some ⟨b,0,none⟩) 1 1) k:=hk
 unfold Blk at hk
 show k=b
 simpa [Value.ownBlock,eq_comm] using hk
theorem appSee {P:Program} {Z:Nat→Prop} {w0 w:World} {L:List Ent} {t e ty z by' n c m d:Nat} {zv:Value} {p q:Option Addr} {xs ys:List Value} {F:Value→World→Prop} (hh:Hp Z w0 w (.row z p n c e xs::L)) (hs:Sees w z q m d ys) (hz0:0 < z) (ht:P.underlying t=some (.slice e))
  (hi:(P.info? e).map (fun i=>(i.zero,i.size,i.bytes))=some (some zv,z,by')) (hzv:zv.cells.size=z) (h1:∀ u∈ys,u.oneCell'=true) (hn:n+m≤1073741824) (hb:by'≤65536)
  (kk:∀ p' cap w',Hp Z w0 w' (.row z p' (n+m) cap e (xs++ys)::L)→F (.slice p' (n+m) cap) w'):semK P (Builtin.append_ #[t,t] ty #[.slice p n c,.slice q m d]) w F:=by
 refine appS (P:=P) (t:=t) (e:=e) (hh.row List.mem_cons_self) hs hz0 ht hi hzv h1 hn hb fun p' cap w2 hr he hq=>?_
 exact kk p' cap w2 (hh.turn .here he hr fun i hi=>(hq i hi).imp id fun h=>Nat.le_of_eq h.symm)
theorem wkCells_take {l:List (Wk × Hd)} {k:Nat}:(zbl l).take (k * 6)=zbl (l.take k):=by
 by_cases hk:k≤l.length
 ·conv=>lhs;rw [← List.take_append_drop k l,wkCells_app]
  have h1:(zbl (l.take k)).length=k * 6:=by rw [wkCells_len,List.length_take,Nat.min_eq_left hk]
  rw [List.take_append_of_le_length (by omega),List.take_of_length_le (by omega)]
 ·rw [List.take_of_length_le (by rw [wkCells_len];omega),List.take_of_length_le (by omega)]
section
variable {w0:World} {K:Value→World→Prop} {cb gh x7:Nat} {bh:Hd} {hd:Cd} {C:Cont} {kind:Int}
abbrev E7w (cb gh x7:Nat) (bh:Hd) (hd:Cd) (C:Cont) (kind:Int) (st:List (Option Hd)) (x:Got) (wp:Option Addr) (wn wc:Nat) (tl:List (Wk × Hd)):List Ent :=
 [.row 6 wp wn wc 62 (zbl tl),noteF tl,.own x7 #[.int .u64 x.steps,.int .u64 x.gas,.int .i64 0,.int .i64 x.high] 40,codeO cb gh bh hd C kind,codeH gh st,codeR hd C st]
structure MwK (C:Cont) (n:Nat) (x:Wk):Prop where
 v:WkV C x
 s0:0≤x.steps
 s1:x.steps≤18446744073709551615
 g0:0≤x.gas
 g1:x.gas≤18446744073709551615
 nl:x.noted.length≤n
theorem l7_2 (hcv:CodeV C) (hv:VC C) (kk:∀ w',Bl w0 w'→K (.bool true) w') :
  ∀ (q n:Nat) (x:Got) (wp:Option Addr) (wn wc:Nat) (tl:List (Wk × Hd)) (st:List (Option Hd)) (wd:World),n+q=4001→st.length=C.codes.length→wn=tl.length→tl.length≤1000 * (n+1)→(∀ y∈tl,MwK C n y.1) →
   (∀ y,metT C q (tl.map (·.1)).reverse x=some y→(ofT C).2=true∧(ofT C).1.steps=y.steps∧(ofT C).1.gas=y.gas∧(ofT C).1.returns=y.high) →
   Hp zao w0 wd (E7w cb gh x7 bh hd C kind st x wp wn wc tl)→L7_2 K (q+1) (some ⟨cb,0,none⟩) ⟨x7,0,none⟩ wp wn wc (n:Int) wd:=by
 have fin:∀ (x:Got) (wp:Option Addr) (wc:Nat) (st:List (Option Hd)) (wd:World),st.length=C.codes.length→((ofT C).2=true∧(ofT C).1.steps=x.steps∧(ofT C).1.gas=x.gas∧(ofT C).1.returns=x.high) →
   Hp zao w0 wd (E7w cb gh x7 bh hd C kind st x wp 0 wc [])→J7_1 K (some ⟨cb,0,none⟩) ⟨x7,0,none⟩ wd:=by
  intro x wp wc st wd hst hx hh
  obtain ⟨e0,e1,e2,e3⟩:=hx
  unfold J7_1
  have hp:=((hh.front (x:=codeR hd C st) (by repeat (first|exact Pick.here|apply Pick.there))).front (x:=codeH gh st) (by repeat (first|exact Pick.here|apply Pick.there))).front (x:=codeO cb gh bh hd C kind) (by repeat (first|exact Pick.here|apply Pick.there))
  refine f15 hcv.cp hcv.sp hcv.pos hst hp fun st' w5 hst' hh=>?_
  rw [e0]
  repeat' first|(with_reducible first|refine kk_ ?_|refine nx hh ?_|refine allW fun w' hh=>?_|exact sd_|refine And.intro ?_ ?_|exact vr)|fail
  refine ifBt ?_
  repeat' first|(with_reducible first|refine kk_ ?_|refine nx hh ?_|refine allW fun w' hh=>?_|exact sd_|refine And.intro ?_ ?_|exact vr)|fail
  first|rw [e1,e2,e3]|(dsimp only;rw [e1,e2,e3])
  have:(((x.steps:Int) == x.steps) && ((x.gas == x.gas) && (((ofT C).1.height == (ofT C).1.height) && (x.high == x.high))))=true:=by simp
  first|rw [this]|(dsimp only;rw [this])
  exact kk _ hh.done
 intro q
 induction q with
 | zero =>
  intro n x wp wn wc tl st wd hn hst hwn hlen hok hM hh
  unfold L7_2
  refine ifD (fun h=>ifD (fun _=>kk _ hh.done) fun h2=>by omega) fun h=>?_
  have h0:tl=[]:=List.length_eq_zero_iff.1 (by omega)
  subst h0
  have hw0:wn=0:=hwn
  subst hw0
  exact fin x wp wc st wd hst (hM x (by rw [metT];rfl)) hh
 | succ q ih =>
  intro n x wp wn wc tl st wd hn hst hwn hlen hok hM hh
  unfold L7_2
  refine ifD (fun h=>ifD (fun h2=>by omega) fun _=>?_) fun h=>?_
  ·have hpos:0 < tl.length:=by omega
   have hlast:tl[wn - 1]? = some (tl[wn - 1]'(by omega)):=List.getElem?_eq_getElem (by omega)
   generalize tl[wn - 1]'(by omega)=z at hlast
   obtain ⟨w,h⟩:=z
   have htl:tl=tl.take (wn - 1)++[(w,h)]:=by
    have h1:=List.take_add_one (l:=tl) (i:=wn - 1)
    rw [hlast,show wn - 1+1=tl.length by omega,List.take_length] at h1
    exact h1
   have hwok:=hok (w,h) (List.mem_of_getElem? hlast)
   have hwV:WkV C w:=hwok.v
   have wn1:w.noted.length≤n:=hwok.nl
   have ws0:0≤w.steps:=hwok.s0
   have ws1:w.steps≤18446744073709551615:=hwok.s1
   have wg0:0≤w.gas:=hwok.g0
   have wg1:w.gas≤18446744073709551615:=hwok.g1
   obtain ⟨hf,hnx⟩:=goes_fine hv hwV
   rw [i64w (n:=((wn:Nat):Int) - 1) (by omega) (by omega)]
   have hrow:=hh.row (z:=6) (p:=wp) (n:=wn) (c:=wc) (e:=62) (xs:=zbl tl) List.mem_cons_self
   refine rdWk hrow.sees (by with_unfolding_all rfl) (by with_unfolding_all rfl) (by omega) (by omega) fun z ad hz a0 a1 a2 a3 a4 a5=>?_
   rw [show ((wn:Int) - 1).toNat=wn - 1 by omega,hlast] at hz
   cases hz
   repeat' first|(with_reducible first|refine kk_ ?_|refine nx hh ?_|refine allW fun w' hh=>?_|exact sd_|refine ld a0 ?_|refine ld a1 ?_|refine ld a2 ?_|refine ld a3 ?_|refine ld a4 ?_|refine ld a5 ?_|refine And.intro ?_ ?_|exact vr)|fail
   refine cutZ (z:=6) (by with_unfolding_all rfl) (by with_unfolding_all rfl) (by omega) (by omega) hrow.sees.le ?_
   first|rw [show ((wn:Int) - 1).toNat=wn - 1 by omega]|(dsimp only;rw [show ((wn:Int) - 1).toNat=wn - 1 by omega])
   repeat' first|(with_reducible first|refine kk_ ?_|refine nx hh ?_|refine allW fun w' hh=>?_|exact sd_|refine And.intro ?_ ?_|exact vr)|fail
   have hno:=(hh.on (S:=noteS tl) (A:=fun v=>NoteS v tl) (by repeat (first|exact List.mem_cons_self|apply List.mem_cons_of_mem))).holds
   have hco:=hh.own (b:=cb) (cs:=(cellsOf gh bh hd C kind).toArray) (t:=110) (by repeat (first|exact List.mem_cons_self|apply List.mem_cons_of_mem))
   have hcr:=(hh.on (S:=roS hd C st) (A:=fun w=>ContAt w hd C∧HiAt w C st) (by repeat (first|exact List.mem_cons_self|apply List.mem_cons_of_mem))).holds
   refine f19 (w:=w) (h:=h) (gh:=gh) (bh:=bh) (kind:=kind) hcv.cp hco hcr.1 (hno _ (List.mem_of_getElem? hlast)) hf (fun x hx=>(hv.cl x hx).2) ws0 ws1 wg0 wg1 (by omega) fun tp tn tc tl2 v5 w1 hm htn hb1 hws hn1 hn2=>?_
   replace hh:=addWk hh hb1 hws hn1 hn2
   have hlen2:=goesW_len C w
   have hlm:=congrArg List.length hm
   rw [List.length_map] at hlm
   repeat' first|(with_reducible first|refine kk_ ?_|refine nx hh ?_|refine allW fun w' hh=>?_|exact sd_|refine And.intro ?_ ?_|exact vr)|fail
   refine zcd ?_
   have step:∀ (x':Got) (wy:World),x'=(if (zca C w).1=[] then x.put (zca C w).2.1 else x)→Hp zao w0 wy (.see 6 tp tn tc (zbl tl2)::noteF tl2::E7w cb gh x7 bh hd C kind st x' wp wn wc tl) →
     semK Tryz.prog (Builtin.append_ #[63,63] 63 #[(.slice wp (wn - 1) wc),(.slice tp tn tc)]) wy fun v22 w11=>asL v22 fun l6p l6l l6c=>L7_2 K (q+1) (some ⟨cb,0,none⟩) ⟨x7,0,none⟩ l6p l6l l6c (IntKind.wrap .i64 ((n:Int)+1)) w11:=by
    clear hh
    intro x' wy hx' hh
    have hno:=(hh.on (S:=noteS tl) (A:=fun v=>NoteS v tl) (by repeat (first|exact List.mem_cons_self|apply List.mem_cons_of_mem))).holds
    have hno2:=(hh.on (S:=noteS tl2) (A:=fun v=>NoteS v tl2) (by repeat (first|exact List.mem_cons_self|apply List.mem_cons_of_mem))).holds
    have hsee:=hh.sees (SeeIn.pos (p:=tp) (n:=tn) (c:=tc))
    have h1:=rowCutZ (hh.front (x:=.row 6 wp wn wc 62 (zbl tl)) (by repeat (first|exact Pick.here|apply Pick.there))) (x:=wn - 1) (by omega)
    rw [wkCells_take] at h1
    refine appSee h1 hsee (by decide) (by with_unfolding_all rfl) (by with_unfolding_all rfl) (by with_unfolding_all rfl) (wkCells_one _) (by omega) (by decide) fun p' cap w2 hh=>?_
    rw [← wkCells_app] at hh
    have hno3:=(hh.on (S:=noteS tl) (A:=fun v=>NoteS v tl) (by repeat (first|exact List.mem_cons_self|apply List.mem_cons_of_mem))).holds
    have hno4:=(hh.on (S:=noteS tl2) (A:=fun v=>NoteS v tl2) (by repeat (first|exact List.mem_cons_self|apply List.mem_cons_of_mem))).holds
    have hx:∀ y∈tl.take (wn - 1)++tl2,y∈tl∨y∈tl2:=fun y hy=>(List.mem_append.1 hy).imp List.mem_of_mem_take id
    have h2:=hh.front (x:=noteF tl2) (by repeat (first|exact Pick.here|apply Pick.there))
    have h3:=Hp.merge (y:=noteF (tl.take (wn - 1)++tl2)) h2 (x:=noteF tl) (by repeat (first|exact Pos.here|apply Pos.there)) (noteF_on fun y hy=>by
     rcases hx y hy with h|h
     ·exact hno3 y h
     ·exact hno4 y h) (fun k hk=>hk) fun k ⟨y,hy,hk⟩=>by
     rcases hx y hy with h|h
     ·exact .inl ⟨y,h,hk⟩
     ·exact .inr ⟨y,h,hk⟩
    refine kL ?_
    rw [i64w (n:=(n:Int)+1) (by omega) (by omega)]
    have htk:(tl.take (wn - 1)).length=wn - 1:=by rw [List.length_take];omega
    refine (?_:L7_2 K (q+1) (some ⟨cb,0,none⟩) ⟨x7,0,none⟩ p' (wn - 1+tn) cap ((n:Int)+1) w2)
    have:=ih (n+1) x' p' (wn - 1+tn) cap (tl.take (wn - 1)++tl2) st w2 (by omega) hst (by rw [List.length_append,htk,htn]) (by rw [List.length_append,htk];omega) (fun y hy=>?_) (fun y hy=>hM y ?_) (h3.sublist (.cons_cons _ (.cons _ (.refl _))))
    ·exact_mod_cast this
    ·rcases List.mem_append.1 hy with h|h
     ·have:=hok y (List.mem_of_mem_take h)
      exact ⟨this.v,this.s0,this.s1,this.g0,this.g1,by have:=this.nl;omega⟩
     ·have hy2:Stp C y.1 w:=by unfold Stp;rw [← hm];exact List.mem_map.2 ⟨y,h,rfl⟩
      obtain ⟨k1,k2,k3,k4,g,k5,k6,k7⟩:=hnx y.1 hy2
      refine ⟨k1,?_,?_,?_,?_,by omega⟩
      ·rw [k3];unfold sumT;split <;> omega
      ·rw [k3];unfold sumT;split <;> omega
      ·rw [k7];unfold sumT;split <;> omega
      ·rw [k7];unfold sumT;split <;> omega
    ·rw [htl,List.map_append,List.reverse_append]
     simp only [List.map_cons,List.map_nil,List.reverse_cons,List.reverse_nil,List.nil_append,List.singleton_append]
     rw [metT,← hx',← hm]
     rw [List.map_append,List.reverse_append] at hy
     exact hy
   refine ifE (fun h0=>?_) fun h0=>?_
   ·have hnil:(zca C w).1=[]:=List.length_eq_zero_iff.1 (by omega)
    repeat' first|(with_reducible first|refine kk_ ?_|refine nx hh ?_|refine allW fun w' hh=>?_|exact sd_|refine And.intro ?_ ?_|exact vr)|fail
    refine step (x.put (zca C w).2.1) _ (by rw [if_pos hnil]) (hh.sublist (.cons _ (.cons_cons _ (.cons_cons _ (.cons _ (.refl _))))))
   ·have hnil:¬ (zca C w).1=[]:=fun h=>h0 (by rw [h] at hlm;simp only [List.length_nil] at hlm;omega)
    exact step x _ (by rw [if_neg hnil]) (hh.sublist (.cons _ (.cons_cons _ (.cons_cons _ (.cons _ (.refl _))))))
  ·have h0:tl=[]:=List.length_eq_zero_iff.1 (by omega)
   subst h0
   have hw0:wn=0:=hwn
   subst hw0
   exact fin x wp wc st wd hst (hM x (by rw [List.map_nil,List.reverse_nil,metT])) hh
theorem boundMet {w:World} {p:Option Addr} {n c:Nat} {l:List UInt8} (hs:Sees w 1 p n c (u8s l)) (kk:∀ w',Bl w w'→K (.bool true) w') :
  zaj Tryz.prog 7 #[.slice p n c,.int .i64 kind] w K:=by
 refine call7 _ _ _ _ _ _ ?_
 unfold F7
 refine law_start hs (Hp.start w) kk fun C cb gh bh hd w1 hl hC hh=>?_
 have hV:=valid_ok hC
 have hv:=vc_of hC
 unfold J7_0
 repeat' first|(with_reducible first|refine kk_ ?_|refine nx hh ?_|refine allW fun w' hh=>?_|exact sd_|refine And.intro ?_ ?_|exact vr)|fail
 refine ⟨4001+1,?_⟩
 have h1:=rowOne (z:=6) (cs:=wkV wk0 (.slice none 0 0)) hh rfl (by decide)
 have h2:=h1.know (x:=noteF [(wk0,(⟨none,0,0⟩:Hd))]) (noteF_on fun y hy=>by rw [List.mem_singleton] at hy;subst hy;exact Sees.nil _ 2) (fun k hk=>hk) fun y hy k hk ⟨z,hz,h0,a,ha,_⟩=>by
  rw [List.mem_singleton] at hz;subst hz;cases ha
 have hM:∀ y,metT C 4001 [wk0] ⟨0,0,0⟩=some y→_:=fun y hy=>met_all hv hy
 have:=l7_2 (K:=K) (w0:=w) (x7:=w1.heap.size) (gh:=gh) (bh:=bh) (hd:=hd) (kind:=kind) hV hv kk 4001 0 ⟨0,0,0⟩ (some ⟨_,0,none⟩) 1 1 [(wk0,(⟨none,0,0⟩:Hd))] (List.replicate C.codes.length none) _ rfl (by simp) rfl (by simp) (fun y hy=>by
  rw [List.mem_singleton] at hy;subst hy
  exact ⟨wk0_V hv,by decide,by decide,by decide,by decide,by decide⟩) (fun y hy=>met_all hv hy) (h2.front (x:=.row 6 _ 1 1 62 (wkV wk0 (.slice none 0 0))) (by repeat (first|exact Pick.here|apply Pick.there)))
 exact_mod_cast this
theorem boundMet_walk (p:Option Addr) (n c:Nat) (l:List UInt8) (kind:Int) (W:World) (hs:Sees W 1 p n c (u8s l)) (_:(Lit.int .i64 kind).wf=true) :
  Calls Tryz.prog 7 #[.slice p n c,.int .i64 kind] W fun e W'=>e = .returned (.bool true)∧Below W.heap.size W W' :=
 Calls.mono (boundMet (K:=fun v w'=>v = .bool true∧Bl W w') hs fun w' b=>⟨rfl,b⟩) fun e w' ⟨v,he,hv,hb⟩=>⟨by rw [he,hv],hb⟩
end
end Go.Proofs.YtlfhngoeecjfpaaGreatDoor.B
namespace Go.Proofs.YtlfhngoeecjfpaaGreatDoor.Sh
open Go Go.RowKit Go.ChangeShapes
theorem list_of {α:Type} {Q:Nat→α→Prop}:∀ n:Nat,(∀ i,i < n→∃ x,Q i x)→∃ xs:List α,xs.length=n∧∀ (i:Nat) x,xs[i]? = some x→Q i x
 | 0,h=>⟨[],rfl,fun i x hx=>by simp at hx⟩
 | n+1,h=>by
  obtain ⟨xs,h1,h2⟩:=list_of n fun i hi=>h i (by omega)
  obtain ⟨y,hy⟩:=h n (by omega)
  refine ⟨xs++[y],by simp [h1],fun i x hx=>?_⟩
  by_cases hi:i < n
  ·rw [List.getElem?_append_left (by omega)] at hx
   exact h2 i x hx
  ·by_cases he:i=n
   ·subst he
    rw [List.getElem?_append_right (by omega),h1,Nat.sub_self] at hx
    cases hx
    exact hy
   ·rw [List.getElem?_eq_none (by simp [h1];omega)] at hx
    cases hx
section
variable {H:Type} {enc:TypeId × Value→H} {P:Program} {w:World} {base b0:Nat} {sp:Nat→Bool} {held:Bool}
theorem open_see {k:IntKind} {s e:TypeId} {r:Reach} {v:Value} {d:DataW H} {ps:List MemPlace} (hs:P.underlying s=some (.slice e)) (he:P.underlying e=some (.int k)) (hc:P.cellsOf e=1)
  (hval:Value.okWide P w r b0 s v) (h:DataW.Trod enc P w base sp held s v d ps) :
  ∃ p l c,∃ xs:List Int,v = .slice p l c∧(∀ n∈xs,(Lit.int k n).wf=true)∧Sees w 1 p l c (xs.map fun n=>.int k n):=by
 obtain ⟨p,l,c,rfl⟩:=WideShapes.okWide_slice hs hval
 obtain ⟨fuel,hf⟩:=h
 rcases DataW.trod_slice hs hf with ⟨h0,_⟩|⟨a,len,cap,elems,rest,n,_,h0,_,_,hl,hm,hlen,hel,_⟩
 ·simp [Value.cells] at h0
  obtain ⟨rfl,rfl,rfl⟩:=h0
  exact ⟨_,_,_,[],rfl,fun n hn=>(by cases hn),Sees.nil w 1⟩
 ·simp [Value.cells] at h0
  obtain ⟨rfl,rfl,rfl⟩:=h0
  obtain ⟨xs,x1,x2⟩:=list_of (Q:=fun i m=>(Lit.int k m).wf=true∧w.cell? (a.add i)=some (.int k m)) l fun i hi=>by
   have h1:=hel i hi
   rw [hc] at h1
   obtain ⟨y,hy⟩:∃ y,elems[i]? = some y:=⟨_,List.getElem?_eq_getElem (by omega)⟩
   rw [hy,Option.bind_eq_some_iff] at h1
   obtain ⟨cs,hcs,hy'⟩:=h1
   obtain ⟨m,rfl,_,wm⟩:=DataW.trod_int he hy'
   have hg:=(World.cells?_some hcs).2.2 0 (by decide)
   rw [add_zero,Nat.mul_one] at hg
   exact ⟨m,wm,hg⟩
  refine ⟨_,_,_,xs,rfl,fun n hn=>?_,⟨by rw [List.length_map,x1,Nat.mul_one],by omega,fun j u hu=>?_⟩⟩
  ·obtain ⟨i,hi,rfl⟩:=List.getElem_of_mem hn
   exact (x2 i _ (List.getElem?_eq_getElem hi)).1
  ·rw [List.getElem?_map,Option.map_eq_some_iff] at hu
   obtain ⟨m,hm',rfl⟩:=hu
   exact ⟨a,rfl,(x2 j m hm').2⟩
theorem u8_of {xs:List Int} (h:∀ n∈xs,(Lit.int .u8 n).wf=true):(xs.map fun n=>Value.int .u8 n)=u8s (xs.map fun n=>UInt8.ofNat n.toNat):=by
 unfold u8s
 rw [List.map_map]
 refine List.map_congr_left fun n hn=>?_
 have:=h n hn
 simp [Lit.wf,IntKind.min,IntKind.max,IntKind.signed,IntKind.bits] at this
 simp only [Function.comp]
 congr 1
 rw [UInt8.toNat_ofNat']
 omega
end
end Go.Proofs.YtlfhngoeecjfpaaGreatDoor.Sh
