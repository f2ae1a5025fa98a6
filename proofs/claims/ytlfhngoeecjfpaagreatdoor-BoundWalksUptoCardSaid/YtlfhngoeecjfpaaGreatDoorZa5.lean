/- What the claim of LBoundWalks asks: part 5 of its lemmas. No condition. Joined by bundle.py, a program of ours, out of texts of ours. -/
import Derived.Test.YtlfhngoeecjfpaaGreatDoorZa4
set_option linter.unusedVariables false
set_option linter.unusedSimpArgs false
set_option maxRecDepth 100000
set_option maxHeartbeats 4000000
namespace Go.Proofs.YtlfhngoeecjfpaaGreatDoor.B
open Go Go.RowKit Go.Proofs.YtlfhngoeecjfpaaGreatDoor.Sh Go.Proofs.YtlfhngoeecjfpaaGreatDoor.W
theorem rowOfOwn {w:World} {b:Nat} {cs:List Value} {e:TypeId} (h:Own w b cs.toArray e) (hl:cs.length≤1000000000):RowZ w 1 (.slice (some ⟨b,0,none⟩) cs.length cs.length) e cs.length cs:=by
 refine ⟨by omega,.inr ⟨b,cs.length,cs.toArray,rfl,Nat.zero_le _,h,?_,?_,?_,?_⟩⟩
 ·exact Nat.le_refl _
 ·exact Nat.le_trans hl (by decide)
 ·simp
 ·simp
theorem Hp.rowOwn {Z:Nat→Prop} {w0 w:World} {L:List Ent} {b:Nat} {cs:List Value} {e:TypeId} (h:Hp Z w0 w (.own b cs.toArray e::L)) (hl:cs.length≤1000000000):Hp Z w0 w (.row 1 (some ⟨b,0,none⟩) cs.length cs.length e cs::L):=by
 have hr:=rowOfOwn (h.own List.mem_cons_self) hl
 have key:∀ k,(Ent.row 1 (some ⟨b,0,none⟩) cs.length cs.length e cs).foot k→k=b:=fun k hk=>by
  have hk:Blk (.slice (some ⟨b,0,none⟩) cs.length cs.length) k:=hk
  unfold Blk at hk
  simpa [Value.ownBlock,eq_comm] using hk
 refine h.turn .here (Ext.refl w) hr fun k hk=>.inl (key k hk)
def b8 (n:Int):UInt8:=UInt8.ofNat (n % 256).toNat
theorem u8w (n:Int):IntKind.wrap .u8 n=((b8 n).toNat:Int):=by
 have h:IntKind.wrap .u8 n=n % 256:=by simp [IntKind.wrap,IntKind.signed,IntKind.bits]
 rw [h]
 unfold b8
 have h1:=Int.emod_nonneg n (by decide:(256:Int)≠0)
 have h2:=Int.emod_lt_of_pos n (by decide:(0:Int) < 256)
 rw [UInt8.toNat_ofNat']
 omega
abbrev Part:=Ty × List UInt8
def sizesB:List Part→List UInt8
 | []=>[]
 | p::r=>b8 ((p.2.length:Int) / 256)::b8 (p.2.length:Int)::sizesB r
def typesB:List Part→List UInt8
 | []=>[]
 | p::r=>b8 p.1.inn::b8 p.1.out::b8 (p.1.most.fdiv 256)::b8 p.1.most::typesB r
def madeT (l:List Part):List UInt8 :=
 [0xEF,0,1,1,b8 ((4 * l.length:Int) / 256),b8 (4 * l.length),2,b8 ((l.length:Int) / 256),b8 l.length]++sizesB l++[0xFF,0,0,0]++typesB l++l.flatMap (·.2)
def partCells (l:List (Part × Hd)):List Value:=l.flatMap fun p=>[.int .i64 p.1.1.inn,.int .i64 p.1.1.out,.int .i64 p.1.1.most,p.2.v]
structure PartL (w:World) (h:Hd) (pl:List (Part × Hd)):Prop where
 sees:Sees w 4 h.p h.n h.c (partCells pl)
 each:∀ x∈pl,Sees w 1 x.2.p x.2.n x.2.c (u8s x.1.2)
theorem PartL.bl {w w':World} {h:Hd} {pl:List (Part × Hd)} (a:PartL w h pl) (k:Bl w w'):PartL w' h pl:=⟨a.sees.bl k,fun x hx=>(a.each x hx).bl k⟩
theorem partCells_get {pl:List (Part × Hd)} {k j:Nat} {x:Part × Hd} (h:pl[k]? = some x) (hj:j < 4):(partCells pl)[k * 4+j]? = [Value.int .i64 x.1.1.inn,.int .i64 x.1.1.out,.int .i64 x.1.1.most,x.2.v][j]?:=by
 induction pl generalizing k with
 | nil=>simp at h
 | cons y r ih =>
  show ([Value.int .i64 y.1.1.inn,.int .i64 y.1.1.out,.int .i64 y.1.1.most,y.2.v]++partCells r)[k * 4+j]? = _
  cases k with
  | zero =>
   simp only [List.getElem?_cons_zero,Option.some.injEq] at h;subst h
   rw [Nat.zero_mul,Nat.zero_add,List.getElem?_append_left (by simpa using hj)]
  | succ k =>
   simp only [List.getElem?_cons_succ] at h
   rw [List.getElem?_append_right (by simp;omega),← ih h]
   congr 1;simp;omega
theorem partCells_len (pl:List (Part × Hd)):(partCells pl).length=pl.length * 4:=by
 induction pl with
 | nil=>rfl
 | cons y r ih=>show ([Value.int .i64 y.1.1.inn,.int .i64 y.1.1.out,.int .i64 y.1.1.most,y.2.v]++partCells r).length=_;rw [List.length_append,ih];simp;omega
theorem PartL.n {w:World} {h:Hd} {pl:List (Part × Hd)} (a:PartL w h pl):h.n=pl.length:=by have:=a.sees.len;rw [partCells_len] at this;omega
theorem rdPart {P:Program} {w:World} {t e:Nat} {h:Hd} {k:IntKind} {i:Nat} {pl:List (Part × Hd)} {F:Value→World→Prop} (hs:PartL w h pl) (ht:P.underlying t=some (.slice e)) (hz:(P.info? e).map (·.size)=some 4) (h1:i < h.n)
  (kk:∀ x ad,pl[i]? = some x→w.cell? ad=some (.int .i64 x.1.1.inn)→w.cell? (ad.add 1)=some (.int .i64 x.1.1.out)→w.cell? (ad.add 2)=some (.int .i64 x.1.1.most)→w.cell? (ad.add 3)=some x.2.v→Sees w 1 x.2.p x.2.n x.2.c (u8s x.1.2)→F (.pointer (some ad)) w):semK P (Instr.indexAt t (.slice h.p h.n h.c) (.int k (i:Int))) w F:=by
 have hn:=hs.n
 have hx:pl[i]? = some (pl[i]'(by omega)):=List.getElem?_eq_getElem (by omega)
 refine ixSee hs.sees (by decide) ht hz (by omega) (by omega) fun ad had=>?_
 rw [Int.toNat_natCast] at had
 have h:=fun j (hj:j < 4) u hu=>had j u hj (by rw [partCells_get hx hj];exact hu)
 have h00:=h 0 (by decide) _ rfl
 rw [add_zero] at h00
 exact kk _ ad hx h00 (h 1 (by decide) _ rfl) (h 2 (by decide) _ rfl) (h 3 (by decide) _ rfl) (hs.each _ (List.mem_of_getElem? hx))
section
variable {w0:World} {K:Value→World→Prop} {h:Hd} {pl:List (Part × Hd)} {R:List Ent}
theorem l17_4 (hp:PartL w0 h pl) (hb:∀ x∈pl,x.1.2.length≤65535) (hn:h.n≤1024) {out:List UInt8}
  (kk:∀ q m cap w',m=out.length→Hp zao w0 w' (.row 1 q m cap 5 (u8s out)::R)→K (.slice q m cap) w') :
  ∀ (f j:Nat) (q:Option Addr) (m cap:Nat) (acc:List UInt8) (w:World),j+f=h.n→m=acc.length→acc.length≤1000000+65536 * j→acc++(pl.drop j).flatMap (·.1.2)=out→Hp zao w0 w (.row 1 q m cap 5 (u8s acc)::R) →
   L17_4 K (f+1) h.p h.n h.c (h.n:Int) q m cap (j:Int) w:=by
 have hpn:=hp.n
 intro f
 induction f with
 | zero =>
  intro j q m cap acc w hj hm ha he hh
  unfold L17_4
  refine ifD (fun h=>by omega) fun _=>?_
  rw [List.drop_of_length_le (by omega)] at he
  simp only [List.flatMap_nil,List.append_nil] at he
  subst he
  exact kk q m cap w hm hh
 | succ f ih =>
  intro j q m cap acc w hj hm ha he hh
  unfold L17_4
  refine ifD (fun _=>?_) fun h=>by omega
  refine rdPart (hp.bl hh.done) (by with_unfolding_all rfl) (by with_unfolding_all rfl) (by omega) fun x ad hx c0 c1 c2 c3 hs=>?_
  have hd:pl.drop j=x::pl.drop (j+1):=by
   have hlt:j < pl.length:=by omega
   rw [List.getElem?_eq_getElem hlt] at hx
   cases hx
   exact List.drop_eq_getElem_cons hlt
  have hxb:=hb x (List.mem_of_getElem? hx)
  have hsn:=hs.bytes
  refine kA (ld c3 (kL ?_))
  have hr:=hh.row (z:=1) (p:=q) (n:=m) (c:=cap) (e:=5) (xs:=u8s acc) List.mem_cons_self
  refine appS (P:=Tryz.prog) (t:=22) (e:=5) hr hs (by decide) (by with_unfolding_all rfl) (by with_unfolding_all rfl) (by with_unfolding_all rfl) (u8s_one _) (by omega) (by decide) fun q2 cap2 w2 hr2 he2 hq=>?_
  have hh2:=hh.turn (y:=.row 1 q2 (m+x.2.n) cap2 5 (u8s acc++u8s x.1.2)) .here he2 hr2 fun i hi=>(hq i hi).imp id fun h=>Nat.le_of_eq h.symm
  have e1:u8s acc++u8s x.1.2=u8s (acc++x.1.2):=by simp [u8s]
  rw [e1] at hh2
  refine kL ?_
  rw [i64w (n:=(j:Int)+1) (by omega) (by omega)]
  exact_mod_cast ih (j+1) q2 (m+x.2.n) cap2 (acc++x.1.2) w2 (by omega) (by rw [List.length_append];omega) (by rw [List.length_append];omega) (by rw [← he,hd];simp) hh2
theorem l17_3 (hp:PartL w0 h pl) (hb:∀ x∈pl,x.1.2.length≤65535) (hn:h.n≤1024) {out:List UInt8}
  (kk:∀ q m cap w',m=out.length→Hp zao w0 w' (.row 1 q m cap 5 (u8s out)::R)→K (.slice q m cap) w') :
  ∀ (f j:Nat) (q:Option Addr) (m cap:Nat) (acc:List UInt8) (w:World),j+f=h.n→m=acc.length→acc.length≤10000+4 * j→acc++typesB ((pl.drop j).map (·.1))++pl.flatMap (·.1.2)=out→Hp zao w0 w (.row 1 q m cap 5 (u8s acc)::R) →
   L17_3 K (f+1) h.p h.n h.c (h.n:Int) q m cap (j:Int) w:=by
 have hpn:=hp.n
 intro f
 induction f with
 | zero =>
  intro j q m cap acc w hj hm ha he hh
  unfold L17_3
  refine ifD (fun h=>by omega) fun _=>?_
  unfold J17_2
  rw [List.drop_of_length_le (by omega)] at he
  simp only [List.map_nil,typesB,List.append_nil] at he
  refine ⟨h.n+1,?_⟩
  have:=l17_4 (K:=K) hp hb hn kk h.n 0 q m cap acc w (by omega) hm (by omega) (by rw [List.drop_zero];exact he) hh
  exact_mod_cast this
 | succ f ih =>
  intro j q m cap acc w hj hm ha he hh
  unfold L17_3
  refine ifD (fun _=>?_) fun h=>by omega
  with_reducible refine drewH hh fun w1 hh _=>?_
  refine rdPart (hp.bl hh.done) (by with_unfolding_all rfl) (by with_unfolding_all rfl) (by omega) fun x ad hx c0 c1 c2 c3 hs=>?_
  have hd:pl.drop j=x::pl.drop (j+1):=by
   have hlt:j < pl.length:=by omega
   rw [List.getElem?_eq_getElem hlt] at hx
   cases hx
   exact List.drop_eq_getElem_cons hlt
  refine kA (ld c0 (kI ?_))
  refine rdPart (hp.bl hh.done) (by with_unfolding_all rfl) (by with_unfolding_all rfl) (by omega) fun x1 ad1 hx1 _ d1 _ _ _=>?_
  rw [hx] at hx1;cases hx1
  refine kA (ld d1 (kI ?_))
  refine rdPart (hp.bl hh.done) (by with_unfolding_all rfl) (by with_unfolding_all rfl) (by omega) fun x1 ad2 hx1 _ _ d2 _ _=>?_
  rw [hx] at hx1;cases hx1
  refine kA (ld d2 (kI ?_))
  refine rdPart (hp.bl hh.done) (by with_unfolding_all rfl) (by with_unfolding_all rfl) (by omega) fun x1 ad3 hx1 _ _ d3 _ _=>?_
  rw [hx] at hx1;cases hx1
  refine kA (ld d3 (kI ?_))
  rw [u8w,u8w,u8w,u8w]
  repeat' first|(with_reducible first|refine kk_ ?_|refine nx hh ?_|refine allW fun w' hh=>?_|exact sd_)|((with_reducible refine appH hh (by with_unfolding_all rfl) (by with_unfolding_all rfl) (by with_unfolding_all rfl) (by with_unfolding_all rfl) (by with_unfolding_all rfl) (by with_unfolding_all rfl) (by with_unfolding_all rfl) (by omega) (by with_unfolding_all rfl) fun g9 cap9 w4 hh=>?_);(replace hh:=hh.tail))|(with_reducible first|refine And.intro ?_ ?_|exact vr)|fail
  have e1:u8s acc++#[Value.int .u8 ((b8 x.1.1.inn).toNat:Int),.int .u8 ((b8 x.1.1.out).toNat:Int),.int .u8 ((b8 (Int.fdiv x.1.1.most (2 ^ (min (8:Int).toNat 64)))).toNat:Int),.int .u8 ((b8 x.1.1.most).toNat:Int)].toList=u8s (acc++[b8 x.1.1.inn,b8 x.1.1.out,b8 (x.1.1.most.fdiv 256),b8 x.1.1.most]):=by
   first|rw [show (2:Int) ^ (min (8:Int).toNat 64)=256 from rfl]|(dsimp only;rw [show (2:Int) ^ (min (8:Int).toNat 64)=256 from rfl])
   simp [u8s]
  rw [e1] at hh
  have hh2:=hh
  first|rw [i64w (n:=(j:Int)+1) (by omega) (by omega)]|(dsimp only;rw [i64w (n:=(j:Int)+1) (by omega) (by omega)])
  exact_mod_cast ih (j+1) (some ⟨g9,0,none⟩) (m+4) cap9 _ _ (by omega) (by rw [List.length_append];simp;omega) (by rw [List.length_append];simp;omega) (by rw [← he,hd];simp [typesB]) hh2
end
section
variable {w0:World} {K:Value→World→Prop} {h:Hd} {pl:List (Part × Hd)} {R:List Ent}
theorem l17_1 (hp:PartL w0 h pl) (hb:∀ x∈pl,x.1.2.length≤65535) (hn:h.n≤1024) {out:List UInt8}
  (kk:∀ q m cap w',m=out.length→Hp zao w0 w' (.row 1 q m cap 5 (u8s out)::R)→K (.slice q m cap) w') :
  ∀ (f j:Nat) (q:Option Addr) (m cap:Nat) (acc:List UInt8) (w:World),j+f=h.n→m=acc.length→acc.length≤9+2 * j→acc++sizesB ((pl.drop j).map (·.1))++[0xFF,0,0,0]++typesB (pl.map (·.1))++pl.flatMap (·.1.2)=out→Hp zao w0 w (.row 1 q m cap 5 (u8s acc)::R) →
   L17_1 K (f+1) h.p h.n h.c (h.n:Int) q m cap (j:Int) w:=by
 have hpn:=hp.n
 intro f
 induction f with
 | zero =>
  intro j q m cap acc w hj hm ha he hh
  unfold L17_1
  refine ifD (fun h=>by omega) fun _=>?_
  unfold J17_0
  rw [List.drop_of_length_le (by omega)] at he
  simp only [List.map_nil,sizesB,List.append_nil] at he
  repeat' first|(with_reducible first|refine kk_ ?_|refine nx hh ?_|refine allW fun w' hh=>?_|exact sd_)|((with_reducible refine appH hh (by with_unfolding_all rfl) (by with_unfolding_all rfl) (by with_unfolding_all rfl) (by with_unfolding_all rfl) (by with_unfolding_all rfl) (by with_unfolding_all rfl) (by with_unfolding_all rfl) (by omega) (by with_unfolding_all rfl) fun g9 cap9 w4 hh=>?_);(replace hh:=hh.tail))|(with_reducible first|refine And.intro ?_ ?_|exact vr)|fail
  have e1:u8s acc++#[Value.int .u8 255,.int .u8 0,.int .u8 0,.int .u8 0].toList=u8s (acc++[0xFF,0,0,0]):=by simp [u8s]
  rw [e1] at hh
  have hh2:=hh
  refine ⟨h.n+1,?_⟩
  have:=l17_3 (K:=K) hp hb hn kk h.n 0 _ (m+4) _ _ _ (by omega) (by rw [List.length_append];simp;omega) (by rw [List.length_append];simp;omega) (by rw [List.drop_zero];exact he) hh2
  exact_mod_cast this
 | succ f ih =>
  intro j q m cap acc w hj hm ha he hh
  unfold L17_1
  refine ifD (fun _=>?_) fun h=>by omega
  with_reducible refine drewH hh fun w1 hh _=>?_
  refine rdPart (hp.bl hh.done) (by with_unfolding_all rfl) (by with_unfolding_all rfl) (by omega) fun x ad hx c0 c1 c2 c3 hs=>?_
  have hd:pl.drop j=x::pl.drop (j+1):=by
   have hlt:j < pl.length:=by omega
   rw [List.getElem?_eq_getElem hlt] at hx
   cases hx
   exact List.drop_eq_getElem_cons hlt
  refine kA (ld c3 (kL ?_))
  refine rdPart (hp.bl hh.done) (by with_unfolding_all rfl) (by with_unfolding_all rfl) (by omega) fun x1 ad1 hx1 _ _ _ d3 _=>?_
  rw [hx] at hx1;cases hx1
  refine kA (ld d3 (kL ?_))
  have hsn:=hs.bytes
  rw [u8w,u8w]
  repeat' first|(with_reducible first|refine kk_ ?_|refine nx hh ?_|refine allW fun w' hh=>?_|exact sd_)|((with_reducible refine appH hh (by with_unfolding_all rfl) (by with_unfolding_all rfl) (by with_unfolding_all rfl) (by with_unfolding_all rfl) (by with_unfolding_all rfl) (by with_unfolding_all rfl) (by with_unfolding_all rfl) (by omega) (by with_unfolding_all rfl) fun g9 cap9 w4 hh=>?_);(replace hh:=hh.tail))|(with_reducible first|refine And.intro ?_ ?_|exact vr)|fail
  have e1:u8s acc++#[Value.int .u8 ((b8 (Int.fdiv ((x.2.n:Nat):Int) (2 ^ (min (8:Int).toNat 64)))).toNat:Int),.int .u8 ((b8 ((x.2.n:Nat):Int)).toNat:Int)].toList=u8s (acc++[b8 ((x.1.2.length:Int) / 256),b8 (x.1.2.length:Int)]):=by
   first|rw [show (2:Int) ^ (min (8:Int).toNat 64)=256 from rfl,Int.fdiv_eq_ediv_of_nonneg _ (by decide),hsn]|(dsimp only;rw [show (2:Int) ^ (min (8:Int).toNat 64)=256 from rfl,Int.fdiv_eq_ediv_of_nonneg _ (by decide),hsn])
   simp [u8s]
  rw [e1] at hh
  have hh2:=hh
  first|rw [i64w (n:=(j:Int)+1) (by omega) (by omega)]|(dsimp only;rw [i64w (n:=(j:Int)+1) (by omega) (by omega)])
  exact_mod_cast ih (j+1) (some ⟨g9,0,none⟩) (m+2) cap9 _ _ (by omega) (by rw [List.length_append];simp;omega) (by rw [List.length_append];simp;omega) (by rw [← he,hd];simp [sizesB]) hh2
theorem f17 {w:World} (hp:PartL w h pl) (hb:∀ x∈pl,x.1.2.length≤65535) (hn:h.n≤1024)
  (kk:∀ q m cap w',m=(madeT (pl.map (·.1))).length→Hp zao w w' [.row 1 q m cap 5 (u8s (madeT (pl.map (·.1))))]→K (.slice q m cap) w') :
  zaj Tryz.prog 17 #[h.v] w K:=by
 refine call17 _ _ _ _ _ ?_
 unfold F17
 have hpn:=hp.n
 have hh:=Hp.start w
 with_reducible refine zbu hh fun w1 hh _=>?_
 rw [i64w (n:=4 * ((h.n:Nat):Int)) (by omega) (by omega),u8w,u8w,u8w,u8w,show (2:Int) ^ (min (8:Int).toNat 64)=256 from rfl,Int.fdiv_eq_ediv_of_nonneg _ (by decide),Int.fdiv_eq_ediv_of_nonneg _ (by decide)] at hh
 have e1:#[Value.int .u8 239,.int .u8 0,.int .u8 1,.int .u8 1,.int .u8 ((b8 (4 * ((h.n:Nat):Int) / 256)).toNat:Int),.int .u8 ((b8 (4 * ((h.n:Nat):Int))).toNat:Int),.int .u8 2,.int .u8 ((b8 (((h.n:Nat):Int) / 256)).toNat:Int),.int .u8 ((b8 ((h.n:Nat):Int)).toNat:Int)] =
   (u8s [0xEF,0,1,1,b8 (4 * ((h.n:Nat):Int) / 256),b8 (4 * ((h.n:Nat):Int)),2,b8 (((h.n:Nat):Int) / 256),b8 ((h.n:Nat):Int)]).toArray:=by simp [u8s]
 rw [e1] at hh
 have hh2:=Hp.rowOwn hh (by simp [u8s])
 refine ⟨h.n+1,?_⟩
 have:=l17_1 (K:=K) (R:=[]) hp hb hn kk h.n 0 _ 9 9 _ w1 (by omega) rfl (by simp) (by rw [List.drop_zero,hpn,madeT,List.length_map,List.flatMap_map]) hh2
 exact_mod_cast this
end
def able1L:List UInt8:=madeT [(⟨0,128,2⟩,[0x5F,0x5F,0x01,0x50,0x00])]
def able2L:List UInt8:=madeT [(⟨0,128,0⟩,[0xE0,0xFF,0xFD])]
section
variable {w0:World} {K:Value→World→Prop}
theorem made1 {Z:Nat→Prop} {w0 w:World} {L:List Ent} {K:Value→World→Prop} {b1 b2:Nat} {t:Ty} {l:List UInt8} (hh:Hp Z w0 w L) (h1:Ent.own b1 (u8s l).toArray 5∈L) (h2:Ent.own b2 #[.int .i64 t.inn,.int .i64 t.out,.int .i64 t.most,.slice (some ⟨b1,0,none⟩) l.length l.length] 54∈L) (hl:l.length≤65535)
  (kk:∀ q cap w',Hp Z w0 w' (.row 1 q (madeT [(t,l)]).length cap 5 (u8s (madeT [(t,l)]))::L)→K (.slice q (madeT [(t,l)]).length cap) w') :
  zaj Tryz.prog 17 #[.slice (some ⟨b2,0,none⟩) 1 1] w K:=by
 have s1:Sees w 1 (some ⟨b1,0,none⟩) l.length l.length (u8s l):=Own.sees (hh.own h1) (u8s_len l)
 have s2:Sees w 4 (some ⟨b2,0,none⟩) 1 1 (partCells [((t,l),⟨some ⟨b1,0,none⟩,l.length,l.length⟩)]):=by
  have ho:=hh.own h2
  refine ⟨rfl,Nat.le_refl _,fun j u hu=>⟨_,rfl,?_⟩⟩
  rw [addG,ho.cell]
  simpa [partCells] using hu
 refine f17 (h:=⟨some ⟨b2,0,none⟩,1,1⟩) (pl:=[((t,l),⟨some ⟨b1,0,none⟩,l.length,l.length⟩)]) ⟨s2,fun x hx=>by simp only [List.mem_singleton] at hx;subst hx;exact s1⟩ (fun x hx=>by simp only [List.mem_singleton] at hx;subst hx;exact hl) (show (1:Nat)≤1024 by decide) fun q m cap w' hm h'=>?_
 simp only [List.map_cons,List.map_nil] at hm h'
 subst hm
 refine kk q cap w' (hh.take h' fun x hx k hk=>?_)
 simp only [List.mem_singleton] at hx
 subst hx
 exact Or.resolve_left (h'.may _ List.mem_cons_self k hk) fun h=>h
theorem f10 (h1:ofLT able1L 1=(⟨5,9,2,0⟩,true,true)) (h2:ofLT able2L 1=(⟨0,0,0,0⟩,false,true)) {Z:Nat→Prop} {w:World} {L:List Ent} (hh:Hp Z w0 w L) (kk:∀ w',Hp Z w0 w' L→K (.bool true) w'):zaj Tryz.prog 10 #[] w K:=by
 refine call10 _ _ ?_
 unfold F10
 with_reducible refine zbu hh fun w1 hh _=>?_
 with_reducible refine zbu hh fun w2 hh _=>?_
 generalize w.heap.size=b1 at hh ⊢
 generalize w1.heap.size=b2 at hh ⊢
 refine made1 (b1:=b1) (b2:=b2) (t:=⟨0,128,2⟩) (l:=[0x5F,0x5F,0x01,0x50,0x00]) hh (by simp [u8s]) (by simp) (by decide) fun q cap w3 hh=>?_
 refine kL ?_
 have hs:=(hh.row (z:=1) (p:=q) (n:=able1L.length) (c:=cap) (e:=5) (xs:=u8s able1L) List.mem_cons_self).sees
 refine f16 (l:=able1L) (fun C=>valid_ok) hh hs (by decide) fun w4 hh=>?_
 rw [h1]
 repeat' first|(with_reducible first|refine kk_ ?_|refine nx hh ?_|refine allW fun w' hh=>?_|exact sd_|refine And.intro ?_ ?_|exact vr)|fail
 refine made1 (t:=⟨0,128,0⟩) (l:=[0xE0,0xFF,0xFD]) hh (by repeat (first|exact List.mem_cons_self|apply List.mem_cons_of_mem)) (by repeat (first|exact List.mem_cons_self|apply List.mem_cons_of_mem)) (by decide) fun q2 cap2 w5 hh=>?_
 refine kL ?_
 have hs:=(hh.row (z:=1) (p:=q2) (n:=able2L.length) (c:=cap2) (e:=5) (xs:=u8s able2L) List.mem_cons_self).sees
 refine f16 (l:=able2L) (fun C=>valid_ok) hh hs (by decide) fun w6 hh=>?_
 first|rw [h2]|(dsimp only;rw [h2])
 repeat' first|(with_reducible first|refine kk_ ?_|refine nx hh ?_|refine allW fun w' hh=>?_|exact sd_|refine And.intro ?_ ?_|exact vr)|fail
 refine ifBt (ifBt ?_)
 repeat' first|(with_reducible first|refine kk_ ?_|refine nx hh ?_|refine allW fun w' hh=>?_|exact sd_|refine And.intro ?_ ?_|exact vr)|fail
 refine ifBt (zcd (ifBt ?_))
 repeat' first|(with_reducible first|refine kk_ ?_|refine nx hh ?_|refine allW fun w' hh=>?_|exact sd_|refine And.intro ?_ ?_|exact vr)|fail
 exact kk _ (hh.sublist (by repeat (first|exact List.Sublist.refl _|apply List.Sublist.cons)))
end
def able1C:Cont:=⟨[⟨0,128,2⟩],[[0x5F,0x5F,0x01,0x50,0x00]],[],[],0⟩
def able2C:Cont:=⟨[⟨0,128,0⟩],[[0xE0,0xFF,0xFD]],[],[],0⟩
theorem judge_one {C:Cont} {kind:Int} {f:Nat} (hk:¬ (kind≠1∧kind≠2)) (h1:zbr C=0) (h2:(zav C kind (List.range C.codes.length) (st00 C)).1=0) (h3:C.codes.length=1) (h4:C.subs=[]):zcs (f+1) C kind=0:=by
 rw [zcs,if_neg hk,if_neg (by rw [h1];decide),if_neg (by rw [h2];decide),if_neg]
 ·unfold nestedT
  rw [h4]
  rfl
 ·rintro ⟨k,hk,hn⟩
  have:k=0:=by omega
  subst this
  exact hn .zero
theorem valid_one {l:List UInt8} {kind:Int} {C:Cont} (hp:zaz l false = .ok C) (hk:¬ (kind≠1∧kind≠2)) (h1:zbr C=0) (h2:(zav C kind (List.range C.codes.length) (st00 C)).1=0) (h3:C.codes.length=1) (h4:C.subs=[]):validT l kind = .ok C:=by
 unfold validT
 rw [if_neg hk,hp]
 simp only
 rw [judge_one hk h1 h2 h3 h4,if_neg (by decide)]
theorem able1_ok:ofLT able1L 1=(⟨5,9,2,0⟩,true,true):=by
 unfold ofLT
 rw [valid_one (C:=able1C) (by kernel_rfl) (by decide) (by kernel_rfl) (by kernel_rfl) rfl rfl]
 kernel_rfl
theorem able2_ok:ofLT able2L 1=(⟨0,0,0,0⟩,false,true):=by
 unfold ofLT
 rw [valid_one (C:=able2C) (by kernel_rfl) (by decide) (by kernel_rfl) (by kernel_rfl) rfl rfl]
 kernel_rfl
section
variable {w0 w:World} {K:Value→World→Prop} {Z:Nat→Prop} {L:List Ent}
theorem f10' (hh:Hp Z w0 w L) (kk:∀ w',Hp Z w0 w' L→K (.bool true) w'):zaj Tryz.prog 10 #[] w K:=f10 able1_ok able2_ok hh kk
theorem law_start {p:Option Addr} {n c:Nat} {l:List UInt8} {kind:Int} {J:Option Addr→World→Prop} (hs:Sees w 1 p n c (u8s l)) (hh:Hp zao w w [])
  (kt:∀ w',Bl w w'→K (.bool true) w')
  (kv:∀ C cb gh bh hd w',l.length≤6000→validT l kind = .ok C→Hp zao w w' [codeO cb gh bh hd C kind,codeH gh (List.replicate C.codes.length none),codeR hd C (List.replicate C.codes.length none)]→J (some ⟨cb,0,none⟩) w') :
  zaj Tryz.prog 10 #[] w fun v1 w1=>asB v1 fun b1=>ifB (!b1) (K (.bool false) w1) (ifB (decide (((n:Nat):Int) > 6000)) (K (.bool true) w1) (zaj Tryz.prog 12 #[(.slice p n c)] w1 fun v2 w2=>asL v2 fun l1p l1l l1c=>zaj Tryz.prog 13 #[(.slice l1p l1l l1c),(.int .i64 kind)] w2 fun v3 w3=>asT v3 fun t1_0=>asHd t1_0 fun t1_0x t1_1=>asP t1_0x fun p1=>asHd t1_1 fun t1_1x t1_2=>asG t1_1x fun q1_0=>asHd q1_0 fun q1_0x q1_1=>asI .i64 q1_0x fun n1=>asHd q1_1 fun q1_1x q1_2=>asL q1_1x fun l2p l2l l2c=>asHd q1_2 fun q1_2x q1_3=>asI .i64 q1_2x fun n2=>asHd q1_3 fun q1_3x q1_4=>asI .i64 q1_3x fun n3=>zaq q1_4 (zaq t1_2 (zae w3 (.cells #[(.int .i64 0),(.slice none 0 0),(.int .i64 0),(.int .i64 0)] 31) fun w4=>semU Tryz.prog (Instr.storeAt 31 (.pointer (some ⟨w3.heap.size,0,none⟩)) (.agg #[(.int .i64 n1),(.slice l2p l2l l2c),(.int .i64 n2),(.int .i64 n3)])) w4 fun w5=>ldK Tryz.prog w5 ⟨w3.heap.size,0,none⟩ fun v4=>asI .i64 v4 fun n4=>ifB ((n4:Int) != 0) (K (.bool true) w5) (ifB (Option.isNone p1) (K (.bool true) w5) (J p1 w5)))))):=by
 refine f10' hh fun w1 hh=>?_
 refine kB ?_
 refine zcb ?_
 have hn:=hs.bytes
 refine ifD (fun _=>kt _ hh.done) fun h6=>?_
 refine f12 hh (hs.bl hh.done) (by omega) fun q cap w2 hh=>?_
 refine kL ?_
 refine f13 (hh.row (z:=1) (p:=q) (n:=n) (c:=cap) (e:=5) (xs:=u8s l) List.mem_cons_self).sees (by omega) (fun e he hne q2 m2 cap2 s a w3 hb3=>?_) (fun C hC cb gh bh hd w3 h3 hnew=>?_)
 ·replace hh:=hh.bl hb3
  repeat' first|(with_reducible first|refine kk_ ?_|refine nx hh ?_|refine allW fun w' hh=>?_|exact sd_|refine And.intro ?_ ?_|exact vr)|fail
  refine ifNe (fun _=>kt _ hh.done) fun h=>absurd h hne
 ·replace hh:=codeTake hh h3 hnew
  repeat' first|(with_reducible first|refine kk_ ?_|refine nx hh ?_|refine allW fun w' hh=>?_|exact sd_|refine And.intro ?_ ?_|exact vr)|fail
  refine ifNe (fun h=>absurd rfl h) fun _=>?_
  refine ifBf ?_
  have hp:=((hh.front (x:=codeR hd C _) (by repeat (first|exact Pick.here|apply Pick.there))).front (x:=codeH gh _) (by repeat (first|exact Pick.here|apply Pick.there))).front (x:=codeO cb gh bh hd C kind) (by repeat (first|exact Pick.here|apply Pick.there))
  exact kv C cb gh bh hd _ (by omega) hC (hp.sublist (.cons_cons _ (.cons_cons _ (.cons_cons _ (List.nil_sublist _)))))
end
theorem modPos (a:Int) {n:Nat} (hn:0 < n):(if a.tmod n < 0 then a.tmod n+n else a.tmod n)=a.emod n:=by
 have h1:=Int.tmod_eq_emod (a:=a) (b:=n)
 have h2:=Int.emod_nonneg a (show (n:Int)≠0 by omega)
 have h3:=Int.emod_lt_of_pos a (show (0:Int) < n by omega)
 have e:a.emod n=a % n:=rfl
 rw [e]
 split at h1 <;> rw [h1] <;> split <;> simp at * <;> omega
section
variable {w0:World} {K:Value→World→Prop} {cb gh x9 x11:Nat} {bh:Hd} {hd:Cd} {C:Cont} {kind:Int} {S:WS} {x:Bnd}
abbrev E6w (cb gh x9 x11:Nat) (bh:Hd) (hd:Cd) (C:Cont) (kind:Int) (x:Bnd) (st:List (Option Hd)) (w:Wk) (h:Hd):List Ent :=
 [.own x11 (wkV w h.v).toArray 62,.own x9 #[.int .u64 x.steps,.int .u64 x.gas,.int .i64 x.height,.int .i64 x.returns] 40,noteF [(w,h)],codeO cb gh bh hd C kind,codeH gh st,codeR hd C st]
theorem l6_1 (hk:Known C S) (hR:x.returns≤1024) {cp:Option Addr} {cn cc:Nat} {choices:List Int} (hcs:Sees w0 1 cp cn cc (ints choices)) (kk:∀ w',Bl w0 w'→K (.bool true) w') :
  ∀ (q n:Nat) (w:Wk) (h:Hd) (st:List (Option Hd)) (wd:World),n+q=3000→walksT C x choices q n w=true→WkOK C S x.returns (stW w)→w.high≤x.returns→0≤w.steps→w.steps≤18446744073709551615→0≤w.gas→w.gas≤18446744073709551615 →
   Hp zao w0 wd (E6w cb gh x9 x11 bh hd C kind x st w h)→L6_1 K (q+1) cp cn cc (some ⟨cb,0,none⟩) ⟨x9,0,none⟩ ⟨x11,0,none⟩ (n:Int) wd:=by
 intro q
 induction q with
 | zero =>
  intro n w h st wd hn hT hw hh' s0 s1 g0 g1 hh
  unfold L6_1
  refine ifD (fun h=>by omega) fun _=>?_
  exact kk _ hh.done
 | succ q ih =>
  intro n w h st wd hn hT hw hh' s0 s1 g0 g1 hh
  obtain ⟨to,g,hg0,hg1,he,hto,hx⟩:=goes_step hk hw hh'
  have hcl:=hcs.len
  rw [zay] at hcl
  have hvc:=hk.vc
  have hnl:(w.noted.length:Int)≤1024:=by
   have h1:=hw.2.2.1
   have h2:=hk.pl0 w.sec hw.1.1
   simp only [List.length_reverse] at h1
   omega
  unfold L6_1
  refine ifD (fun _=>?_) fun h=>by omega
  have hco:=hh.own (b:=cb) (cs:=(cellsOf gh bh hd C kind).toArray) (t:=110) (by repeat (first|exact List.mem_cons_self|apply List.mem_cons_of_mem))
  have hcr:=(hh.on (S:=roS hd C st) (A:=fun w=>ContAt w hd C∧HiAt w C st) (by repeat (first|exact List.mem_cons_self|apply List.mem_cons_of_mem))).holds
  have hno:=(hh.on (S:=noteS [(w,h)]) (A:=fun v=>NoteS v [(w,h)]) (by repeat (first|exact List.mem_cons_self|apply List.mem_cons_of_mem))).holds
  unfold walksT at hT
  rw [he] at hT
  simp only at hT
  repeat' first|(with_reducible first|refine kk_ ?_|refine nx hh ?_|refine allW fun w' hh=>?_|exact sd_|refine And.intro ?_ ?_|exact vr)|fail
  refine f19 (w:=w) (h:=h) (gh:=gh) (bh:=bh) (kind:=kind) ⟨hvc.ct,hvc.c1,fun x hx=>by have:=(hvc.cl x hx).2;omega⟩ hco hcr.1 (hno _ (List.mem_singleton.2 rfl)) (by rw [he]) (fun x hx=>(hvc.cl x hx).2) s0 s1 g0 g1 (by omega) fun tp tn tc tl v5 w1 hm htn hb1 hws hn1 hn2=>?_
  rw [he] at hm ⊢
  simp only at hm ⊢
  replace hh:=addWk hh hb1 hws hn1 hn2
  have h1:¬ (nowW w g).steps > x.steps:=fun h=>by rw [if_pos (.inr (.inl h))] at hT;cases hT
  have h2:¬ (nowW w g).gas > x.gas:=fun h=>by rw [if_pos (.inr (.inr (.inl h)))] at hT;cases hT
  have h3:¬ (nowW w g).high > x.returns:=fun h=>by rw [if_pos (.inr (.inr (.inr h)))] at hT;cases hT
  rw [if_neg (by rintro (h|h|h|h);cases h;exact h1 h;exact h2 h;exact h3 h)] at hT
  have hlen:=goesW_len C w
  rw [he] at hlen
  simp only at hlen
  have hlm:=congrArg List.length hm
  rw [List.length_map] at hlm
  repeat' first|(with_reducible first|refine kk_ ?_|refine nx hh ?_|refine allW fun w' hh=>?_|exact sd_|refine zcb ?_|refine ifD (fun h=>absurd h h1) (fun _=>?_)|refine ifD (fun h=>absurd h h2) (fun _=>?_)|refine And.intro ?_ ?_|exact vr)|fail
  unfold J6_4
  first|rw [decide_eq_false h3]|(dsimp only;rw [decide_eq_false h3])
  refine ifBf ?_
  unfold J6_3
  have J6:∀ wx,Hp zao w0 wx (.see 6 tp tn tc (zbz tl)::noteF tl::E6w cb gh x9 x11 bh hd C kind x st w h)→¬ to=[]→walksT C x choices q (n+1) (to.getD (if n < choices.length then ((choices.getD n 0).emod (to.length:Int)).toNat else 0) w)=true →
    J6_5 K (L6_1 K (q+1)) cp cn cc (some ⟨cb,0,none⟩) ⟨x9,0,none⟩ ⟨x11,0,none⟩ (n:Int) tp tn tc wx:=by
   clear hh
   intro wx hh hne hT
   have hpos:0 < to.length:=by
    cases to with
    | nil=>exact absurd rfl hne
    | cons a b=>simp
   have hstep:∀ (k:Nat) (y:Int) (wy:World),Hp zao w0 wy (.see 6 tp tn tc (zbz tl)::noteF tl::E6w cb gh x9 x11 bh hd C kind x st w h)→y=(k:Int)→k < to.length→walksT C x choices q (n+1) (to.getD k w)=true →
     J6_6 K (L6_1 K (q+1)) cp cn cc (some ⟨cb,0,none⟩) ⟨x9,0,none⟩ ⟨x11,0,none⟩ (n:Int) tp tn tc y wy:=by
    intro k y wy hh hy hk2 hT
    subst hy
    unfold J6_6
    refine rdWk (hh.sees (SeeIn.pos (p:=tp) (n:=tn) (c:=tc))) (by with_unfolding_all rfl) (by with_unfolding_all rfl) (by omega) (by omega) fun z ad hz a0 a1 a2 a3 a4 a5=>?_
    rw [Int.toNat_natCast] at hz
    repeat' first|(with_reducible first|refine kk_ ?_|refine nx hh ?_|refine allW fun w' hh=>?_|exact sd_|refine ld a0 ?_|refine ld a1 ?_|refine ld a2 ?_|refine ld a3 ?_|refine ld a4 ?_|refine ld a5 ?_|refine And.intro ?_ ?_|exact vr)|fail
    unfold J6_2
    first|rw [i64w (n:=(n:Int)+1) (by omega) (by omega)]|(dsimp only;rw [i64w (n:=(n:Int)+1) (by omega) (by omega)])
    obtain ⟨w',h'⟩:=z
    have hzt:to[k]? = some w':=by rw [← hm,List.getElem?_map,hz];rfl
    have hgd:to.getD k w=w':=by rw [List.getD_eq_getElem?_getD,hzt];rfl
    rw [hgd] at hT
    obtain ⟨k1,k2,k3,k4⟩:=hto w' (List.mem_of_getElem? hzt)
    have hno':=(hh.on (S:=noteS tl) (A:=fun w=>NoteS w tl) (by repeat (first|exact List.mem_cons_self|apply List.mem_cons_of_mem))).holds
    have hm1:∀ y∈[((w',h'):Wk × Hd)],y∈tl:=fun y hy=>by rw [List.mem_singleton] at hy;subst hy;exact List.mem_of_getElem? hz
    have hh2:=Hp.less hh (x:=noteF tl) (y:=noteF [(w',h')]) (by repeat (first|exact Pos.here|apply Pos.there)) (noteF_on fun y hy=>hno' y (hm1 y hy)) (fun k hk=>hk) fun k ⟨y,hy,hk⟩=>⟨y,hm1 y hy,hk⟩
    have hh3:=(((hh2.sublist (.cons _ (.cons_cons _ (.cons_cons _ (.cons_cons _ (.cons _ (.refl _))))))).front (x:=.own x9 _ 40) (by repeat (first|exact Pick.here|apply Pick.there))).front (x:=.own x11 (wkV w' h'.v).toArray 62) (by repeat (first|exact Pick.here|apply Pick.there)))
    have hs0:0≤sumT w.steps 1∧sumT w.steps 1≤18446744073709551615:=by unfold sumT;split <;> omega
    have hs1:0≤sumT w.gas g∧sumT w.gas g≤18446744073709551615:=by unfold sumT;split <;> omega
    refine (?_:L6_1 K (q+1) cp cn cc (some ⟨cb,0,none⟩) ⟨x9,0,none⟩ ⟨x11,0,none⟩ ((n:Int)+1) _)
    exact_mod_cast ih (n+1) w' h' st _ (by omega) hT k1 k2 (by rw [k3];exact hs0.1) (by rw [k3];exact hs0.2) (by rw [k4];exact hs1.1) (by rw [k4];exact hs1.2) hh3
   unfold J6_5
   refine ifD (fun hlt=>?_) fun hlt=>?_
   ·rw [if_pos (show n < choices.length by omega)] at hT
    refine rdI (hcs.bl hh.done) (by with_unfolding_all rfl) (by with_unfolding_all rfl) (by omega) (by omega) fun t ht=>?_
    rw [Int.toNat_natCast] at ht
    have hgd:choices.getD n 0=t:=by rw [List.getD_eq_getElem?_getD,ht];rfl
    rw [hgd] at hT
    refine ifD (fun h=>by omega) fun _=>?_
    have hmp:=modPos t hpos
    have e1:=Int.emod_nonneg t (show (to.length:Int)≠0 by omega)
    have e2:=Int.emod_lt_of_pos t (show (0:Int) < (to.length:Int) by omega)
    have e3:t.emod (to.length:Int)=t % (to.length:Int):=rfl
    rw [htn,hlm]
    refine ifD (fun h=>?_) fun h=>?_
    ·rw [if_pos h] at hmp
     rw [← e3,← hmp] at e1 e2
     rw [← hmp] at hT
     rw [i64w (by omega) (by omega)]
     rw [← hlm,← htn]
     rw [← hlm,← htn] at e1 e2 hT
     exact hstep _ _ _ hh (by omega) (by omega) hT
    ·rw [if_neg h] at hmp
     rw [← e3,← hmp] at e1 e2
     rw [← hmp] at hT
     rw [← hlm,← htn]
     rw [← hlm,← htn] at e1 e2 hT
     exact hstep _ _ _ hh (by omega) (by omega) hT
   ·rw [if_neg (show ¬ n < choices.length by omega)] at hT
    exact hstep 0 _ _ hh rfl hpos hT
  refine ifE (fun h0=>kk _ hh.done) fun h0=>?_
  have hne:¬ to=[]:=fun h=>by rw [h] at hlm;simp only [List.length_nil] at hlm;omega
  rw [if_neg hne] at hT
  have h4:¬ ((nowW w g).steps ≥ x.steps∧x.steps < 18446744073709551615):=fun h=>by rw [if_pos h] at hT;cases hT
  rw [if_neg h4] at hT
  repeat' first|(with_reducible first|refine kk_ ?_|refine nx hh ?_|refine allW fun w' hh=>?_|exact sd_|refine And.intro ?_ ?_|exact vr)|fail
  refine ifD (fun h5=>?_) fun h5=>?_
  ·repeat' first|(with_reducible first|refine kk_ ?_|refine nx hh ?_|refine allW fun w' hh=>?_|exact sd_|refine And.intro ?_ ?_|exact vr)|fail
   refine ifD (fun h6=>absurd ⟨h5,h6⟩ h4) fun _=>?_
   exact J6 _ (hh.sublist (.cons _ (.refl _))) hne hT
  ·exact J6 _ (hh.sublist (.cons _ (.refl _))) hne hT
theorem boundWalks {w:World} {p cp:Option Addr} {n c cn cc:Nat} {l:List UInt8} {choices:List Int} (hs:Sees w 1 p n c (u8s l)) (hcs:Sees w 1 cp cn cc (ints choices)) (kk:∀ w',Bl w w'→K (.bool true) w') :
  zaj Tryz.prog 6 #[.slice p n c,.int .i64 kind,.slice cp cn cc] w K:=by
 refine call6 _ _ _ _ _ _ _ _ _ ?_
 unfold F6
 refine law_start hs (Hp.start w) kk fun C cb gh bh hd w1 hl hC hh=>?_
 have hV:=valid_ok hC
 have hv:=vc_of hC
 unfold J6_0
 refine f15 hV.cp hV.sp hV.pos (by simp) hh fun st' w2 hst' hh=>?_
 repeat' first|(with_reducible first|refine kk_ ?_|refine nx hh ?_|refine allW fun w' hh=>?_|exact sd_|refine And.intro ?_ ?_|exact vr)|fail
 cases hb:(ofT C).2 with
 | false =>
  obtain ⟨he,_⟩:=of_no hb
  rw [he] at hh
  refine zcd ?_
  repeat' first|(with_reducible first|refine kk_ ?_|refine nx hh ?_|refine allW fun w' hh=>?_|exact sd_|refine And.intro ?_ ?_|exact vr)|fail
  exact kk _ hh.done
 | true =>
  refine zcb ?_
  obtain ⟨S,hk,hc,h1,h2,h3⟩:=of_yes hv hb
  have hW:=walks_all hv hb choices 3000
  have hc0:=hc 0 ⟨Int.le_refl 0,by have:=hv.pos;omega⟩
  obtain ⟨g1,g2⟩:=wk0_ok hk hc0
  have hm:=hk.plm 0 hc0
  rw [← h3] at g1 g2 hm
  repeat' first|(with_reducible first|refine kk_ ?_|refine nx hh ?_|refine allW fun w' hh=>?_|exact sd_|refine And.intro ?_ ?_|exact vr)|fail
  refine ⟨3000+1,?_⟩
  have hh2:=hh.know (x:=noteF [(wk0,(⟨none,0,0⟩:Hd))]) (noteF_on fun y hy=>by rw [List.mem_singleton] at hy;subst hy;exact Sees.nil _ 2) (fun k hk=>hk) fun y hy k hk ⟨z,hz,h0,a,ha,_⟩=>by
   rw [List.mem_singleton] at hz;subst hz;cases ha
  have hh3:=((hh2.front (x:=.own _ #[.int .u64 (ofT C).1.steps,.int .u64 (ofT C).1.gas,.int .i64 (ofT C).1.height,.int .i64 (ofT C).1.returns] 40) (by repeat (first|exact Pick.here|apply Pick.there))).front (x:=.own _ (wkV wk0 (.slice none 0 0)).toArray 62) (by repeat (first|exact Pick.here|apply Pick.there)))
  exact_mod_cast l6_1 (S:=S) (x:=(ofT C).1) hk hm hcs kk 3000 0 wk0 ⟨none,0,0⟩ st' _ rfl hW g1 g2 (by decide) (by decide) (by decide) (by decide) hh3
theorem boundWalks_walk (p:Option Addr) (n c:Nat) (l:List UInt8) (kind:Int) (cp:Option Addr) (cn cc:Nat) (choices:List Int) (W:World) (hs:Sees W 1 p n c (u8s l)) (_:(Lit.int .i64 kind).wf=true) (hcs:Sees W 1 cp cn cc (ints choices)) :
  Calls Tryz.prog 6 #[.slice p n c,.int .i64 kind,.slice cp cn cc] W fun e W'=>e = .returned (.bool true)∧Below W.heap.size W W' :=
 Calls.mono (boundWalks (K:=fun v w'=>v = .bool true∧Bl W w') hs hcs fun w' b=>⟨rfl,b⟩) fun e w' ⟨v,he,hv,hb⟩=>⟨by rw [he,hv],hb⟩
end
end Go.Proofs.YtlfhngoeecjfpaaGreatDoor.B
namespace Go.Proofs.YtlfhngoeecjfpaaGreatDoor.Sh
open Go Go.RowKit Go.ChangeShapes
theorem list_of {α:Type} {Q:Nat→α→Prop}:∀ n:Nat,(∀ i,i < n→∃ x,Q i x)→∃ xs:List α,xs.length=n∧∀ (i:Nat) x,xs[i]? = some x→Q i x
 | 0,h=>⟨[],rfl,fun i x hx=>by simp at hx⟩
 | n+1,h=>by
  obtain ⟨xs,h1,h2⟩:=list_of n fun i hi=>h i (by omega)
  obtain ⟨y,hy⟩:=h n (by omega)
  refine ⟨xs++[y],by simp [h1],fun i x hx=>?_⟩
  by_cases hi:i < n
  ·rw [List.getElem?_append_left (by omega)] at hx
   exact h2 i x hx
  ·by_cases he:i=n
   ·subst he
    rw [List.getElem?_append_right (by omega),h1,Nat.sub_self] at hx
    cases hx
    exact hy
   ·rw [List.getElem?_eq_none (by simp [h1];omega)] at hx
    cases hx
section
variable {H:Type} {enc:TypeId × Value→H} {P:Program} {w:World} {base b0:Nat} {sp:Nat→Bool} {held:Bool}
theorem open_see {k:IntKind} {s e:TypeId} {r:Reach} {v:Value} {d:DataW H} {ps:List MemPlace} (hs:P.underlying s=some (.slice e)) (he:P.underlying e=some (.int k)) (hc:P.cellsOf e=1)
  (hval:Value.okWide P w r b0 s v) (h:DataW.Trod enc P w base sp held s v d ps) :
  ∃ p l c,∃ xs:List Int,v = .slice p l c∧(∀ n∈xs,(Lit.int k n).wf=true)∧Sees w 1 p l c (xs.map fun n=>.int k n):=by
 obtain ⟨p,l,c,rfl⟩:=WideShapes.okWide_slice hs hval
 obtain ⟨fuel,hf⟩:=h
 rcases DataW.trod_slice hs hf with ⟨h0,_⟩|⟨a,len,cap,elems,rest,n,_,h0,_,_,hl,hm,hlen,hel,_⟩
 ·simp [Value.cells] at h0
  obtain ⟨rfl,rfl,rfl⟩:=h0
  exact ⟨_,_,_,[],rfl,fun n hn=>(by cases hn),Sees.nil w 1⟩
 ·simp [Value.cells] at h0
  obtain ⟨rfl,rfl,rfl⟩:=h0
  obtain ⟨xs,x1,x2⟩:=list_of (Q:=fun i m=>(Lit.int k m).wf=true∧w.cell? (a.add i)=some (.int k m)) l fun i hi=>by
   have h1:=hel i hi
   rw [hc] at h1
   obtain ⟨y,hy⟩:∃ y,elems[i]? = some y:=⟨_,List.getElem?_eq_getElem (by omega)⟩
   rw [hy,Option.bind_eq_some_iff] at h1
   obtain ⟨cs,hcs,hy'⟩:=h1
   obtain ⟨m,rfl,_,wm⟩:=DataW.trod_int he hy'
   have hg:=(World.cells?_some hcs).2.2 0 (by decide)
   rw [add_zero,Nat.mul_one] at hg
   exact ⟨m,wm,hg⟩
  refine ⟨_,_,_,xs,rfl,fun n hn=>?_,⟨by rw [List.length_map,x1,Nat.mul_one],by omega,fun j u hu=>?_⟩⟩
  ·obtain ⟨i,hi,rfl⟩:=List.getElem_of_mem hn
   exact (x2 i _ (List.getElem?_eq_getElem hi)).1
  ·rw [List.getElem?_map,Option.map_eq_some_iff] at hu
   obtain ⟨m,hm',rfl⟩:=hu
   exact ⟨a,rfl,(x2 j m hm').2⟩
theorem u8_of {xs:List Int} (h:∀ n∈xs,(Lit.int .u8 n).wf=true):(xs.map fun n=>Value.int .u8 n)=u8s (xs.map fun n=>UInt8.ofNat n.toNat):=by
 unfold u8s
 rw [List.map_map]
 refine List.map_congr_left fun n hn=>?_
 have:=h n hn
 simp [Lit.wf,IntKind.min,IntKind.max,IntKind.signed,IntKind.bits] at this
 simp only [Function.comp]
 congr 1
 rw [UInt8.toNat_ofNat']
 omega
end
end Go.Proofs.YtlfhngoeecjfpaaGreatDoor.Sh
