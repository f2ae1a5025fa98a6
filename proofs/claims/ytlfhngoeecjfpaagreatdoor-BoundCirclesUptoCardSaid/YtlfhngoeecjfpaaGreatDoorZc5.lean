/- What the claim of LBoundCircles asks: part 5 of its lemmas. No condition. Joined by bundle.py, a program of ours, out of texts of ours. -/
import Derived.Test.YtlfhngoeecjfpaaGreatDoorZc4
set_option linter.unusedVariables false
set_option linter.unusedSimpArgs false
set_option maxRecDepth 100000
set_option maxHeartbeats 4000000
namespace Go.Proofs.YtlfhngoeecjfpaaGreatDoor.B
open Go Go.RowKit Go.Proofs.YtlfhngoeecjfpaaGreatDoor.Sh Go.Proofs.YtlfhngoeecjfpaaGreatDoor.W
theorem rowOfOwn {w:World} {b:Nat} {cs:List Value} {e:TypeId} (h:Own w b cs.toArray e) (hl:cs.length≤1000000000):RowZ w 1 (.slice (some ⟨b,0,none⟩) cs.length cs.length) e cs.length cs:=by
 refine ⟨by omega,.inr ⟨b,cs.length,cs.toArray,rfl,Nat.zero_le _,h,?_,?_,?_,?_⟩⟩
 ·exact Nat.le_refl _
 ·exact Nat.le_trans hl (by decide)
 ·simp
 ·simp
theorem Hp.rowOwn {Z:Nat→Prop} {w0 w:World} {L:List Ent} {b:Nat} {cs:List Value} {e:TypeId} (h:Hp Z w0 w (.own b cs.toArray e::L)) (hl:cs.length≤1000000000):Hp Z w0 w (.row 1 (some ⟨b,0,none⟩) cs.length cs.length e cs::L):=by
 have hr:=rowOfOwn (h.own List.mem_cons_self) hl
 have key:∀ k,(Ent.row 1 (some ⟨b,0,none⟩) cs.length cs.length e cs).foot k→k=b:=fun k hk=>by
  have hk:Blk (.slice (some ⟨b,0,none⟩) cs.length cs.length) k:=hk
  unfold Blk at hk
  simpa [Value.ownBlock,eq_comm] using hk
 refine h.turn .here (Ext.refl w) hr fun k hk=>.inl (key k hk)
def b8 (n:Int):UInt8:=UInt8.ofNat (n % 256).toNat
theorem u8w (n:Int):IntKind.wrap .u8 n=((b8 n).toNat:Int):=by
 have h:IntKind.wrap .u8 n=n % 256:=by simp [IntKind.wrap,IntKind.signed,IntKind.bits]
 rw [h]
 unfold b8
 have h1:=Int.emod_nonneg n (by decide:(256:Int)≠0)
 have h2:=Int.emod_lt_of_pos n (by decide:(0:Int) < 256)
 rw [UInt8.toNat_ofNat']
 omega
abbrev Part:=Ty × List UInt8
def sizesB:List Part→List UInt8
 | []=>[]
 | p::r=>b8 ((p.2.length:Int) / 256)::b8 (p.2.length:Int)::sizesB r
def typesB:List Part→List UInt8
 | []=>[]
 | p::r=>b8 p.1.inn::b8 p.1.out::b8 (p.1.most.fdiv 256)::b8 p.1.most::typesB r
def madeT (l:List Part):List UInt8 :=
 [0xEF,0,1,1,b8 ((4 * l.length:Int) / 256),b8 (4 * l.length),2,b8 ((l.length:Int) / 256),b8 l.length]++sizesB l++[0xFF,0,0,0]++typesB l++l.flatMap (·.2)
def partCells (l:List (Part × Hd)):List Value:=l.flatMap fun p=>[.int .i64 p.1.1.inn,.int .i64 p.1.1.out,.int .i64 p.1.1.most,p.2.v]
structure PartL (w:World) (h:Hd) (pl:List (Part × Hd)):Prop where
 sees:Sees w 4 h.p h.n h.c (partCells pl)
 each:∀ x∈pl,Sees w 1 x.2.p x.2.n x.2.c (u8s x.1.2)
theorem PartL.bl {w w':World} {h:Hd} {pl:List (Part × Hd)} (a:PartL w h pl) (k:Bl w w'):PartL w' h pl:=⟨a.sees.bl k,fun x hx=>(a.each x hx).bl k⟩
theorem partCells_get {pl:List (Part × Hd)} {k j:Nat} {x:Part × Hd} (h:pl[k]? = some x) (hj:j < 4):(partCells pl)[k * 4+j]? = [Value.int .i64 x.1.1.inn,.int .i64 x.1.1.out,.int .i64 x.1.1.most,x.2.v][j]?:=by
 induction pl generalizing k with
 | nil=>simp at h
 | cons y r ih =>
  show ([Value.int .i64 y.1.1.inn,.int .i64 y.1.1.out,.int .i64 y.1.1.most,y.2.v]++partCells r)[k * 4+j]? = _
  cases k with
  | zero =>
   simp only [List.getElem?_cons_zero,Option.some.injEq] at h;subst h
   rw [Nat.zero_mul,Nat.zero_add,List.getElem?_append_left (by simpa using hj)]
  | succ k =>
   simp only [List.getElem?_cons_succ] at h
   rw [List.getElem?_append_right (by simp;omega),← ih h]
   congr 1;simp;omega
theorem partCells_len (pl:List (Part × Hd)):(partCells pl).length=pl.length * 4:=by
 induction pl with
 | nil=>rfl
 | cons y r ih=>show ([Value.int .i64 y.1.1.inn,.int .i64 y.1.1.out,.int .i64 y.1.1.most,y.2.v]++partCells r).length=_;rw [List.length_append,ih];simp;omega
theorem PartL.n {w:World} {h:Hd} {pl:List (Part × Hd)} (a:PartL w h pl):h.n=pl.length:=by have:=a.sees.len;rw [partCells_len] at this;omega
theorem rdPart {P:Program} {w:World} {t e:Nat} {h:Hd} {k:IntKind} {i:Nat} {pl:List (Part × Hd)} {F:Value→World→Prop} (hs:PartL w h pl) (ht:P.underlying t=some (.slice e)) (hz:(P.info? e).map (·.size)=some 4) (h1:i < h.n)
  (kk:∀ x ad,pl[i]? = some x→w.cell? ad=some (.int .i64 x.1.1.inn)→w.cell? (ad.add 1)=some (.int .i64 x.1.1.out)→w.cell? (ad.add 2)=some (.int .i64 x.1.1.most)→w.cell? (ad.add 3)=some x.2.v→Sees w 1 x.2.p x.2.n x.2.c (u8s x.1.2)→F (.pointer (some ad)) w):semK P (Instr.indexAt t (.slice h.p h.n h.c) (.int k (i:Int))) w F:=by
 have hn:=hs.n
 have hx:pl[i]? = some (pl[i]'(by omega)):=List.getElem?_eq_getElem (by omega)
 refine ixSee hs.sees (by decide) ht hz (by omega) (by omega) fun ad had=>?_
 rw [Int.toNat_natCast] at had
 have h:=fun j (hj:j < 4) u hu=>had j u hj (by rw [partCells_get hx hj];exact hu)
 have h00:=h 0 (by decide) _ rfl
 rw [add_zero] at h00
 exact kk _ ad hx h00 (h 1 (by decide) _ rfl) (h 2 (by decide) _ rfl) (h 3 (by decide) _ rfl) (hs.each _ (List.mem_of_getElem? hx))
section
variable {w0:World} {K:Value→World→Prop} {h:Hd} {pl:List (Part × Hd)} {R:List Ent}
theorem l17_4 (hp:PartL w0 h pl) (hb:∀ x∈pl,x.1.2.length≤65535) (hn:h.n≤1024) {out:List UInt8}
  (kk:∀ q m cap w',m=out.length→Hp zao w0 w' (.row 1 q m cap 5 (u8s out)::R)→K (.slice q m cap) w') :
  ∀ (f j:Nat) (q:Option Addr) (m cap:Nat) (acc:List UInt8) (w:World),j+f=h.n→m=acc.length→acc.length≤1000000+65536 * j→acc++(pl.drop j).flatMap (·.1.2)=out→Hp zao w0 w (.row 1 q m cap 5 (u8s acc)::R) →
   L17_4 K (f+1) h.p h.n h.c (h.n:Int) q m cap (j:Int) w:=by
 have hpn:=hp.n
 intro f
 induction f with
 | zero =>
  intro j q m cap acc w hj hm ha he hh
  unfold L17_4
  refine ifD (fun h=>by omega) fun _=>?_
  rw [List.drop_of_length_le (by omega)] at he
  simp only [List.flatMap_nil,List.append_nil] at he
  subst he
  exact kk q m cap w hm hh
 | succ f ih =>
  intro j q m cap acc w hj hm ha he hh
  unfold L17_4
  refine ifD (fun _=>?_) fun h=>by omega
  refine rdPart (hp.bl hh.done) (by with_unfolding_all rfl) (by with_unfolding_all rfl) (by omega) fun x ad hx c0 c1 c2 c3 hs=>?_
  have hd:pl.drop j=x::pl.drop (j+1):=by
   have hlt:j < pl.length:=by omega
   rw [List.getElem?_eq_getElem hlt] at hx
   cases hx
   exact List.drop_eq_getElem_cons hlt
  have hxb:=hb x (List.mem_of_getElem? hx)
  have hsn:=hs.bytes
  refine kA (ld c3 (kL ?_))
  have hr:=hh.row (z:=1) (p:=q) (n:=m) (c:=cap) (e:=5) (xs:=u8s acc) List.mem_cons_self
  refine appS (P:=Tryz.prog) (t:=22) (e:=5) hr hs (by decide) (by with_unfolding_all rfl) (by with_unfolding_all rfl) (by with_unfolding_all rfl) (u8s_one _) (by omega) (by decide) fun q2 cap2 w2 hr2 he2 hq=>?_
  have hh2:=hh.turn (y:=.row 1 q2 (m+x.2.n) cap2 5 (u8s acc++u8s x.1.2)) .here he2 hr2 fun i hi=>(hq i hi).imp id fun h=>Nat.le_of_eq h.symm
  have e1:u8s acc++u8s x.1.2=u8s (acc++x.1.2):=by simp [u8s]
  rw [e1] at hh2
  refine kL ?_
  rw [i64w (n:=(j:Int)+1) (by omega) (by omega)]
  exact_mod_cast ih (j+1) q2 (m+x.2.n) cap2 (acc++x.1.2) w2 (by omega) (by rw [List.length_append];omega) (by rw [List.length_append];omega) (by rw [← he,hd];simp) hh2
theorem l17_3 (hp:PartL w0 h pl) (hb:∀ x∈pl,x.1.2.length≤65535) (hn:h.n≤1024) {out:List UInt8}
  (kk:∀ q m cap w',m=out.length→Hp zao w0 w' (.row 1 q m cap 5 (u8s out)::R)→K (.slice q m cap) w') :
  ∀ (f j:Nat) (q:Option Addr) (m cap:Nat) (acc:List UInt8) (w:World),j+f=h.n→m=acc.length→acc.length≤10000+4 * j→acc++typesB ((pl.drop j).map (·.1))++pl.flatMap (·.1.2)=out→Hp zao w0 w (.row 1 q m cap 5 (u8s acc)::R) →
   L17_3 K (f+1) h.p h.n h.c (h.n:Int) q m cap (j:Int) w:=by
 have hpn:=hp.n
 intro f
 induction f with
 | zero =>
  intro j q m cap acc w hj hm ha he hh
  unfold L17_3
  refine ifD (fun h=>by omega) fun _=>?_
  unfold J17_2
  rw [List.drop_of_length_le (by omega)] at he
  simp only [List.map_nil,typesB,List.append_nil] at he
  refine ⟨h.n+1,?_⟩
  have:=l17_4 (K:=K) hp hb hn kk h.n 0 q m cap acc w (by omega) hm (by omega) (by rw [List.drop_zero];exact he) hh
  exact_mod_cast this
 | succ f ih =>
  intro j q m cap acc w hj hm ha he hh
  unfold L17_3
  refine ifD (fun _=>?_) fun h=>by omega
  with_reducible refine drewH hh fun w1 hh _=>?_
  refine rdPart (hp.bl hh.done) (by with_unfolding_all rfl) (by with_unfolding_all rfl) (by omega) fun x ad hx c0 c1 c2 c3 hs=>?_
  have hd:pl.drop j=x::pl.drop (j+1):=by
   have hlt:j < pl.length:=by omega
   rw [List.getElem?_eq_getElem hlt] at hx
   cases hx
   exact List.drop_eq_getElem_cons hlt
  refine kA (ld c0 (kI ?_))
  refine rdPart (hp.bl hh.done) (by with_unfolding_all rfl) (by with_unfolding_all rfl) (by omega) fun x1 ad1 hx1 _ d1 _ _ _=>?_
  rw [hx] at hx1;cases hx1
  refine kA (ld d1 (kI ?_))
  refine rdPart (hp.bl hh.done) (by with_unfolding_all rfl) (by with_unfolding_all rfl) (by omega) fun x1 ad2 hx1 _ _ d2 _ _=>?_
  rw [hx] at hx1;cases hx1
  refine kA (ld d2 (kI ?_))
  refine rdPart (hp.bl hh.done) (by with_unfolding_all rfl) (by with_unfolding_all rfl) (by omega) fun x1 ad3 hx1 _ _ d3 _ _=>?_
  rw [hx] at hx1;cases hx1
  refine kA (ld d3 (kI ?_))
  rw [u8w,u8w,u8w,u8w]
  repeat' first|(with_reducible first|refine kk_ ?_|refine nx hh ?_|refine allW fun w' hh=>?_|exact sd_)|((with_reducible refine appH hh (by with_unfolding_all rfl) (by with_unfolding_all rfl) (by with_unfolding_all rfl) (by with_unfolding_all rfl) (by with_unfolding_all rfl) (by with_unfolding_all rfl) (by with_unfolding_all rfl) (by omega) (by with_unfolding_all rfl) fun g9 cap9 w4 hh=>?_);(replace hh:=hh.tail))|(with_reducible first|refine And.intro ?_ ?_|exact vr)|fail
  have e1:u8s acc++#[Value.int .u8 ((b8 x.1.1.inn).toNat:Int),.int .u8 ((b8 x.1.1.out).toNat:Int),.int .u8 ((b8 (Int.fdiv x.1.1.most (2 ^ (min (8:Int).toNat 64)))).toNat:Int),.int .u8 ((b8 x.1.1.most).toNat:Int)].toList=u8s (acc++[b8 x.1.1.inn,b8 x.1.1.out,b8 (x.1.1.most.fdiv 256),b8 x.1.1.most]):=by
   first|rw [show (2:Int) ^ (min (8:Int).toNat 64)=256 from rfl]|(dsimp only;rw [show (2:Int) ^ (min (8:Int).toNat 64)=256 from rfl])
   simp [u8s]
  rw [e1] at hh
  have hh2:=hh
  first|rw [i64w (n:=(j:Int)+1) (by omega) (by omega)]|(dsimp only;rw [i64w (n:=(j:Int)+1) (by omega) (by omega)])
  exact_mod_cast ih (j+1) (some ⟨g9,0,none⟩) (m+4) cap9 _ _ (by omega) (by rw [List.length_append];simp;omega) (by rw [List.length_append];simp;omega) (by rw [← he,hd];simp [typesB]) hh2
end
section
variable {w0:World} {K:Value→World→Prop} {h:Hd} {pl:List (Part × Hd)} {R:List Ent}
theorem l17_1 (hp:PartL w0 h pl) (hb:∀ x∈pl,x.1.2.length≤65535) (hn:h.n≤1024) {out:List UInt8}
  (kk:∀ q m cap w',m=out.length→Hp zao w0 w' (.row 1 q m cap 5 (u8s out)::R)→K (.slice q m cap) w') :
  ∀ (f j:Nat) (q:Option Addr) (m cap:Nat) (acc:List UInt8) (w:World),j+f=h.n→m=acc.length→acc.length≤9+2 * j→acc++sizesB ((pl.drop j).map (·.1))++[0xFF,0,0,0]++typesB (pl.map (·.1))++pl.flatMap (·.1.2)=out→Hp zao w0 w (.row 1 q m cap 5 (u8s acc)::R) →
   L17_1 K (f+1) h.p h.n h.c (h.n:Int) q m cap (j:Int) w:=by
 have hpn:=hp.n
 intro f
 induction f with
 | zero =>
  intro j q m cap acc w hj hm ha he hh
  unfold L17_1
  refine ifD (fun h=>by omega) fun _=>?_
  unfold J17_0
  rw [List.drop_of_length_le (by omega)] at he
  simp only [List.map_nil,sizesB,List.append_nil] at he
  repeat' first|(with_reducible first|refine kk_ ?_|refine nx hh ?_|refine allW fun w' hh=>?_|exact sd_)|((with_reducible refine appH hh (by with_unfolding_all rfl) (by with_unfolding_all rfl) (by with_unfolding_all rfl) (by with_unfolding_all rfl) (by with_unfolding_all rfl) (by with_unfolding_all rfl) (by with_unfolding_all rfl) (by omega) (by with_unfolding_all rfl) fun g9 cap9 w4 hh=>?_);(replace hh:=hh.tail))|(with_reducible first|refine And.intro ?_ ?_|exact vr)|fail
  have e1:u8s acc++#[Value.int .u8 255,.int .u8 0,.int .u8 0,.int .u8 0].toList=u8s (acc++[0xFF,0,0,0]):=by simp [u8s]
  rw [e1] at hh
  have hh2:=hh
  refine ⟨h.n+1,?_⟩
  have:=l17_3 (K:=K) hp hb hn kk h.n 0 _ (m+4) _ _ _ (by omega) (by rw [List.length_append];simp;omega) (by rw [List.length_append];simp;omega) (by rw [List.drop_zero];exact he) hh2
  exact_mod_cast this
 | succ f ih =>
  intro j q m cap acc w hj hm ha he hh
  unfold L17_1
  refine ifD (fun _=>?_) fun h=>by omega
  with_reducible refine drewH hh fun w1 hh _=>?_
  refine rdPart (hp.bl hh.done) (by with_unfolding_all rfl) (by with_unfolding_all rfl) (by omega) fun x ad hx c0 c1 c2 c3 hs=>?_
  have hd:pl.drop j=x::pl.drop (j+1):=by
   have hlt:j < pl.length:=by omega
   rw [List.getElem?_eq_getElem hlt] at hx
   cases hx
   exact List.drop_eq_getElem_cons hlt
  refine kA (ld c3 (kL ?_))
  refine rdPart (hp.bl hh.done) (by with_unfolding_all rfl) (by with_unfolding_all rfl) (by omega) fun x1 ad1 hx1 _ _ _ d3 _=>?_
  rw [hx] at hx1;cases hx1
  refine kA (ld d3 (kL ?_))
  have hsn:=hs.bytes
  rw [u8w,u8w]
  repeat' first|(with_reducible first|refine kk_ ?_|refine nx hh ?_|refine allW fun w' hh=>?_|exact sd_)|((with_reducible refine appH hh (by with_unfolding_all rfl) (by with_unfolding_all rfl) (by with_unfolding_all rfl) (by with_unfolding_all rfl) (by with_unfolding_all rfl) (by with_unfolding_all rfl) (by with_unfolding_all rfl) (by omega) (by with_unfolding_all rfl) fun g9 cap9 w4 hh=>?_);(replace hh:=hh.tail))|(with_reducible first|refine And.intro ?_ ?_|exact vr)|fail
  have e1:u8s acc++#[Value.int .u8 ((b8 (Int.fdiv ((x.2.n:Nat):Int) (2 ^ (min (8:Int).toNat 64)))).toNat:Int),.int .u8 ((b8 ((x.2.n:Nat):Int)).toNat:Int)].toList=u8s (acc++[b8 ((x.1.2.length:Int) / 256),b8 (x.1.2.length:Int)]):=by
   first|rw [show (2:Int) ^ (min (8:Int).toNat 64)=256 from rfl,Int.fdiv_eq_ediv_of_nonneg _ (by decide),hsn]|(dsimp only;rw [show (2:Int) ^ (min (8:Int).toNat 64)=256 from rfl,Int.fdiv_eq_ediv_of_nonneg _ (by decide),hsn])
   simp [u8s]
  rw [e1] at hh
  have hh2:=hh
  first|rw [i64w (n:=(j:Int)+1) (by omega) (by omega)]|(dsimp only;rw [i64w (n:=(j:Int)+1) (by omega) (by omega)])
  exact_mod_cast ih (j+1) (some ⟨g9,0,none⟩) (m+2) cap9 _ _ (by omega) (by rw [List.length_append];simp;omega) (by rw [List.length_append];simp;omega) (by rw [← he,hd];simp [sizesB]) hh2
theorem f17 {w:World} (hp:PartL w h pl) (hb:∀ x∈pl,x.1.2.length≤65535) (hn:h.n≤1024)
  (kk:∀ q m cap w',m=(madeT (pl.map (·.1))).length→Hp zao w w' [.row 1 q m cap 5 (u8s (madeT (pl.map (·.1))))]→K (.slice q m cap) w') :
  zak Tryz.prog 17 #[h.v] w K:=by
 refine call17 _ _ _ _ _ ?_
 unfold F17
 have hpn:=hp.n
 have hh:=Hp.start w
 with_reducible refine zbx hh fun w1 hh _=>?_
 rw [i64w (n:=4 * ((h.n:Nat):Int)) (by omega) (by omega),u8w,u8w,u8w,u8w,show (2:Int) ^ (min (8:Int).toNat 64)=256 from rfl,Int.fdiv_eq_ediv_of_nonneg _ (by decide),Int.fdiv_eq_ediv_of_nonneg _ (by decide)] at hh
 have e1:#[Value.int .u8 239,.int .u8 0,.int .u8 1,.int .u8 1,.int .u8 ((b8 (4 * ((h.n:Nat):Int) / 256)).toNat:Int),.int .u8 ((b8 (4 * ((h.n:Nat):Int))).toNat:Int),.int .u8 2,.int .u8 ((b8 (((h.n:Nat):Int) / 256)).toNat:Int),.int .u8 ((b8 ((h.n:Nat):Int)).toNat:Int)] =
   (u8s [0xEF,0,1,1,b8 (4 * ((h.n:Nat):Int) / 256),b8 (4 * ((h.n:Nat):Int)),2,b8 (((h.n:Nat):Int) / 256),b8 ((h.n:Nat):Int)]).toArray:=by simp [u8s]
 rw [e1] at hh
 have hh2:=Hp.rowOwn hh (by simp [u8s])
 refine ⟨h.n+1,?_⟩
 have:=l17_1 (K:=K) (R:=[]) hp hb hn kk h.n 0 _ 9 9 _ w1 (by omega) rfl (by simp) (by rw [List.drop_zero,hpn,madeT,List.length_map,List.flatMap_map]) hh2
 exact_mod_cast this
end
def able1L:List UInt8:=madeT [(⟨0,128,2⟩,[0x5F,0x5F,0x01,0x50,0x00])]
def able2L:List UInt8:=madeT [(⟨0,128,0⟩,[0xE0,0xFF,0xFD])]
section
variable {w0:World} {K:Value→World→Prop}
theorem made1 {Z:Nat→Prop} {w0 w:World} {L:List Ent} {K:Value→World→Prop} {b1 b2:Nat} {t:Ty} {l:List UInt8} (hh:Hp Z w0 w L) (h1:Ent.own b1 (u8s l).toArray 5∈L) (h2:Ent.own b2 #[.int .i64 t.inn,.int .i64 t.out,.int .i64 t.most,.slice (some ⟨b1,0,none⟩) l.length l.length] 54∈L) (hl:l.length≤65535)
  (kk:∀ q cap w',Hp Z w0 w' (.row 1 q (madeT [(t,l)]).length cap 5 (u8s (madeT [(t,l)]))::L)→K (.slice q (madeT [(t,l)]).length cap) w') :
  zak Tryz.prog 17 #[.slice (some ⟨b2,0,none⟩) 1 1] w K:=by
 have s1:Sees w 1 (some ⟨b1,0,none⟩) l.length l.length (u8s l):=Own.sees (hh.own h1) (u8s_len l)
 have s2:Sees w 4 (some ⟨b2,0,none⟩) 1 1 (partCells [((t,l),⟨some ⟨b1,0,none⟩,l.length,l.length⟩)]):=by
  have ho:=hh.own h2
  refine ⟨rfl,Nat.le_refl _,fun j u hu=>⟨_,rfl,?_⟩⟩
  rw [addG,ho.cell]
  simpa [partCells] using hu
 refine f17 (h:=⟨some ⟨b2,0,none⟩,1,1⟩) (pl:=[((t,l),⟨some ⟨b1,0,none⟩,l.length,l.length⟩)]) ⟨s2,fun x hx=>by simp only [List.mem_singleton] at hx;subst hx;exact s1⟩ (fun x hx=>by simp only [List.mem_singleton] at hx;subst hx;exact hl) (show (1:Nat)≤1024 by decide) fun q m cap w' hm h'=>?_
 simp only [List.map_cons,List.map_nil] at hm h'
 subst hm
 refine kk q cap w' (hh.take h' fun x hx k hk=>?_)
 simp only [List.mem_singleton] at hx
 subst hx
 exact Or.resolve_left (h'.may _ List.mem_cons_self k hk) fun h=>h
theorem f10 (h1:ofLT able1L 1=(⟨5,9,2,0⟩,true,true)) (h2:ofLT able2L 1=(⟨0,0,0,0⟩,false,true)) {Z:Nat→Prop} {w:World} {L:List Ent} (hh:Hp Z w0 w L) (kk:∀ w',Hp Z w0 w' L→K (.bool true) w'):zak Tryz.prog 10 #[] w K:=by
 refine call10 _ _ ?_
 unfold F10
 with_reducible refine zbx hh fun w1 hh _=>?_
 with_reducible refine zbx hh fun w2 hh _=>?_
 generalize w.heap.size=b1 at hh ⊢
 generalize w1.heap.size=b2 at hh ⊢
 refine made1 (b1:=b1) (b2:=b2) (t:=⟨0,128,2⟩) (l:=[0x5F,0x5F,0x01,0x50,0x00]) hh (by simp [u8s]) (by simp) (by decide) fun q cap w3 hh=>?_
 refine kL ?_
 have hs:=(hh.row (z:=1) (p:=q) (n:=able1L.length) (c:=cap) (e:=5) (xs:=u8s able1L) List.mem_cons_self).sees
 refine f16 (l:=able1L) (fun C=>valid_ok) hh hs (by decide) fun w4 hh=>?_
 rw [h1]
 repeat' first|(with_reducible first|refine kk_ ?_|refine nx hh ?_|refine allW fun w' hh=>?_|exact sd_|refine And.intro ?_ ?_|exact vr)|fail
 refine made1 (t:=⟨0,128,0⟩) (l:=[0xE0,0xFF,0xFD]) hh (by repeat (first|exact List.mem_cons_self|apply List.mem_cons_of_mem)) (by repeat (first|exact List.mem_cons_self|apply List.mem_cons_of_mem)) (by decide) fun q2 cap2 w5 hh=>?_
 refine kL ?_
 have hs:=(hh.row (z:=1) (p:=q2) (n:=able2L.length) (c:=cap2) (e:=5) (xs:=u8s able2L) List.mem_cons_self).sees
 refine f16 (l:=able2L) (fun C=>valid_ok) hh hs (by decide) fun w6 hh=>?_
 first|rw [h2]|(dsimp only;rw [h2])
 repeat' first|(with_reducible first|refine kk_ ?_|refine nx hh ?_|refine allW fun w' hh=>?_|exact sd_|refine And.intro ?_ ?_|exact vr)|fail
 refine ifBt (ifBt ?_)
 repeat' first|(with_reducible first|refine kk_ ?_|refine nx hh ?_|refine allW fun w' hh=>?_|exact sd_|refine And.intro ?_ ?_|exact vr)|fail
 refine ifBt (zcb (ifBt ?_))
 repeat' first|(with_reducible first|refine kk_ ?_|refine nx hh ?_|refine allW fun w' hh=>?_|exact sd_|refine And.intro ?_ ?_|exact vr)|fail
 exact kk _ (hh.sublist (by repeat (first|exact List.Sublist.refl _|apply List.Sublist.cons)))
end
def able1C:Cont:=⟨[⟨0,128,2⟩],[[0x5F,0x5F,0x01,0x50,0x00]],[],[],0⟩
def able2C:Cont:=⟨[⟨0,128,0⟩],[[0xE0,0xFF,0xFD]],[],[],0⟩
theorem judge_one {C:Cont} {kind:Int} {f:Nat} (hk:¬ (kind≠1∧kind≠2)) (h1:zbr C=0) (h2:(zau C kind (List.range C.codes.length) (st00 C)).1=0) (h3:C.codes.length=1) (h4:C.subs=[]):zcs (f+1) C kind=0:=by
 rw [zcs,if_neg hk,if_neg (by rw [h1];decide),if_neg (by rw [h2];decide),if_neg]
 ·unfold nestedT
  rw [h4]
  rfl
 ·rintro ⟨k,hk,hn⟩
  have:k=0:=by omega
  subst this
  exact hn .zero
theorem valid_one {l:List UInt8} {kind:Int} {C:Cont} (hp:zax l false = .ok C) (hk:¬ (kind≠1∧kind≠2)) (h1:zbr C=0) (h2:(zau C kind (List.range C.codes.length) (st00 C)).1=0) (h3:C.codes.length=1) (h4:C.subs=[]):validT l kind = .ok C:=by
 unfold validT
 rw [if_neg hk,hp]
 simp only
 rw [judge_one hk h1 h2 h3 h4,if_neg (by decide)]
theorem able1_ok:ofLT able1L 1=(⟨5,9,2,0⟩,true,true):=by
 unfold ofLT
 rw [valid_one (C:=able1C) (by kernel_rfl) (by decide) (by kernel_rfl) (by kernel_rfl) rfl rfl]
 kernel_rfl
theorem able2_ok:ofLT able2L 1=(⟨0,0,0,0⟩,false,true):=by
 unfold ofLT
 rw [valid_one (C:=able2C) (by kernel_rfl) (by decide) (by kernel_rfl) (by kernel_rfl) rfl rfl]
 kernel_rfl
section
variable {w0 w:World} {K:Value→World→Prop} {Z:Nat→Prop} {L:List Ent}
theorem f10' (hh:Hp Z w0 w L) (kk:∀ w',Hp Z w0 w' L→K (.bool true) w'):zak Tryz.prog 10 #[] w K:=f10 able1_ok able2_ok hh kk
end
theorem modPos (a:Int) {n:Nat} (hn:0 < n):(if a.tmod n < 0 then a.tmod n+n else a.tmod n)=a.emod n:=by
 have h1:=Int.tmod_eq_emod (a:=a) (b:=n)
 have h2:=Int.emod_nonneg a (show (n:Int)≠0 by omega)
 have h3:=Int.emod_lt_of_pos a (show (0:Int) < n by omega)
 have e:a.emod n=a % n:=rfl
 rw [e]
 split at h1 <;> rw [h1] <;> split <;> simp at * <;> omega
def Stp (C:Cont) (a b:Wk):Prop:=a∈(goesW C b).1
inductive Rt (C:Cont):Wk→Wk→Prop
 | refl {w:Wk}:Rt C w w
 | head {a b c:Wk}:Stp C b a→Rt C b c→Rt C a c
theorem Rt.trans {C:Cont} {a b c:Wk} (h:Rt C a b) (g:Rt C b c):Rt C a c:=by
 induction h with
 | refl=>exact g
 | head h1 _ ih=>exact .head h1 (ih g)
theorem Rt.next {C:Cont} {a b c:Wk} (h:Rt C a b) (g:Stp C c b):∃ y,Stp C y a∧Rt C y c:=by
 cases h with
 | refl=>exact ⟨c,g,.refl⟩
 | head h1 h2=>exact ⟨_,h1,h2.trans (.head g .refl)⟩
inductive Ends (C:Cont):Wk→Wk→Prop
 | done {w now:Wk}:goesW C w=([],now,true)→Ends C w now
 | step {w w' now:Wk}:Stp C w' w→Ends C w' now→Ends C w now
def StV (C:Cont):List (Int × Int)→Prop
 | []=>True
 | p::r=>(InR C p.1∧∃ i∈dT C p.1,i.at_=p.2)∧(r=[]→(tyT C p.1).out=128)∧StV C r
structure WkV (C:Cont) (w:Wk):Prop where
 st:StV C (stW w)
 hi:(w.noted.length:Int)≤w.high
section
variable {C:Cont}
theorem goes_at {w:Wk} (hw:WkV C w):∃ i∈dT C w.sec,i.at_=w.at_∧zci (secT C w.sec) w.at_ = .ok i∧InR C w.sec:=by
 obtain ⟨⟨h1,i,hi,he⟩,_,_⟩:=hw.st
 have he:i.at_=w.at_:=he
 exact ⟨i,hi,he,by rw [← he];exact readT_of hi,h1⟩
theorem go227 {w:Wk} {i:Ins} (hr:zci (secT C w.sec) w.at_ = .ok i) (h:i.code=227):goesW C w=([⟨(zaf i).1,0,sumT w.steps 1,sumT w.gas (gasT i.code),w.noted++[(w.sec,i.next)],maxI w.high ((w.noted.length+1:Nat):Int)⟩],nowW w (gasT i.code),true):=by
 unfold goesW;rw [hr];simp only;rw [if_pos h]
theorem go229 {w:Wk} {i:Ins} (hr:zci (secT C w.sec) w.at_ = .ok i) (h:i.code=229):goesW C w=([⟨(zaf i).1,0,sumT w.steps 1,sumT w.gas (gasT i.code),w.noted,w.high⟩],nowW w (gasT i.code),true):=by
 unfold goesW;rw [hr];simp only;rw [if_neg (by omega),if_pos h]
theorem go228 {w:Wk} {i:Ins} {p:Int × Int} {l:List (Int × Int)} (hr:zci (secT C w.sec) w.at_ = .ok i) (h:i.code=228) (hn:w.noted=l++[p]):goesW C w=([⟨p.1,p.2,sumT w.steps 1,sumT w.gas (gasT i.code),l,w.high⟩],nowW w (gasT i.code),true):=by
 unfold goesW;rw [hr];simp only;rw [if_neg (by omega),if_neg (by omega),if_pos h,hn]
 simp only [List.getLast?_append,List.getLast?_singleton,Option.some_or,List.dropLast_concat]
theorem goElse {w:Wk} {i:Ins} (hr:zci (secT C w.sec) w.at_ = .ok i) (h7:i.code≠227) (h8:i.code≠228) (h9:i.code≠229):goesW C w=((zaj i).map fun t=>⟨w.sec,t,sumT w.steps 1,sumT w.gas (gasT i.code),w.noted,w.high⟩,nowW w (gasT i.code),true):=by
 unfold goesW;rw [hr];simp only;rw [if_neg h7,if_neg h9,if_neg h8]
theorem rev_cons {α:Type} {l r:List α} {p:α} (h:l.reverse=p::r):l=r.reverse++[p]:=by
 have:=congrArg List.reverse h
 rw [List.reverse_reverse,List.reverse_cons] at this
 exact this
theorem max_ge (a b:Int):a≤maxI a b∧b≤maxI a b:=by unfold maxI;split <;> omega
theorem goes_fine (hv:VC C) {w:Wk} (hw:WkV C w):(goesW C w).2.2=true∧∀ w',Stp C w' w→WkV C w'∧w.high≤w'.high∧w'.steps=sumT w.steps 1∧(w'.noted.length≤w.noted.length+1)∧∃ g,0≤g∧g≤1000000∧w'.gas=sumT w.gas g:=by
 obtain ⟨i,hi,he,hr,hsr⟩:=goes_at hw
 obtain ⟨_,h2,h3⟩:=hw.st
 have hh:=hw.hi
 have hsp:=hv.srt _ hsr
 obtain ⟨q0,q1,q2⟩:=hsp.ins i hi
 have hg:=gasT_ok q0 q1
 obtain ⟨n,hn,hne⟩:=List.getElem_of_mem hi
 have hgi:(dT C w.sec)[n]? = some i:=by rw [← hne];exact List.getElem?_eq_getElem hn
 have behind:∀ t∈zaj i,∃ i'∈dT C w.sec,i'.at_=t:=fun t ht=>by
  obtain ⟨j,i',_,g2,g3⟩:=goes_in hsp hgi ht
  exact ⟨i',List.mem_of_getElem? g2,g3⟩
 have first:∀ k,InR C k→∃ j∈dT C k,j.at_=0:=fun k hk=>by
  obtain ⟨j,hj,hj0⟩:=place0 hv hk
  exact ⟨j,List.mem_of_getElem? hj,hj0⟩
 unfold Stp
 by_cases h7:i.code=227
 ·rw [go227 hr h7]
  have hk:=hv.call _ hsr i hi h7
  obtain ⟨i',b2,b3⟩:=behind i.next (by rw [goes_call h7];exact List.mem_singleton.2 rfl)
  have hm:=max_ge w.high ((w.noted.length+1:Nat):Int)
  refine ⟨rfl,fun w' hw'=>?_⟩
  simp only [List.mem_singleton] at hw'
  subst hw'
  refine ⟨⟨?_,by simp only [List.length_append,List.length_singleton];exact hm.2⟩,hm.1,rfl,by simp,_,hg.1,hg.2,rfl⟩
  unfold stW
  simp only [List.reverse_append,List.reverse_cons,List.reverse_nil,List.nil_append,List.singleton_append]
  exact ⟨⟨hk.1,first _ hk.1⟩,fun h=>(by cases h),⟨hsr,i',b2,b3⟩,h2,h3⟩
 by_cases h9:i.code=229
 ·rw [go229 hr h9]
  have hk:=hv.jump _ hsr i hi h9
  refine ⟨rfl,fun w' hw'=>?_⟩
  simp only [List.mem_singleton] at hw'
  subst hw'
  exact ⟨⟨⟨⟨hk.1,first _ hk.1⟩,fun h=>hk.2 (h2 h),h3⟩,hh⟩,Int.le_refl _,rfl,by simp,_,hg.1,hg.2,rfl⟩
 by_cases h8:i.code=228
 ·cases hnl:w.noted.reverse with
  | nil=>exact absurd (h2 hnl) (hv.ret _ hsr i hi h8)
  | cons p r =>
   rw [hnl] at h3
   have hnt:=rev_cons hnl
   rw [go228 hr h8 hnt]
   have hl:=congrArg List.length hnt
   simp only [List.length_append,List.length_reverse,List.length_singleton] at hl
   refine ⟨rfl,fun w' hw'=>?_⟩
   simp only [List.mem_singleton] at hw'
   subst hw'
   refine ⟨⟨?_,by simp only [List.length_reverse];omega⟩,Int.le_refl _,rfl,by simp only [List.length_reverse];omega,_,hg.1,hg.2,rfl⟩
   unfold stW
   simp only [List.reverse_reverse]
   exact h3
 ·rw [goElse hr h7 h8 h9]
  refine ⟨rfl,fun w' hw'=>?_⟩
  obtain ⟨t,ht,rfl⟩:=List.mem_map.1 hw'
  obtain ⟨i',b2,b3⟩:=behind t ht
  exact ⟨⟨⟨⟨hsr,i',b2,b3⟩,h2,h3⟩,hh⟩,Int.le_refl _,rfl,by simp,_,hg.1,hg.2,rfl⟩
theorem Rt.ok (hv:VC C) {a b:Wk} (h:Rt C a b) (ha:WkV C a):WkV C b∧a.high≤b.high:=by
 induction h with
 | refl=>exact ⟨ha,Int.le_refl _⟩
 | head h1 _ ih =>
  obtain ⟨g1,g2,_⟩:=(goes_fine hv ha).2 _ h1
  obtain ⟨k1,k2⟩:=ih g1
  exact ⟨k1,by omega⟩
theorem allRt {Q:Wk→Prop} (hQ:∀ w,(∀ y,Stp C y w→∀ w',Rt C y w'→Q w')→Q w) {w:Wk} (hA:Acc (Stp C) w):∀ w',Rt C w w'→Q w':=by
 induction hA with
 | intro w _ ih =>
  intro w' h
  cases h with
  | refl=>exact hQ w fun y hy=>ih y hy
  | head h1 h2=>exact ih _ h1 _ h2
structure Full (C:Cont) (w:Wk):Prop where
 at_:∀ (n:Nat) (i:Ins),(dT C w.sec)[n]? = some i→∃ w',Rt C w w'∧w'.sec=w.sec∧w'.at_=i.at_∧w'.noted=w.noted
 back:(tyT C w.sec).out≠128→∃ w',Rt C w w'∧stW w'=w.noted.reverse
theorem edge (hv:VC C) {w:Wk} (hw:WkV C w) {n j:Nat} {i i':Ins} (hi:(dT C w.sec)[n]? = some i) (hi':(dT C w.sec)[j]? = some i') (ha:w.at_=i.at_) (hj:j∈su (dT C w.sec) n)
  (hF:∀ y,Stp C y w→WkV C y→y.at_=0→Full C y):∃ y w',Stp C y w∧Rt C y w'∧w'.sec=w.sec∧w'.at_=i'.at_∧w'.noted=w.noted:=by
 have hsr:=hw.st.1.1
 have hid:=List.mem_of_getElem? hi
 have hr:zci (secT C w.sec) w.at_ = .ok i:=by rw [ha];exact readT_of hid
 obtain ⟨i2,hi2,hgo⟩:=su_goes (hv.srt _ hsr) hi hj
 rw [hi'] at hi2
 cases hi2
 by_cases h7:i.code=227
 ·have hst:Stp C ⟨(zaf i).1,0,sumT w.steps 1,sumT w.gas (gasT i.code),w.noted++[(w.sec,i.next)],maxI w.high ((w.noted.length+1:Nat):Int)⟩ w:=by
   unfold Stp;rw [go227 hr h7];exact List.mem_singleton.2 rfl
  have hy:=((goes_fine hv hw).2 _ hst).1
  obtain ⟨w',h1,h2⟩:=(hF _ hst hy rfl).back (hv.call _ hsr i hid h7).2
  simp only [stW,List.reverse_append,List.reverse_cons,List.reverse_nil,List.nil_append,List.singleton_append,List.cons.injEq,Prod.mk.injEq] at h2
  rw [goes_call h7,List.mem_singleton] at hgo
  exact ⟨_,w',hst,h1,h2.1.1,h2.1.2.trans hgo.symm,List.reverse_inj.1 h2.2⟩
 by_cases h9:i.code=229
 ·have hz:zaj i=[]:=goes_nil.2 ⟨by rw [h9];rfl,leads_none (by omega) (by omega) (by omega)⟩
  rw [hz] at hgo;cases hgo
 by_cases h8:i.code=228
 ·have hz:zaj i=[]:=goes_nil.2 ⟨by rw [h8];rfl,leads_none (by omega) (by omega) (by omega)⟩
  rw [hz] at hgo;cases hgo
 ·exact ⟨⟨w.sec,i'.at_,sumT w.steps 1,sumT w.gas (gasT i.code),w.noted,w.high⟩,_,by unfold Stp;rw [goElse hr h7 h8 h9];exact List.mem_map.2 ⟨_,hgo,rfl⟩,.refl,rfl,rfl,rfl⟩
theorem full (hv:VC C) {w:Wk} (hA:Acc (Stp C) w):∀ w',Rt C w w'→WkV C w'→w'.at_=0→Full C w':=by
 refine allRt (Q:=fun w=>WkV C w→w.at_=0→Full C w) (fun w ih hw h0=>?_) hA
 have hsr:=hw.st.1.1
 have at_:∀ (n:Nat) (i:Ins),(dT C w.sec)[n]? = some i→∃ w',Rt C w w'∧w'.sec=w.sec∧w'.at_=i.at_∧w'.noted=w.noted:=by
  intro n
  induction n using Nat.strongRecOn with
  | _ n ihn =>
  intro i hi
  by_cases hn:n=0
  ·subst hn
   exact ⟨w,.refl,rfl,by rw [h0,first_at hi],rfl⟩
  ·obtain ⟨m,hm,hsu⟩:=hv.pre _ hsr n (by omega) (List.getElem?_eq_some_iff.1 hi).1
   have hml:m < (dT C w.sec).length:=by have:=(List.getElem?_eq_some_iff.1 hi).1;omega
   obtain ⟨w1,r1,e1,e2,e3⟩:=ihn m hm _ (List.getElem?_eq_getElem hml)
   have hw1:=(r1.ok hv hw).1
   rw [← e1] at hi hsu
   obtain ⟨y,w2,s1,r2,f1,f2,f3⟩:=edge hv hw1 (n:=m) (j:=n) (i:=(dT C w.sec)[m]) (by rw [e1];exact List.getElem?_eq_getElem hml) hi e2 hsu fun y hy hyv hy0=>by
    obtain ⟨z,z1,z2⟩:=r1.next hy
    exact ih z z1 y z2 hyv hy0
   exact ⟨w2,r1.trans (.head s1 r2),f1.trans e1,f2,f3.trans e3⟩
 refine ⟨at_,fun ho=>?_⟩
 obtain ⟨i,hi,hc⟩:=hv.comes _ hsr ho
 obtain ⟨n,hn,hne⟩:=List.getElem_of_mem hi
 obtain ⟨w1,r1,e1,e2,e3⟩:=at_ n i (by rw [← hne];exact List.getElem?_eq_getElem hn)
 have hw1:=(r1.ok hv hw).1
 have hr:zci (secT C w1.sec) w1.at_ = .ok i:=by rw [e1,e2];exact readT_of hi
 rcases hc with h8|⟨h9,hko⟩
 ·cases hnl:w1.noted.reverse with
  | nil =>
   have:=hw1.st.2.1 hnl
   rw [e1] at this
   exact absurd this ho
  | cons p r =>
   have hnt:=rev_cons hnl
   have hst:Stp C ⟨p.1,p.2,sumT w1.steps 1,sumT w1.gas (gasT i.code),r.reverse,w1.high⟩ w1:=by
    unfold Stp;rw [go228 hr h8 hnt];exact List.mem_singleton.2 rfl
   refine ⟨_,r1.trans (.head hst .refl),?_⟩
   rw [← e3,hnl]
   unfold stW
   simp only [List.reverse_reverse]
 ·have hst:Stp C ⟨(zaf i).1,0,sumT w1.steps 1,sumT w1.gas (gasT i.code),w1.noted,w1.high⟩ w1:=by
   unfold Stp;rw [go229 hr h9];exact List.mem_singleton.2 rfl
  have hy:=((goes_fine hv hw1).2 _ hst).1
  obtain ⟨z,z1,z2⟩:=r1.next hst
  obtain ⟨w2,r2,f2⟩:=(ih z z1 _ z2 hy rfl).back hko
  exact ⟨w2,r1.trans (.head hst r2),by rw [f2,← e3]⟩
theorem most {S:WS} {R:Int} (hk:Known C S) {w:Wk} (hA:Acc (Stp C) w):WkOK C S R (stW w)→w.high≤R→0≤w.steps→0≤w.gas →
  (∃ now,Ends C w now∧now.steps=sumT w.steps (XT S.kn (stW w)).steps)∧∃ now,Ends C w now∧now.gas=sumT w.gas (XT S.kn (stW w)).gas:=by
 induction hA with
 | intro w _ ih =>
  intro hw hh s0 g0
  obtain ⟨to,g,h0,h1,he,hto,hx⟩:=goes_step hk hw hh
  rcases hx with ⟨hx1,hx⟩|⟨_,hx⟩
  ·subst hx1
   rw [hx]
   exact ⟨⟨_,.done he,rfl⟩,_,.done he,rfl⟩
  ·have hNN:∀ y∈to.map fun w'=>XT S.kn (stW w'),NN y:=fun y hy=>by obtain ⟨v,hv,rfl⟩:=List.mem_map.1 hy;exact XT_NN hk (hto v hv).1
   have hxi:=XT_is hk hw (by simp)
   rw [hx,and_is] at hxi
   simp only [Bool.true_and] at hxi
   obtain ⟨o1,_,o3,_⟩:=(orL_NN hNN).ok
   obtain ⟨⟨y,hy,_,y2⟩,z,hz,_,z2⟩:=orL_at hxi
   obtain ⟨a,ha,rfl⟩:=List.mem_map.1 hy
   obtain ⟨b,hb,rfl⟩:=List.mem_map.1 hz
   have st:∀ v∈to,Stp C v w:=fun v hv=>by unfold Stp;rw [he];exact hv
   have nn:∀ v∈to,0≤v.steps∧0≤v.gas:=fun v hv=>by
    obtain ⟨_,_,k3,k4⟩:=hto v hv
    rw [k3,k4]
    unfold sumT
    constructor <;> split <;> omega
   obtain ⟨⟨n1,e1,q1⟩,_⟩:=ih a (st a ha) (hto a ha).1 (hto a ha).2.1 (nn a ha).1 (nn a ha).2
   obtain ⟨_,n2,e2,q2⟩:=ih b (st b hb) (hto b hb).1 (hto b hb).2.1 (nn b hb).1 (nn b hb).2
   rw [hx]
   unfold andT
   rw [if_neg (by rw [hxi];simp)]
   simp only
   refine ⟨⟨n1,.step (st a ha) e1,?_⟩,n2,.step (st b hb) e2,?_⟩
   ·rw [q1,(hto a ha).2.2.1,y2]
    exact sum_assoc s0 (by decide) o1
   ·rw [q2,(hto b hb).2.2.2,z2]
    exact sum_assoc g0 h0 o3
end
def circT (C:Cont) (s:Int) (choices:List Int):Nat→Nat→List Bool→Int→Bool
 | 0,_,_,_=>false
 | f+1,n,been,a =>
  if a < 0∨a ≥ been.length then false else
  if been.getD a.toNat false=true then !(ofT C).2 else
  match zci (secT C s) a with
  | .error _=>false
  | .ok i=>if zaj i=[] then true else
   circT C s choices f (n+1) (been.set a.toNat true) ((zaj i).getD (if n < choices.length then ((choices.getD n 0).emod ((zaj i).length:Int)).toNat else 0) 0)
theorem cf_zero:∀ {l:List Bool} {k:Nat},cf l=0→l[k]?≠some false
 | [],k,h=>by simp
 | b::l,0,h=>by
  simp only [List.getElem?_cons_zero]
  intro hb
  cases hb
  simp [cf] at h
 | b::l,k+1,h=>by
  simp only [List.getElem?_cons_succ]
  refine cf_zero ?_
  simp only [cf] at h
  omega
theorem ranks {C:Cont} (hv:VC C) {s:Int} (hs:InR C s) (hl:(zch (dT C s)).length=(dT C s).length):∃ r:Int→Nat,∀ i∈dT C s,∀ t∈zaj i,r t < r i.at_:=by
 have hp:=hv.srt s hs
 have ho:=sortT_ord hp
 have hx:∀ n:Nat,∃ p:Nat,n < (dT C s).length→(zch (dT C s))[p]? = some (n:Int):=fun n=>by
  by_cases hn:n < (dT C s).length
  ·obtain ⟨p,hp,hpe⟩:=List.getElem_of_mem (nodup_all ho.nd ho.rg hl hn)
   exact ⟨p,fun _=>by rw [← hpe];exact List.getElem?_eq_getElem hp⟩
  ·exact ⟨0,fun h=>absurd h hn⟩
 obtain ⟨pos,hpos⟩:=Classical.axiomOfChoice hx
 refine ⟨fun t=>pos (plN (dT C s) t),fun i hi t ht=>?_⟩
 obtain ⟨n,hn,hne⟩:=List.getElem_of_mem hi
 have hgi:(dT C s)[n]? = some i:=by rw [← hne];exact List.getElem?_eq_getElem hn
 obtain ⟨k,hk,hkl⟩:=hp.to i hi t ht
 have e1:plN (dT C s) i.at_=n:=by unfold plN;rw [allT_place hgi];rfl
 have e2:plN (dT C s) t=k:=by unfold plN;rw [hk];rfl
 simp only [e1,e2]
 have hm:=ho.ord (pos n) n (hpos n hn) k (by rw [Int.toNat_natCast,su_get hgi];exact List.mem_map.2 ⟨t,ht,e2⟩)
 obtain ⟨q,hq,hqe⟩:=List.getElem_of_mem hm
 rw [List.length_take] at hq
 have hq2:(zch (dT C s))[q]? = some (k:Int):=by rw [← hqe,List.getElem_take];exact List.getElem?_eq_getElem _
 have hk2:=hpos k hkl
 have:q=pos k:=by
  have h1:q < (zch (dT C s)).length:=by omega
  have h2:=(List.getElem?_eq_some_iff.1 hk2).1
  have h3:(zch (dT C s))[q]=(zch (dT C s))[pos k]:=by rw [(List.getElem?_eq_some_iff.1 hq2).2,(List.getElem?_eq_some_iff.1 hk2).2]
  have hnd:=List.pairwise_iff_getElem.1 (List.nodup_iff_pairwise_ne.1 ho.nd)
  rcases Nat.lt_trichotomy q (pos k) with h|h|h
  ·exact absurd h3 (hnd _ _ h1 h2 h)
  ·exact h
  ·exact absurd h3.symm (hnd _ _ h2 h1 h)
 omega
theorem circ_ok {C:Cont} (hv:VC C) {s:Int} (hs:InR C s) {choices:List Int} {r:Int→Nat} (hr:(ofT C).2=true→∀ i∈dT C s,∀ t∈zaj i,r t < r i.at_) :
  ∀ (f n:Nat) (been:List Bool) (a:Int),f+n=(secT C s).length+1→been.length=(secT C s).length→cf been+n=(secT C s).length→(∃ i∈dT C s,i.at_=a)→((ofT C).2=true→∀ x:Nat,been.getD x false=true→r a < r (x:Int))→circT C s choices f n been a=true
 | 0,n,been,a,hf,hb,hc,hi,hk=>by omega
 | f+1,n,been,a,hf,hb,hc,hi,hk=>by
  obtain ⟨i,hi,rfl⟩:=hi
  have hrd:=readT_of hi
  have hro:=zcv hrd
  unfold circT
  rw [if_neg (by omega)]
  by_cases hbe:been.getD i.at_.toNat false=true
  ·rw [if_pos hbe]
   cases ho:(ofT C).2 with
   | false=>rfl
   | true =>
    have:=hk ho _ hbe
    rw [Int.toNat_of_nonneg hro.1] at this
    omega
  ·rw [if_neg hbe,hrd]
   simp only
   split
   ·rfl
   ·rename_i hne
    have hbf:been[i.at_.toNat]? = some false:=by
     have hl:i.at_.toNat < been.length:=by omega
     rw [List.getD_eq_getElem?_getD,List.getElem?_eq_getElem hl] at hbe
     rw [List.getElem?_eq_getElem hl]
     simpa using hbe
    have hcs:=cf_set hbf
    have hf1:f≠0:=by
     intro h0
     exact cf_zero (k:=i.at_.toNat) (show cf been=0 by omega) hbf
    have hpos:0 < (zaj i).length:=List.length_pos_iff.2 hne
    generalize hkk:(if n < choices.length then ((choices.getD n 0).emod ((zaj i).length:Int)).toNat else 0)=k
    have hkl:k < (zaj i).length:=by
     rw [← hkk]
     split
     ·have h1:=Int.emod_nonneg (choices.getD n 0) (show ((zaj i).length:Int)≠0 by omega)
      have h2:=Int.emod_lt_of_pos (choices.getD n 0) (show (0:Int) < ((zaj i).length:Int) by omega)
      have h1':0≤(choices.getD n 0).emod ((zaj i).length:Int):=h1
      have h2':(choices.getD n 0).emod ((zaj i).length:Int) < ((zaj i).length:Int):=h2
      omega
     ·exact hpos
    have htm:(zaj i).getD k 0∈zaj i:=by rw [List.getD_eq_getElem?_getD,List.getElem?_eq_getElem hkl];exact List.getElem_mem hkl
    obtain ⟨m,hm,hme⟩:=List.getElem_of_mem hi
    obtain ⟨j,i',_,g2,g3⟩:=goes_in (hv.srt s hs) (show (dT C s)[m]? = some i by rw [← hme];exact List.getElem?_eq_getElem hm) htm
    refine circ_ok hv hs hr f (n+1) _ _ (by omega) (by rw [List.length_set];exact hb) (by omega) ⟨i',List.mem_of_getElem? g2,g3⟩ fun ho x hx=>?_
    have hlt:=hr ho i hi _ htm
    by_cases hxi:i.at_.toNat=x
    ·rw [← hxi,Int.toNat_of_nonneg hro.1];exact hlt
    ·rw [zct hxi] at hx
     have:=hk ho x hx
     omega
theorem circ_all {C:Cont} (hv:VC C) {s:Int} (hs:InR C s) (choices:List Int):circT C s choices ((secT C s).length+1) 0 (List.replicate (secT C s).length false) 0=true:=by
 have hr:∃ r:Int→Nat,(ofT C).2=true→∀ i∈dT C s,∀ t∈zaj i,r t < r i.at_:=by
  cases ho:(ofT C).2 with
  | false=>exact ⟨fun _=>0,fun h=>by cases h⟩
  | true =>
   obtain ⟨S,hk,hcl,_⟩:=of_yes hv ho
   obtain ⟨r,hr⟩:=ranks hv hs (hk.inv.ord s (hcl s hs))
   exact ⟨r,fun _=>hr⟩
 obtain ⟨r,hr⟩:=hr
 obtain ⟨i,hi,hi0⟩:=place0 hv hs
 have hcf:∀ n:Nat,cf (List.replicate n false)=n:=fun n=>by
  induction n with
  | zero=>rfl
  | succ n ih=>rw [List.replicate_succ,cf,ih];simp;omega
 refine circ_ok hv hs hr _ 0 _ 0 (by omega) (by simp) (by rw [hcf];rfl) ⟨i,List.mem_of_getElem? hi,hi0⟩ fun _ x hx=>?_
 rw [List.getD_eq_getElem?_getD,List.getElem?_replicate] at hx
 split at hx <;> cases hx
section
variable {w0:World} {K:Value→World→Prop} {cb gh g:Nat} {bh:Hd} {hd:Cd} {C:Cont} {kind s:Int}
abbrev E8w (cb gh g:Nat) (bh:Hd) (hd:Cd) (C:Cont) (kind s:Int) (st:List (Option Hd)) (tp:Option Addr) (tn tc:Nat) (been:List Bool):List Ent :=
 [.own g (zbc been).toArray 4,.see 1 tp tn tc (u8s (secT C s)),codeO cb gh bh hd C kind,codeH gh st,codeR hd C st]
theorem l8_3 (hcv:CodeV C) (hv:VC C) (hl:(secT C s).length≤65535) {cp:Option Addr} {cn cc:Nat} {choices:List Int} (hcs:Sees w0 1 cp cn cc (ints choices)) {tp:Option Addr} {tn tc:Nat} (htn:tn=(secT C s).length) (kk:∀ w',Bl w0 w'→K (.bool true) w') :
  ∀ (f n:Nat) (been:List Bool) (a:Int) (st:List (Option Hd)) (wd:World),f+n=(secT C s).length+1→st.length=C.codes.length→been.length=(secT C s).length→circT C s choices f n been a=true →
   Hp zao w0 wd (E8w cb gh g bh hd C kind s st tp tn tc been)→L8_3 K (f+1) cp cn cc (some ⟨cb,0,none⟩) tp tn tc (some ⟨g,0,none⟩) tn tn a (n:Int) wd:=by
 intro f
 induction f with
 | zero=>intro n been a st wd hf hst hbl hT hh;unfold circT at hT;cases hT
 | succ f ih =>
  intro n been a st wd hf hst hbl hT hh
  unfold L8_3
  refine ifD (fun _=>?_) fun h=>by omega
  have hcl:=hcs.len
  rw [zaz] at hcl
  unfold circT at hT
  have h1:¬ a < 0:=fun h=>by rw [if_pos (.inl h)] at hT;cases hT
  have h2:¬ a ≥ (been.length:Int):=fun h=>by rw [if_pos (.inr h)] at hT;cases hT
  rw [if_neg (by rintro (h|h);exact h1 h;exact h2 h)] at hT
  refine ifD (fun h=>absurd h h1) fun _=>ifD (fun h=>by omega) fun _=>?_
  obtain ⟨k,rfl⟩:=Int.eq_ofNat_of_zero_le (show 0≤a by omega)
  have hkl:k < been.length:=by omega
  have hgb:been[k]? = some been[k]:=List.getElem?_eq_getElem hkl
  generalize been[k]=b at hgb
  have hgd:been.getD (k:Int).toNat false=b:=by rw [Int.toNat_natCast,List.getD_eq_getElem?_getD,hgb];rfl
  rw [hgd] at hT
  have hcell:(zbc been).toArray[k]? = some (.bool b):=by simp [zbc,hgb]
  unfold J8_5
  refine zcy (z:=1) (by with_unfolding_all rfl) (by with_unfolding_all rfl) (by omega) ?_
  rw [Nat.mul_one]
  refine kA ?_
  refine ldO (hh.own (b:=g) (cs:=(zbc been).toArray) (t:=4) (by repeat (first|exact List.mem_cons_self|apply List.mem_cons_of_mem))) hcell (kB ?_)
  cases b with
  | true =>
   rw [if_pos rfl] at hT
   have ho:(ofT C).2=false:=by simpa using hT
   obtain ⟨he,_⟩:=of_no ho
   refine ifBt ?_
   have hp:=((hh.front (x:=codeR hd C st) (by repeat (first|exact Pick.here|apply Pick.there))).front (x:=codeH gh st) (by repeat (first|exact Pick.here|apply Pick.there))).front (x:=codeO cb gh bh hd C kind) (by repeat (first|exact Pick.here|apply Pick.there))
   refine f15 hcv.cp hcv.sp hcv.pos hst hp fun st' w5 hst' hh=>?_
   rw [ho,he]
   repeat' first|(with_reducible first|refine kk_ ?_|refine nx hh ?_|refine allW fun w' hh=>?_|exact sd_|refine And.intro ?_ ?_|exact vr)|fail
   refine zcb ?_
   repeat' first|(with_reducible first|refine kk_ ?_|refine nx hh ?_|refine allW fun w' hh=>?_|exact sd_|refine And.intro ?_ ?_|exact vr)|fail
   exact kk _ hh.done
  | false =>
   rw [if_neg (by decide)] at hT
   refine ifBf ?_
   refine zcy (z:=1) (by with_unfolding_all rfl) (by with_unfolding_all rfl) (by omega) ?_
   first|rw [Nat.mul_one]|(dsimp only;rw [Nat.mul_one])
   refine kA ?_
   refine stOne (cs:=zbc been) hh (by repeat (first|exact Pos.here|apply Pos.there)) (by rw [zcf];exact hkl) (by with_unfolding_all rfl) rfl rfl fun w7 hh _=>?_
   rw [bools_set] at hh
   cases hrd:zci (secT C s) (k:Int) with
   | error e=>rw [hrd] at hT;cases hT
   | ok i =>
   rw [hrd] at hT
   simp only at hT
   have hro:=zcv hrd
   have hgl:=goesOn_len (i:=i) (by omega)
   refine f22 (hh.sees (SeeIn.pos (p:=tp) (n:=tn) (c:=tc))) (by omega) (fun e he=>by rw [hrd] at he;cases he) fun i' hi' b8 m w8 hb hsz hm hsee=>?_
   cases hrd.symm.trans hi'
   subst hm
   replace hh:=Hp.addSee hh hb hsz hsee
   repeat' first|(with_reducible first|refine kk_ ?_|refine nx hh ?_|refine allW fun w' hh=>?_|exact sd_|refine And.intro ?_ ?_|exact vr)|fail
   refine ifNe (fun h=>absurd rfl h) fun _=>?_
   repeat' first|(with_reducible first|refine kk_ ?_|refine nx hh ?_|refine allW fun w' hh=>?_|exact sd_|refine And.intro ?_ ?_|exact vr)|fail
   refine f23 (by omega) (by omega) (hh.sees (SeeIn.pos (p:=some ⟨b8,0,none⟩) (n:=i.imm.length) (c:=i.imm.length))) (by omega) fun p' n' c' w9 hb9 hn9 hr9 hf9=>?_
   replace hh:=hh.add (x:=.row 1 p' n' c' 3 (ints (zaj i))) hb9 hr9 hf9
   replace hh:=rowSee hh
   subst hn9
   refine kL ?_
   refine ifE (fun _=>kk _ hh.done) fun hne=>?_
   have hne':¬ zaj i=[]:=fun h=>hne (by rw [h];rfl)
   rw [if_neg hne'] at hT
   have hpos:0 < (zaj i).length:=List.length_pos_iff.2 hne'
   have step:∀ (j:Nat) (y:Int) (wy:World),Hp zao w0 wy (.see 1 p' (zaj i).length c' (ints (zaj i))::E8w cb gh g bh hd C kind s st tp tn tc (been.set k true))→y=(j:Int)→j < (zaj i).length→circT C s choices f (n+1) (been.set k true) ((zaj i).getD j 0)=true →
     J8_6 K (L8_3 K (f+1)) cp cn cc (some ⟨cb,0,none⟩) tp tn tc (some ⟨g,0,none⟩) tn tn (n:Int) p' (zaj i).length c' y wy:=by
    clear hh
    intro j y wy hh hy hj hT
    subst hy
    unfold J8_6
    refine rdI (hh.sees (SeeIn.pos (p:=p') (n:=(zaj i).length) (c:=c'))) (by with_unfolding_all rfl) (by with_unfolding_all rfl) (by omega) (by omega) fun t ht=>?_
    rw [Int.toNat_natCast] at ht
    have hgd:(zaj i).getD j 0=t:=by rw [List.getD_eq_getElem?_getD,ht];rfl
    rw [hgd] at hT
    unfold J8_4
    rw [i64w (n:=(n:Int)+1) (by omega) (by omega)]
    refine (?_:L8_3 K (f+1) cp cn cc (some ⟨cb,0,none⟩) tp tn tc (some ⟨g,0,none⟩) tn tn t ((n:Int)+1) wy)
    exact_mod_cast ih (n+1) (been.set k true) t st wy (by omega) hst (by rw [List.length_set];exact hbl) hT hh.tail
   rw [Int.toNat_natCast] at hT
   have h0:∀ {wy} {L':List Ent},Hp zao w0 wy (.see 1 p' (zaj i).length c' (ints (zaj i))::L')→True:=fun _=>trivial
   have hs2:=(hh.front (x:=.own g (zbc (been.set k true)).toArray 4) (by repeat (first|exact Pick.here|apply Pick.there))).front (x:=.see 1 p' (zaj i).length c' (ints (zaj i))) (by repeat (first|exact Pick.here|apply Pick.there))
   replace hh:=hs2.sublist (.cons_cons _ (.cons_cons _ (.cons _ (.cons _ (.refl _)))))
   refine ifD (fun hlt=>?_) fun hlt=>?_
   ·rw [if_pos (show n < choices.length by omega)] at hT
    refine rdI (hcs.bl hh.done) (by with_unfolding_all rfl) (by with_unfolding_all rfl) (by omega) (by omega) fun t ht=>?_
    rw [Int.toNat_natCast] at ht
    have hgd:choices.getD n 0=t:=by rw [List.getD_eq_getElem?_getD,ht];rfl
    rw [hgd] at hT
    refine ifD (fun h=>by omega) fun _=>?_
    have hmp:=modPos t hpos
    have e1:=Int.emod_nonneg t (show ((zaj i).length:Int)≠0 by omega)
    have e2:=Int.emod_lt_of_pos t (show (0:Int) < ((zaj i).length:Int) by omega)
    have e3:t.emod ((zaj i).length:Int)=t % ((zaj i).length:Int):=rfl
    refine ifD (fun h=>?_) fun h=>?_
    ·rw [if_pos h] at hmp
     rw [← e3,← hmp] at e1 e2
     rw [← hmp] at hT
     rw [i64w (by omega) (by omega)]
     exact step _ _ _ hh (by omega) (by omega) hT
    ·rw [if_neg h] at hmp
     rw [← e3,← hmp] at e1 e2
     rw [← hmp] at hT
     exact step _ _ _ hh (by omega) (by omega) hT
   ·rw [if_neg (show ¬ n < choices.length by omega)] at hT
    exact step 0 _ _ hh rfl hpos hT
theorem boundCircles {w:World} {p cp:Option Addr} {n c cn cc:Nat} {l:List UInt8} {section_:Int} {choices:List Int} (hs:Sees w 1 p n c (u8s l)) (hcs:Sees w 1 cp cn cc (ints choices)) (kk:∀ w',Bl w w'→K (.bool true) w') :
  zak Tryz.prog 8 #[.slice p n c,.int .i64 kind,.int .i64 section_,.slice cp cn cc] w K:=by
 refine call8 _ _ _ _ _ _ _ _ _ _ ?_
 unfold F8
 have hh:=Hp.start w
 refine f10' hh fun w1 hh=>?_
 refine kB ?_
 refine zcc ?_
 have hn:=hs.bytes
 refine ifD (fun _=>kk _ hh.done) fun h6=>?_
 refine f12 hh (hs.bl hh.done) (by omega) fun q cap w2 hh=>?_
 refine kL ?_
 refine f13 (hh.row (z:=1) (p:=q) (n:=n) (c:=cap) (e:=5) (xs:=u8s l) List.mem_cons_self).sees (by omega) (fun e he hne q2 m2 cap2 s a w3 hb3=>?_) (fun C hC cb gh bh hd w3 h3 hnew=>?_)
 ·replace hh:=hh.bl hb3
  repeat' first|(with_reducible first|refine kk_ ?_|refine nx hh ?_|refine allW fun w' hh=>?_|exact sd_|refine And.intro ?_ ?_|exact vr)|fail
  refine ifNe (fun _=>?_) fun h=>absurd h hne
  unfold J8_1
  refine ifBt ?_
  repeat' first|(with_reducible first|refine kk_ ?_|refine nx hh ?_|refine allW fun w' hh=>?_|exact sd_|refine And.intro ?_ ?_|exact vr)|fail
  first|rw [show (e != 0)=true by simpa using hne]|(dsimp only;rw [show (e != 0)=true by simpa using hne])
  exact kk _ hh.done
 ·have hV:=valid_ok hC
  have hv:=vc_of hC
  have hcp:=hv.pos
  have hc1:=hv.c1
  replace hh:=codeTake hh h3 hnew
  repeat' first|(with_reducible first|refine kk_ ?_|refine nx hh ?_|refine allW fun w' hh=>?_|exact sd_|refine And.intro ?_ ?_|exact vr)|fail
  refine ifNe (fun h=>absurd rfl h) fun _=>?_
  refine ifBf ?_
  have hco:∀ {w'} {L':List Ent},Hp zao w w' L'→codeO cb gh bh hd C kind∈L'→codeR hd C (List.replicate C.codes.length none)∈L'→Own w' cb (cellsOf gh bh hd C kind).toArray 110∧ContAt w' hd C:=fun hh h1 h2 =>
   ⟨hh.own h1,(hh.on (S:=roS hd C (List.replicate C.codes.length none)) (A:=fun w=>ContAt w hd C∧HiAt w C (List.replicate C.codes.length none)) h2).holds.1⟩
  have hx:=hco hh (by repeat (first|exact List.mem_cons_self|apply List.mem_cons_of_mem)) (by repeat (first|exact List.mem_cons_self|apply List.mem_cons_of_mem))
  refine f20 hx.1 hx.2 (kI ?_)
  unfold J8_1
  rw [decide_eq_false (by omega)]
  refine ifBf ?_
  unfold J8_0
  refine f20 hx.1 hx.2 (kI ?_)
  refine ifD (fun h=>by omega) fun _=>?_
  have J2:∀ (s:Int) (wx:World),InR C s→Hp zao w wx [codeO cb gh bh hd C kind,codeH gh (List.replicate C.codes.length none),codeR hd C (List.replicate C.codes.length none)]→J8_2 K cp cn cc (some ⟨cb,0,none⟩) s wx:=by
   intro s wx hsr hh
   have hx:=hco hh (by repeat (first|exact List.mem_cons_self|apply List.mem_cons_of_mem)) (by repeat (first|exact List.mem_cons_self|apply List.mem_cons_of_mem))
   unfold J8_2
   refine f21 hV.cp hh hx.1 hx.2 fun q2 cap2 w4 hh=>?_
   refine kL ?_
   have hsl:(secT C s).length≤65535:=by
    unfold secT
    rw [if_pos (show 0≤s∧s < (C.codes.length:Int) from hsr),List.getD_eq_getElem?_getD]
    cases hx:C.codes[s.toNat]? with
    | none=>simp
    | some l=>exact (hv.cl l (List.mem_of_getElem? hx)).2
   have hh2:=rowSee hh
   refine makeN hh2 (by with_unfolding_all rfl) (by with_unfolding_all rfl) (by with_unfolding_all rfl) (by omega) (by decide) fun w5 hh _=>?_
   refine kL ⟨(secT C s).length+1+1,?_⟩
   have e0:(List.replicate (secT C s).length (Value.bool false))=zbc (List.replicate (secT C s).length false):=by simp [zbc]
   rw [e0] at hh
   exact_mod_cast l8_3 (g:=w4.heap.size) (gh:=gh) (bh:=bh) (hd:=hd) (kind:=kind) hV hv hsl hcs rfl kk ((secT C s).length+1) 0 (List.replicate (secT C s).length false) 0 (List.replicate C.codes.length none) w5 rfl (by simp) (by simp) (circ_all hv hsr choices) hh
  have hmp:=modPos section_ hcp
  have e1:=Int.emod_nonneg section_ (show (C.codes.length:Int)≠0 by omega)
  have e2:=Int.emod_lt_of_pos section_ (show (0:Int) < (C.codes.length:Int) by omega)
  have e3:section_.emod (C.codes.length:Int)=section_ % (C.codes.length:Int):=rfl
  have hp:=((hh.front (x:=codeR hd C (List.replicate C.codes.length none)) (by repeat (first|exact Pick.here|apply Pick.there))).front (x:=codeH gh (List.replicate C.codes.length none)) (by repeat (first|exact Pick.here|apply Pick.there))).front (x:=codeO cb gh bh hd C kind) (by repeat (first|exact Pick.here|apply Pick.there))
  have hp2:=hp.sublist (.cons_cons _ (.cons_cons _ (.cons_cons _ (List.nil_sublist _))))
  refine ifD (fun h=>?_) fun h=>?_
  ·rw [if_pos h] at hmp
   refine f20 hx.1 hx.2 (kI ?_)
   rw [← e3,← hmp] at e1 e2
   rw [i64w (by omega) (by omega)]
   exact J2 _ _ ⟨e1,e2⟩ hp2
  ·rw [if_neg h] at hmp
   rw [← e3,← hmp] at e1 e2
   exact J2 _ _ ⟨e1,e2⟩ hp2
theorem boundCircles_walk (p:Option Addr) (n c:Nat) (l:List UInt8) (kind section_:Int) (cp:Option Addr) (cn cc:Nat) (choices:List Int) (W:World) (hs:Sees W 1 p n c (u8s l)) (_:(Lit.int .i64 kind).wf=true) (_:(Lit.int .i64 section_).wf=true) (hcs:Sees W 1 cp cn cc (ints choices)) :
  Calls Tryz.prog 8 #[.slice p n c,.int .i64 kind,.int .i64 section_,.slice cp cn cc] W fun e W'=>e = .returned (.bool true)∧Below W.heap.size W W' :=
 Calls.mono (boundCircles (K:=fun v w'=>v = .bool true∧Bl W w') hs hcs fun w' b=>⟨rfl,b⟩) fun e w' ⟨v,he,hv,hb⟩=>⟨by rw [he,hv],hb⟩
end
end Go.Proofs.YtlfhngoeecjfpaaGreatDoor.B
namespace Go.Proofs.YtlfhngoeecjfpaaGreatDoor.Sh
open Go Go.RowKit Go.ChangeShapes
theorem list_of {α:Type} {Q:Nat→α→Prop}:∀ n:Nat,(∀ i,i < n→∃ x,Q i x)→∃ xs:List α,xs.length=n∧∀ (i:Nat) x,xs[i]? = some x→Q i x
 | 0,h=>⟨[],rfl,fun i x hx=>by simp at hx⟩
 | n+1,h=>by
  obtain ⟨xs,h1,h2⟩:=list_of n fun i hi=>h i (by omega)
  obtain ⟨y,hy⟩:=h n (by omega)
  refine ⟨xs++[y],by simp [h1],fun i x hx=>?_⟩
  by_cases hi:i < n
  ·rw [List.getElem?_append_left (by omega)] at hx
   exact h2 i x hx
  ·by_cases he:i=n
   ·subst he
    rw [List.getElem?_append_right (by omega),h1,Nat.sub_self] at hx
    cases hx
    exact hy
   ·rw [List.getElem?_eq_none (by simp [h1];omega)] at hx
    cases hx
section
variable {H:Type} {enc:TypeId × Value→H} {P:Program} {w:World} {base b0:Nat} {sp:Nat→Bool} {held:Bool}
theorem open_see {k:IntKind} {s e:TypeId} {r:Reach} {v:Value} {d:DataW H} {ps:List MemPlace} (hs:P.underlying s=some (.slice e)) (he:P.underlying e=some (.int k)) (hc:P.cellsOf e=1)
  (hval:Value.okWide P w r b0 s v) (h:DataW.Trod enc P w base sp held s v d ps) :
  ∃ p l c,∃ xs:List Int,v = .slice p l c∧(∀ n∈xs,(Lit.int k n).wf=true)∧Sees w 1 p l c (xs.map fun n=>.int k n):=by
 obtain ⟨p,l,c,rfl⟩:=WideShapes.okWide_slice hs hval
 obtain ⟨fuel,hf⟩:=h
 rcases DataW.trod_slice hs hf with ⟨h0,_⟩|⟨a,len,cap,elems,rest,n,_,h0,_,_,hl,hm,hlen,hel,_⟩
 ·simp [Value.cells] at h0
  obtain ⟨rfl,rfl,rfl⟩:=h0
  exact ⟨_,_,_,[],rfl,fun n hn=>(by cases hn),Sees.nil w 1⟩
 ·simp [Value.cells] at h0
  obtain ⟨rfl,rfl,rfl⟩:=h0
  obtain ⟨xs,x1,x2⟩:=list_of (Q:=fun i m=>(Lit.int k m).wf=true∧w.cell? (a.add i)=some (.int k m)) l fun i hi=>by
   have h1:=hel i hi
   rw [hc] at h1
   obtain ⟨y,hy⟩:∃ y,elems[i]? = some y:=⟨_,List.getElem?_eq_getElem (by omega)⟩
   rw [hy,Option.bind_eq_some_iff] at h1
   obtain ⟨cs,hcs,hy'⟩:=h1
   obtain ⟨m,rfl,_,wm⟩:=DataW.trod_int he hy'
   have hg:=(World.cells?_some hcs).2.2 0 (by decide)
   rw [add_zero,Nat.mul_one] at hg
   exact ⟨m,wm,hg⟩
  refine ⟨_,_,_,xs,rfl,fun n hn=>?_,⟨by rw [List.length_map,x1,Nat.mul_one],by omega,fun j u hu=>?_⟩⟩
  ·obtain ⟨i,hi,rfl⟩:=List.getElem_of_mem hn
   exact (x2 i _ (List.getElem?_eq_getElem hi)).1
  ·rw [List.getElem?_map,Option.map_eq_some_iff] at hu
   obtain ⟨m,hm',rfl⟩:=hu
   exact ⟨a,rfl,(x2 j m hm').2⟩
theorem u8_of {xs:List Int} (h:∀ n∈xs,(Lit.int .u8 n).wf=true):(xs.map fun n=>Value.int .u8 n)=u8s (xs.map fun n=>UInt8.ofNat n.toNat):=by
 unfold u8s
 rw [List.map_map]
 refine List.map_congr_left fun n hn=>?_
 have:=h n hn
 simp [Lit.wf,IntKind.min,IntKind.max,IntKind.signed,IntKind.bits] at this
 simp only [Function.comp]
 congr 1
 rw [UInt8.toNat_ofNat']
 omega
end
end Go.Proofs.YtlfhngoeecjfpaaGreatDoor.Sh
