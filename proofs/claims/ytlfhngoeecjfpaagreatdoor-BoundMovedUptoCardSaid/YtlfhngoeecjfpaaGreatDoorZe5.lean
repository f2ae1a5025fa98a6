/- Lemmas of the claim, part 5. No condition. -/
import Derived.Test.YtlfhngoeecjfpaaGreatDoorZe4
set_option linter.unusedVariables false
set_option linter.unusedSimpArgs false
set_option maxRecDepth 100000
set_option maxHeartbeats 4000000
namespace Go.Proofs.YtlfhngoeecjfpaaGreatDoor.B
open Go Go.RowKit Go.Proofs.YtlfhngoeecjfpaaGreatDoor.Sh Go.Proofs.YtlfhngoeecjfpaaGreatDoor.W
def able1L:List UInt8:=madeT [(⟨0,128,2⟩,[0x5F,0x5F,0x01,0x50,0x00])]
def able2L:List UInt8:=madeT [(⟨0,128,0⟩,[0xE0,0xFF,0xFD])]
section
variable {w0:World} {K:Value→World→Prop}
theorem made1 {Z:Nat→Prop} {w0 w:World} {L:List Ent} {K:Value→World→Prop} {b1 b2:Nat} {t:Ty} {l:List UInt8} (hh:Hp Z w0 w L) (h1:Ent.own b1 (u8s l).toArray 5∈L) (h2:Ent.own b2 #[.int .i64 t.inn,.int .i64 t.out,.int .i64 t.most,.slice (some ⟨b1,0,none⟩) l.length l.length] 54∈L) (hl:l.length≤65535)
  (kk:∀ q cap w',Hp Z w0 w' (.row 1 q (madeT [(t,l)]).length cap 5 (u8s (madeT [(t,l)]))::L)→K (.slice q (madeT [(t,l)]).length cap) w') :
  zaj Tryz.prog 17 #[.slice (some ⟨b2,0,none⟩) 1 1] w K:=by
 have s1:Sees w 1 (some ⟨b1,0,none⟩) l.length l.length (u8s l):=Own.sees (hh.own h1) (u8s_len l)
 have s2:Sees w 4 (some ⟨b2,0,none⟩) 1 1 (partCells [((t,l),⟨some ⟨b1,0,none⟩,l.length,l.length⟩)]):=by
  have ho:=hh.own h2
  refine ⟨rfl,Nat.le_refl _,fun j u hu=>⟨_,rfl,?_⟩⟩
  rw [addG,ho.cell]
  simpa [partCells] using hu
 refine f17 (h:=⟨some ⟨b2,0,none⟩,1,1⟩) (pl:=[((t,l),⟨some ⟨b1,0,none⟩,l.length,l.length⟩)]) ⟨s2,fun x hx=>by simp only [List.mem_singleton] at hx;subst hx;exact s1⟩ (fun x hx=>by simp only [List.mem_singleton] at hx;subst hx;exact hl) (show (1:Nat)≤1024 by decide) fun q m cap w' hm h'=>?_
 simp only [List.map_cons,List.map_nil] at hm h'
 subst hm
 refine kk q cap w' (hh.take h' fun x hx k hk=>?_)
 simp only [List.mem_singleton] at hx
 subst hx
 exact Or.resolve_left (h'.may _ List.mem_cons_self k hk) fun h=>h
theorem f10 (h1:ofLT able1L 1=(⟨5,9,2,0⟩,true,true)) (h2:ofLT able2L 1=(⟨0,0,0,0⟩,false,true)) {Z:Nat→Prop} {w:World} {L:List Ent} (hh:Hp Z w0 w L) (kk:∀ w',Hp Z w0 w' L→K (.bool true) w'):zaj Tryz.prog 10 #[] w K:=by
 refine call10 _ _ ?_
 unfold F10
 with_reducible refine zci hh fun w1 hh _=>?_
 with_reducible refine zci hh fun w2 hh _=>?_
 generalize w.heap.size=b1 at hh ⊢
 generalize w1.heap.size=b2 at hh ⊢
 refine made1 (b1:=b1) (b2:=b2) (t:=⟨0,128,2⟩) (l:=[0x5F,0x5F,0x01,0x50,0x00]) hh (by simp [u8s]) (by simp) (by decide) fun q cap w3 hh=>?_
 refine kL ?_
 have hs:=(hh.row (z:=1) (p:=q) (n:=able1L.length) (c:=cap) (e:=5) (xs:=u8s able1L) List.mem_cons_self).sees
 refine f16 (l:=able1L) (fun C=>valid_ok) hh hs (by decide) fun w4 hh=>?_
 rw [h1]
 with_reducible repeat' first|refine kk_ ?_|refine nx hh ?_|refine allW fun w' hh=>?_|exact sd_|refine ai ?_ ?_|exact vr|fail
 refine made1 (t:=⟨0,128,0⟩) (l:=[0xE0,0xFF,0xFD]) hh (by repeat (first|exact m0|apply mS)) (by repeat (first|exact m0|apply mS)) (by decide) fun q2 cap2 w5 hh=>?_
 refine kL ?_
 have hs:=(hh.row (z:=1) (p:=q2) (n:=able2L.length) (c:=cap2) (e:=5) (xs:=u8s able2L) List.mem_cons_self).sees
 refine f16 (l:=able2L) (fun C=>valid_ok) hh hs (by decide) fun w6 hh=>?_
 first|rw [h2]|(dsimp only;rw [h2])
 with_reducible repeat' first|refine kk_ ?_|refine nx hh ?_|refine allW fun w' hh=>?_|exact sd_|refine ai ?_ ?_|exact vr|fail
 refine ifBt (ifBt ?_)
 with_reducible repeat' first|refine kk_ ?_|refine nx hh ?_|refine allW fun w' hh=>?_|exact sd_|refine ai ?_ ?_|exact vr|fail
 refine ifBt (zco (ifBt ?_))
 with_reducible repeat' first|refine kk_ ?_|refine nx hh ?_|refine allW fun w' hh=>?_|exact sd_|refine ai ?_ ?_|exact vr|fail
 exact kk _ (hh.sublist (by repeat (first|exact List.Sublist.refl _|apply List.Sublist.cons)))
end
def able1C:Cont:=⟨[⟨0,128,2⟩],[[0x5F,0x5F,0x01,0x50,0x00]],[],[],0⟩
def able2C:Cont:=⟨[⟨0,128,0⟩],[[0xE0,0xFF,0xFD]],[],[],0⟩
theorem judge_one {C:Cont} {kind:Int} {f:Nat} (hk:¬ (kind≠1∧kind≠2)) (h1:zbo C=0) (h2:(zap C kind (List.range C.codes.length) (st00 C)).1=0) (h3:C.codes.length=1) (h4:C.subs=[]):zcf (f+1) C kind=0:=by
 rw [zcf,if_neg hk,if_neg (by rw [h1];decide),if_neg (by rw [h2];decide),if_neg]
 ·unfold zdn
  rw [h4]
  rfl
 ·rintro ⟨k,hk,hn⟩
  have:k=0:=by omega
  subst this
  exact hn .zero
theorem valid_one {l:List UInt8} {kind:Int} {C:Cont} (hp:zay l false = .ok C) (hk:¬ (kind≠1∧kind≠2)) (h1:zbo C=0) (h2:(zap C kind (List.range C.codes.length) (st00 C)).1=0) (h3:C.codes.length=1) (h4:C.subs=[]):zcq l kind = .ok C:=by
 unfold zcq
 rw [if_neg hk,hp]
 simp only
 rw [judge_one hk h1 h2 h3 h4,if_neg (by decide)]
theorem able1_ok:ofLT able1L 1=(⟨5,9,2,0⟩,true,true):=by
 unfold ofLT
 rw [valid_one (C:=able1C) (by kernel_rfl) (by decide) (by kernel_rfl) (by kernel_rfl) rfl rfl]
 kernel_rfl
theorem able2_ok:ofLT able2L 1=(⟨0,0,0,0⟩,false,true):=by
 unfold ofLT
 rw [valid_one (C:=able2C) (by kernel_rfl) (by decide) (by kernel_rfl) (by kernel_rfl) rfl rfl]
 kernel_rfl
section
variable {w0 w:World} {K:Value→World→Prop} {Z:Nat→Prop} {L:List Ent}
theorem f10' (hh:Hp Z w0 w L) (kk:∀ w',Hp Z w0 w' L→K (.bool true) w'):zaj Tryz.prog 10 #[] w K:=f10 able1_ok able2_ok hh kk
end
def rep (k:Nat) (l:List UInt8):List UInt8:=(List.replicate k l).flatten
theorem appSee {P:Program} {Z:Nat→Prop} {w0 w:World} {L:List Ent} {t e ty z by' n c m d:Nat} {zv:Value} {p q:Option Addr} {xs ys:List Value} {F:Value→World→Prop} (hh:Hp Z w0 w (.row z p n c e xs::L)) (hs:Sees w z q m d ys) (hz0:0 < z) (ht:P.underlying t=some (.slice e))
  (hi:(P.info? e).map (fun i=>(i.zero,i.size,i.bytes))=some (some zv,z,by')) (hzv:zv.cells.size=z) (h1:∀ u∈ys,u.oneCell'=true) (hn:n+m≤1073741824) (hb:by'≤65536)
  (kk:∀ p' cap w',Hp Z w0 w' (.row z p' (n+m) cap e (xs++ys)::L)→F (.slice p' (n+m) cap) w'):semK P (Builtin.append_ #[t,t] ty #[.slice p n c,.slice q m d]) w F:=by
 refine appS (P:=P) (t:=t) (e:=e) (hh.row List.mem_cons_self) hs hz0 ht hi hzv h1 hn hb fun p' cap w2 hr he hq=>?_
 exact kk p' cap w2 (hh.turn .here he hr fun i hi=>(hq i hi).imp id fun h=>Nat.le_of_eq h.symm)
def putB (n:Int):Nat→List UInt8
 | 0=>[]
 | k+1=>b8 (n / 256 ^ k)::putB n k
theorem zbn (n:Int):∀ k,(putB n k).length=k
 | 0=>rfl
 | k+1=>by rw [putB,List.length_cons,zbn n k]
def tyB (t:Ty):List UInt8:=b8 t.inn::b8 t.out::putB t.most 2
def subsH (C:Cont):List UInt8:=if C.subs.length > 0 then 3::(putB C.subs.length 2++C.subs.flatMap fun p=>putB p.length 4) else []
def serZ (C:Cont):List UInt8:=C.types.flatMap tyB++(C.codes.flatten++(C.subs.flatten++C.data))
def serT (C:Cont):List UInt8 :=
 [0xEF,0,1,1]++(putB (4 * C.types.length) 2++([2]++(putB C.codes.length 2++(C.codes.flatMap (fun p=>putB p.length 2)++(subsH C++([0xFF]++(putB C.size 2++([0]++serZ C))))))))
section
variable {Z:Nat→Prop} {w0 w:World} {L:List Ent} {K:Value→World→Prop}
theorem byteAt {n:Int} {k:Nat} (h0:0≤n) (hk:k≤3):IntKind.wrap .u8 (Int.fdiv n (2 ^ (min (IntKind.wrap .i64 (8 * (k:Int))).toNat 64)))=((b8 (n / 256 ^ k)).toNat:Int):=by
 rw [Go.Proofs.YtlfhngoeecjfpaaGreatDoor.B.u8w,i64w (by omega) (by omega)]
 have:(2:Int) ^ (min (8 * (k:Int)).toNat 64)=256 ^ k:=by
  rcases (show k=0∨k=1∨k=2∨k=3 by omega) with rfl|rfl|rfl|rfl <;> rfl
 rw [this,Int.fdiv_eq_ediv_of_nonneg _ (by
  have:(0:Int) < 256 ^ k:=Int.pow_pos (by decide)
  omega)]
theorem l49_0 {n:Int} (h0:0≤n):∀ (f:Nat) (q:Option Addr) (m cap:Nat) (xs:List Value) (w:World),f≤4→m+f≤1000000000 →
  (∀ q' cap' w',Hp Z w0 w' (.row 1 q' (m+f) cap' 5 (xs++u8s (putB n f))::L)→K (.slice q' (m+f) cap') w')→Hp Z w0 w (.row 1 q m cap 5 xs::L)→L49_0 K (f+1) q m cap n ((f:Int) - 1) w:=by
 intro f
 induction f with
 | zero =>
  intro q m cap xs w hf hm kk hh
  unfold L49_0
  refine ifD (fun h=>by omega) fun _=>?_
  have:xs++u8s (putB n 0)=xs:=by simp [putB,u8s]
  rw [this] at kk
  exact kk q cap w hh
 | succ f ih =>
  intro q m cap xs w hf hm kk hh
  unfold L49_0
  have e0:(((f+1:Nat):Int)) - 1=(f:Int):=by omega
  rw [e0]
  refine ifD (fun _=>?_) fun h=>by omega
  refine ifD (fun h=>by rw [i64w (by omega) (by omega)] at h;omega) fun _=>?_
  rw [byteAt h0 (by omega)]
  repeat' first|(with_reducible first|refine kk_ ?_|refine nx hh ?_|refine allW fun w' hh=>?_|exact sd_)|((with_reducible refine appH hh (by with_unfolding_all rfl) (by with_unfolding_all rfl) (by with_unfolding_all rfl) (by with_unfolding_all rfl) (by with_unfolding_all rfl) (by with_unfolding_all rfl) (by with_unfolding_all rfl) (by omega) (by with_unfolding_all rfl) fun g9 cap9 w4 hh=>?_);(replace hh:=hh.tail))|(with_reducible first|refine And.intro ?_ ?_|exact vr)|fail
  first|rw [i64w (by omega) (by omega)]|(dsimp only;rw [i64w (by omega) (by omega)])
  refine ih _ (m+1) _ _ _ (by omega) (by omega) (fun q' cap' w' hh=>?_) hh
  have e1:xs++#[Value.int .u8 ((b8 (n / 256 ^ f)).toNat:Int)].toList++u8s (putB n f)=xs++u8s (putB n (f+1)):=by simp [u8s,putB]
  rw [e1,show m+1+f=m+(f+1) by omega] at hh
  first|rw [show m+1+f=m+(f+1) by omega]|(dsimp only;rw [show m+1+f=m+(f+1) by omega])
  exact kk _ _ _ hh
theorem f49 {n:Int} {q:Option Addr} {m cap s:Nat} {xs:List Value} (hh:Hp Z w0 w (.row 1 q m cap 5 xs::L)) (h0:0≤n) (hs:s≤4) (hm:m+s≤1000000000)
  (kk:∀ q' cap' w',Hp Z w0 w' (.row 1 q' (m+s) cap' 5 (xs++u8s (putB n s))::L)→K (.slice q' (m+s) cap') w'):zaj Tryz.prog 49 #[.slice q m cap,.int .i64 n,.int .i64 (s:Int)] w K:=by
 refine call49 _ _ _ _ _ _ _ ?_
 unfold F49
 rw [i64w (by omega) (by omega)]
 exact ⟨s+1,l49_0 h0 s q m cap xs w hs hm kk hh⟩
end
section
variable {w0:World} {K:Value→World→Prop} {h:Hd} {hs:List Hd} {ll:List (List UInt8)}
theorem drop_flat {ll:List (List UInt8)} {j:Nat} {l:List UInt8} (h:ll[j]? = some l):ll.drop j=l::ll.drop (j+1):=by
 obtain ⟨hl,rfl⟩:=List.getElem?_eq_some_iff.1 h
 exact List.drop_eq_getElem_cons hl
theorem l48_3 (a:ByL w0 h hs ll) (hn:h.n≤1000000) (kk:∀ (r:Nat) w',r≤1000000→Bl w0 w'→K (.tuple #[.int .i64 r,.int .i64 0]) w') :
  ∀ (f j r:Nat) (w:World),j+f=h.n→r+(ll.drop j).flatten.length≤1000000→Bl w0 w→L48_3 K (f+1) (r:Int) h.p h.n h.c (h.n:Int) (j:Int) w:=by
 have hl:=a.n
 intro f
 induction f with
 | zero =>
  intro j r w hj hr hb
  unfold L48_3
  refine ifD (fun h=>by omega) fun _=>?_
  exact kk r w (by omega) hb
 | succ f ih =>
  intro j r w hj hr hb
  unfold L48_3
  refine ifD (fun _=>?_) fun h=>by omega
  refine rdBy (a.bl hb) (by with_unfolding_all rfl) (by with_unfolding_all rfl) (by omega) (by omega) fun x l hx hxl hs1=>?_
  rw [Int.toNat_natCast] at hx hxl
  rw [drop_flat hxl,List.flatten_cons,List.length_append] at hr
  have hxn:=hs1.bytes
  rw [i64w (n:=(r:Int)+(x.n:Int)) (by omega) (by omega),i64w (n:=(j:Int)+1) (by omega) (by omega)]
  exact_mod_cast ih (j+1) (r+x.n) w (by omega) (by omega) hb
theorem f48 {hd:Cd} {C:Cont} {w:World} (a:ContAt w hd C) (hck:zbo C=0) (hlen:13+6 * C.codes.length+C.data.length+C.codes.flatten.length+3+4 * C.subs.length+C.subs.flatten.length≤1000000) (ht:C.types.length≤1000000)
  (kk:∀ (r:Nat) w',r≤1000000→Bl w w'→K (.tuple #[.int .i64 r,.int .i64 0]) w'):zaj Tryz.prog 48 #[contV hd C] w K:=by
 have h1:=a.tn
 have h2:=a.codes.n
 have h3:=a.subs.n
 have h4:=a.data.bytes
 refine call48 _ _ _ _ _ _ _ _ _ _ _ _ _ _ _ ?_
 unfold F48
 have hh:=Hp.start w
 with_reducible repeat' first|refine kk_ ?_|refine nx hh ?_|refine allW fun w' hh=>?_|exact sd_|refine ai ?_ ?_|exact vr|fail
 refine f64 (a.bl hh.done) (by omega) (by omega) (by omega) fun w2 hb2=>?_
 replace hh:=hh.bl hb2
 first|rw [hck]|(dsimp only;rw [hck])
 with_reducible repeat' first|refine kk_ ?_|refine nx hh ?_|refine allW fun w' hh=>?_|exact sd_|refine ai ?_ ?_|exact vr|fail
 refine ifNe (fun h=>absurd rfl h) fun _=>?_
 with_reducible repeat' first|refine kk_ ?_|refine nx hh ?_|refine allW fun w' hh=>?_|exact sd_|refine ai ?_ ?_|exact vr|fail
 first|rw [i64w (n:=6 * (hd.c.n:Int)) (by omega) (by omega),i64w (n:=13+6 * (hd.c.n:Int)) (by omega) (by omega),i64w (n:=13+6 * (hd.c.n:Int)+(hd.d.n:Int)) (by omega) (by omega)]|(dsimp only;rw [i64w (n:=6 * (hd.c.n:Int)) (by omega) (by omega),i64w (n:=13+6 * (hd.c.n:Int)) (by omega) (by omega),i64w (n:=13+6 * (hd.c.n:Int)+(hd.d.n:Int)) (by omega) (by omega)])
 generalize w.heap.size=x1 at hh ⊢
 refine ⟨hd.c.n+1,?_⟩
 have J2:∀ (r:Nat) (wx:World),r+C.subs.flatten.length≤1000000→Hp zan w wx [.own x1 #[hd.t.v,hd.c.v,hd.s.v,hd.d.v,.int .i64 C.size] 27]→J48_2 K ⟨x1,0,none⟩ (r:Int) wx:=by
  intro r wx hr hh
  unfold J48_2
  with_reducible repeat' first|refine kk_ ?_|refine nx hh ?_|refine allW fun w' hh=>?_|exact sd_|refine ai ?_ ?_|exact vr|fail
  exact ⟨hd.s.n+1,by exact_mod_cast l48_3 a.subs (by omega) kk hd.s.n 0 r wx (by omega) hr hh.done⟩
 have loop:∀ (f j r:Nat) (wx:World),j+f=hd.c.n→r+(C.codes.drop j).flatten.length+3+4 * C.subs.length+C.subs.flatten.length≤1000000→Hp zan w wx [.own x1 #[hd.t.v,hd.c.v,hd.s.v,hd.d.v,.int .i64 C.size] 27] →
   L48_1 K (f+1) ⟨x1,0,none⟩ (r:Int) hd.c.p hd.c.n hd.c.c (hd.c.n:Int) (j:Int) wx:=by
  intro f
  induction f with
  | zero =>
   intro j r wx hj hr hh
   unfold L48_1
   refine ifD (fun h=>by omega) fun _=>?_
   unfold J48_0
   with_reducible repeat' first|refine kk_ ?_|refine nx hh ?_|refine allW fun w' hh=>?_|exact sd_|refine ai ?_ ?_|exact vr|fail
   refine ifD (fun _=>?_) fun _=>J2 r wx (by omega) hh
   with_reducible repeat' first|refine kk_ ?_|refine nx hh ?_|refine allW fun w' hh=>?_|exact sd_|refine ai ?_ ?_|exact vr|fail
   first|rw [i64w (n:=4 * (hd.s.n:Int)) (by omega) (by omega),i64w (n:=3+4 * (hd.s.n:Int)) (by omega) (by omega),i64w (n:=(r:Int)+(3+4 * (hd.s.n:Int))) (by omega) (by omega)]|(dsimp only;rw [i64w (n:=4 * (hd.s.n:Int)) (by omega) (by omega),i64w (n:=3+4 * (hd.s.n:Int)) (by omega) (by omega),i64w (n:=(r:Int)+(3+4 * (hd.s.n:Int))) (by omega) (by omega)])
   exact_mod_cast J2 (r+(3+4 * hd.s.n)) wx (by omega) hh
  | succ f ih =>
   intro j r wx hj hr hh
   unfold L48_1
   refine ifD (fun _=>?_) fun h=>by omega
   refine rdBy (a.codes.bl hh.done) (by with_unfolding_all rfl) (by with_unfolding_all rfl) (by omega) (by omega) fun x l hx hxl hs1=>?_
   rw [Int.toNat_natCast] at hx hxl
   rw [drop_flat hxl,List.flatten_cons,List.length_append] at hr
   have hxn:=hs1.bytes
   rw [i64w (n:=(r:Int)+(x.n:Int)) (by omega) (by omega),i64w (n:=(j:Int)+1) (by omega) (by omega)]
   exact_mod_cast ih (j+1) (r+x.n) wx (by omega) (by omega) hh
 have:=loop hd.c.n 0 (13+6 * hd.c.n+hd.d.n) w2 (by omega) (by rw [List.drop_zero];omega) hh
 exact_mod_cast this
end
section
variable {Z:Nat→Prop} {w0 w:World} {L:List Ent} {K:Value→World→Prop}
theorem f49_2 {n:Int} {q:Option Addr} {m cap:Nat} {xs:List Value} (hh:Hp Z w0 w (.row 1 q m cap 5 xs::L)) (h0:0≤n) (hm:m+2≤1000000000)
  (kk:∀ q' cap' w',Hp Z w0 w' (.row 1 q' (m+2) cap' 5 (xs++u8s (putB n 2))::L)→K (.slice q' (m+2) cap') w'):zaj Tryz.prog 49 #[.slice q m cap,.int .i64 n,.int .i64 2] w K :=
 f49 (s:=2) hh h0 (by decide) hm kk
theorem f49_4 {n:Int} {q:Option Addr} {m cap:Nat} {xs:List Value} (hh:Hp Z w0 w (.row 1 q m cap 5 xs::L)) (h0:0≤n) (hm:m+4≤1000000000)
  (kk:∀ q' cap' w',Hp Z w0 w' (.row 1 q' (m+4) cap' 5 (xs++u8s (putB n 4))::L)→K (.slice q' (m+4) cap') w'):zaj Tryz.prog 49 #[.slice q m cap,.int .i64 n,.int .i64 4] w K :=
 f49 (s:=4) hh h0 (by decide) hm kk
end
theorem pre_le {a b l:List UInt8} (h:a++b=l) {B:Nat} (hl:l.length≤B):a.length≤B:=by
 rw [← h,List.length_append] at hl;omega
theorem u8s_app (a b:List UInt8):u8s a++u8s b=u8s (a++b):=by simp [u8s]
section
variable {w0:World} {K:Value→World→Prop} {hd:Cd} {C:Cont} {b1:Nat} {out:List UInt8}
abbrev E25 (b1:Nat) (hd:Cd) (C:Cont) (q:Option Addr) (m cap:Nat) (acc:List UInt8):List Ent :=
 [.row 1 q m cap 5 (u8s acc),.own b1 #[hd.t.v,hd.c.v,hd.s.v,hd.d.v,.int .i64 C.size] 27]
theorem l25_10 (hC:ContAt w0 hd C) (hsl:C.subs.length≤1000000) (hlen:out.length≤1000000)
  (kk:∀ q m cap w',m=out.length→Hp zan w0 w' [.row 1 q m cap 5 (u8s out)]→K (.tuple #[.slice q m cap,.int .i64 0]) w') :
  ∀ (f j:Nat) (q:Option Addr) (m cap:Nat) (acc:List UInt8) (w:World),j+f=hd.s.n→m=acc.length→acc++((C.subs.drop j).flatten++C.data)=out→Hp zan w0 w (E25 b1 hd C q m cap acc) →
   L25_10 K (f+1) ⟨b1,0,none⟩ q m cap hd.s.p hd.s.n hd.s.c (hd.s.n:Int) (j:Int) w:=by
 have hsn:=hC.subs.n
 have hdn:=hC.data.bytes
 intro f
 induction f with
 | zero =>
  intro j q m cap acc w hj hm he hh
  have hb:=pre_le he hlen
  unfold L25_10
  refine ifD (fun h=>by omega) fun _=>?_
  rw [List.drop_of_length_le (by omega),List.flatten_nil,List.nil_append] at he
  unfold J25_9
  with_reducible repeat' first|refine kk_ ?_|refine nx hh ?_|refine allW fun w' hh=>?_|exact sd_|refine ai ?_ ?_|exact vr|fail
  have hl:=congrArg List.length he
  rw [List.length_append] at hl
  refine appSee (P:=Tryz.prog) (t:=22) (e:=5) hh (hC.data.bl hh.done) (by decide) (by with_unfolding_all rfl) (by with_unfolding_all rfl) (by with_unfolding_all rfl) (u8s_one _) (by omega) (by decide) fun q2 cap2 w2 hh=>?_
  rw [u8s_app,he] at hh
  refine kL (kk _ _ _ _ (by omega) (hh.sublist (.cons_cons _ (.cons _ (.refl _)))))
 | succ f ih =>
  intro j q m cap acc w hj hm he hh
  have hb:=pre_le he hlen
  unfold L25_10
  refine ifD (fun _=>?_) fun h=>by omega
  refine rdBy (hC.subs.bl hh.done) (by with_unfolding_all rfl) (by with_unfolding_all rfl) (by omega) (by omega) fun x l hx hxl hs1=>?_
  rw [Int.toNat_natCast] at hx hxl
  rw [drop_flat hxl,List.flatten_cons] at he
  have hxn:=hs1.bytes
  have hl:=congrArg List.length he
  simp only [List.length_append] at hl
  refine appSee (P:=Tryz.prog) (t:=22) (e:=5) hh hs1 (by decide) (by with_unfolding_all rfl) (by with_unfolding_all rfl) (by with_unfolding_all rfl) (u8s_one _) (by omega) (by decide) fun q2 cap2 w2 hh=>?_
  rw [u8s_app] at hh
  refine kL ?_
  rw [i64w (n:=(j:Int)+1) (by omega) (by omega)]
  exact_mod_cast ih (j+1) q2 (m+x.n) cap2 _ w2 (by omega) (by rw [List.length_append];omega) (by rw [← he];simp only [List.append_assoc]) hh
theorem l25_8 (hC:ContAt w0 hd C) (hsl:C.subs.length≤1000000) (hcl:C.codes.length≤1000000) (hlen:out.length≤1000000)
  (kk:∀ q m cap w',m=out.length→Hp zan w0 w' [.row 1 q m cap 5 (u8s out)]→K (.tuple #[.slice q m cap,.int .i64 0]) w') :
  ∀ (f j:Nat) (q:Option Addr) (m cap:Nat) (acc:List UInt8) (w:World),j+f=hd.c.n→m=acc.length→acc++((C.codes.drop j).flatten++(C.subs.flatten++C.data))=out→Hp zan w0 w (E25 b1 hd C q m cap acc) →
   L25_8 K (f+1) ⟨b1,0,none⟩ q m cap hd.c.p hd.c.n hd.c.c (hd.c.n:Int) (j:Int) w:=by
 have hsn:=hC.codes.n
 intro f
 induction f with
 | zero =>
  intro j q m cap acc w hj hm he hh
  unfold L25_8
  refine ifD (fun h=>by omega) fun _=>?_
  rw [List.drop_of_length_le (by omega),List.flatten_nil,List.nil_append] at he
  unfold J25_7
  with_reducible repeat' first|refine kk_ ?_|refine nx hh ?_|refine allW fun w' hh=>?_|exact sd_|refine ai ?_ ?_|exact vr|fail
  exact ⟨hd.s.n+1,by exact_mod_cast l25_10 hC hsl hlen kk hd.s.n 0 q m cap acc w (by omega) hm (by rw [List.drop_zero];exact he) hh⟩
 | succ f ih =>
  intro j q m cap acc w hj hm he hh
  unfold L25_8
  refine ifD (fun _=>?_) fun h=>by omega
  refine rdBy (hC.codes.bl hh.done) (by with_unfolding_all rfl) (by with_unfolding_all rfl) (by omega) (by omega) fun x l hx hxl hs1=>?_
  rw [Int.toNat_natCast] at hx hxl
  rw [drop_flat hxl,List.flatten_cons] at he
  have hxn:=hs1.bytes
  have hl:=congrArg List.length he
  simp only [List.length_append] at hl
  refine appSee (P:=Tryz.prog) (t:=22) (e:=5) hh hs1 (by decide) (by with_unfolding_all rfl) (by with_unfolding_all rfl) (by with_unfolding_all rfl) (u8s_one _) (by omega) (by decide) fun q2 cap2 w2 hh=>?_
  rw [u8s_app] at hh
  refine kL ?_
  rw [i64w (n:=(j:Int)+1) (by omega) (by omega)]
  exact_mod_cast ih (j+1) q2 (m+x.n) cap2 _ w2 (by omega) (by rw [List.length_append];omega) (by rw [← he];simp only [List.append_assoc]) hh
theorem l25_6 (hC:ContAt w0 hd C) (hsl:C.subs.length≤1000000) (hcl:C.codes.length≤1000000) (hlen:out.length≤1000000) (hT:∀ t∈C.types,0≤t.most)
  (kk:∀ q m cap w',m=out.length→Hp zan w0 w' [.row 1 q m cap 5 (u8s out)]→K (.tuple #[.slice q m cap,.int .i64 0]) w') :
  ∀ (f j:Nat) (q:Option Addr) (m cap:Nat) (acc:List UInt8) (w:World),j+f=hd.t.n→m=acc.length→acc++((C.types.drop j).flatMap tyB++(C.codes.flatten++(C.subs.flatten++C.data)))=out→hd.t.n≤1000000→Hp zan w0 w (E25 b1 hd C q m cap acc) →
   L25_6 K (f+1) ⟨b1,0,none⟩ q m cap hd.t.p hd.t.n hd.t.c (hd.t.n:Int) (j:Int) w:=by
 have htn:=hC.tn
 intro f
 induction f with
 | zero =>
  intro j q m cap acc w hj hm he htl hh
  unfold L25_6
  refine ifD (fun h=>by omega) fun _=>?_
  rw [List.drop_of_length_le (by omega),List.flatMap_nil,List.nil_append] at he
  unfold J25_5
  with_reducible repeat' first|refine kk_ ?_|refine nx hh ?_|refine allW fun w' hh=>?_|exact sd_|refine ai ?_ ?_|exact vr|fail
  exact ⟨hd.c.n+1,by exact_mod_cast l25_8 hC hsl hcl hlen kk hd.c.n 0 q m cap acc w (by omega) hm (by rw [List.drop_zero];exact he) hh⟩
 | succ f ih =>
  intro j q m cap acc w hj hm he htl hh
  unfold L25_6
  refine ifD (fun _=>?_) fun h=>by omega
  refine rdTy (hC.types.bl hh.done) (by with_unfolding_all rfl) (by with_unfolding_all rfl) (by omega) (by omega) fun t ad ht c0 c1 c2=>?_
  rw [Int.toNat_natCast] at ht
  have h0:=hT t (List.mem_of_getElem? ht)
  have hd1:C.types.drop j=t::C.types.drop (j+1):=by
   obtain ⟨hl,rfl⟩:=List.getElem?_eq_some_iff.1 ht
   exact List.drop_eq_getElem_cons hl
  rw [hd1,List.flatMap_cons] at he
  have hl:=congrArg List.length he
  simp only [List.length_append] at hl
  repeat' first|(with_reducible first|refine kk_ ?_|refine nx hh ?_|refine allW fun w' hh=>?_|exact sd_|refine ld c0 ?_|refine ld c1 ?_|refine ld c2 ?_)|((with_reducible refine appH hh (by with_unfolding_all rfl) (by with_unfolding_all rfl) (by with_unfolding_all rfl) (by with_unfolding_all rfl) (by with_unfolding_all rfl) (by with_unfolding_all rfl) (by with_unfolding_all rfl) (by omega) (by with_unfolding_all rfl) fun g9 cap9 w4 hh=>?_);(replace hh:=hh.tail))|(with_reducible first|refine And.intro ?_ ?_|exact vr)|fail
  replace hh:=hh.tail
  refine f49_2 hh h0 (by omega) fun q2 cap2 w2 hh=>?_
  rw [u8w,u8w] at hh
  have e1:u8s acc++#[Value.int .u8 ((b8 t.inn).toNat:Int),.int .u8 ((b8 t.out).toNat:Int)].toList++u8s (putB t.most 2)=u8s (acc++tyB t):=by simp [u8s,tyB]
  rw [e1] at hh
  refine kL ?_
  first|rw [i64w (n:=(j:Int)+1) (by omega) (by omega)]|(dsimp only;rw [i64w (n:=(j:Int)+1) (by omega) (by omega)])
  exact_mod_cast ih (j+1) q2 (m+2+2) cap2 _ w2 (by omega) (by rw [List.length_append,tyB];simp only [List.length_cons,zbn];omega) (by rw [← he];simp only [List.append_assoc]) htl hh
theorem j25_2 (hC:ContAt w0 hd C) (hsl:C.subs.length≤1000000) (hcl:C.codes.length≤1000000) (hlen:out.length≤1000000) (hT:∀ t∈C.types,0≤t.most) (htl:hd.t.n≤1000000) (hsz:0≤C.size)
  (kk:∀ q m cap w',m=out.length→Hp zan w0 w' [.row 1 q m cap 5 (u8s out)]→K (.tuple #[.slice q m cap,.int .i64 0]) w')
  {q:Option Addr} {m cap:Nat} {acc:List UInt8} {w:World} (hm:m=acc.length) (he:acc++([0xFF]++(putB C.size 2++([0]++serZ C)))=out) (hh:Hp zan w0 w (E25 b1 hd C q m cap acc)) :
  J25_2 K ⟨b1,0,none⟩ q m cap w:=by
 have hb:=pre_le he hlen
 have J4:∀ (q:Option Addr) (cap:Nat) (w':World),Hp zan w0 w' [.row 1 q (m+1+2+1) cap 5 (u8s acc++#[Value.int .u8 255].toList++u8s (putB C.size 2)++#[Value.int .u8 0].toList),.own b1 #[hd.t.v,hd.c.v,hd.s.v,hd.d.v,.int .i64 C.size] 27]→J25_4 K ⟨b1,0,none⟩ q (m+1+2+1) cap w':=by
  intro q cap w' hh
  have e1:u8s acc++#[Value.int .u8 255].toList++u8s (putB C.size 2)++#[Value.int .u8 0].toList=u8s (acc++[0xFF]++putB C.size 2++[0]):=by simp [u8s]
  rw [e1] at hh
  unfold J25_4
  with_reducible repeat' first|refine kk_ ?_|refine nx hh ?_|refine allW fun w' hh=>?_|exact sd_|refine ai ?_ ?_|exact vr|fail
  exact ⟨hd.t.n+1,by exact_mod_cast l25_6 hC hsl hcl hlen hT kk hd.t.n 0 q _ cap _ w' (by omega) (by simp [zbn];omega) (by rw [List.drop_zero,← he];simp [serZ]) htl hh⟩
 unfold J25_2
 repeat' first|(with_reducible first|refine kk_ ?_|refine nx hh ?_|refine allW fun w' hh=>?_|exact sd_|exact trivial)|((with_reducible refine appH hh (by with_unfolding_all rfl) (by with_unfolding_all rfl) (by with_unfolding_all rfl) (by with_unfolding_all rfl) (by with_unfolding_all rfl) (by with_unfolding_all rfl) (by with_unfolding_all rfl) (by omega) (by with_unfolding_all rfl) fun g9 cap9 w4 hh=>?_))|(with_reducible refine f49_2 (hh.front (x:=.row 1 _ _ _ 5 _) (by repeat (first|exact Pick.here|apply Pick.there))) hsz (by omega) fun q2 cap2 w2 hh=>?_)|(with_reducible first|refine And.intro ?_ ?_|exact vr)|fail
 all_goals exact J4 _ _ _ ((hh.front (x:=.row 1 _ _ _ 5 _) (by repeat (first|exact Pick.here|apply Pick.there))).sublist (.cons_cons _ (by repeat (first|exact List.Sublist.refl _|apply List.Sublist.cons))))
theorem l25_3 (hC:ContAt w0 hd C) (hsl:C.subs.length≤1000000) (hcl:C.codes.length≤1000000) (hlen:out.length≤1000000) (hT:∀ t∈C.types,0≤t.most) (htl:hd.t.n≤1000000) (hsz:0≤C.size)
  (kk:∀ q m cap w',m=out.length→Hp zan w0 w' [.row 1 q m cap 5 (u8s out)]→K (.tuple #[.slice q m cap,.int .i64 0]) w') :
  ∀ (f j:Nat) (q:Option Addr) (m cap:Nat) (acc:List UInt8) (w:World),j+f=hd.s.n→m=acc.length→acc++((C.subs.drop j).flatMap (fun p=>putB p.length 4)++([0xFF]++(putB C.size 2++([0]++serZ C))))=out→hd.s.n≤1000000→Hp zan w0 w (E25 b1 hd C q m cap acc) →
   L25_3 K (f+1) ⟨b1,0,none⟩ q m cap hd.s.p hd.s.n hd.s.c (hd.s.n:Int) (j:Int) w:=by
 have hsn:=hC.subs.n
 intro f
 induction f with
 | zero =>
  intro j q m cap acc w hj hm he htl hh
  unfold L25_3
  refine ifD (fun h=>by omega) fun _=>?_
  rw [List.drop_of_length_le (by omega),List.flatMap_nil,List.nil_append] at he
  exact j25_2 hC hsl hcl hlen hT (by omega) hsz kk hm he hh
 | succ f ih =>
  intro j q m cap acc w hj hm he htl hh
  have hb:=pre_le he hlen
  unfold L25_3
  refine ifD (fun _=>?_) fun h=>by omega
  refine rdBy (hC.subs.bl hh.done) (by with_unfolding_all rfl) (by with_unfolding_all rfl) (by omega) (by omega) fun x l hx hxl hs1=>?_
  rw [Int.toNat_natCast] at hx hxl
  have hxn:=hs1.bytes
  rw [drop_flat hxl,List.flatMap_cons] at he
  refine f49_4 hh (by omega) (by omega) fun q2 cap2 w2 hh=>?_
  rw [u8s_app] at hh
  refine kL ?_
  rw [i64w (n:=(j:Int)+1) (by omega) (by omega)]
  exact_mod_cast ih (j+1) q2 (m+4) cap2 _ w2 (by omega) (by rw [List.length_append,zbn];omega) (by rw [← he,hxn];simp only [List.append_assoc]) htl hh
theorem l25_1 (hC:ContAt w0 hd C) (hlen:out.length≤1000000) (hT:∀ t∈C.types,0≤t.most) (htl:hd.t.n≤1000000) (hsz:0≤C.size) (hsl:C.subs.length≤1000000) (hcl:C.codes.length≤1000000)
  (kk:∀ q m cap w',m=out.length→Hp zan w0 w' [.row 1 q m cap 5 (u8s out)]→K (.tuple #[.slice q m cap,.int .i64 0]) w') :
  ∀ (f j:Nat) (q:Option Addr) (m cap:Nat) (acc:List UInt8) (w:World),j+f=hd.c.n→m=acc.length→acc++((C.codes.drop j).flatMap (fun p=>putB p.length 2)++(subsH C++([0xFF]++(putB C.size 2++([0]++serZ C)))))=out→Hp zan w0 w (E25 b1 hd C q m cap acc) →
   L25_1 K (f+1) ⟨b1,0,none⟩ q m cap hd.c.p hd.c.n hd.c.c (hd.c.n:Int) (j:Int) w:=by
 have hcn:=hC.codes.n
 have hsn:=hC.subs.n
 intro f
 induction f with
 | zero =>
  intro j q m cap acc w hj hm he hh
  have hb:=pre_le he hlen
  unfold L25_1
  refine ifD (fun h=>by omega) fun _=>?_
  rw [List.drop_of_length_le (by omega),List.flatMap_nil,List.nil_append] at he
  unfold subsH at he
  unfold J25_0
  with_reducible repeat' first|refine kk_ ?_|refine nx hh ?_|refine allW fun w' hh=>?_|exact sd_|refine ai ?_ ?_|exact vr|fail
  refine ifD (fun hp=>?_) fun hp=>?_
  ·rw [if_pos (by omega)] at he
   repeat' first|(with_reducible first|refine kk_ ?_|refine nx hh ?_|refine allW fun w' hh=>?_|exact sd_)|((with_reducible refine appH hh (by with_unfolding_all rfl) (by with_unfolding_all rfl) (by with_unfolding_all rfl) (by with_unfolding_all rfl) (by with_unfolding_all rfl) (by with_unfolding_all rfl) (by with_unfolding_all rfl) (by omega) (by with_unfolding_all rfl) fun g9 cap9 w4 hh=>?_);(replace hh:=hh.tail))|(with_reducible refine f49_2 hh (by omega) (by omega) fun q2 cap2 w2 hh=>?_)|(with_reducible first|refine And.intro ?_ ?_|exact vr)|fail
   have e1:u8s acc++#[Value.int .u8 3].toList++u8s (putB (hd.s.n:Int) 2)=u8s (acc++(3::putB (C.subs.length:Int) 2)):=by rw [hsn];simp [u8s]
   rw [e1] at hh
   exact ⟨hd.s.n+1,by exact_mod_cast l25_3 hC hsl hcl hlen hT htl hsz kk hd.s.n 0 _ _ _ _ _ (by omega) (by rw [List.length_append,List.length_cons,zbn];omega) (by rw [List.drop_zero,← he];simp) (by omega) hh⟩
  ·rw [if_neg (by omega),List.nil_append] at he
   exact j25_2 hC hsl hcl hlen hT htl hsz kk hm he hh
 | succ f ih =>
  intro j q m cap acc w hj hm he hh
  have hb:=pre_le he hlen
  unfold L25_1
  refine ifD (fun _=>?_) fun h=>by omega
  refine rdBy (hC.codes.bl hh.done) (by with_unfolding_all rfl) (by with_unfolding_all rfl) (by omega) (by omega) fun x l hx hxl hs1=>?_
  rw [Int.toNat_natCast] at hx hxl
  have hxn:=hs1.bytes
  rw [drop_flat hxl,List.flatMap_cons] at he
  refine f49_2 hh (by omega) (by omega) fun q2 cap2 w2 hh=>?_
  rw [u8s_app] at hh
  refine kL ?_
  rw [i64w (n:=(j:Int)+1) (by omega) (by omega)]
  exact_mod_cast ih (j+1) q2 (m+2) cap2 _ w2 (by omega) (by rw [List.length_append,zbn];omega) (by rw [← he,hxn];simp only [List.append_assoc]) hh
theorem f25 {w:World} (hC:ContAt w hd C) (hck:zbo C=0) (hl1:13+6 * C.codes.length+C.data.length+C.codes.flatten.length+3+4 * C.subs.length+C.subs.flatten.length≤1000000) (hlen:(serT C).length≤1000000) (htl:C.types.length≤100000) (hT:∀ t∈C.types,0≤t.most) (hsz:0≤C.size)
  (kk:∀ q m cap w',m=(serT C).length→Hp zan w w' [.row 1 q m cap 5 (u8s (serT C))]→K (.tuple #[.slice q m cap,.int .i64 0]) w'):zaj Tryz.prog 25 #[contV hd C] w K:=by
 have h1:=hC.tn
 have h2:=hC.codes.n
 have h3:=hC.subs.n
 refine call25 _ _ _ _ _ _ _ _ _ _ _ _ _ _ _ ?_
 unfold F25
 have hh:=Hp.start w
 with_reducible repeat' first|refine kk_ ?_|refine nx hh ?_|refine allW fun w' hh=>?_|exact sd_|refine ai ?_ ?_|exact vr|fail
 refine f48 (hC.bl hh.done) hck hl1 (by omega) fun r w2 hr hb2=>?_
 replace hh:=hh.bl hb2
 with_reducible repeat' first|refine kk_ ?_|refine nx hh ?_|refine allW fun w' hh=>?_|exact sd_|refine ai ?_ ?_|exact vr|fail
 refine ifNe (fun h=>absurd rfl h) fun _=>?_
 refine makeRZ (z:=1) hh (by with_unfolding_all rfl) (by with_unfolding_all rfl) (by with_unfolding_all rfl) (by with_unfolding_all rfl) (by with_unfolding_all rfl) (by omega) (by with_unfolding_all rfl) fun w3 hh=>?_
 generalize w.heap.size=b1 at hh ⊢
 repeat' first|(with_reducible first|refine kk_ ?_|refine nx hh ?_|refine allW fun w' hh=>?_|exact sd_)|((with_reducible refine appH hh (by with_unfolding_all rfl) (by with_unfolding_all rfl) (by with_unfolding_all rfl) (by with_unfolding_all rfl) (by with_unfolding_all rfl) (by with_unfolding_all rfl) (by with_unfolding_all rfl) (by omega) (by with_unfolding_all rfl) fun g9 cap9 w4 hh=>?_);(replace hh:=hh.tail))|(with_reducible first|refine And.intro ?_ ?_|exact vr)|fail
 first|rw [i64w (n:=4 * (hd.t.n:Int)) (by omega) (by omega)]|(dsimp only;rw [i64w (n:=4 * (hd.t.n:Int)) (by omega) (by omega)])
 refine f49_2 hh (by omega) (by omega) fun q2 cap2 w2 hh=>?_
 repeat' first|(with_reducible first|refine kk_ ?_|refine nx hh ?_|refine allW fun w' hh=>?_|exact sd_)|((with_reducible refine appH hh (by with_unfolding_all rfl) (by with_unfolding_all rfl) (by with_unfolding_all rfl) (by with_unfolding_all rfl) (by with_unfolding_all rfl) (by with_unfolding_all rfl) (by with_unfolding_all rfl) (by omega) (by with_unfolding_all rfl) fun g9 cap9 w4 hh=>?_);(replace hh:=hh.tail))|(with_reducible first|refine And.intro ?_ ?_|exact vr)|fail
 refine f49_2 hh (by omega) (by omega) fun q2 cap2 w2 hh=>?_
 have e1:[]++#[Value.int .u8 239,.int .u8 0,.int .u8 1,.int .u8 1].toList++u8s (putB (4 * (hd.t.n:Int)) 2)++#[Value.int .u8 2].toList++u8s (putB (hd.c.n:Int) 2)=u8s ([0xEF,0,1,1]++putB (4 * C.types.length) 2++[2]++putB C.codes.length 2):=by
  first|rw [h1,h2];simp [u8s]|(dsimp only;rw [h1,h2];simp [u8s])
 rw [e1] at hh
 with_reducible repeat' first|refine kk_ ?_|refine nx hh ?_|refine allW fun w' hh=>?_|exact sd_|refine ai ?_ ?_|exact vr|fail
 exact ⟨hd.c.n+1,by exact_mod_cast l25_1 hC hlen hT (by omega) hsz (by omega) (by omega) kk hd.c.n 0 _ _ _ _ _ (by omega) (by simp [zbn]) (by rw [List.drop_zero];unfold serT;simp only [List.append_assoc]) hh⟩
end
theorem beP2 {n:Int} (h0:0≤n) (h1:n < 65536):beT (putB n 2)=n:=by
 simp [putB,beT,b8_nat];omega
theorem beP4 {n:Int} (h0:0≤n) (h1:n < 4294967296):beT (putB n 4)=n:=by
 simp [putB,beT,b8_nat];omega
theorem sizesT_put {s:Nat}:∀ (r:List (List UInt8)) (A B:List UInt8),(∀ p∈r,0 < p.length∧beT (putB (p.length:Int) s)=p.length) →
  zcr (A++r.flatMap (fun p=>putB (p.length:Int) s)++B) s r.length A.length = .ok (r.map fun p=>(p.length:Int))
 | [],A,B,h=>rfl
 | p::r,A,B,h=>by
  obtain ⟨h0,h1⟩:=h p List.mem_cons_self
  have he:A++(p::r).flatMap (fun p=>putB (p.length:Int) s)++B=A++putB (p.length:Int) s++(r.flatMap (fun p=>putB (p.length:Int) s)++B):=by simp
  have he2:A++putB (p.length:Int) s++(r.flatMap (fun p=>putB (p.length:Int) s)++B)=(A++putB (p.length:Int) s)++r.flatMap (fun p=>putB (p.length:Int) s)++B:=by simp
  have ih:=sizesT_put (s:=s) r (A++putB (p.length:Int) s) B fun q hq=>h q (List.mem_cons_of_mem _ hq)
  have g:zbq (A++(p::r).flatMap (fun p=>putB (p.length:Int) s)++B) A.length s = .ok (p.length:Int):=by
   rw [he];exact Eq.trans (fieldT_at rfl (zbn _ _).symm) (by rw [h1])
  rw [List.length_cons,zcr,g]
  simp only
  rw [if_pos (by omega)]
  have hl:A.length+s=(A++putB (p.length:Int) s).length:=by rw [List.length_append,zbn]
  rw [hl,he,he2,ih]
  rfl
theorem typesT_put:∀ (r:List Ty) (first:Bool) (A B:List UInt8),(∀ (j:Nat) t,r[j]? = some t→fitT (first && decide (j=0)) t=true)→zdh (A++r.flatMap tyB++B) r.length A.length first = .ok r
 | [],first,A,B,h=>rfl
 | t::r,first,A,B,h=>by
  have hp:=h 0 t rfl
  simp only [decide_true,Bool.and_true] at hp
  obtain ⟨i0,i1,o0,o1,m0,m1,f1,f2,f3⟩:=fit_rng hp
  have ih:=typesT_put r false (A++tyB t) B fun j q hq=>by
   have:=h (j+1) q (by simpa using hq)
   simpa using this
  have e1:A++(t::r).flatMap tyB++B=A++[b8 t.inn]++(b8 t.out::(putB t.most 2++(r.flatMap tyB++B))):=by simp [tyB]
  have e2:A++(t::r).flatMap tyB++B=(A++[b8 t.inn])++[b8 t.out]++(putB t.most 2++(r.flatMap tyB++B)):=by simp [tyB]
  have e3:A++(t::r).flatMap tyB++B=(A++[b8 t.inn,b8 t.out])++putB t.most 2++(r.flatMap tyB++B):=by simp [tyB]
  have e4:A++(t::r).flatMap tyB++B=(A++tyB t)++r.flatMap tyB++B:=by simp [tyB]
  have g1:zbq (A++(t::r).flatMap tyB++B) A.length 1 = .ok t.inn:=by rw [e1];exact Eq.trans (fieldT_at rfl rfl) (by rw [be1 _ i0 (by omega)])
  have g2:zbq (A++(t::r).flatMap tyB++B) (A.length+1) 1 = .ok t.out:=by rw [e2];exact Eq.trans (fieldT_at (by simp) rfl) (by rw [be1 _ o0 (by omega)])
  have g3:zbq (A++(t::r).flatMap tyB++B) (A.length+1+1) 2 = .ok t.most:=by rw [e3];exact Eq.trans (fieldT_at (by simp) (zbn _ _).symm) (by rw [beP2 m0 (by omega)])
  have hl:A.length+1+1+2=(A++tyB t).length:=by simp [tyB,zbn]
  rw [List.length_cons,zdh,g1]
  simp only
  rw [if_pos f1,g2]
  simp only
  rw [if_pos f2,g3]
  simp only
  rw [if_pos f3,hl,e4,ih]
theorem cutT_put:∀ (r:List (List UInt8)) (A B:List UInt8),cutT (A++r.flatten++B) A.length (r.map fun p=>(p.length:Int))=r
 | [],A,B=>rfl
 | p::r,A,B=>by
  have he:A++(p::r).flatten++B=A++p++(r.flatten++B):=by simp
  have he2:A++p++(r.flatten++B)=(A++p)++r.flatten++B:=by simp
  rw [List.map_cons,cutT,Int.toNat_natCast]
  have h1:((A++(p::r).flatten++B).drop A.length).take p.length=p:=by rw [he];simp
  have hl:A.length+p.length=(A++p).length:=by simp
  rw [h1,he,he2,hl,cutT_put r (A++p) B]
theorem sum_flat (l:List (List UInt8)):(l.map fun p=>(p.length:Int)).sum=(l.flatten.length:Int):=by
 induction l with
 | nil=>rfl
 | cons p r ih=>simp only [List.map_cons,List.sum_cons,List.flatten_cons,List.length_append,ih];omega
theorem tyB_len (l:List Ty):(l.flatMap tyB).length=4 * l.length:=by
 induction l with
 | nil=>rfl
 | cons t r ih=>rw [List.flatMap_cons,List.length_append,ih,tyB];simp only [List.length_cons,zbn];omega
theorem putL_len (s:Nat) (l:List (List UInt8)):(l.flatMap fun p=>putB (p.length:Int) s).length=l.length * s:=by
 induction l with
 | nil=>simp
 | cons p r ih=>rw [List.flatMap_cons,List.length_append,ih,zbn,List.length_cons,Nat.succ_mul];omega
structure SerOK (C:Cont):Prop where
 pos:0 < C.codes.length
 c1:C.codes.length≤1024
 ct:C.types.length=C.codes.length
 cl:∀ p∈C.codes,0 < p.length∧p.length≤65535
 s1:C.subs.length≤256
 sl:∀ p∈C.subs,0 < p.length∧(p.length:Int)≤4294967295
 sz:C.size=C.data.length
 s2:C.size≤65535
 fit:∀ (j:Nat) t,C.types[j]? = some t→fitT (decide (j=0)) t=true
theorem body_ser {C:Cont} (h:SerOK C) (A:List UInt8):bodyT (A++(putB C.size 2++([0]++serZ C))) false A.length (4 * (C.codes.length:Int)) C.codes.length (C.codes.map fun p=>(p.length:Int)) (C.subs.map fun p=>(p.length:Int)) = .ok C:=by
 have hsz:=h.sz
 have hs2:=h.s2
 have hct:=h.ct
 have hN:(A++(putB C.size 2++([0]++serZ C))).length=A.length+2+1+4 * C.codes.length+C.codes.flatten.length+C.subs.flatten.length+C.data.length:=by
  unfold serZ
  simp only [List.length_append,zbn,tyB_len,List.length_cons,List.length_nil]
  omega
 have size:zbq (A++(putB C.size 2++([0]++serZ C))) A.length 2 = .ok C.size:=by
  rw [show A++(putB C.size 2++([0]++serZ C))=A++putB C.size 2++([0]++serZ C) by simp]
  exact Eq.trans (fieldT_at rfl (zbn _ _).symm) (by rw [beP2 (by omega) (by omega)])
 have zero:wantT (A++(putB C.size 2++([0]++serZ C))) (A.length+2) 0 53 = .ok ():=by
  have g:zbq (A++(putB C.size 2++([0]++serZ C))) (A.length+2) 1 = .ok 0:=by
   rw [show A++(putB C.size 2++([0]++serZ C))=(A++putB C.size 2)++[0]++serZ C by simp]
   exact fieldT_at (by rw [List.length_append,zbn]) rfl
  unfold wantT
  rw [g];rfl
 have hB:(A++putB C.size 2++[0]).length=A.length+2+1:=by simp [zbn]
 have types:zdh (A++(putB C.size 2++([0]++serZ C))) C.codes.length (A.length+2+1) true = .ok C.types:=by
  rw [show A++(putB C.size 2++([0]++serZ C))=(A++putB C.size 2++[0])++C.types.flatMap tyB++(C.codes.flatten++(C.subs.flatten++C.data)) by simp [serZ],← hB,← hct]
  exact typesT_put C.types true _ _ fun j t ht=>by rw [Bool.true_and];exact h.fit j t ht
 have hC:(A++putB C.size 2++[0]++C.types.flatMap tyB).length=A.length+2+1+4 * C.codes.length:=by rw [List.length_append,hB,tyB_len,hct]
 have cut:cutT (A++(putB C.size 2++([0]++serZ C))) (A.length+2+1+4 * C.codes.length) (C.codes.map fun p=>(p.length:Int))=C.codes:=by
  rw [show A++(putB C.size 2++([0]++serZ C))=(A++putB C.size 2++[0]++C.types.flatMap tyB)++C.codes.flatten++(C.subs.flatten++C.data) by simp [serZ],← hC]
  exact cutT_put C.codes _ _
 have hD:(A++putB C.size 2++[0]++C.types.flatMap tyB++C.codes.flatten).length=A.length+2+1+4 * C.codes.length+C.codes.flatten.length:=by rw [List.length_append,hC]
 have cut2:cutT (A++(putB C.size 2++([0]++serZ C))) (A.length+2+1+4 * C.codes.length+C.codes.flatten.length) (C.subs.map fun p=>(p.length:Int))=C.subs:=by
  rw [show A++(putB C.size 2++([0]++serZ C))=(A++putB C.size 2++[0]++C.types.flatMap tyB++C.codes.flatten)++C.subs.flatten++C.data by simp [serZ],← hD]
  exact cutT_put C.subs _ _
 have hE:(A++putB C.size 2++[0]++C.types.flatMap tyB++C.codes.flatten++C.subs.flatten).length=A.length+2+1+4 * C.codes.length+C.codes.flatten.length+C.subs.flatten.length:=by rw [List.length_append,hD]
 have rest:(A++(putB C.size 2++([0]++serZ C))).drop (A.length+2+1+4 * C.codes.length+C.codes.flatten.length+C.subs.flatten.length)=C.data:=by
  rw [show A++(putB C.size 2++([0]++serZ C))=(A++putB C.size 2++[0]++C.types.flatMap tyB++C.codes.flatten++C.subs.flatten)++C.data by simp [serZ],← hE]
  exact List.drop_left
 generalize A++(putB C.size 2++([0]++serZ C))=l at *
 unfold bodyT
 have g1:(!(decide ((l.length:Int) < (A.length:Int)+2+1+4 * (C.codes.length:Int)+(C.codes.map fun p=>(p.length:Int)).sum+(C.subs.map fun p=>(p.length:Int)).sum) || (!false && decide ((l.length:Int) < (A.length:Int)+2+1+4 * (C.codes.length:Int)+(C.codes.map fun p=>(p.length:Int)).sum+(C.subs.map fun p=>(p.length:Int)).sum+C.size))))=true:=by
  rw [sum_flat,sum_flat,hN,decide_eq_false (by omega),decide_eq_false (by omega)];rfl
 have g2:decide ((l.length:Int)≤(A.length:Int)+2+1+4 * (C.codes.length:Int)+(C.codes.map fun p=>(p.length:Int)).sum+(C.subs.map fun p=>(p.length:Int)).sum+C.size)=true:=by
  rw [sum_flat,sum_flat,hN,decide_eq_true (by omega)]
 rw [size,zaq,zero,zaq,g1,askT_t,zaq,g2,askT_t,zaq,Int.toNat_natCast,types,zaq,sum_flat,sum_flat,Int.toNat_natCast,Int.toNat_natCast,cut,cut2,rest]
theorem parse_ser {C:Cont} (h:SerOK C):zay (serT C) false = .ok C:=by
 have hpos:=h.pos
 have hc1:=h.c1
 have hct:=h.ct
 have hs1:=h.s1
 have pre:∀ {A X B:List UInt8} {k s:Nat},serT C=A++X++B→k=A.length→s=X.length→zbq (serT C) k s = .ok (beT X):=fun he hk hs=>by rw [he];exact fieldT_at hk hs
 have want:∀ {A B:List UInt8} {x:UInt8} {k:Nat} {e:Int},serT C=A++[x]++B→k=A.length→wantT (serT C) k (x.toNat:Int) e = .ok ():=fun he hk=>by
  have g:=pre (s:=1) he hk rfl
  unfold wantT
  rw [g]
  simp [beT]
 have hser:serT C=[0xEF,0,1,1]++(putB (4 * C.types.length) 2++([2]++(putB C.codes.length 2++(C.codes.flatMap (fun p:List UInt8=>putB p.length 2)++(subsH C++([0xFF]++(putB C.size 2++([0]++serZ C)))))))):=rfl
 have w0:=want (A:=[]) (e:=51) (x:=0xEF) (k:=0) hser rfl
 have w1:=want (A:=[0xEF]) (e:=51) (x:=0) (k:=1) hser rfl
 have w2:=want (A:=[0xEF,0]) (e:=52) (x:=1) (k:=2) hser rfl
 have w3:=want (A:=[0xEF,0,1]) (e:=53) (x:=1) (k:=3) hser rfl
 have four:=pre (A:=[0xEF,0,1,1]) (X:=putB (4 * C.types.length) 2) (k:=4) (s:=2) (B:=[2]++(putB C.codes.length 2++(C.codes.flatMap (fun p:List UInt8=>putB p.length 2)++(subsH C++([0xFF]++(putB C.size 2++([0]++serZ C))))))) (by rw [hser];simp) rfl (zbn _ _).symm
 rw [beP2 (by omega) (by omega)] at four
 have w6:=want (A:=[0xEF,0,1,1]++putB (4 * C.types.length) 2) (e:=53) (x:=2) (k:=6) (B:=putB C.codes.length 2++(C.codes.flatMap (fun p:List UInt8=>putB p.length 2)++(subsH C++([0xFF]++(putB C.size 2++([0]++serZ C)))))) (by rw [hser];simp) (by simp [zbn])
 have num:=pre (A:=[0xEF,0,1,1]++putB (4 * C.types.length) 2++[2]) (X:=putB C.codes.length 2) (k:=7) (s:=2) (B:=C.codes.flatMap (fun p:List UInt8=>putB p.length 2)++(subsH C++([0xFF]++(putB C.size 2++([0]++serZ C))))) (by rw [hser];simp) (by simp [zbn]) (zbn _ _).symm
 rw [beP2 (by omega) (by omega)] at num
 have hA:([0xEF,0,1,1]++putB (4 * C.types.length) 2++[2]++putB C.codes.length 2).length=9:=by simp [zbn]
 have sizes:zcr (serT C) 2 C.codes.length 9 = .ok (C.codes.map fun p=>(p.length:Int)):=by
  have:=sizesT_put (s:=2) C.codes ([0xEF,0,1,1]++putB (4 * C.types.length) 2++[2]++putB C.codes.length 2) (subsH C++([0xFF]++(putB C.size 2++([0]++serZ C)))) fun p hp=>⟨(h.cl p hp).1,by have:=(h.cl p hp).2;rw [beP2 (by omega) (by omega)]⟩
  rw [hA] at this
  rw [← this,hser]
  congr 1
  try simp
 have hB:([0xEF,0,1,1]++putB (4 * C.types.length) 2++[2]++putB C.codes.length 2++C.codes.flatMap (fun p:List UInt8=>putB p.length 2)).length=9+C.codes.length * 2:=by rw [List.length_append,hA,putL_len]
 have e4:(askT (decide ((4 * (C.types.length:Int)) > 0) && (decide ((4 * (C.types.length:Int)) % 4=0) && decide ((4 * (C.types.length:Int))≤4096))) 54 4) = .ok ():=by
  rw [decide_eq_true (by omega),decide_eq_true (by omega),decide_eq_true (by omega)];rfl
 have e5:(4 * (C.codes.length:Int) == 4 * (C.types.length:Int))=true:=by rw [hct];simp
 unfold zay
 rw [show (239:Int)=((0xEF:UInt8).toNat:Int) from rfl,w0,zaq,show (0:Int)=((0:UInt8).toNat:Int) from rfl,w1,zaq,show (1:Int)=((1:UInt8).toNat:Int) from rfl,w2,zaq,w3,zaq,four,zaq]
 rw [show (((0:UInt8).toNat:Int))=0 from rfl,e4,zaq]
 unfold codesT
 rw [show (2:Int)=((2:UInt8).toNat:Int) from rfl,w6,zaq,num,zaq,e5,askT_t,zaq,Int.toNat_natCast,sizes,zaq]
 rw [hct]
 by_cases hsub:C.subs.length > 0
 ·have hsh:subsH C=3::(putB C.subs.length 2++C.subs.flatMap fun p=>putB p.length 4):=by unfold subsH;rw [if_pos hsub]
  have kind:=pre (A:=[0xEF,0,1,1]++putB (4 * C.types.length) 2++[2]++putB C.codes.length 2++C.codes.flatMap (fun p:List UInt8=>putB p.length 2)) (X:=[3]) (k:=9+C.codes.length * 2) (s:=1) (B:=putB C.subs.length 2++(C.subs.flatMap (fun p:List UInt8=>putB p.length 4)++([0xFF]++(putB C.size 2++([0]++serZ C))))) (by rw [hser,hsh];simp) hB.symm rfl
  rw [show beT [3]=3 from rfl] at kind
  rw [kind,zaq,show (decide ((3:Int)=3) || decide ((3:Int)=255))=true from rfl,askT_t,zaq]
  unfold kindT
  rw [if_pos rfl]
  have cnt:=pre (A:=[0xEF,0,1,1]++putB (4 * C.types.length) 2++[2]++putB C.codes.length 2++C.codes.flatMap (fun p:List UInt8=>putB p.length 2)++[3]) (X:=putB C.subs.length 2) (k:=9+C.codes.length * 2+1) (s:=2) (B:=C.subs.flatMap (fun p:List UInt8=>putB p.length 4)++([0xFF]++(putB C.size 2++([0]++serZ C)))) (by rw [hser,hsh];simp) (by rw [List.length_append,hB];rfl) (zbn _ _).symm
  rw [beP2 (by omega) (by omega)] at cnt
  have hA2:([0xEF,0,1,1]++putB (4 * C.types.length) 2++[2]++putB C.codes.length 2++C.codes.flatMap (fun p:List UInt8=>putB p.length 2)++[3]++putB C.subs.length 2).length=9+C.codes.length * 2+1+2:=by rw [List.length_append,List.length_append,hB,zbn];rfl
  have sizes2:zcr (serT C) 4 C.subs.length (9+C.codes.length * 2+1+2) = .ok (C.subs.map fun p=>(p.length:Int)):=by
   have:=sizesT_put (s:=4) C.subs ([0xEF,0,1,1]++putB (4 * C.types.length) 2++[2]++putB C.codes.length 2++C.codes.flatMap (fun p:List UInt8=>putB p.length 2)++[3]++putB C.subs.length 2) ([0xFF]++(putB C.size 2++([0]++serZ C))) fun p hp=>⟨(h.sl p hp).1,by have:=(h.sl p hp).2;rw [beP4 (by omega) (by omega)]⟩
   rw [hA2] at this
   rw [← this,hser,hsh]
   congr 1
   try simp
  have hB2:([0xEF,0,1,1]++putB (4 * C.types.length) 2++[2]++putB C.codes.length 2++C.codes.flatMap (fun p:List UInt8=>putB p.length 2)++[3]++putB C.subs.length 2++C.subs.flatMap (fun p:List UInt8=>putB p.length 4)).length=9+C.codes.length * 2+1+2+C.subs.length * 4:=by rw [List.length_append,hA2,putL_len]
  have w255:=want (A:=[0xEF,0,1,1]++putB (4 * C.types.length) 2++[2]++putB C.codes.length 2++C.codes.flatMap (fun p:List UInt8=>putB p.length 2)++[3]++putB C.subs.length 2++C.subs.flatMap (fun p:List UInt8=>putB p.length 4)) (e:=53) (x:=0xFF) (k:=9+C.codes.length * 2+1+2+C.subs.length * 4) (B:=putB C.size 2++([0]++serZ C)) (by rw [hser,hsh];simp) hB2.symm
  have e6:(askT (decide ((C.subs.length:Int) > 0) && decide ((C.subs.length:Int)≤256)) 57 ((9+C.codes.length * 2+1:Nat):Int)) = .ok ():=by
   rw [decide_eq_true (by omega),decide_eq_true (by omega)];rfl
  rw [cnt,zaq,e6,zaq,Int.toNat_natCast,sizes2,zaq,show (255:Int)=((0xFF:UInt8).toNat:Int) from rfl,w255,zaq]
  have:=body_ser h ([0xEF,0,1,1]++putB (4 * C.types.length) 2++[2]++putB C.codes.length 2++C.codes.flatMap (fun p:List UInt8=>putB p.length 2)++[3]++putB C.subs.length 2++C.subs.flatMap (fun p:List UInt8=>putB p.length 4)++[0xFF])
  rw [List.length_append,hB2] at this
  rw [← this,hser,hsh]
  congr 1
  try simp
 ·have hnil:C.subs=[]:=List.length_eq_zero_iff.1 (by omega)
  have hsh:subsH C=[]:=by unfold subsH;rw [if_neg hsub]
  have kind:=pre (A:=[0xEF,0,1,1]++putB (4 * C.types.length) 2++[2]++putB C.codes.length 2++C.codes.flatMap (fun p:List UInt8=>putB p.length 2)) (X:=[0xFF]) (k:=9+C.codes.length * 2) (s:=1) (B:=putB C.size 2++([0]++serZ C)) (by rw [hser,hsh];simp) hB.symm rfl
  rw [show beT [0xFF]=255 from rfl] at kind
  rw [kind,zaq,show (decide ((255:Int)=3) || decide ((255:Int)=255))=true from rfl,askT_t,zaq]
  unfold kindT
  rw [if_neg (by decide)]
  have:=body_ser h ([0xEF,0,1,1]++putB (4 * C.types.length) 2++[2]++putB C.codes.length 2++C.codes.flatMap (fun p:List UInt8=>putB p.length 2)++[0xFF])
  rw [List.length_append,hB,hnil] at this
  rw [← this,hser,hsh]
  congr 1
  try simp
def sh (i:Ins):Ins:=⟨i.at_+1,i.code,i.imm,i.next+1⟩
def nopI:Ins:=⟨0,91,[],1⟩
section
variable {x:UInt8} {l:List UInt8}
theorem readT_sh {a:Int} (h:0≤a):zcl (x::l) (a+1)=match zcl l a with|.ok i=>.ok (sh i)|.error e=>.error e:=by
 obtain ⟨k,rfl⟩:=Int.eq_ofNat_of_zero_le h
 have e1:((k:Int)+1).toNat=k+1:=by omega
 have e2:(x::l).getD (k+1) 0=l.getD k 0:=by simp
 have e3:(x::l).drop (k+1+1)=l.drop (k+1):=List.drop_succ_cons
 have e4:((x::l).length:Int)=(l.length:Int)+1:=by simp
 unfold zcl
 rw [e1,e2,e3,e4,Int.toNat_natCast]
 by_cases c1:(k:Int) ≥ l.length
 ·rw [if_neg (show ¬ (k:Int)+1 < 0 by omega),if_pos (show (k:Int)+1 ≥ (l.length:Int)+1 by omega),if_neg (show ¬ (k:Int) < 0 by omega),if_pos c1]
 ·rw [if_neg (show ¬ (k:Int)+1 < 0 by omega),if_neg (show ¬ (k:Int)+1 ≥ (l.length:Int)+1 by omega),if_neg (show ¬ (k:Int) < 0 by omega),if_neg c1]
  cases ho:opT ((l.getD k 0).toNat:Int) with
  | none=>rfl
  | some r =>
   simp only
   by_cases c2:(lenT r.imm (l.drop (k+1))).2=false
   ·rw [if_pos c2,if_pos c2]
   ·rw [if_neg c2,if_neg c2]
    by_cases c3:(lenT r.imm (l.drop (k+1))).1 > (l.length:Int) - (k:Int) - 1
    ·rw [if_pos c3,if_pos (by omega)]
    ·rw [if_neg c3,if_neg (by omega)]
     simp only [sh]
     congr 2
     omega
theorem allF_sh:∀ (f:Nat) (a:Int),0≤a→allF (x::l) f (a+1)=(allF l f a).map sh
 | 0,a,_=>rfl
 | f+1,a,h=>by
  rw [allF,allF,readT_sh h]
  cases hr:zcl l a with
  | error e=>rfl
  | ok i =>
   have:=zdb hr
   simp only
   rw [List.map_cons]
   show sh i::allF (x::l) f (i.next+1)=_
   rw [allF_sh f i.next (by omega)]
theorem readT_nop:zcl (0x5B::l) 0 = .ok nopI:=readT_enc (x:=(0x5B,[])) ⟨_,rfl,rfl⟩ [] l
theorem allT_nop:allT (0x5B::l)=nopI::(allT l).map sh:=by
 unfold allT
 rw [List.length_cons,allF,readT_nop]
 show nopI::allF (0x5B::l) (l.length+1) (0+1)=_
 rw [allF_sh _ 0 (Int.le_refl 0)]
theorem stands_mem {i:Ins} (hi:i∈allT l) (hl:l.length≤1048576):zcu i.at_ i.code i.imm i.next=true:=by
 have hr:=readT_of hi
 obtain ⟨h0,h1,_,h2,h3,h4,h5,h6,h7,h8⟩:=zdb hr
 obtain ⟨k,hk⟩:=Int.eq_ofNat_of_zero_le h0
 unfold zcl at hr
 rw [if_neg (by omega),if_neg (by omega)] at hr
 cases ho:opT ((l.getD i.at_.toNat 0).toNat:Int) with
 | none=>rw [ho] at hr;cases hr
 | some r =>
  rw [ho] at hr
  simp only at hr
  split at hr
  ·cases hr
  rename_i c2
  split at hr
  ·cases hr
  rename_i c3
  have hi2:=Except.ok.inj hr
  have hc:i.code=((l.getD i.at_.toNat 0).toNat:Int):=by rw [← hi2]
  have him:i.imm=(l.drop (i.at_.toNat+1)).take (lenT r.imm (l.drop (i.at_.toNat+1))).1.toNat:=by
   have:=congrArg Ins.imm hi2
   exact this.symm
  have hnx:i.next=i.at_+1+(lenT r.imm (l.drop (i.at_.toNat+1))).1:=by
   have:=congrArg Ins.next hi2
   exact this.symm
  unfold zcu
  rw [hc,ho]
  simp only
  rw [decide_eq_true (by omega),decide_eq_true (by omega)]
  have hlen:(lenT r.imm (l.drop (i.at_.toNat+1))).1=(i.imm.length:Int):=by omega
  -- what is read of the bytes behind is read of the bytes taken
  have key:lenT r.imm i.imm=lenT r.imm (l.drop (i.at_.toNat+1)):=by
   unfold lenT at c2 hlen ⊢
   by_cases hm:r.imm = -1
   ·rw [if_pos hm] at c2 hlen
    rw [if_pos hm,if_pos hm]
    cases hd:l.drop (i.at_.toNat+1) with
    | nil=>rw [hd] at c2;simp at c2
    | cons b l' =>
     rw [hd] at hlen
     simp only at hlen
     rw [him,hd]
     have:(lenT r.imm (b::l')).1.toNat=((1+2 * ((b.toNat:Int)+1)).toNat - 1)+1:=by
      unfold lenT;rw [if_pos hm];simp only;omega
     rw [this,List.take_succ_cons]
   ·rw [if_neg hm,if_neg hm]
  rw [key,hlen,hnx]
  simp only [Bool.not_eq_false] at c2
  rw [c2,hlen]
  simp
theorem mem_sh {i:Ins} (hi:i∈allT l):sh i∈allT (0x5B::l):=by
 rw [allT_nop];exact List.mem_cons_of_mem _ (List.mem_map_of_mem hi)
theorem stands_sh {i:Ins} (hi:i∈allT l) (hl:l.length < 65535):zcu i.at_ i.code i.imm i.next=true∧zcu (i.at_+1) i.code i.imm (i.next+1)=true :=
 ⟨stands_mem hi (by omega),stands_mem (l:=0x5B::l) (mem_sh hi) (by simp;omega)⟩
theorem named_sh {i:Ins} (hi:i∈allT l) (hl:l.length < 65535):zae (sh i)=zae i:=by
 obtain ⟨h1,h2⟩:=stands_sh hi hl
 unfold zae sh
 rw [h1,h2]
theorem i16_rng (n:Int) : -32768≤IntKind.wrap .i16 n∧IntKind.wrap .i16 n≤32767:=by
 simp [IntKind.wrap,IntKind.bits,IntKind.signed]
 split <;> omega
theorem pairs_sh:∀ (l:List UInt8) (n:Int),0≤n→n≤100000→pairsT (n+1) l=(pairsT n l).map (· + 1)
 | [],n,_,_=>rfl
 | [a],n,_,_=>rfl
 | a::b::l,n,h0,h1=>by
  have hw : -32768≤IntKind.wrap .i16 (pairT [a,b])∧IntKind.wrap .i16 (pairT [a,b])≤32767:=i16_rng _
  rw [pairsT,pairsT,List.map_cons,pairs_sh l n h0 h1,i64w (n:=IntKind.wrap .i16 (pairT [a,b])) (by omega) (by omega),i64w (by omega) (by omega),i64w (by omega) (by omega)]
  congr 1
  omega
theorem leads_sh {i:Ins} (hi:i∈allT l) (hl:l.length < 65535):zas (sh i)=(zas i).map (· + 1):=by
 obtain ⟨h1,h2⟩:=stands_sh hi hl
 have hr:=zdb (readT_of hi)
 unfold zas sh
 rw [h1,h2]
 simp only [if_true]
 by_cases c1:i.code=226
 ·rw [if_pos c1,if_pos c1];exact pairs_sh _ _ (by omega) (by omega)
 ·rw [if_neg c1,if_neg c1]
  by_cases c2:i.code=224∨i.code=225
  ·rw [if_pos c2,if_pos c2];exact pairs_sh _ _ (by omega) (by omega)
  ·rw [if_neg c2,if_neg c2];rfl
theorem nop_leads:zas nopI=[]:=leads_none (by decide) (by decide) (by decide)
theorem nop_goes:zam nopI=[1]:=by
 unfold zam
 rw [nop_leads];rfl
theorem goes_sh {i:Ins} (hi:i∈allT l) (hl:l.length < 65535):zam (sh i)=(zam i).map (· + 1):=by
 unfold zam
 rw [leads_sh hi hl,List.map_append]
 congr 1
 show (if zde i.code=true then [] else [i.next+1])=_
 by_cases h:zde i.code=true
 ·rw [if_pos h,if_pos h];rfl
 ·rw [if_neg h,if_neg h];rfl
theorem placeR_sh {t:Int} (ht:0≤t):∀ r:List Ins,placeR (r.map sh++[nopI]) (t+1)=(placeR r t).map (· + 1)
 | []=>by
  show placeR [nopI] (t+1)=none
  rw [placeR,if_neg (show ¬ t+1=nopI.at_ by unfold nopI;simp only;omega)];rfl
 | i::r=>by
  rw [List.map_cons,List.cons_append,placeR,placeR,placeR_sh ht r,List.length_append,List.length_map]
  by_cases h:t=i.at_
  ·rw [if_pos h,if_pos (show t+1=(sh i).at_ by unfold sh;simp only;omega)];rfl
  ·rw [if_neg h,if_neg (show ¬ t+1=(sh i).at_ by unfold sh;simp only;omega)]
theorem place_sh (d:List Ins) {t:Int} (ht:0≤t):zbz (nopI::d.map sh) (t+1)=(zbz d t).map (· + 1):=by
 unfold zbz
 rw [List.reverse_cons,← List.map_reverse]
 exact placeR_sh ht d.reverse
end
section
variable {l:List UInt8} {d:List Ins} {ts:List Ty} {own:Ty}
theorem foldl_sh:∀ (d:List Ins) (acc:List Bool) (b:Bool),(∀ i∈d,0≤i.at_)→(d.map sh).foldl (fun acc i=>acc.set i.at_.toNat true) (b::acc)=b::d.foldl (fun acc i=>acc.set i.at_.toNat true) acc
 | [],acc,b,_=>rfl
 | i::d,acc,b,h=>by
  have h0:=h i List.mem_cons_self
  rw [List.map_cons,List.foldl_cons,List.foldl_cons]
  have e:(sh i).at_.toNat=i.at_.toNat+1:=by unfold sh;simp only;omega
  rw [e,List.set_cons_succ]
  exact foldl_sh d _ b fun j hj=>h j (List.mem_cons_of_mem _ hj)
theorem starts_sh:zbj (0x5B::l)=true::zbj l:=by
 unfold zbj startsF
 rw [allT_nop,List.length_cons,List.foldl_cons]
 show ((allT l).map sh).foldl _ ((List.replicate (l.length+1) false).set 0 true)=_
 rw [List.replicate_succ,List.set_cons_zero]
 exact foldl_sh _ _ _ fun i hi=>(allT_props hi).1
theorem bad_sh {n:Nat} {st:List Bool} {L:List Int} (h:badL n st L=false):badL (n+1) (true::st) (L.map (· + 1))=false:=by
 unfold badL at h ⊢
 rw [List.any_eq_false] at h ⊢
 intro t ht
 obtain ⟨u,hu,rfl⟩:=List.mem_map.1 ht
 have:=h u hu
 simp only [Bool.or_eq_true,decide_eq_true_eq,not_or,Bool.not_eq_true',Bool.not_eq_false] at this ⊢
 obtain ⟨⟨h1,h2⟩,h3⟩:=this
 refine ⟨⟨by omega,by omega⟩,?_⟩
 have e:(u+1).toNat=u.toNat+1:=by omega
 rw [e]
 simpa using h3
theorem scan_sh (h:zdz l = .ok (allT l)):zdz (0x5B::l) = .ok (allT (0x5B::l)):=by
 have hl:∀ i,(allT l).getLast? = some i→(allT (0x5B::l)).getLast? = some (sh i):=fun i hi=>by
  rw [allT_nop,List.getLast?_cons,List.getLast?_map,hi];rfl
 obtain ⟨_,hne,i,hi,he⟩:=scanT_ok h
 unfold zdz at h ⊢
 split at h
 ·cases h
 rename_i h1
 have e1:nextT (allT l)=i.next:=by unfold nextT;rw [hi]
 have e2:nextT (allT (0x5B::l))=i.next+1:=by unfold nextT;rw [hl i hi];rfl
 rw [e1] at h1
 rw [e2,if_neg (by simp only [List.length_cons];omega),if_neg (by rw [allT_nop];simp),hl i hi]
 simp only
 have he':zde (sh i).code=true:=he
 show (if zde (sh i).code=true then (Except.ok (allT (0x5B::l)):Except (Int × Int) (List Ins)) else .error (62,lastT (allT (0x5B::l)))) = .ok (allT (0x5B::l))
 rw [if_pos he']
theorem check_sh (hl:l.length < 65535) (h:(checkT l).1=0):(checkT (0x5B::l)).1=0:=by
 unfold checkT at h ⊢
 cases hs:zdz l with
 | error x=>rw [hs] at h;simp only at h;have:=scanT_err (l:=l) (e:=x.1) (a:=x.2) hs;rw [h] at this;cases this
 | ok d =>
  obtain ⟨hd,_⟩:=scanT_ok hs
  subst hd
  rw [hs] at h
  rw [scan_sh hs]
  simp only at h ⊢
  have hb:∀ (d:List Ins),(∀ i∈d,i∈allT l)→zcg l.length (zbj l) d=none→zcg (l.length+1) (true::zbj l) (d.map sh)=none:=by
   intro d
   induction d with
   | nil=>intro _ _;rfl
   | cons i d ih =>
    intro hm hn
    rw [zcg] at hn
    split at hn
    ·cases hn
    rename_i hb
    rw [List.map_cons,zcg,leads_sh (hm i List.mem_cons_self) hl,bad_sh (by simpa using hb),if_neg (by decide)]
    exact ih (fun j hj=>hm j (List.mem_cons_of_mem _ hj)) hn
  have hn:zcg l.length (zbj l) (allT l)=none:=by
   cases hq:zcg l.length (zbj l) (allT l) with
   | none=>rfl
   | some i=>unfold badR at h;rw [hq] at h;cases h
  unfold badR
  rw [allT_nop,starts_sh,List.length_cons,zcg,nop_leads,if_neg (by simp [badL]),hb _ (fun i hi=>hi) hn]
theorem tyAt_sh {i:Ins} (hi:i∈allT l) (hl:l.length < 65535):tyAt ts (sh i)=tyAt ts i:=by
 unfold tyAt;rw [named_sh hi hl]
theorem turns_sh {i:Ins} (hi:i∈allT l) (hl:l.length < 65535):zbe ts own (sh i)=zbe ts own i:=by
 unfold zbe;rw [tyAt_sh hi hl];rfl
theorem wrong_sh {i:Ins} (hi:i∈allT l) (hl:l.length < 65535) {lo hh:Int}:wrongT ts own (sh i) lo hh=wrongT ts own i lo hh:=by
 unfold wrongT;rw [turns_sh hi hl,tyAt_sh hi hl];rfl
theorem named_okP {i:Ins} (hi:i∈allT l) (hl:l.length < 65535):namedP ts own (sh i)=namedP ts own i:=by
 unfold namedP;rw [tyAt_sh hi hl,named_sh hi hl];rfl
theorem right_sh (hl:l.length < 65535) {s:Int} {d:List Ins} (h:zcw ts s l=some (own,d)):zcw ts s (0x5B::l)=some (own,allT (0x5B::l)):=by
 unfold zcw at h ⊢
 split at h
 ·cases h
 rename_i h1
 split at h
 ·cases h
 rename_i h2
 split at h
 ·cases h
 rename_i h3
 split at h
 ·cases h
 rename_i h4
 split at h
 ·rename_i h5
  simp only [Option.some.injEq,Prod.mk.injEq] at h
  obtain ⟨ho,_⟩:=h
  have hc:=check_sh hl (by simpa using h4)
  rw [if_neg h1,if_neg h2,if_neg h3,if_neg (by rw [hc];decide),if_pos,ho]
  rw [allT_nop,List.all_cons,Bool.and_eq_true]
  refine ⟨rfl,?_⟩
  rw [List.all_eq_true] at h5 ⊢
  intro j hj
  obtain ⟨i,hi,rfl⟩:=List.mem_map.1 hj
  rw [named_okP hi hl]
  exact h5 i hi
 ·cases h
theorem pass_sh {n to:Nat} {go h0:Int × Int} {hv:List (Int × Int)} {met:List Bool} {b:Bool} :
  zdu (n+1) (to+1) go (h0::hv) (b::met)=((zdu n to go hv met).1,h0::(zdu n to go hv met).2.1,b::(zdu n to go hv met).2.2):=by
 unfold zdu
 by_cases h:to≤n
 ·rw [if_pos h,if_pos (by omega)];simp
 ·rw [if_neg h,if_neg (by omega)]
  by_cases h2:met.getD to false=false
  ·have h3:(b::met).getD (to+1) false=false:=by simpa using h2
   rw [if_pos h2,if_pos h3];simp
  ·have h3:¬ (b::met).getD (to+1) false=false:=by simpa using h2
   rw [if_neg h2,if_neg h3];simp
theorem leadsP_sh {n:Nat} {go h0:Int × Int} {b:Bool}:∀ {L:List Int} {hv:List (Int × Int)} {met:List Bool},(∀ t∈L,0≤t∧∃ k,zbz d t=some k) →
  zce (nopI::d.map sh) (n+1) go (L.map (· + 1)) (h0::hv) (b::met)=((zce d n go L hv met).1,h0::(zce d n go L hv met).2.1,b::(zce d n go L hv met).2.2)
 | [],hv,met,_=>rfl
 | t::L,hv,met,h=>by
  obtain ⟨h0',k,hk⟩:=h t List.mem_cons_self
  have e1:(zbz (nopI::d.map sh) (t+1)).getD 0=k+1:=by rw [place_sh d h0',hk];rfl
  have e2:(zbz d t).getD 0=k:=by rw [hk];rfl
  rw [List.map_cons,zce,zce,e1,e2,pass_sh]
  simp only
  split
  ·exact leadsP_sh fun u hu=>h u (List.mem_cons_of_mem _ hu)
  ·rfl
theorem hGo_sh (hl:l.length < 65535) {h0:Int × Int} (hlead:∀ i∈allT l,∀ t∈zas i,0≤t∧∃ k,zbz (allT l) t=some k) :
  ∀ {r:List Ins} {n:Nat} {hv hv':List (Int × Int)} {met:List Bool},(∀ i∈r,i∈allT l)→hGo ts own (allT l) r n hv met = .ok hv'→hGo ts own (nopI::(allT l).map sh) (r.map sh) (n+1) (h0::hv) (true::met) = .ok (h0::hv')
 | [],n,hv,hv',met,_,h=>by
  rw [hGo] at h
  rw [List.map_nil,hGo]
  rw [Except.ok.inj h]
 | i::r,n,hv,hv',met,hm,h=>by
  have hi:=hm i List.mem_cons_self
  rw [hGo] at h
  split at h
  ·cases h
  rename_i h1
  split at h
  ·cases h
  rename_i h2
  split at h
  ·rename_i h3
   have e0:(true::met).getD (n+1) false=met.getD n false:=by simp
   have e1:(h0::hv).getD (n+1) (0,0)=hv.getD n (0,0):=by simp
   have e2:goT ts own (sh i) (hv.getD n (0,0))=goT ts own i (hv.getD n (0,0)):=by unfold goT;rw [turns_sh hi hl]
   have e3:zdj (sh i) (n+1) (goT ts own i (hv.getD n (0,0))) (h0::hv) (true::met)=(h0::(zdj i n (goT ts own i (hv.getD n (0,0))) hv met).1,true::(zdj i n (goT ts own i (hv.getD n (0,0))) hv met).2):=by
    unfold zdj
    show (if zde i.code=true then _ else _)=_
    by_cases he:zde i.code=true
    ·rw [if_pos he,if_pos he]
    ·rw [if_neg he,if_neg he,pass_sh]
   have e4:=leadsP_sh (d:=allT l) (n:=n) (go:=goT ts own i (hv.getD n (0,0))) (h0:=h0) (b:=true) (L:=zas i) (hv:=(zdj i n (goT ts own i (hv.getD n (0,0))) hv met).1) (met:=(zdj i n (goT ts own i (hv.getD n (0,0))) hv met).2) (hlead i hi)
   rw [List.map_cons,hGo,e0,if_neg h1,e1,wrong_sh hi hl,if_neg h2,e2,e3,leads_sh hi hl]
   simp only
   rw [e4]
   simp only
   rw [if_pos h3]
   exact hGo_sh hl hlead (fun j hj=>hm j (List.mem_cons_of_mem _ hj)) h
  ·cases h
theorem pass_keep {n to j:Nat} {go:Int × Int} {hv:List (Int × Int)} {met:List Bool} (h:j≤n):(zdu n to go hv met).2.1.getD j (0,0)=hv.getD j (0,0):=by
 unfold zdu
 split
 ·rfl
 split
 ·exact zcv (by omega)
 ·exact zcv (by omega)
theorem leadsP_keep {n j:Nat} {go:Int × Int} (hj:j≤n):∀ {L:List Int} {hv:List (Int × Int)} {met:List Bool},(zce d n go L hv met).2.1.getD j (0,0)=hv.getD j (0,0)
 | [],hv,met=>rfl
 | t::L,hv,met=>by
  rw [zce]
  split
  ·rw [leadsP_keep hj,pass_keep hj]
  ·exact pass_keep hj
theorem hGo_keep {j:Nat}:∀ {r:List Ins} {n:Nat} {hv hv':List (Int × Int)} {met:List Bool},j≤n→hGo ts own d r n hv met = .ok hv'→hv'.getD j (0,0)=hv.getD j (0,0)
 | [],n,hv,hv',met,_,h=>by rw [hGo] at h;rw [Except.ok.inj h]
 | i::r,n,hv,hv',met,hj,h=>by
  rw [hGo] at h
  split at h
  ·cases h
  split at h
  ·cases h
  split at h
  ·rw [hGo_keep (by omega) h,leadsP_keep hj]
   unfold zdj
   split
   ·rfl
   ·exact pass_keep hj
  ·cases h
theorem hGo_len:∀ {r:List Ins} {n:Nat} {hv hv':List (Int × Int)} {met:List Bool},hGo ts own d r n hv met = .ok hv'→hv'.length=hv.length
 | [],n,hv,hv',met,h=>by rw [hGo] at h;rw [Except.ok.inj h]
 | i::r,n,hv,hv',met,h=>by
  rw [hGo] at h
  split at h
  ·cases h
  split at h
  ·cases h
  split at h
  ·rw [hGo_len h,leadsP_len,nextP_len]
  ·cases h
def shT (t:Ty):Ty:=⟨t.inn+1,t.out,t.most⟩
theorem hts_sh:∀ (d:List Ins) (hv:List (Int × Int)),htsT (d.map sh) hv=(htsT d hv).map shT
 | [],hv=>rfl
 | i::d,[]=>rfl
 | i::d,h::hv=>by
  have:=hts_sh d hv
  unfold htsT at this ⊢
  rw [List.map_cons,List.zipWith_cons_cons,List.zipWith_cons_cons,List.map_cons,this];rfl
theorem heights_sh (hl:l.length < 65535) {s:Int} {hs:List Ty} (h:zbb ts s l = .ok hs) (hin:0≤(ts.getD s.toNat ⟨0,0,0⟩).inn∧(ts.getD s.toNat ⟨0,0,0⟩).inn≤127) :
  zbb ts s (0x5B::l) = .ok (⟨0,(ts.getD s.toNat ⟨0,0,0⟩).inn,(ts.getD s.toNat ⟨0,0,0⟩).inn⟩::hs.map shT)∧∃ r,hs=⟨0,(ts.getD s.toNat ⟨0,0,0⟩).inn,(ts.getD s.toNat ⟨0,0,0⟩).inn⟩::r:=by
 unfold zbb at h ⊢
 cases hr:zcw ts s l with
 | none=>rw [hr] at h;cases h
 | some x =>
  obtain ⟨own,d⟩:=x
  obtain ⟨hrp,hd⟩:=rightP hr
  subst hd
  have hown:own=ts.getD s.toNat ⟨0,0,0⟩:=by
   unfold zcw at hr
   split at hr
   ·cases hr
   split at hr
   ·cases hr
   split at hr
   ·cases hr
   split at hr
   ·cases hr
   split at hr
   ·simp only [Option.some.injEq,Prod.mk.injEq] at hr
    exact hr.1.symm
   ·cases hr
  rw [hr] at h
  rw [right_sh hl hr]
  simp only at h ⊢
  rw [← hown] at hin ⊢
  cases hg:hGo ts own (allT l) (allT l) 0 ((List.replicate (allT l).length (0,0)).set 0 (own.inn,own.inn)) ((List.replicate (allT l).length false).set 0 true) with
  | error x=>rw [hg] at h;cases h
  | ok hv =>
   rw [hg] at h
   simp only at h
   have hs':=Except.ok.inj h
   have hne:=hrp.ne
   obtain ⟨m,hm⟩:∃ m,(allT l).length=m+1:=⟨(allT l).length - 1,by have:=List.length_pos_iff.2 hne;omega⟩
   have hlead:∀ i∈allT l,∀ t∈zas i,0≤t∧∃ k,zbz (allT l) t=some k:=fun i hi t ht=>by
    obtain ⟨k,hk,_⟩:=hrp.leads i hi t ht
    obtain ⟨_,i',hi',he⟩:=placeT_at hk
    exact ⟨by rw [← he];exact (allT_props (List.mem_of_getElem? hi')).1,k,hk⟩
   have g:=hGo_sh (ts:=ts) (own:=own) hl (h0:=(own.inn,own.inn)) hlead (fun i hi=>hi) hg
   have hk0:=hGo_keep (j:=0) (Nat.zero_le _) hg
   rw [hm] at hk0
   have e0:((List.replicate (m+1) ((0:Int),(0:Int))).set 0 (own.inn,own.inn)).getD 0 (0,0)=(own.inn,own.inn):=by rw [List.replicate_succ];rfl
   rw [e0] at hk0
   have hfirst:hGo ts own (nopI::(allT l).map sh) (nopI::(allT l).map sh) 0 ((List.replicate (nopI::(allT l).map sh).length (0,0)).set 0 (own.inn,own.inn)) ((List.replicate (nopI::(allT l).map sh).length false).set 0 true) = .ok ((own.inn,own.inn)::hv):=by
    rw [List.length_cons,List.length_map,hm,show List.replicate (m+1+1) ((0:Int),(0:Int))=(0,0)::List.replicate (m+1) (0,0) from List.replicate_succ,show List.replicate (m+1+1) false=false::List.replicate (m+1) false from List.replicate_succ,List.set_cons_zero,List.set_cons_zero,hGo]
    have t0:zbe ts own nopI=(0,0):=rfl
    have w0:wrongT ts own nopI own.inn own.inn=0:=by
     unfold wrongT
     rw [t0,if_neg (show ¬ nopI.code=228 by decide)]
     simp only
     rw [if_neg (by omega),if_neg (show ¬ ((nopI.code=227∨nopI.code=229)∧_) from fun h=>absurd h.1 (by decide)),if_neg (show ¬ nopI.code=229 by decide),if_neg (by omega)]
    rw [if_neg (by simp)]
    simp only [List.getD_cons_zero]
    rw [w0,if_neg (by decide)]
    have g0:goT ts own nopI (own.inn,own.inn)=(own.inn,own.inn):=by unfold goT;rw [t0];simp
    have n0:zdj nopI 0 (own.inn,own.inn) ((own.inn,own.inn)::List.replicate (m+1) (0,0)) (true::List.replicate (m+1) false)=((own.inn,own.inn)::(List.replicate (m+1) (0,0)).set 0 (own.inn,own.inn),true::(List.replicate (m+1) false).set 0 true):=by
     unfold zdj
     rw [if_neg (show ¬ zde nopI.code=true by decide)]
     unfold zdu
     rw [if_neg (by decide),if_pos (by rw [List.replicate_succ];rfl)]
     rfl
    rw [g0,nop_leads,n0]
    rw [zce]
    simp only [if_true]
    rw [hm] at g
    exact g
   rw [allT_nop,hfirst]
   simp only
   constructor
   ·congr 1
    unfold htsT
    rw [List.zipWith_cons_cons]
    have:=hts_sh (allT l) hv
    unfold htsT at this
    rw [this,← hs'];rfl
   ·cases hv with
    | nil =>
     simp only [List.getD_nil,Prod.mk.injEq] at hk0
     exfalso
     have hlen:=hGo_len hg
     rw [hm] at hlen
     simp at hlen
    | cons h0 hv =>
     simp only [List.getD_cons_zero] at hk0
     subst hk0
     cases hal:allT l with
     | nil=>exact absurd hal hne
     | cons i d' =>
      rw [hal] at hs'
      have:i.at_=0:=first_at (l:=l) (by rw [hal];rfl)
      refine ⟨htsT d' hv,?_⟩
      rw [← hs',← this]
      rfl
end
def nopC (C:Cont):Cont:=⟨C.types,(0x5B::C.codes.getD 0 [])::C.codes.tail,C.subs,C.data,C.size⟩
section
variable {C:Cont} {kind:Int}
theorem zeb (h:0 < C.codes.length):(nopC C).codes.length=C.codes.length:=by
 unfold nopC;simp only [List.length_cons,List.length_tail];omega
theorem nop_code0:(nopC C).codes.getD 0 []=0x5B::C.codes.getD 0 []:=rfl
theorem nop_codeS {s:Nat} (hs:s≠0):(nopC C).codes.getD s []=C.codes.getD s []:=by
 obtain ⟨k,rfl⟩:∃ k,s=k+1:=⟨s - 1,by omega⟩
 cases hc:C.codes with
 | nil=>unfold nopC;rw [hc];simp
 | cons a r=>unfold nopC;rw [hc];simp
theorem names_sh (hl:(C.codes.getD 0 []).length < 65535) {st0:List Bool} {s:Nat} {i:Ins} {st:JS} (hi:i∈allT (C.codes.getD 0 [])) (h:(zca C kind st0 s i st).1=0):zca (nopC C) kind (true::st0) s (sh i) st=zca C kind st0 s i st:=by
 have hb:badL st0.length st0 (zas i)=false:=by
  cases hq:badL st0.length st0 (zas i) with
  | false=>rfl
  | true =>
   exfalso
   unfold zca at h
   rw [hq] at h
   simp only [if_true] at h
   split at h <;> cases h
 have hb2:=bad_sh hb
 have hn:=named_sh hi hl
 have ht:=tyAt_sh (ts:=C.types) hi hl
 unfold zca
 rw [hb,leads_sh hi hl,List.length_cons,hb2,hn]
 show (if barsT i.code kind=true then (80,st) else if false=true then (63,st) else if i.code=227∨i.code=229 then
  if (zae i).1 ≥ C.types.length then (81,st) else (goesT i.code (C.types.getD s ⟨0,0,0⟩) (tyAt C.types (sh i)),{ st with calls:=st.calls.set s (st.calls.getD s []++[(zae i).1]) })
  else _)=_
 rw [ht]
 rfl
theorem namesL_sh (hl:(C.codes.getD 0 []).length < 65535) {st0:List Bool} {s:Nat}:∀ {d:List Ins} {st:JS},(∀ i∈d,i∈allT (C.codes.getD 0 []))→(zbv C kind st0 s d st).1=0→zbv (nopC C) kind (true::st0) s (d.map sh) st=zbv C kind st0 s d st
 | [],st,_,_=>rfl
 | i::d,st,hm,h=>by
  rw [zbv] at h
  split at h
  ·rename_i hn;exact absurd h hn
  ·rename_i hn
   have hz:(zca C kind st0 s i st).1=0:=by simpa using hn
   rw [List.map_cons,zbv,zbv,names_sh hl (hm i List.mem_cons_self) hz,hz,if_neg (by decide),if_neg (by decide)]
   exact namesL_sh hl (fun j hj=>hm j (List.mem_cons_of_mem _ hj)) h
theorem names_nop (hk:kind=1∨kind=2) {st0:List Bool} {s:Nat} {st:JS}:zca (nopC C) kind st0 s nopI st=(0,st):=by
 unfold zca
 rw [nop_leads]
 have hb:barsT nopI.code kind=false:=by
  rcases hk with rfl|rfl <;> rfl
 rw [hb,if_neg (by decide),if_neg (by simp [badL]),if_neg (by decide),if_neg (by decide),if_neg (by decide),if_neg (by decide)]
theorem ret_sh {i:Ins} (hi:i∈allT (C.codes.getD 0 [])) (hl:(C.codes.getD 0 []).length < 65535):retP (nopC C) (sh i)=retP C i:=by
 unfold retP
 show (i.code == 228 || (i.code == 229 && (tyAt C.types (sh i)).out != 128))=_
 rw [tyAt_sh hi hl]
theorem any_sh (hl:(C.codes.getD 0 []).length < 65535):∀ d:List Ins,(∀ i∈d,i∈allT (C.codes.getD 0 []))→((d.map sh).any fun i=>retP (nopC C) i)=(d.any fun i=>retP C i)
 | [],_=>rfl
 | i::d,h=>by
  rw [List.map_cons,List.any_cons,List.any_cons,ret_sh (h i List.mem_cons_self) hl,any_sh hl d fun j hj=>h j (List.mem_cons_of_mem _ hj)]
theorem most_sh {L:List Ty} {t0:Ty} {r:List Ty} (hL:L=t0::r) {t1:Ty} (h:t1.most=t0.most):mostT (t1::L.map shT)=mostT L:=by
 refine mostT_is (fun t ht=>?_) ?_
 ·obtain ⟨g1,g2,g3⟩:=mostF_ge r t0.most
  have hM:mostT L=mostF t0.most r:=by rw [hL];rfl
  rw [hM]
  rcases List.mem_cons.1 ht with rfl|ht
  ·omega
  ·obtain ⟨u,hu,rfl⟩:=List.mem_map.1 ht
   rw [hL] at hu
   show u.most≤_
   rcases List.mem_cons.1 hu with rfl|hu
   ·exact g1
   ·exact g2 u hu
 ·obtain ⟨g1,g2,g3⟩:=mostF_ge r t0.most
  have hM:mostT L=mostF t0.most r:=by rw [hL];rfl
  rw [hM]
  rcases g3 with g3|⟨u,hu,g3⟩
  ·exact ⟨t1,List.mem_cons_self,by omega⟩
  ·exact ⟨shT u,List.mem_cons_of_mem _ (List.mem_map_of_mem (by rw [hL];exact List.mem_cons_of_mem _ hu)),g3.symm⟩
theorem section0_sh (hk:kind=1∨kind=2) (hl:(C.codes.getD 0 []).length < 65535) (hty:∀ t∈C.types,TyOK t) {st:JS} (h:(zba C kind 0 st).1=0):zba (nopC C) kind 0 st=zba C kind 0 st:=by
 have hin:0≤(C.types.getD (0:Int).toNat ⟨0,0,0⟩).inn∧(C.types.getD (0:Int).toNat ⟨0,0,0⟩).inn≤127:=by
  rw [List.getD_eq_getElem?_getD]
  cases hx:C.types[(0:Int).toNat]? with
  | none=>exact ⟨Int.le_refl _,by decide⟩
  | some t =>
   have:=hty t (List.mem_of_getElem? hx)
   unfold TyOK at this
   simp only [Option.getD_some]
   omega
 unfold zba at h ⊢
 rw [nop_code0]
 cases hs:zdz (C.codes.getD 0 []) with
 | error x=>rw [hs] at h;simp only at h;have:=scanT_err (l:=C.codes.getD 0 []) (e:=x.1) (a:=x.2) hs;rw [h] at this;cases this
 | ok d =>
  obtain ⟨hd,_⟩:=scanT_ok hs
  subst hd
  rw [hs] at h
  rw [scan_sh hs]
  simp only at h ⊢
  split at h
  ·rename_i hn;exact absurd h hn
  rename_i hn
  have hz:(zbv C kind (zbj (C.codes.getD 0 [])) 0 (allT (C.codes.getD 0 [])) st).1=0:=by simpa using hn
  have e1:zbv (nopC C) kind (zbj (0x5B::C.codes.getD 0 [])) 0 (allT (0x5B::C.codes.getD 0 [])) st=zbv C kind (zbj (C.codes.getD 0 [])) 0 (allT (C.codes.getD 0 [])) st:=by
   rw [allT_nop,starts_sh,zbv,names_nop hk,if_neg (by simp)]
   exact namesL_sh hl (fun i hi=>hi) hz
  rw [e1,if_neg hn,if_neg hn]
  simp only at h
  cases hh:zbb C.types ((0:Nat):Int) (C.codes.getD 0 []) with
  | error x =>
   rw [hh] at h
   simp only at h
   exfalso
   have:=heightsT_err (ts:=C.types) (s:=((0:Nat):Int)) (l:=C.codes.getD 0 []) (e:=x.1) (a:=x.2) hh
   rw [h] at this
   cases this
  | ok hts =>
   obtain ⟨g1,r,g2⟩:=heights_sh (ts:=C.types) hl hh hin
   have g1':=g1
   change zbb (nopC C).types ((0:Nat):Int) (0x5B::C.codes.getD 0 [])=_ at g1'
   rw [g1']
   simp only
   rw [most_sh g2 rfl]
   have hany:((allT (0x5B::C.codes.getD 0 [])).any fun i=>retP (nopC C) i)=((allT (C.codes.getD 0 [])).any fun i=>retP C i):=by
    rw [allT_nop,List.any_cons,show retP (nopC C) nopI=false from rfl,Bool.false_or]
    exact any_sh hl _ fun i hi=>hi
   rw [hany]
   rfl
end
section
variable {C:Cont} {kind:Int}
theorem namesL_nopC {st0:List Bool} {s:Nat}:∀ {d:List Ins} {st:JS},zbv (nopC C) kind st0 s d st=zbv C kind st0 s d st
 | [],st=>rfl
 | i::d,st=>by
  have e:zca (nopC C) kind st0 s i st=zca C kind st0 s i st:=rfl
  rw [zbv,zbv,e,namesL_nopC]
theorem sectionS_sh {s:Nat} (hs:s≠0) {st:JS}:zba (nopC C) kind s st=zba C kind s st:=by
 unfold zba
 rw [nop_codeS hs]
 cases zdz (C.codes.getD s []) with
 | error x=>rfl
 | ok d =>
  simp only
  rw [namesL_nopC]
  rfl
theorem sections_sh (hk:kind=1∨kind=2) (hl:(C.codes.getD 0 []).length < 65535) (hty:∀ t∈C.types,TyOK t):∀ {r:List Nat} {st:JS},(zap C kind r st).1=0→zap (nopC C) kind r st=zap C kind r st
 | [],st,_=>rfl
 | s::r,st,h=>by
  rw [zap] at h
  split at h
  ·rename_i hn;exact absurd h hn
  ·rename_i hn
   have hz:(zba C kind s st).1=0:=by simpa using hn
   have e:zba (nopC C) kind s st=zba C kind s st:=by
    by_cases h0:s=0
    ·subst h0;exact section0_sh hk hl hty hz
    ·exact sectionS_sh h0
   rw [zap,zap,e,if_neg hn,if_neg hn]
   exact sections_sh hk hl hty h
theorem check_nop (h:zbo C=0) (hl:(C.codes.getD 0 []).length < 65535):zbo (nopC C)=0:=by
 have hK:=checkP h
 have hp:partsT 65535 (nopC C).codes=0:=partsT0 fun x hx=>by
  rcases List.mem_cons.1 hx with rfl|hx
  ·simp only [List.length_cons];omega
  ·have:=hK.cl x (List.mem_of_mem_tail hx);omega
 have hpC:partsT 65535 C.codes=0:=partsT0 fun x hx=>by have:=hK.cl x hx;omega
 rw [← h]
 unfold zbo
 rw [zeb hK.c0,hp,hpC]
 rfl
theorem judge_nop {f:Nat} (hl:(C.codes.getD 0 []).length < 65535) (h:zcf (f+1) C kind=0):zcf (f+1) (nopC C) kind=0:=by
 obtain ⟨hc,hs⟩:=judge_ok h
 have hK:=checkP hc
 rw [zcf] at h ⊢
 split at h
 ·cases h
 rename_i h1
 have hk:kind=1∨kind=2:=by omega
 have e00:st00 (nopC C)=st00 C:=by
  show (⟨_,_,List.replicate (nopC C).codes.length []⟩:JS)=⟨_,_,List.replicate C.codes.length []⟩
  rw [zeb hK.c0];rfl
 have es:zap (nopC C) kind (List.range (nopC C).codes.length) (st00 (nopC C))=zap C kind (List.range C.codes.length) (st00 C):=by
  rw [e00,zeb hK.c0]
  exact sections_sh hk hl hK.ty hs
 rw [if_neg h1,if_neg (by rw [check_nop hc hl];decide),es,zeb hK.c0]
 split at h
 ·rename_i hn;exact absurd hc hn
 split at h
 ·rename_i hn;exact absurd hs hn
 rename_i h3
 rw [if_neg h3]
 split at h
 ·cases h
 rename_i h4
 rw [if_neg h4]
 exact h
end
theorem zbc {α β:Type} {x:Except (Int × Int) α} {f:α→Except (Int × Int) β} {y:β} (h:bindE x f = .ok y):∃ a,x = .ok a∧f a = .ok y:=by
 cases x with
 | error e=>cases h
 | ok a=>exact ⟨a,rfl,h⟩
theorem askT_inv2 {b:Bool} {e a:Int} {u:Unit} (h:askT b e a = .ok u):b=true:=by
 unfold askT at h
 split at h
 ·assumption
 ·cases h
theorem cutT_mem2 {l:List UInt8}:∀ {r:List Int} {a:Nat} {p:List UInt8},p∈cutT l a r→p.length≤l.length - a
 | [],a,p,h=>by cases h
 | s::r,a,p,h=>by
  rw [cutT] at h
  rcases List.mem_cons.1 h with rfl|h
  ·simp only [List.length_take,List.length_drop];omega
  ·have:=cutT_mem2 h;omega
theorem cutT_sum {l:List UInt8}:∀ {r:List Int} {a:Nat},(∀ x∈r,0≤x)→((cutT l a r).flatten.length:Int)≤r.sum∧0≤r.sum
 | [],a,_=>⟨Int.le_refl _,Int.le_refl _⟩
 | s::r,a,h=>by
  have h0:=h s List.mem_cons_self
  obtain ⟨i1,i2⟩:=cutT_sum (l:=l) (r:=r) (a:=a+s.toNat) fun x hx=>h x (List.mem_cons_of_mem _ hx)
  rw [cutT,List.flatten_cons,List.length_append,List.sum_cons,List.length_take,List.length_drop]
  omega
theorem sizesT_pos {l:List UInt8} {s:Nat}:∀ {k a:Nat} {r:List Int},zcr l s k a = .ok r→∀ x∈r,0 < x
 | 0,a,r,h,x,hx=>by
  rw [zcr] at h
  cases h;cases hx
 | k+1,a,r,h,x,hx=>by
  rw [zcr] at h
  cases hf:zbq l a s with
  | error e=>rw [hf] at h;cases h
  | ok v =>
   rw [hf] at h
   simp only at h
   split at h
   ·rename_i hv
    cases hr:zcr l s k (a+s) with
    | error e=>rw [hr] at h;cases h
    | ok r' =>
     rw [hr] at h
     cases h
     rcases List.mem_cons.1 hx with rfl|hx
     ·exact hv
     ·exact sizesT_pos hr x hx
   ·cases h
structure PInv (l:List UInt8) (op:Bool) (C:Cont):Prop where
 one:1≤l.length
 subs:∀ p∈C.subs,p.length+1≤l.length
 codes:C.codes.flatten.length≤l.length
 subf:C.subs.flatten.length≤l.length
 data:C.data.length≤l.length
 size:op=false→C.size=C.data.length
theorem body_inv {l:List UInt8} {op:Bool} {h2:Nat} {n:Nat} {codes subs:List Int} {C:Cont} (hc:∀ x∈codes,0 < x) (hs:∀ x∈subs,0 < x) (h1:1≤l.length) (h:bodyT l op h2 (4 * (n:Int)) n codes subs = .ok C):PInv l op C:=by
 unfold bodyT at h
 obtain ⟨size,g1,h⟩:=zbc h
 obtain ⟨_,g2,h⟩:=zbc h
 obtain ⟨_,g3,h⟩:=zbc h
 obtain ⟨_,g4,h⟩:=zbc h
 obtain ⟨ts,g5,h⟩:=zbc h
 replace g3:=askT_inv2 g3
 replace g4:=askT_inv2 g4
 have hsz:0≤size:=by
  unfold zbq at g1
  split at g1
  ·cases g1
  ·have:=(beT_lt ((l.drop h2).take 2)).1
   cases g1;exact this
 obtain ⟨c1,c2⟩:=cutT_sum (l:=l) (r:=codes) (a:=h2+2+1+4 * n) fun x hx=>Int.le_of_lt (hc x hx)
 obtain ⟨s1,s2⟩:=cutT_sum (l:=l) (r:=subs) (a:=h2+2+1+4 * n+codes.sum.toNat) fun x hx=>Int.le_of_lt (hs x hx)
 simp only [Int.toNat_natCast] at h
 have hC:=Except.ok.inj h
 subst hC
 simp only [Bool.not_eq_true',Bool.or_eq_false_iff,decide_eq_false_iff_not,decide_eq_true_eq,Bool.and_eq_false_iff,Bool.not_eq_false'] at g3 g4
 refine ⟨h1,fun p hp=>?_,?_,?_,?_,fun ho=>?_⟩
 ·have:=cutT_mem2 hp;omega
 ·show (cutT l (h2+2+1+4 * n) codes).flatten.length≤l.length
  omega
 ·show (cutT l (h2+2+1+4 * n+codes.sum.toNat) subs).flatten.length≤l.length
  omega
 ·show (l.drop _).length≤l.length
  rw [List.length_drop];omega
 ·subst ho
  show size=((l.drop (h2+2+1+4 * n+codes.sum.toNat+subs.sum.toNat)).length:Int)
  rw [List.length_drop]
  have g5:=g3.2.resolve_left (by decide)
  omega
theorem parse_inv {l:List UInt8} {op:Bool} {C:Cont} (h:zay l op = .ok C):PInv l op C:=by
 unfold zay at h
 obtain ⟨_,g0,h⟩:=zbc h
 obtain ⟨_,_,h⟩:=zbc h
 obtain ⟨_,_,h⟩:=zbc h
 obtain ⟨_,_,h⟩:=zbc h
 obtain ⟨four,gf,h⟩:=zbc h
 obtain ⟨_,_,h⟩:=zbc h
 have h1:1≤l.length:=by
  unfold zbq at gf
  split at gf
  ·cases gf
  ·omega
 unfold codesT at h
 obtain ⟨_,_,h⟩:=zbc h
 obtain ⟨n,gn,h⟩:=zbc h
 obtain ⟨_,ga,h⟩:=zbc h
 obtain ⟨codes,gc,h⟩:=zbc h
 obtain ⟨k,_,h⟩:=zbc h
 obtain ⟨_,_,h⟩:=zbc h
 have hn:0≤n:=by
  unfold zbq at gn
  split at gn
  ·cases gn
  ·have:=(beT_lt ((l.drop 7).take 2)).1
   cases gn;exact this
 obtain ⟨m,rfl⟩:=Int.eq_ofNat_of_zero_le hn
 have hf:four=4 * (m:Int):=by
  have:=askT_inv2 ga
  have h5:4 * (m:Int)=four:=by simpa using this
  exact h5.symm
 subst hf
 have hc:=sizesT_pos gc
 unfold kindT at h
 split at h
 ·obtain ⟨q,gq,h⟩:=zbc h
  obtain ⟨_,_,h⟩:=zbc h
  obtain ⟨subs,gs,h⟩:=zbc h
  obtain ⟨_,_,h⟩:=zbc h
  exact body_inv hc (sizesT_pos gs) h1 h
 ·exact body_inv hc (fun x hx=>by cases hx) h1 h
theorem nestL_eq {J J':Cont→Int→Int} {st:JS}:∀ {r:List (List UInt8)} {i:Nat},(∀ b∈r,∀ lay,subT J lay b=subT J' lay b)→nestL J st r i=nestL J' st r i
 | [],i,_=>rfl
 | b::r,i,h=>by
  rw [nestL,nestL,h b List.mem_cons_self,nestL_eq fun c hc=>h c (List.mem_cons_of_mem _ hc)]
theorem judge_fuel:∀ (N f f':Nat) (C:Cont) (kind:Int),(∀ p∈C.subs,p.length≤N)→N+1≤f→N+1≤f'→zcf f C kind=zcf f' C kind:=by
 intro N
 induction N using Nat.strongRecOn with
 | _ N ih =>
 intro f f' C kind hN hf hf'
 obtain ⟨g,rfl⟩:∃ g,f=g+1:=⟨f - 1,by omega⟩
 obtain ⟨g',rfl⟩:∃ g',f'=g'+1:=⟨f' - 1,by omega⟩
 rw [zcf,zcf]
 have e:zdn (zcf g) C (zap C kind (List.range C.codes.length) (st00 C)).2=zdn (zcf g') C (zap C kind (List.range C.codes.length) (st00 C)).2:=by
  unfold zdn
  rw [nestL_eq fun b hb lay=>?_]
  unfold subT
  cases hp:zay b lay with
  | error x=>rfl
  | ok D =>
   have hi:=parse_inv hp
   have hb:=hN b hb
   have h1:=hi.one
   exact ih (b.length - 1) (by omega) g g' D _ (fun p hp=>by have:=hi.subs p hp;omega) (by omega) (by omega)
 rw [e]
theorem flat_mem {p:List UInt8}:∀ {ll:List (List UInt8)},p∈ll→p.length≤ll.flatten.length
 | a::ll,h=>by
  rw [List.flatten_cons,List.length_append]
  rcases List.mem_cons.1 h with rfl|h
  ·omega
  ·have:=flat_mem h;omega
theorem ser_len (C:Cont):(serT C).length=13+2 * C.codes.length+(subsH C).length+4 * C.types.length+C.codes.flatten.length+C.subs.flatten.length+C.data.length:=by
 unfold serT serZ
 simp only [List.length_append,zbn,putL_len,tyB_len,List.length_cons,List.length_nil]
 omega
theorem nop_flat {C:Cont} (h:0 < C.codes.length):(nopC C).codes.flatten.length=C.codes.flatten.length+1:=by
 unfold nopC
 cases hc:C.codes with
 | nil=>rw [hc] at h;simp at h
 | cons a r=>simp <;> omega
structure NopOK (C:Cont) (kind:Int):Prop where
 valid:zcq (serT (nopC C)) kind = .ok (nopC C)
 chk:zbo (nopC C)=0
 ser:(serT (nopC C)).length≤1000000
 l1:13+6 * (nopC C).codes.length+(nopC C).data.length+(nopC C).codes.flatten.length+3+4 * (nopC C).subs.length+(nopC C).subs.flatten.length≤1000000
 tl:(nopC C).types.length≤100000
 most:∀ t∈(nopC C).types,0≤t.most
 size:0≤(nopC C).size
theorem nop_ok {l:List UInt8} {kind:Int} {C:Cont} (hlen:l.length≤6000) (h:zcq l kind = .ok C) (hl:(C.codes.getD 0 []).length < 65535):NopOK C kind:=by
 have hv:=vc_of h
 unfold zcq at h
 split at h
 ·cases h
 rename_i hk
 cases hp:zay l false with
 | error e=>rw [hp] at h;cases h
 | ok D =>
  rw [hp] at h
  simp only at h
  split at h
  ·cases h
  rename_i hj
  cases h
  have hj':zcf (l.length+1) C kind=0:=by simpa using hj
  obtain ⟨hc,hs⟩:=judge_ok (f:=l.length) hj'
  have hK:=checkP hc
  have hi:=parse_inv hp
  have hck:=check_nop hc hl
  have hK':=checkP hck
  have hfl:=nop_flat hK.c0
  have hcl:=zeb hK.c0
  have h1:=hi.codes
  have h2:=hi.subf
  have h3:=hi.data
  have h4:=hK.c1
  have h5:=hK.ct
  have h6:=hK.s1
  have hsz:C.size=C.data.length:=hi.size rfl
  have hsh:(subsH (nopC C)).length≤3+4 * C.subs.length:=by
   show (subsH C).length≤_
   unfold subsH
   split
   ·simp only [List.length_cons,List.length_append,zbn,putL_len];omega
   ·simp
  have hsl:=ser_len (nopC C)
  have ht:(nopC C).types.length=C.types.length:=rfl
  have hd:(nopC C).data.length=C.data.length:=rfl
  have hsb:(nopC C).subs.length=C.subs.length:=rfl
  have hsf:(nopC C).subs.flatten.length=C.subs.flatten.length:=rfl
  have hso:SerOK (nopC C):=by
   refine ⟨hK'.c0,hK'.c1,hK'.ct,hK'.cl,hK'.s1,fun p hp=>⟨hK'.sl p hp,?_⟩,hsz,hK'.z1,fun j t ht=>?_⟩
   ·have:=hi.subs p hp;omega
   ·unfold zbo at hck
    rw [if_neg (by have:=hK'.c0;omega),if_neg (by have:=hK'.c1;omega),if_neg (by have:=hK'.ct;omega)] at hck
    split at hck
    ·contradiction
    split at hck
    ·cases hck
    split at hck
    ·contradiction
    split at hck
    ·cases hck
    split at hck
    ·cases hck
    split at hck
    ·rename_i hty
     unfold typesFit at hty
     rw [List.all_eq_true] at hty
     obtain ⟨hjl,rfl⟩:=List.getElem?_eq_some_iff.1 ht
     have:=hty j (by rw [List.mem_range];exact hjl)
     rwa [List.getD_eq_getElem?_getD,List.getElem?_eq_getElem hjl,Option.getD_some] at this
    ·cases hck
  refine ⟨?_,hck,by omega,by omega,by omega,fun t ht=>?_,by show 0≤C.size;omega⟩
  ·unfold zcq
   rw [if_neg hk,parse_ser hso]
   simp only
   have hjn:=judge_nop hl hj'
   have e:=judge_fuel C.subs.flatten.length (l.length+1) ((serT (nopC C)).length+1) (nopC C) kind (fun p hp=>flat_mem hp) (by omega) (by omega)
   rw [← e,hjn,if_neg (by decide)]
  ·have:=hK'.ty t ht
   unfold TyOK at this
   omega
theorem ranks {C:Cont} (hv:VC C) {s:Int} (hs:InR C s) (hl:(zcn (dT C s)).length=(dT C s).length):∃ r:Int→Nat,∀ i∈dT C s,∀ t∈zam i,r t < r i.at_:=by
 have hp:=hv.srt s hs
 have ho:=sortT_ord hp
 have hx:∀ n:Nat,∃ p:Nat,n < (dT C s).length→(zcn (dT C s))[p]? = some (n:Int):=fun n=>by
  by_cases hn:n < (dT C s).length
  ·obtain ⟨p,hp,hpe⟩:=List.getElem_of_mem (nodup_all ho.nd ho.rg hl hn)
   exact ⟨p,fun _=>by rw [← hpe];exact List.getElem?_eq_getElem hp⟩
  ·exact ⟨0,fun h=>absurd h hn⟩
 obtain ⟨pos,hpos⟩:=Classical.axiomOfChoice hx
 refine ⟨fun t=>pos (plN (dT C s) t),fun i hi t ht=>?_⟩
 obtain ⟨n,hn,hne⟩:=List.getElem_of_mem hi
 have hgi:(dT C s)[n]? = some i:=by rw [← hne];exact List.getElem?_eq_getElem hn
 obtain ⟨k,hk,hkl⟩:=hp.to i hi t ht
 have e1:plN (dT C s) i.at_=n:=by unfold plN;rw [allT_place hgi];rfl
 have e2:plN (dT C s) t=k:=by unfold plN;rw [hk];rfl
 simp only [e1,e2]
 have hm:=ho.ord (pos n) n (hpos n hn) k (by rw [Int.toNat_natCast,su_get hgi];exact List.mem_map.2 ⟨t,ht,e2⟩)
 obtain ⟨q,hq,hqe⟩:=List.getElem_of_mem hm
 rw [List.length_take] at hq
 have hq2:(zcn (dT C s))[q]? = some (k:Int):=by rw [← hqe,List.getElem_take];exact List.getElem?_eq_getElem _
 have hk2:=hpos k hkl
 have:q=pos k:=by
  have h1:q < (zcn (dT C s)).length:=by omega
  have h2:=(List.getElem?_eq_some_iff.1 hk2).1
  have h3:(zcn (dT C s))[q]=(zcn (dT C s))[pos k]:=by rw [(List.getElem?_eq_some_iff.1 hq2).2,(List.getElem?_eq_some_iff.1 hk2).2]
  have hnd:=List.pairwise_iff_getElem.1 (List.nodup_iff_pairwise_ne.1 ho.nd)
  rcases Nat.lt_trichotomy q (pos k) with h|h|h
  ·exact absurd h3 (hnd _ _ h1 h2 h)
  ·exact h
  ·exact absurd h3.symm (hnd _ _ h2 h1 h)
 omega
theorem sorted_of {d:List Ins} (hp:SortP d) {r:Int→Nat} (hr:∀ i∈d,∀ t∈zam i,r t < r i.at_):(zcn d).length=d.length:=by
 have ho:=sortT_ord hp
 have key:∀ (q n:Nat) (i:Ins),d[n]? = some i→r i.at_=q→(n:Int)∈zcn d:=by
  intro q
  induction q using Nat.strongRecOn with
  | _ q ih =>
  intro n i hi hq
  refine Classical.byContradiction fun hx=>?_
  obtain ⟨j,hj,hj2⟩:=ho.stuck n (List.getElem?_eq_some_iff.1 hi).1 hx
  obtain ⟨i',hi',hg⟩:=su_goes hp hi hj
  have:=hr i (List.mem_of_getElem? hi) _ hg
  exact hj2 (ih (r i'.at_) (by omega) j i' hi' rfl)
 have h1:=all_le d.length _ ho.nd fun m hm=>key _ m d[m] (List.getElem?_eq_getElem hm) rfl
 have h2:=nodup_le _ _ ho.nd ho.rg
 omega
section
variable {C:Cont}
theorem dT0 (h:0 < C.codes.length):dT C 0=allT (C.codes.getD 0 []):=by
 unfold dT
 rw [show (0:Int)=((0:Nat):Int) from rfl,secT_in h]
theorem nop_dT0 (h:0 < C.codes.length):dT (nopC C) 0=nopI::(dT C 0).map sh:=by
 rw [dT0 h,dT0 (by rw [zeb h];exact h),nop_code0,allT_nop]
theorem nop_dTs (h:0 < C.codes.length) {s:Int} (hs:s≠0):dT (nopC C) s=dT C s:=by
 unfold dT secT
 rw [zeb h]
 split
 ·rename_i hr
  rw [nop_codeS (by omega)]
 ·rfl
theorem nop_in (h:0 < C.codes.length) {s:Int}:InR (nopC C) s ↔ InR C s:=by unfold InR;rw [zeb h]
theorem nop_ty (h:0 < C.codes.length) {s:Int}:tyT (nopC C) s=tyT C s:=by unfold tyT;rw [zeb h];rfl
theorem dT_rng {s:Int} {i:Ins} (hi:i∈dT C s):InR C s:=by
 unfold dT secT at hi
 split at hi
 ·assumption
 ·simp [allT,allF,zcl] at hi
theorem nop_mem (h:0 < C.codes.length) (hl:(C.codes.getD 0 []).length < 65535) {s:Int} {i:Ins} (hi:i∈dT (nopC C) s):(s=0∧i=nopI)∨∃ j∈dT C s,i.code=j.code∧zae i=zae j:=by
 by_cases hs:s=0
 ·subst hs
  rw [nop_dT0 h] at hi
  rcases List.mem_cons.1 hi with rfl|hi
  ·exact .inl ⟨rfl,rfl⟩
  ·obtain ⟨j,hj,rfl⟩:=List.mem_map.1 hi
   exact .inr ⟨j,hj,rfl,named_sh (by rw [← dT0 h];exact hj) hl⟩
 ·rw [nop_dTs h hs] at hi
  exact .inr ⟨i,hi,rfl,rfl⟩
theorem nop_mem' (h:0 < C.codes.length) (hl:(C.codes.getD 0 []).length < 65535) {s:Int} {j:Ins} (hj:j∈dT C s):∃ i∈dT (nopC C) s,i.code=j.code∧zae i=zae j:=by
 by_cases hs:s=0
 ·subst hs
  exact ⟨sh j,by rw [nop_dT0 h];exact List.mem_cons_of_mem _ (List.mem_map_of_mem hj),rfl,named_sh (by rw [← dT0 h];exact hj) hl⟩
 ·exact ⟨j,by rw [nop_dTs h hs];exact hj,rfl,rfl⟩
theorem nop_CR (h:0 < C.codes.length) (hl:(C.codes.getD 0 []).length < 65535) {a b:Int}:CR (nopC C) a b ↔ CR C a b:=by
 constructor
 ·intro hr
  induction hr with
  | refl=>exact .refl
  | step _ hi hc ih =>
   rcases nop_mem h hl hi with ⟨_,rfl⟩|⟨j,hj,h1,h2⟩
   ·exact absurd hc (by decide)
   ·rw [h2]
    exact .step ih hj (by unfold zcm at hc ⊢;rwa [← h1])
 ·intro hr
  induction hr with
  | refl=>exact .refl
  | step _ hj hc ih =>
   obtain ⟨i,hi,h1,h2⟩:=nop_mem' h hl hj
   rw [← h2]
   exact .step ih hi (by unfold zcm at hc ⊢;rwa [h1])
theorem goes_pos (hv:VC C) {s:Int} (hs:InR C s) {i:Ins} (hi:i∈dT C s) {t:Int} (ht:t∈zam i):0≤t:=by
 obtain ⟨k,hk,_⟩:=(hv.srt s hs).to i hi t ht
 obtain ⟨_,i',hi',he⟩:=placeT_at hk
 rw [← he]
 exact (allT_props (List.mem_of_getElem? hi')).1
theorem nop_sorted (hv:VC C) (hv':VC (nopC C)) (hl:(C.codes.getD 0 []).length < 65535) {s:Int} (hs:InR C s) :
  (zcn (dT (nopC C) s)).length=(dT (nopC C) s).length ↔ (zcn (dT C s)).length=(dT C s).length:=by
 have h:=hv.pos
 by_cases h0:s=0
 ·subst h0
  have hs':=(nop_in h).2 hs
  constructor
  ·intro hc
   obtain ⟨r,hr⟩:=ranks hv' hs' hc
   refine sorted_of (hv.srt 0 hs) (r:=fun t=>r (t+1)) fun i hi t ht=>?_
   have hm:sh i∈dT (nopC C) 0:=by rw [nop_dT0 h];exact List.mem_cons_of_mem _ (List.mem_map_of_mem hi)
   exact hr (sh i) hm (t+1) (by rw [goes_sh (by rw [← dT0 h];exact hi) hl];exact List.mem_map_of_mem ht)
  ·intro hc
   obtain ⟨r,hr⟩:=ranks hv hs hc
   refine sorted_of (hv'.srt 0 hs') (r:=fun t=>if t≤0 then r 0+1 else r (t - 1)) fun i hi t ht=>?_
   rw [nop_dT0 h] at hi
   rcases List.mem_cons.1 hi with rfl|hi
   ·rw [nop_goes,List.mem_singleton] at ht
    subst ht
    show (if (1:Int)≤0 then r 0+1 else r (1 - 1)) < (if (0:Int)≤0 then r 0+1 else r (0 - 1))
    rw [if_neg (by decide),if_pos (by decide)]
    exact Nat.lt_succ_self _
   ·obtain ⟨j,hj,rfl⟩:=List.mem_map.1 hi
    rw [goes_sh (by rw [← dT0 h];exact hj) hl] at ht
    obtain ⟨u,hu,rfl⟩:=List.mem_map.1 ht
    have hu0:=goes_pos hv hs hj hu
    have hj0:=(allT_props hj).1
    show (if u+1≤0 then r 0+1 else r (u+1 - 1)) < (if j.at_+1≤0 then r 0+1 else r (j.at_+1 - 1))
    rw [if_neg (by omega),if_neg (by omega),Int.add_sub_cancel,Int.add_sub_cancel]
    exact hr j hj u hu
 ·rw [nop_dTs h h0]
theorem nop_circ (hv:VC C) (hv':VC (nopC C)) (hl:(C.codes.getD 0 []).length < 65535):Circ (nopC C) ↔ Circ C:=by
 have h:=hv.pos
 constructor
 ·rintro (⟨s,hs,hc⟩|⟨j,i,hj,hi,hci,hr⟩)
  ·exact .inl ⟨s,(nop_in h).1 hs,fun he=>hc ((nop_sorted hv hv' hl ((nop_in h).1 hs)).2 he)⟩
  ·rcases nop_mem h hl hi with ⟨_,rfl⟩|⟨i',hi',h1,h2⟩
   ·exact absurd hci (by decide)
   ·exact .inr ⟨j,i',(nop_in h).1 hj,hi',by unfold zcm at hci ⊢;rwa [← h1],(nop_CR h hl).1 (by rw [← h2];exact hr)⟩
 ·rintro (⟨s,hs,hc⟩|⟨j,i,hj,hi,hci,hr⟩)
  ·exact .inl ⟨s,(nop_in h).2 hs,fun he=>hc ((nop_sorted hv hv' hl hs).1 he)⟩
  ·obtain ⟨i',hi',h1,h2⟩:=nop_mem' h hl hi
   exact .inr ⟨j,i',(nop_in h).2 hj,hi',by unfold zcm at hci ⊢;rwa [h1],(nop_CR h hl).2 (by rw [h2];exact hr)⟩
theorem of_circ (hv:VC C):(ofT C).2=true ↔ ¬ Circ C:=by
 constructor
 ·intro h
  obtain ⟨S,hk,hcl,_⟩:=of_yes hv h
  obtain ⟨rk,hrk⟩:=hk.inv.rk
  have down:∀ {a b:Int},CR C a b→InR C a→clo S b∧rk b≤rk a:=fun {a b} hr=>by
   induction hr with
   | refl=>exact fun ha=>⟨hcl _ ha,Nat.le_refl _⟩
   | step _ hi hc ih =>
    intro ha
    obtain ⟨h1,h2⟩:=ih ha
    have h3:=(hrk _ h1).2 _ hi hc
    exact ⟨hk.inv.call _ h1 _ hi hc,by omega⟩
  rintro (⟨s,hs,hc⟩|⟨j,i,hj,hi,hci,hr⟩)
  ·exact hc (hk.inv.ord s (hcl s hs))
  ·have h1:=(hrk j (hcl j hj)).2 i hi hci
   have h2:=(down hr (hk.inv.rng _ (hk.inv.call _ (hcl j hj) i hi hci))).2
   omega
 ·intro h
  cases ho:(ofT C).2 with
  | true=>rfl
  | false=>exact absurd (sec0_no hv (of_no ho).2) h
theorem far_congr {kn kn':KN} {s:Int} {f:Int→Int}:∀ {L:List Int} {far:Worth},(∀ t∈L,vT kn' (s,f t)=vT kn (s,t))→farT kn' s (L.map f) far=farT kn s L far
 | [],far,_=>rfl
 | t::L,far,h=>by
  have ht:=h t List.mem_cons_self
  unfold vT at ht
  rw [List.map_cons,farT,farT,ht]
  exact far_congr fun u hu=>h u (List.mem_cons_of_mem _ hu)
theorem worth_congr {kn kn':KN} {s:Int} {i i':Ins} (hc:i'.code=i.code) (hn:(zae i').1=(zae i).1) (hl:zas i'=[] ↔ zas i=[]) (hf:farT kn' s (zam i') zbu=farT kn s (zam i) zbu)
  (hk:zcm i→vT kn' ((zae i).1,0)=vT kn ((zae i).1,0)):zct kn' s i'=zct kn s i:=by
 unfold vT at hk
 unfold zct
 rw [hc,hn,hf]
 by_cases h8:i.code=228
 ·rw [if_pos h8,if_pos h8]
 rw [if_neg h8,if_neg h8]
 by_cases h9:i.code=229
 ·rw [if_pos h9,if_pos h9,hk (.inr h9)]
 rw [if_neg h9,if_neg h9]
 by_cases h7:i.code=227
 ·rw [if_pos h7,if_pos h7,hk (.inl h7)]
 rw [if_neg h7,if_neg h7]
 by_cases hg:zde i.code=true∧zas i=[]
 ·rw [if_pos hg,if_pos ⟨hg.1,hl.2 hg.2⟩]
 ·rw [if_neg hg,if_neg fun h=>hg ⟨h.1,hl.1 h.2⟩]
theorem wholeL_congr2 {C C':Cont} {wh wh':Int→Option Whole} {d d':List Ins} {f:Ins→Ins} {g:Ty→Ty} {e:Nat} (hd:∀ m,d'[m+e]? = (d[m]?).map f) (hg:∀ t,(g t).most=t.most) (hty:∀ s,tyT C' s=tyT C s)
  (hf:∀ i∈d,(f i).code=i.code∧(zae (f i)).1=(zae i).1) (hw:∀ i∈d,zcm i→((wh' (zae i).1).getD zar).height=((wh (zae i).1).getD zar).height) :
  ∀ (r:List Ty) (n:Nat) (x x':Whole),x'.height=x.height→(zcb C' wh' d' (n+e) (r.map g) x').height=(zcb C wh d n r x).height
 | [],n,x,x',h=>h
 | t::r,n,x,x',h=>by
  rw [List.map_cons,zcb,zcb,hd n]
  cases hi:d[n]? with
  | none=>exact h
  | some i =>
   have him:=List.mem_of_getElem? hi
   obtain ⟨h1,h2⟩:=hf i him
   simp only [Option.map_some]
   rw [h1]
   have ih:=wholeL_congr2 hd hg hty hf hw r (n+1)
   rw [show n+1+e=n+e+1 by omega] at ih
   by_cases hc:i.code≠227∧i.code≠229
   ·rw [if_pos hc,if_pos hc]
    refine ih _ _ ?_
    show maxI x'.height (g t).most=maxI x.height t.most
    rw [h,hg]
   ·rw [if_neg hc,if_neg hc]
    refine ih _ _ ?_
    have hci:zcm i:=by unfold zcm;omega
    show maxI (maxI x'.height (g t).most) (IntKind.wrap .i64 (IntKind.wrap .i64 ((g t).most - (tyT C' (zae (f i)).1).inn)+((wh' (zae (f i)).1).getD zar).height))=maxI (maxI x.height t.most) (IntKind.wrap .i64 (IntKind.wrap .i64 (t.most - (tyT C (zae i).1).inn)+((wh (zae i).1).getD zar).height))
    rw [h,hg,h2,hty,hw i him hci]
theorem maxI_twice (a m:Int):maxI (maxI a m) m=maxI a m:=by
 unfold maxI
 (repeat' split) <;> omega
theorem wholeL_first {C:Cont} {wh:Int→Option Whole} {d:List Ins} {t:Ty} {r:List Ty} {x:Whole} {i:Ins} (hi:d[0]? = some i):(zcb C wh d 0 (t::r) ⟨maxI x.height t.most,x.places,x.isOpen⟩).height=(zcb C wh d 0 (t::r) x).height:=by
 rw [zcb,zcb,hi]
 simp only
 rw [maxI_twice]
end
def eS (s:Int):Int:=if s=0 then 1 else 0
theorem of_full {C:Cont} (hv:VC C) (h:(ofT C).2=true):∃ S,Known C S∧(∀ s,InR C s→clo S s)∧(ofT C).1=⟨(vT S.kn (0,0)).fin.steps,(vT S.kn (0,0)).fin.gas,((S.wh 0).getD zar).height,plP S 0⟩:=by
 unfold ofT at h ⊢
 by_cases hb:(secW C (C.codes.length+1) 0 ws0).1=true
 ·rw [if_pos hb]
  obtain ⟨h1,h2⟩:=sec0_yes hv hb
  exact ⟨_,known_of hv h1,h2,rfl⟩
 ·rw [if_neg hb] at h;cases h
theorem map_ins (L:List Int):L.map (fun t=>t)=L:=List.map_id' L
section
variable {C:Cont} {S S':WS}
theorem call_pos (hv:VC C) (hn:¬ Circ C) {s:Int} {i:Ins} (hi:i∈dT C s) (hc:zcm i):(zae i).1≠0:=fun h0 =>
 hn (.inr ⟨s,i,dT_rng hi,hi,hc,by rw [h0];exact hv.reach s (dT_rng hi)⟩)
theorem nop_vals (hv:VC C) (hl:(C.codes.getD 0 []).length < 65535) (hn:¬ Circ C) (hk:Known C S) (hcl:∀ s,InR C s→clo S s) (hk':Known (nopC C) S') (hcl':∀ s,InR (nopC C) s→clo S' s) :
  ∀ s,InR C s→∀ i∈dT C s,vT S'.kn (s,i.at_+eS s)=vT S.kn (s,i.at_):=by
 have h:=hv.pos
 obtain ⟨rk,hrk⟩:=hk.inv.rk
 have main:∀ (q:Nat) (s:Int),rk s=q→InR C s→∀ i∈dT C s,vT S'.kn (s,i.at_+eS s)=vT S.kn (s,i.at_):=by
  intro q
  induction q using Nat.strongRecOn with
  | _ q ihq =>
  intro s hq hs
  obtain ⟨r,hr⟩:=ranks hv hs (hk.inv.ord s (hcl s hs))
  have hcall:∀ i∈dT C s,zcm i→vT S'.kn ((zae i).1,0)=vT S.kn ((zae i).1,0):=fun i hi hc=>by
   have hn0:=call_pos hv hn hi hc
   have hr2:=hk.inv.rng _ (hk.inv.call s (hcl s hs) i hi hc)
   obtain ⟨i0,hi0,h0⟩:=place0 hv hr2
   have:=ihq _ (by rw [← hq];exact (hrk s (hcl s hs)).2 i hi hc) (zae i).1 rfl hr2 i0 (List.mem_of_getElem? hi0)
   rw [h0] at this
   unfold eS at this
   rw [if_neg hn0,Int.add_zero] at this
   exact this
  have inner:∀ (p:Nat),∀ i∈dT C s,r i.at_=p→vT S'.kn (s,i.at_+eS s)=vT S.kn (s,i.at_):=by
   intro p
   induction p using Nat.strongRecOn with
   | _ p ihp =>
   intro i hi hp
   have behind:∀ t∈zam i,vT S'.kn (s,t+eS s)=vT S.kn (s,t):=fun t ht=>by
    obtain ⟨n,hnl,hne⟩:=List.getElem_of_mem hi
    obtain ⟨j,i2,_,hi2,he⟩:=goes_in (hv.srt s hs) (n:=n) (by rw [← hne];exact List.getElem?_eq_getElem hnl) ht
    have:=ihp (r t) (by rw [← hp];exact hr i hi t ht) i2 (List.mem_of_getElem? hi2) (by rw [he])
    rwa [he] at this
   rw [vT_eqn hk.inv (hcl s hs) hi]
   by_cases h0:s=0
   ·subst h0
    have e0:eS 0=1:=rfl
    rw [e0] at behind ⊢
    have hia:i∈allT (C.codes.getD 0 []):=by rw [← dT0 h];exact hi
    have hm:sh i∈dT (nopC C) 0:=by rw [nop_dT0 h];exact List.mem_cons_of_mem _ (List.mem_map_of_mem hi)
    have e1:vT S'.kn (0,i.at_+1)=zct S'.kn 0 (sh i):=vT_eqn hk'.inv (hcl' 0 ((nop_in h).2 hs)) hm
    rw [e1]
    refine worth_congr rfl (by rw [named_sh hia hl]) (by rw [leads_sh hia hl];simp) ?_ (hcall i hi)
    rw [goes_sh hia hl]
    exact far_congr behind
   ·have e0:eS s=0:=by unfold eS;rw [if_neg h0]
    rw [e0,Int.add_zero]
    have hm:i∈dT (nopC C) s:=by rw [nop_dTs h h0];exact hi
    rw [vT_eqn hk'.inv (hcl' s ((nop_in h).2 hs)) hm]
    refine worth_congr rfl rfl Iff.rfl ?_ (hcall i hi)
    have:=far_congr (kn:=S.kn) (kn':=S'.kn) (s:=s) (f:=fun t=>t) (L:=zam i) (far:=zbu) fun t ht=>by
     have:=behind t ht
     rw [e0,Int.add_zero] at this
     exact this
    rw [map_ins] at this
    exact this
  exact fun i hi=>inner _ i hi rfl
 exact fun s hs=>main _ s rfl hs
theorem nop_places (hv:VC C) (hl:(C.codes.getD 0 []).length < 65535) (hk:Known C S) (hcl:∀ s,InR C s→clo S s) (hk':Known (nopC C) S') (hcl':∀ s,InR (nopC C) s→clo S' s):∀ s,InR C s→plP S' s=plP S s:=by
 have h:=hv.pos
 obtain ⟨rk,hrk⟩:=hk.inv.rk
 have main:∀ (q:Nat) (s:Int),rk s=q→InR C s→plP S' s=plP S s:=by
  intro q
  induction q using Nat.strongRecOn with
  | _ q ih =>
  intro s hq hs
  have hc:=hcl s hs
  have hc':=hcl' s ((nop_in h).2 hs)
  have hcal:∀ i∈dT C s,zcm i→plP S' (zae i).1=plP S (zae i).1:=fun i hi hci =>
   ih _ (by rw [← hq];exact (hrk s hc).2 i hi hci) _ rfl (hk.inv.rng _ (hk.inv.call s hc i hi hci))
  have h1:plP S' s≤plP S s:=by
   have hp:=hk.pl0 s hc
   rcases hk'.plx s hc' with he|⟨i,hi,he⟩
   ·omega
   ·rcases nop_mem h hl hi with ⟨_,rfl⟩|⟨j,hj,g1,g2⟩
    ·rcases he with ⟨he,_⟩|⟨he,_⟩ <;> exact absurd he (by decide)
    ·rw [g1,g2] at he
     rcases he with ⟨he,e⟩|⟨he,e⟩
     ·have:=hk.pl7 s hc j hj he
      rw [hcal j hj (.inl he)] at e;omega
     ·have:=hk.pl9 s hc j hj he
      rw [hcal j hj (.inr he)] at e;omega
  have h2:plP S s≤plP S' s:=by
   have hp:=hk'.pl0 s hc'
   rcases hk.plx s hc with he|⟨j,hj,he⟩
   ·omega
   ·obtain ⟨i,hi,g1,g2⟩:=nop_mem' h hl hj
    rcases he with ⟨he,e⟩|⟨he,e⟩
    ·have:=hk'.pl7 s hc' i hi (by rw [g1];exact he)
     rw [g2,hcal j hj (.inl he)] at this;omega
    ·have:=hk'.pl9 s hc' i hi (by rw [g1];exact he)
     rw [g2,hcal j hj (.inr he)] at this;omega
  omega
 exact fun s hs=>main _ s rfl hs
theorem nop_height (hv:VC C) (hl:(C.codes.getD 0 []).length < 65535) (hk:Known C S) (hcl:∀ s,InR C s→clo S s) (hk':Known (nopC C) S') (hcl':∀ s,InR (nopC C) s→clo S' s) :
  ∀ s,InR C s→((S'.wh s).getD zar).height=((S.wh s).getD zar).height:=by
 have h:=hv.pos
 obtain ⟨rk,hrk⟩:=hk.inv.rk
 have main:∀ (q:Nat) (s:Int),rk s=q→InR C s→((S'.wh s).getD zar).height=((S.wh s).getD zar).height:=by
  intro q
  induction q using Nat.strongRecOn with
  | _ q ih =>
  intro s hq hs
  have hc:=hcl s hs
  obtain ⟨x,hx,hxo⟩:=hc
  obtain ⟨x',hx',hxo'⟩:=hcl' s ((nop_in h).2 hs)
  have hw:=hk.inv.whl s x hx hxo
  have hw':=hk'.inv.whl s x' hx' hxo'
  have hcal:∀ i∈dT C s,zcm i→((S'.wh (zae i).1).getD zar).height=((S.wh (zae i).1).getD zar).height:=fun i hi hci =>
   ih _ (by rw [← hq];exact (hrk s (hcl s hs)).2 i hi hci) _ rfl (hk.inv.rng _ (hk.inv.call s (hcl s hs) i hi hci))
  rw [hx,hx',Option.getD_some,Option.getD_some,hw,hw']
  by_cases h0:s=0
  ·subst h0
   have hne:=hv.ne 0 hs
   have hhl:=hv.hl 0 hs
   have hcp:(0:Int) < (C.codes.length:Int):=by omega
   have hg:hgtI C 0=hgtT C 0:=by unfold hgtI;rw [if_pos ⟨Int.le_refl 0,hcp⟩];rfl
   have hg':hgtI (nopC C) 0=hgtT (nopC C) 0:=by unfold hgtI;rw [if_pos ⟨Int.le_refl 0,by rw [zeb h];exact hcp⟩];rfl
   have hin:0≤(C.types.getD (((0:Nat):Int)).toNat ⟨0,0,0⟩).inn∧(C.types.getD (((0:Nat):Int)).toNat ⟨0,0,0⟩).inn≤127:=by
    rw [List.getD_eq_getElem?_getD]
    cases hx:C.types[(((0:Nat):Int)).toNat]? with
    | none=>exact ⟨Int.le_refl _,by decide⟩
    | some t =>
     have:=hv.tys t (List.mem_of_getElem? hx)
     unfold TyOK at this
     simp only [Option.getD_some]
     omega
   cases hh:zbb C.types ((0:Nat):Int) (C.codes.getD 0 []) with
   | error e =>
    exfalso
    have:hgtT C 0=[]:=by unfold hgtT;rw [hh]
    rw [hg,this] at hhl
    exact hne (List.length_eq_zero_iff.1 hhl.symm)
   | ok hs2 =>
    obtain ⟨g1,r,g2⟩:=heights_sh (ts:=C.types) hl hh hin
    have e1:hgtT C 0=hs2:=by unfold hgtT;rw [hh]
    have e2:hgtT (nopC C) 0=⟨0,(C.types.getD (((0:Nat):Int)).toNat ⟨0,0,0⟩).inn,(C.types.getD (((0:Nat):Int)).toNat ⟨0,0,0⟩).inn⟩::hs2.map shT:=by
     unfold hgtT
     rw [nop_code0]
     show (match zbb C.types ((0:Nat):Int) (0x5B::C.codes.getD 0 []) with|.ok l=>l|.error _=>[])=_
     rw [g1]
    generalize (C.types.getD (((0:Nat):Int)).toNat ⟨0,0,0⟩).inn=inn at e2 g2
    rw [hg,hg',e1,e2,nop_dT0 h]
    have e3:zcb (nopC C) S'.wh (nopI::(dT C 0).map sh) 0 (⟨0,inn,inn⟩::hs2.map shT) zar=zcb (nopC C) S'.wh (nopI::(dT C 0).map sh) (0+1) (hs2.map shT) ⟨maxI zar.height inn,zar.places,zar.isOpen⟩:=by
     rw [zcb]
     simp only [List.getElem?_cons_zero]
     rw [if_pos ⟨by decide,by decide⟩]
    rw [e3]
    have e4:=wholeL_congr2 (C:=C) (C':=nopC C) (wh:=S.wh) (wh':=S'.wh) (d:=dT C 0) (d':=nopI::(dT C 0).map sh) (f:=sh) (g:=shT) (e:=1) (fun m=>by rw [List.getElem?_cons_succ,List.getElem?_map]) (fun t=>rfl) (fun s=>nop_ty h)
     (fun i hi=>⟨rfl,by rw [named_sh (by rw [← dT0 h];exact hi) hl]⟩) hcal hs2 0 ⟨maxI zar.height inn,zar.places,zar.isOpen⟩ ⟨maxI zar.height inn,zar.places,zar.isOpen⟩ rfl
    rw [e4,g2]
    obtain ⟨i0,hi0,_⟩:=place0 hv hs
    exact wholeL_first (t:=⟨0,inn,inn⟩) (x:=zar) hi0
  ·have hg:hgtI (nopC C) s=hgtI C s:=by
    unfold hgtI
    rw [zeb h]
    split
    ·rename_i hr
     unfold hgtT
     rw [nop_codeS (by omega)];rfl
    ·rfl
   rw [hg,nop_dTs h h0]
   have:=wholeL_congr2 (C:=C) (C':=nopC C) (wh:=S.wh) (wh':=S'.wh) (d:=dT C s) (d':=dT C s) (f:=fun i=>i) (g:=fun t=>t) (e:=0) (fun m=>by simp) (fun t=>rfl) (fun s=>nop_ty h)
    (fun i hi=>⟨rfl,rfl⟩) hcal (hgtI C s) 0 zar zar rfl
   rw [List.map_id'] at this
   exact this
 exact fun s hs=>main _ s rfl hs
end
theorem fin_is {C:Cont} {S:WS} (hk:Known C S) (hc:clo S 0):(vT S.kn (0,0)).fin.is=true:=by
 obtain ⟨i,hi,hi0⟩:=place0 hk.vc (s:=0) ⟨Int.le_refl 0,by have:=hk.vc.pos;omega⟩
 have hl:=hk.lives 0 hc i (List.mem_of_getElem? hi)
 rw [hi0] at hl
 have e:XT S.kn [(0,0)]=(vT S.kn (0,0)).fin:=by
  unfold XT endsW
  simp only [XT,and0]
  exact or0' hl.wn.fin
 rw [← e]
 exact XT_is hk (wk0_ok hk hc).1 (by simp)
theorem nop_of {C:Cont} (hv:VC C) (hv':VC (nopC C)) (hl:(C.codes.getD 0 []).length < 65535) :
  (ofT (nopC C)).2=(ofT C).2∧(ofT (nopC C)).1=if (ofT C).2=true then ⟨sumT (ofT C).1.steps 1,sumT (ofT C).1.gas 1,(ofT C).1.height,(ofT C).1.returns⟩ else ⟨0,0,0,0⟩:=by
 have h:=hv.pos
 have hc:=nop_circ hv hv' hl
 cases ho:(ofT C).2 with
 | false =>
  have ho':(ofT (nopC C)).2=false:=by
   cases hq:(ofT (nopC C)).2 with
   | false=>rfl
   | true =>
    have:=(of_circ hv).2 fun hcc=>(of_circ hv').1 hq (hc.2 hcc)
    rw [this] at ho;cases ho
  rw [ho',if_neg (by decide)]
  exact ⟨rfl,(of_no ho').1⟩
 | true =>
  have hn:=(of_circ hv).1 ho
  have ho':(ofT (nopC C)).2=true:=(of_circ hv').2 fun hcc=>hn (hc.1 hcc)
  rw [ho',if_pos rfl]
  refine ⟨rfl,?_⟩
  obtain ⟨S,hk,hcl,hx⟩:=of_full hv ho
  obtain ⟨S',hk',hcl',hx'⟩:=of_full hv' ho'
  have hs:InR C 0:=⟨Int.le_refl 0,by omega⟩
  have hs':=(nop_in h).2 hs
  obtain ⟨i0,hi0,h0⟩:=place0 hv hs
  have v1:=nop_vals hv hl hn hk hcl hk' hcl' 0 hs i0 (List.mem_of_getElem? hi0)
  rw [h0] at v1
  have v2:vT S'.kn (0,1)=vT S.kn (0,0):=v1
  have v3:vT S'.kn (0,0)=zct S'.kn 0 nopI:=vT_eqn hk'.inv (hcl' 0 hs') (i:=nopI) (by rw [nop_dT0 h];exact List.mem_cons_self)
  have v4:zct S'.kn 0 nopI=⟨andT ⟨1,1,true⟩ (vT S.kn (0,0)).back,andT ⟨1,1,true⟩ (vT S.kn (0,0)).fin⟩:=by
   unfold zct
   rw [if_neg (by decide),if_neg (by decide),if_neg (by decide),if_neg (by intro hh;exact absurd hh.1 (by decide)),nop_goes,far_one v2]
   rfl
  have hf:=fin_is hk (hcl 0 hs)
  have e:andT ⟨1,1,true⟩ (vT S.kn (0,0)).fin=⟨sumT 1 (vT S.kn (0,0)).fin.steps,sumT 1 (vT S.kn (0,0)).fin.gas,true⟩:=by
   unfold andT
   rw [if_neg (by rw [hf];simp)]
  rw [hx',hx,v3,v4,e,nop_places hv hl hk hcl hk' hcl' 0 hs,nop_height hv hl hk hcl hk' hcl' 0 hs]
  simp only
  rw [sum_comm 1 (vT S.kn (0,0)).fin.steps,sum_comm 1 (vT S.kn (0,0)).fin.gas]
theorem of_rng {C:Cont} (hv:VC C) (h:(ofT C).2=true):0≤(ofT C).1.steps∧(ofT C).1.steps≤18446744073709551615∧0≤(ofT C).1.gas∧(ofT C).1.gas≤18446744073709551615:=by
 obtain ⟨S,hk,hc,he⟩:=of_full hv h
 have hs:InR C 0:=⟨Int.le_refl 0,by have:=hv.pos;omega⟩
 obtain ⟨i,hi,hi0⟩:=place0 hv hs
 have hm:=List.mem_of_getElem? hi
 have hw:=(hk.lives 0 (hc 0 hs) i hm).wn.fin.ok
 rw [hi0] at hw
 rw [he]
 exact hw
structure RowRC (w:World) (h:Cd) (C:Cont):Prop where
 types:Sees w 3 h.t.p h.t.n h.t.c (zat C.types)
 len:h.cs.length=C.codes.length
 each:∀ (k:Nat) (x:Hd) (l:List UInt8),h.cs[k]? = some x→C.codes[k]? = some l→Sees w 1 x.p x.n x.c (u8s l)
 subs:ByL w h.s h.ss C.subs
 data:Sees w 1 h.d.p h.d.n h.d.c (u8s C.data)
abbrev rowRF (h:Cd) (C:Cont):Ent:=.fact (rowRS h C) fun w=>RowRC w h C
theorem rowR_cont {h:Cd} {C:Cont} {k:Nat}:rowRS h C k→contS h C k:=by
 rintro (h|h|h|h|h)
 ·exact .inl h
 ·exact .inr (.inr (.inl h))
 ·exact .inr (.inr (.inr (.inl h)))
 ·exact .inr (.inr (.inr (.inr (.inl h))))
 ·exact .inr (.inr (.inr (.inr (.inr h))))
theorem rowR_on {w:World} {h:Cd} {C:Cont} (a:ContAt w h C):(rowRF h C).at_ w :=
 ⟨⟨a.types,a.codes.len,a.codes.each,a.subs,a.data⟩,fun k hk=>contS_lt a (rowR_cont hk),fun v v' hv hk =>
  ⟨seeS_same hv.types fun g hg=>hk g (.inl hg),hv.len,fun j x l h1 h2=>seeS_same (hv.each j x l h1 h2) fun g hg=>hk g (.inr (.inr (.inr (.inl ⟨j,x,l,h1,h2,hg⟩)))),
   byL_same hv.subs (fun g hg=>hk g (.inr (.inl hg))) fun g hg=>hk g (.inr (.inr (.inr (.inr hg)))),seeS_same hv.data fun g hg=>hk g (.inr (.inr (.inl hg)))⟩⟩
section
variable {Z:Nat→Prop} {w0 w:World} {L M:List Ent} {K:Value→World→Prop}
theorem f24h {p:Option Addr} {n c:Nat} {l:List UInt8} (hh:Hp Z w0 w L) (hs:Sees w 1 p n c (u8s l)) (hn:n≤1000000000)
  (ke:∀ e a,zay l false = .error (e,a)→∀ w',Hp Z w0 w' L→K (rejV e a) w')
  (ko:∀ C,zay l false = .ok C→∀ hd w',Hp Z w0 w' (rowRF hd C::.row 1 hd.c.p hd.c.n hd.c.c 22 (hd.cs.map Hd.v)::L)→K (okV hd C) w'):zaj Tryz.prog 24 #[.slice p n c,.bool false] w K:=by
 refine zbt.to_V (f24x hs hn (fun e a he w' hb=>ke e a he w' (hh.bl hb)) fun C hC hd w' hb hca hnew hcr=>?_)
 have h1:=hh.add (x:=.row 1 hd.c.p hd.c.n hd.c.c 22 (hd.cs.map Hd.v)) hb hcr.1 fun i hi=>(hcr.2 i hi).1
 refine ko C hC hd w' (h1.know (rowR_on hca) (fun k hk=>hk) fun y hy k hk hf=>?_)
 rcases List.mem_cons.1 hy with h|h
 ·subst h;exact (hcr.2 k hk).2 hf
 ·have h2:=(hh.all y h).lt (Ent.foot_of_mine hk)
  have h3:=hnew k (rowR_cont hf)
  omega
theorem wRowSt {g n c e ty i:Nat} {xs:List Value} {v:Value} {F:World→Prop} (h:Hp Z w0 w L) (hm:Pos L (.row 1 (some ⟨g,0,none⟩) n c e xs) (.row 1 (some ⟨g,0,none⟩) n c e (xs.set i v)) M) (hi:i < n)
  (hz:(Tryz.prog.info? ty).map (·.size)=some 1) (h1:v.oneCell'=true) (hc:v.cells=#[v]) (k:∀ w',Hp Z w0 w' M→F w'):semU Tryz.prog (Instr.storeAt ty (.pointer (some ⟨g,i,none⟩)) v) w F:=by
 have hr:Row w (.slice (some ⟨g,0,none⟩) n c) e n xs:=h.all _ hm.mem
 refine stR hr hi hz h1 hc fun w' hr' he=>k w' (h.turn hm (he.mono fun k _ hk=>?_) hr' fun i hi=>.inl hi)
 subst hk
 show Blk _ _
 unfold Blk
 simp [Value.ownBlock]
end
section
variable {K:Value→World→Prop} {kind:Int} {C:Cont}
theorem ofLT_ok {l:List UInt8} (h:zcq l kind = .ok C):ofLT l kind=((ofT C).1,(ofT C).2,true):=by unfold ofLT;rw [h]
theorem ofLT_no {l:List UInt8} {e:Int} (h:zcq l kind = .error e):ofLT l kind=(⟨0,0,0,0⟩,false,false):=by unfold ofLT;rw [h]
theorem j9_3 {w0 w:World} {x7 x12:Nat} {x8:Bool} {L:List Ent} {a b:Bnd} (hh:Hp zan w0 w (.own x12 #[.int .u64 b.steps,.int .u64 b.gas,.int .i64 b.height,.int .i64 b.returns] 40::.own x7 #[.int .u64 a.steps,.int .u64 a.gas,.int .i64 a.height,.int .i64 a.returns] 40::L))
  (hr:x8=true→0≤a.steps∧a.steps≤18446744073709551615∧0≤a.gas∧a.gas≤18446744073709551615) (h:b=if x8=true then ⟨sumT a.steps 1,sumT a.gas 1,a.height,a.returns⟩ else ⟨0,0,0,0⟩) (kk:∀ w',Bl w0 w'→K (.bool true) w') :
  J9_3 K ⟨x7,0,none⟩ x8 ⟨x12,0,none⟩ w:=by
 unfold J9_3
 cases x8 with
 | false =>
  rw [if_neg (by decide)] at h
  subst h
  refine zco ?_
  with_reducible repeat' first|refine kk_ ?_|refine nx hh ?_|refine allW fun w' hh=>?_|exact sd_|refine ai ?_ ?_|exact vr|fail
  exact kk _ hh.done
 | true =>
  rw [if_pos rfl] at h
  subst h
  replace hr:=hr rfl
  refine zcj ?_
  with_reducible repeat' first|refine kk_ ?_|refine nx hh ?_|refine allW fun w' hh=>?_|exact sd_|refine ai ?_ ?_|exact vr|fail
  refine f18 hr.1 hr.2.1 (by decide) (by decide) ?_
  with_reducible repeat' first|refine kk_ ?_|refine nx hh ?_|refine allW fun w' hh=>?_|exact sd_|refine ai ?_ ?_|exact vr|fail
  refine f18 hr.2.2.1 hr.2.2.2 (by decide) (by decide) ?_
  with_reducible repeat' first|refine kk_ ?_|refine nx hh ?_|refine allW fun w' hh=>?_|exact sd_|refine ai ?_ ?_|exact vr|fail
  simp only [beq_self_eq_true,Bool.and_self]
  exact kk _ hh.done
theorem nop_at {w:World} {hd:Cd} {h0 nh:Hd} {cs':List Hd} {c0:List UInt8} {r:List (List UInt8)} (hcs:hd.cs=h0::cs') (hC:C.codes=c0::r) (hr:RowRC w hd C) (hrow:Sees w 1 hd.c.p hd.c.n hd.c.c ((nh::cs').map Hd.v)) (hn:Sees w 1 nh.p nh.n nh.c (u8s (0x5B::c0))) :
  ContAt w ⟨hd.t,hd.c,hd.s,hd.d,nh::cs',hd.ss⟩ (nopC C):=by
 have hlen:=hr.len
 rw [hcs,hC] at hlen
 simp only [List.length_cons] at hlen
 refine ⟨hr.types,⟨hrow,?_,fun k x l h1 h2=>?_⟩,hr.subs,hr.data⟩
 ·show (nh::cs').length=(nopC C).codes.length
  unfold nopC
  rw [hC]
  simp only [List.length_cons,List.tail_cons]
  exact hlen
 ·have h2:((0x5B::c0)::r)[k]? = some l:=by
   rw [← h2];unfold nopC;rw [hC];rfl
  cases k with
  | zero =>
   simp only [List.getElem?_cons_zero,Option.some.injEq] at h1 h2
   subst h1;subst h2
   exact hn
  | succ k=>exact hr.each (k+1) x l (by rw [hcs];exact h1) (by rw [hC];exact h2)
theorem j9_1 {w0 w:World} {x5 x7:Nat} {hd:Cd} {l:List UInt8} (hlen:l.length≤6000) (hv:zcq l kind = .ok C) (hl:(C.codes.getD 0 []).length < 65535) (kk:∀ w',Bl w0 w'→K (.bool true) w')
  (hh:Hp zan w0 w [.own x7 #[.int .u64 (ofT C).1.steps,.int .u64 (ofT C).1.gas,.int .i64 (ofT C).1.height,.int .i64 (ofT C).1.returns] 40,.own x5 #[hd.t.v,hd.c.v,hd.s.v,hd.d.v,.int .i64 C.size] 27,rowRF hd C,.row 1 hd.c.p hd.c.n hd.c.c 22 (hd.cs.map Hd.v)]) :
  J9_1 K kind ⟨x5,0,none⟩ ⟨x7,0,none⟩ (ofT C).2 w:=by
 have hvc:=vc_of hv
 have hN:=nop_ok hlen hv hl
 have hvc':=vc_of hN.valid
 obtain ⟨e1,e2⟩:=nop_of hvc hvc' hl
 have hpos:=hvc.pos
 obtain ⟨c0,r,hC⟩:∃ c0 r,C.codes=c0::r:=by
  cases h:C.codes with
  | nil=>rw [h] at hpos;simp at hpos
  | cons a b=>exact ⟨a,b,rfl⟩
 have hRc:=(hh.on (S:=rowRS hd C) (A:=fun w=>RowRC w hd C) (by repeat (first|exact m0|apply mS))).holds
 obtain ⟨h0,cs',hcs⟩:∃ h0 cs',hd.cs=h0::cs':=by
  have:=hRc.len
  rw [hC] at this
  cases h:hd.cs with
  | nil=>rw [h] at this;simp at this
  | cons a b=>exact ⟨a,b,rfl⟩
 have hrow:=hh.row (z:=1) (p:=hd.c.p) (n:=hd.c.n) (c:=hd.c.c) (e:=22) (xs:=hd.cs.map Hd.v) (by repeat (first|exact m0|apply mS))
 have hrl:=hrow.len
 rw [hcs] at hrl hrow
 simp only [List.map_cons,List.length_cons,List.length_map,Nat.mul_one] at hrl
 have hc0:=hRc.each 0 h0 c0 (by rw [hcs];rfl) (by rw [hC];rfl)
 have hc0b:=hc0.bytes
 rw [hC] at hl
 simp only [List.getD_cons_zero] at hl
 obtain ⟨g,cap,hcv⟩:∃ g cap,hd.c.v = .slice (some ⟨g,0,none⟩) hd.c.n cap:=by
  rcases hrow.form with ⟨_,h⟩|⟨g,c',h,_⟩
  ·omega
  ·exact ⟨g,c',h⟩
 obtain ⟨ht,hcc,hsx,hdx,hcsx,hssx⟩:=hd
 obtain ⟨pc,nc,cc⟩:=hcc
 simp only [Value.slice.injEq] at hcv
 obtain ⟨rfl,_,rfl⟩:=hcv
 simp only at hcs hrl hh hrow
 subst hcs
 have cell0:∀ {w:World} {L:List Ent},Hp zan w0 w L→Ent.row 1 (some ⟨g,0,none⟩) nc cc 22 ((h0::cs').map Hd.v)∈L→w.cell? ⟨g,0,none⟩=some h0.v:=fun hh hm=>(hh.row hm).cell (j:=0) (u:=h0.v) rfl
 unfold J9_1
 with_reducible repeat' first|refine kk_ ?_|refine nx hh ?_|refine allW fun w' hh=>?_|exact sd_|refine ai ?_ ?_|exact vr|fail
 refine ixSl (z:=1) (a:=⟨g,0,none⟩) (by with_unfolding_all rfl) (by with_unfolding_all rfl) (by decide) (by show (0:Int) < ((nc:Nat):Int);omega) ?_
 refine kA ?_
 first|rw [Int.toNat_zero,Nat.zero_mul,addG]|(dsimp only;rw [Int.toNat_zero,Nat.zero_mul,addG])
 refine ld (cell0 hh (by repeat (first|exact m0|apply mS))) ?_
 refine kL ?_
 with_reducible repeat' first|refine kk_ ?_|refine nx hh ?_|refine allW fun w' hh=>?_|exact sd_|refine ai ?_ ?_|exact vr|fail
 ·refine ld (cell0 hh (by repeat (first|exact m0|apply mS))) ?_
  rfl
 have hh1:=Hp.rowOwn (cs:=[.int .u8 91]) (hh.front (x:=.own _ #[.int .u8 91] 5) (by repeat (first|exact Pick.here|apply Pick.there))) (by decide)
 simp only [List.length_singleton] at hh1
 have hsee:=(hh1.on (S:=rowRS ⟨ht,⟨some ⟨g,0,none⟩,nc,cc⟩,hsx,hdx,h0::cs',hssx⟩ C) (A:=fun w=>RowRC w ⟨ht,⟨some ⟨g,0,none⟩,nc,cc⟩,hsx,hdx,h0::cs',hssx⟩ C) (by repeat (first|exact m0|apply mS))).holds.each 0 h0 c0 rfl (by rw [hC];rfl)
 refine appS (P:=Tryz.prog) (t:=22) (e:=5) (hh1.row List.mem_cons_self) hsee (by decide) (by with_unfolding_all rfl) (by with_unfolding_all rfl) (by with_unfolding_all rfl) (u8s_one c0) (by omega) (by decide) fun q cap w2 hr he hq=>?_
 replace hh:=hh1.turn (y:=.row 1 q (1+h0.n) cap 5 ([(.int .u8 91:Value)]++u8s c0)) .here he hr fun i hi=>(hq i hi).imp id fun h=>Nat.le_of_eq h.symm
 clear hh1 hr he hq hsee
 refine kL ?_
 with_reducible repeat' first|refine kk_ ?_|refine nx hh ?_|refine allW fun w' hh=>?_|exact sd_|refine ai ?_ ?_|exact vr|fail
 refine ixSl (z:=1) (a:=⟨g,0,none⟩) (by with_unfolding_all rfl) (by with_unfolding_all rfl) (by decide) (by show (0:Int) < ((nc:Nat):Int);omega) ?_
 refine kA ?_
 first|rw [Int.toNat_zero,Nat.zero_mul,addG]|(dsimp only;rw [Int.toNat_zero,Nat.zero_mul,addG])
 refine wRowSt (i:=0) (n:=nc) (c:=cc) (e:=22) (xs:=(h0::cs').map Hd.v) hh (by repeat (first|exact Pos.here|apply Pos.there)) (by omega) (by with_unfolding_all rfl) (by with_unfolding_all rfl) (by with_unfolding_all rfl) fun w4 hh=>?_
 with_reducible repeat' first|refine kk_ ?_|refine nx hh ?_|refine allW fun w' hh=>?_|exact sd_|refine ai ?_ ?_|exact vr|fail
 have hRc2:=(hh.on (S:=rowRS ⟨ht,⟨some ⟨g,0,none⟩,nc,cc⟩,hsx,hdx,h0::cs',hssx⟩ C) (A:=fun w=>RowRC w ⟨ht,⟨some ⟨g,0,none⟩,nc,cc⟩,hsx,hdx,h0::cs',hssx⟩ C) (by repeat (first|exact m0|apply mS))).holds
 have hca:=nop_at (hd:=⟨ht,⟨some ⟨g,0,none⟩,nc,cc⟩,hsx,hdx,h0::cs',hssx⟩) (h0:=h0) (nh:=⟨q,1+h0.n,cap⟩) rfl hC hRc2 (hh.row (z:=1) (p:=some ⟨g,0,none⟩) (n:=nc) (c:=cc) (e:=22) (xs:=((⟨q,1+h0.n,cap⟩:Hd)::cs').map Hd.v) (by repeat (first|exact m0|apply mS))).sees
  (hh.row (z:=1) (p:=q) (n:=1+h0.n) (c:=cap) (e:=5) (xs:=[(.int .u8 91:Value)]++u8s c0) (by repeat (first|exact m0|apply mS))).sees
 have hsz:(nopC C).size=C.size:=rfl
 first|rw [← hsz]|(dsimp only;rw [← hsz])
 have k0:=hN.valid
 have k1:=hN.chk
 have k2:=hN.l1
 have k3:=hN.ser
 have k4:=hN.tl
 have k5:=hN.most
 have k6:=hN.size
 clear hN hsz
 generalize nopC C=D at hca k0 k1 k2 k3 k4 k5 k6 hvc' e1 e2 ⊢
 refine f25 (hd:=⟨ht,⟨some ⟨g,0,none⟩,nc,cc⟩,hsx,hdx,⟨q,1+h0.n,cap⟩::cs',hssx⟩) (C:=D) hca k1 k2 k3 k4 k5 k6 fun q5 m5 cap5 w5 hm5 h5=>?_
 have hh5:=hh.take h5 fun x hx i hi=>by
  rw [List.mem_singleton] at hx
  subst hx
  exact Or.resolve_left (h5.may _ List.mem_cons_self i hi) fun h=>h
 with_reducible repeat' first|refine kk_ ?_|refine nx hh ?_|refine allW fun w' hh=>?_|exact sd_|refine ai ?_ ?_|exact vr|fail
 refine f16 (fun C hC=>valid_ok hC) hh5 (hh5.row (z:=1) (p:=q5) (n:=m5) (c:=cap5) (e:=5) (xs:=u8s (serT D)) List.mem_cons_self).sees k3 fun w6 hh=>?_
 first|rw [ofLT_ok k0]|(dsimp only;rw [ofLT_ok k0])
 clear hh5
 with_reducible repeat' first|refine kk_ ?_|refine nx hh ?_|refine allW fun w' hh=>?_|exact sd_|refine ai ?_ ?_|exact vr|fail
 refine ifNe (fun h=>absurd rfl h) fun _=>?_
 refine zcj ?_
 first|rw [e1,beq_self_eq_true]|(dsimp only;rw [e1,beq_self_eq_true])
 refine zcj ?_
 have hh7:=(hh.front (x:=.own x7 #[.int .u64 (ofT C).1.steps,.int .u64 (ofT C).1.gas,.int .i64 (ofT C).1.height,.int .i64 (ofT C).1.returns] 40) (by repeat (first|exact Pick.here|apply Pick.there))).front (x:=.own _ #[.int .u64 (ofT D).1.steps,.int .u64 (ofT D).1.gas,.int .i64 (ofT D).1.height,.int .i64 (ofT D).1.returns] 40) (by repeat (first|exact Pick.here|apply Pick.there))
 exact j9_3 (a:=(ofT C).1) (b:=(ofT D).1) hh7 (fun h=>of_rng hvc h) e2 kk
theorem boundMoved {w:World} {p:Option Addr} {n c:Nat} {l:List UInt8} (hs:Sees w 1 p n c (u8s l)) (kk:∀ w',Bl w w'→K (.bool true) w'):zaj Tryz.prog 9 #[.slice p n c,.int .i64 kind] w K:=by
 refine call9 _ _ _ _ _ _ ?_
 unfold F9
 refine f10' (Hp.start w) fun w1 hh=>?_
 refine kB ?_
 refine zcj ?_
 have hn:=hs.bytes
 refine ifD (fun _=>kk _ hh.done) fun h6=>?_
 refine f12 hh (hs.bl hh.done) (by omega) fun q cap w2 hh=>?_
 refine kL ?_
 refine f24h hh (hh.row (z:=1) (p:=q) (n:=n) (c:=cap) (e:=5) (xs:=u8s l) List.mem_cons_self).sees (by omega) (fun e a he w3 hh=>?_) (fun C hC hd w3 hh=>?_)
 ·have hne:=parse_err he
  have hno:(ofLT l kind).2.2=false:=by
   cases hv:zcq l kind with
   | error e=>rw [ofLT_no hv]
   | ok C =>
    exfalso
    unfold zcq at hv
    rw [he] at hv
    split at hv <;> cases hv
  unfold rejV
  with_reducible repeat' first|refine kk_ ?_|refine nx hh ?_|refine allW fun w' hh=>?_|exact sd_|refine ai ?_ ?_|exact vr|fail
  refine f16 (fun C hC=>valid_ok hC) hh (hs.bl hh.done) (by omega) fun w4 hh=>?_
  first|rw [hno]|(dsimp only;rw [hno])
  with_reducible repeat' first|refine kk_ ?_|refine nx hh ?_|refine allW fun w' hh=>?_|exact sd_|refine ai ?_ ?_|exact vr|fail
  first|rw [hne]|(dsimp only;rw [hne])
  refine ifBt ?_
  exact kk _ hh.done
 ·unfold okV
  with_reducible repeat' first|refine kk_ ?_|refine nx hh ?_|refine allW fun w' hh=>?_|exact sd_|refine ai ?_ ?_|exact vr|fail
  refine f16 (fun C hC=>valid_ok hC) hh (hs.bl hh.done) (by omega) fun w4 hh=>?_
  cases hv:zcq l kind with
  | error e =>
   first|rw [ofLT_no hv]|(dsimp only;rw [ofLT_no hv])
   with_reducible repeat' first|refine kk_ ?_|refine nx hh ?_|refine allW fun w' hh=>?_|exact sd_|refine ai ?_ ?_|exact vr|fail
   refine ifNe (fun h=>absurd rfl h) fun _=>?_
   refine zco ?_
   exact kk _ hh.done
  | ok C2 =>
   have h2:C=C2:=by
    unfold zcq at hv
    rw [hC] at hv
    split at hv
    ·cases hv
    simp only at hv
    split at hv
    ·cases hv
    ·cases hv;rfl
   subst h2
   rw [ofLT_ok hv]
   with_reducible repeat' first|refine kk_ ?_|refine nx hh ?_|refine allW fun w' hh=>?_|exact sd_|refine ai ?_ ?_|exact vr|fail
   refine ifNe (fun h=>absurd rfl h) fun _=>?_
   refine zcj ?_
   have hvc:=vc_of hv
   have hpos:=hvc.pos
   have hRc:=(hh.on (S:=rowRS hd C) (A:=fun w=>RowRC w hd C) (by repeat (first|exact m0|apply mS))).holds
   have hrow:=hh.row (z:=1) (p:=hd.c.p) (n:=hd.c.n) (c:=hd.c.c) (e:=22) (xs:=hd.cs.map Hd.v) (by repeat (first|exact m0|apply mS))
   have hrl:=hrow.len
   rw [List.length_map,hRc.len,Nat.mul_one] at hrl
   unfold J9_0
   with_reducible repeat' first|refine kk_ ?_|refine nx hh ?_|refine allW fun w' hh=>?_|exact sd_|refine ai ?_ ?_|exact vr|fail
   refine ifE (fun h=>by omega) fun _=>?_
   with_reducible repeat' first|refine kk_ ?_|refine nx hh ?_|refine allW fun w' hh=>?_|exact sd_|refine ai ?_ ?_|exact vr|fail
   refine rdSee hrow.sees (by with_unfolding_all rfl) (by with_unfolding_all rfl) (by decide) (by omega) fun u hu=>?_
   rw [Int.toNat_zero,List.getElem?_map] at hu
   obtain ⟨h0,hh0,rfl⟩:=Option.map_eq_some_iff.1 hu
   obtain ⟨c0,hc0⟩:∃ c0,C.codes[0]? = some c0:=⟨_,List.getElem?_eq_getElem hpos⟩
   have hb:=(hRc.each 0 h0 c0 hh0 hc0).bytes
   have hg:C.codes.getD 0 []=c0:=by rw [List.getD_eq_getElem?_getD,hc0];rfl
   refine kL ?_
   unfold J9_2
   by_cases h65:(h0.n:Int) ≥ 65535
   ·rw [decide_eq_true h65]
    refine ifBt ?_
    with_reducible repeat' first|refine kk_ ?_|refine nx hh ?_|refine allW fun w' hh=>?_|exact sd_|refine ai ?_ ?_|exact vr|fail
    first|rw [decide_eq_true (show ((hd.c.n:Nat):Int) > 0 by omega)]|(dsimp only;rw [decide_eq_true (show ((hd.c.n:Nat):Int) > 0 by omega)])
    exact kk _ hh.done
   ·first|rw [decide_eq_false h65]|(dsimp only;rw [decide_eq_false h65])
    refine ifBf ?_
    exact j9_1 (by omega) hv (by rw [hg];omega) kk (((hh.front (x:=.row 1 hd.c.p hd.c.n hd.c.c 22 (hd.cs.map Hd.v)) (by repeat (first|exact Pick.here|apply Pick.there))).front (x:=rowRF hd C) (by repeat (first|exact Pick.here|apply Pick.there)) |>.front (x:=.own _ #[hd.t.v,hd.c.v,hd.s.v,hd.d.v,.int .i64 C.size] 27) (by repeat (first|exact Pick.here|apply Pick.there)) |>.front (x:=.own _ #[.int .u64 (ofT C).1.steps,.int .u64 (ofT C).1.gas,.int .i64 (ofT C).1.height,.int .i64 (ofT C).1.returns] 40) (by repeat (first|exact Pick.here|apply Pick.there))).sublist (List.Sublist.cons_cons _ (List.Sublist.cons_cons _ (List.Sublist.cons_cons _ (List.Sublist.cons_cons _ (by repeat (first|exact List.Sublist.refl _|apply List.Sublist.cons)))))))
theorem boundMoved_walk (p:Option Addr) (n c:Nat) (l:List UInt8) (kind:Int) (W:World) (hs:Sees W 1 p n c (u8s l)) (_:(Lit.int .i64 kind).wf=true) :
  Calls Tryz.prog 9 #[.slice p n c,.int .i64 kind] W fun e W'=>e = .returned (.bool true)∧Below W.heap.size W W' :=
 Calls.mono (boundMoved (K:=fun v w'=>v = .bool true∧Bl W w') hs fun w' b=>⟨rfl,b⟩) fun e w' ⟨v,he,hv,hb⟩=>⟨by rw [he,hv],hb⟩
end
end Go.Proofs.YtlfhngoeecjfpaaGreatDoor.B
namespace Go.Proofs.YtlfhngoeecjfpaaGreatDoor.Sh
open Go Go.RowKit Go.ChangeShapes
theorem list_of {α:Type} {Q:Nat→α→Prop}:∀ n:Nat,(∀ i,i < n→∃ x,Q i x)→∃ xs:List α,xs.length=n∧∀ (i:Nat) x,xs[i]? = some x→Q i x
 | 0,h=>⟨[],rfl,fun i x hx=>by simp at hx⟩
 | n+1,h=>by
  obtain ⟨xs,h1,h2⟩:=list_of n fun i hi=>h i (by omega)
  obtain ⟨y,hy⟩:=h n (by omega)
  refine ⟨xs++[y],by simp [h1],fun i x hx=>?_⟩
  by_cases hi:i < n
  ·rw [List.getElem?_append_left (by omega)] at hx
   exact h2 i x hx
  ·by_cases he:i=n
   ·subst he
    rw [List.getElem?_append_right (by omega),h1,Nat.sub_self] at hx
    cases hx
    exact hy
   ·rw [List.getElem?_eq_none (by simp [h1];omega)] at hx
    cases hx
section
variable {H:Type} {enc:TypeId × Value→H} {P:Program} {w:World} {base b0:Nat} {sp:Nat→Bool} {held:Bool}
theorem open_see {k:IntKind} {s e:TypeId} {r:Reach} {v:Value} {d:DataW H} {ps:List MemPlace} (hs:P.underlying s=some (.slice e)) (he:P.underlying e=some (.int k)) (hc:P.cellsOf e=1)
  (hval:Value.okWide P w r b0 s v) (h:DataW.Trod enc P w base sp held s v d ps) :
  ∃ p l c,∃ xs:List Int,v = .slice p l c∧(∀ n∈xs,(Lit.int k n).wf=true)∧Sees w 1 p l c (xs.map fun n=>.int k n):=by
 obtain ⟨p,l,c,rfl⟩:=WideShapes.okWide_slice hs hval
 obtain ⟨fuel,hf⟩:=h
 rcases DataW.trod_slice hs hf with ⟨h0,_⟩|⟨a,len,cap,elems,rest,n,_,h0,_,_,hl,hm,hlen,hel,_⟩
 ·simp [Value.cells] at h0
  obtain ⟨rfl,rfl,rfl⟩:=h0
  exact ⟨_,_,_,[],rfl,fun n hn=>(by cases hn),Sees.nil w 1⟩
 ·simp [Value.cells] at h0
  obtain ⟨rfl,rfl,rfl⟩:=h0
  obtain ⟨xs,x1,x2⟩:=list_of (Q:=fun i m=>(Lit.int k m).wf=true∧w.cell? (a.add i)=some (.int k m)) l fun i hi=>by
   have h1:=hel i hi
   rw [hc] at h1
   obtain ⟨y,hy⟩:∃ y,elems[i]? = some y:=⟨_,List.getElem?_eq_getElem (by omega)⟩
   rw [hy,Option.bind_eq_some_iff] at h1
   obtain ⟨cs,hcs,hy'⟩:=h1
   obtain ⟨m,rfl,_,wm⟩:=DataW.trod_int he hy'
   have hg:=(World.cells?_some hcs).2.2 0 (by decide)
   rw [add_zero,Nat.mul_one] at hg
   exact ⟨m,wm,hg⟩
  refine ⟨_,_,_,xs,rfl,fun n hn=>?_,⟨by rw [List.length_map,x1,Nat.mul_one],by omega,fun j u hu=>?_⟩⟩
  ·obtain ⟨i,hi,rfl⟩:=List.getElem_of_mem hn
   exact (x2 i _ (List.getElem?_eq_getElem hi)).1
  ·rw [List.getElem?_map,Option.map_eq_some_iff] at hu
   obtain ⟨m,hm',rfl⟩:=hu
   exact ⟨a,rfl,(x2 j m hm').2⟩
theorem u8_of {xs:List Int} (h:∀ n∈xs,(Lit.int .u8 n).wf=true):(xs.map fun n=>Value.int .u8 n)=u8s (xs.map fun n=>UInt8.ofNat n.toNat):=by
 unfold u8s
 rw [List.map_map]
 refine List.map_congr_left fun n hn=>?_
 have:=h n hn
 simp [Lit.wf,IntKind.min,IntKind.max,IntKind.signed,IntKind.bits] at this
 simp only [Function.comp]
 congr 1
 rw [UInt8.toNat_ofNat']
 omega
end
end Go.Proofs.YtlfhngoeecjfpaaGreatDoor.Sh
