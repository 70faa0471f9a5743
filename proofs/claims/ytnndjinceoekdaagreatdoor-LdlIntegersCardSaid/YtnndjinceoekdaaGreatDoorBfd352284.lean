/-
  Parts of the proof: Fw25, Fw36, Fw46, Fw47, Pl1, Fs, Dn20, Dn21, TwS, Dn20b, Dn22, Dn24a, Dn24, Dn25, Dn25b, Dn25c, Tw25, Ok25, Pa1, Pl2, Pl3: the framework (Fw), pure forms (Dn), plain laws (Pl, Th), calls of functions (Ok).
-/
import Derived.ProofKit
import Derived.Handed
import Derived.KernelRfl
import Derived.Lib.SlicesCompact
import Derived.RangeFuncBox
import Derived.RangeFuncLeaves
import Derived.Shelf.Abstract
import Derived.WalkKit
import Derived.OwnWalkIn
import Derived.TacticsInMore
import Derived.LoopNIn
import Derived.LoopIn
import Derived.Maps.AppendAt
import Derived.Shelf.Slices.CompactI
import Derived.Lib.OwnBridge
import Derived.Test.YtnndjinceoekdaaGreatDoorProg
import Derived.Test.YtnndjinceoekdaaGreatDoorB71f64438

set_option linter.all false
set_option maxHeartbeats 1000000
open _root_ renaming Nat->X,Int->Z,List->bm,rfl->bn,Option->bu,cond_true->bF,congrArg->b3,Array->bT,Bool->bz,if_true->ck,False->b4,Unit->bt,cond->bw,and_true->cc
open Go renaming World->bC,ResultVar->alc,TypeId->bE,Exit->b5,Code->cq,Oper->bQ,Program->bY,Field->alz,MemPlace->amX,Fence->amj,CallsIn->al6,callsIn_of_wp->am2,undef->bV
open Option renaming none->bo,some->Y,bind_eq_some_iff->amw,bind->bB
open Nat renaming beq->bH,blt->cb,ble->b2,reduceAdd->amy,reduceSub->amz,mul_one->amU,min_eq_left->amA
open List renaming length->cz,range->bI,getElem?_eq_none->am0,getElem?_eq_getElem->bX,replicate->bJ,ext_getElem->anF,length_cons->apm,length_take->alD,take_add_one->ali,take_append_drop->anA
open Option.some renaming inj->alU,injEq->amu
open Bool renaming true->bp,false->bq
open ByteArray renaming empty->an2
open Go.Program renaming cellsOf->aqb
open Go.Addr renaming add->aol
open Go.World renaming cell?->amr,frozen?->an5
open Go.DataW renaming trod->api,TrodAll->amZ
open Go.jN.ah renaming size->alC
open Go.Value renaming okWide->amY,bool->aqe,int->aln,oneCell'->alx
open Go.WideShapes renaming okWide_int->arh,okWide_bool->ari,okWide_string->arj,okWide_slice->ark
open Go.ChangeShapes renaming trodAll_cons->apj,trodAll_mk1->arn,trodAll_append->aro
open Go.jN.dd renaming refl->cp
open Go.WideElems renaming Trod_stays->arl
open Array renaming toArray_toList->aqc
open Go.MemPlace renaming cell->aqd
open Decidable renaming decide->br
open Go.IntKind renaming i64->bK,wrap->am1,u64->bD,u32->cd,u8->apk
open Go.Lib renaming compact->al5
open Go.Proofs.Tryz renaming prog->cm,underlying23->aqf,func317->apl,ntmps317->aqg,func266->aom
open Go.RowKit.Below renaming refl->anG
open Go.Boxed renaming new->aqh
open Go.Sort renaming ahead->aqi
open Int renaming le_refl->am3
noncomputable section
namespace Go.jN
variable{a:X}{b:ala}{c:Type}{d:Z}{e:Value}{f:bm hE}{g:bm ah}{h:bC}{i:bm alc}{j:eH->X->Prop}{k:Func}{l:X->Prop}
section
def n3:X->(f:bm hE)->hH f->bm (X×ak)
 |_,[],_=>[]
 |k,.v g::b,a=>(k,.val g a.1)::n3 (k+1) b a.2
 |k,.m _::b,a=>(k,.ref k [])::n3 (k+1) b a.2
 |k,.o _::b,a=>(k,.ref k [])::n3 (k+1) b a.2
 |k,.c e h::b,a=>(k,.di e ((jx h a.1).map λd=>.val d.1 d.2))::n3 (k+1) b a.2
 |k,.n::b,a=>(k,.eB (.slice bo 0 0))::n3 (k+1) b a.2
 |k,.w _::b,a=>(k,.view k [] a.1.2.1 a.1.2.2)::n3 (k+1) b a.2
 |k,.s _ _::b,a=>n3 (k+1) b a.2
def n4:X->(e:bm hE)->hH e->bm (X×aE)
 |_,[],_=>[]
 |k,.v _::b,a=>n4 (k+1) b a.2
 |k,.m d::b,a=>(k,⟨d,a.1⟩)::n4 (k+1) b a.2
 |k,.o d::b,a=>(k,⟨d,a.1⟩)::n4 (k+1) b a.2
 |k,.c _ _::b,a=>n4 (k+1) b a.2
 |k,.n::b,a=>n4 (k+1) b a.2
 |k,.w f::b,a=>(k,⟨.osl f,a.1.1⟩)::n4 (k+1) b a.2
 |k,.s _ _::b,a=>n4 (k+1) b a.2
def km:X->bm hE->ak9
 |_,[]=>[]
 |k,.m _::a=>k::km (k+1) a
 |k,.v _::a=>km (k+1) a
 |k,.o _::a=>km (k+1) a
 |k,.c _ _::a=>km (k+1) a
 |k,.n::a=>km (k+1) a
 |k,.w _::a=>k::km (k+1) a
 |k,.s _ _::a=>km (k+1) a
def HU {r:Type}:∀{k:X} {ps:bm hE} {a:hH ps} {b:jn ps r},j9 k (gP ps a b)=n3 k ps a/\kC k (gP ps a b)=n4 k ps a/\h4 k (gP ps a b)=km k ps/\(gP ps a b).length=ps.length
 |k,[],a,b=>⟨bn,bn,bn,bn⟩
 |k,i::h,a,b=>by
  have g:=λa b=>HU (r:=r) (k:=k+1) (ps:=h) (a:=a) (b:=b);cases i
  case m=>
   obtain⟨c,d,e,f⟩:=g a.2 b.2;simp only[gP,j9,kC,h4,n3,n4,km,iH,c,d,e,f,and_self]
  case w=>
   obtain⟨c,d,e,f⟩:=g a.2 b.2;simp only[gP,j9,kC,h4,n3,n4,km,iH,c,d,e,f,and_self]
  all_goals obtain⟨c,d,e,f⟩:=g a.2 b;simp only[gP,j9,kC,h4,n3,n4,km,iH,c,d,e,f,and_self]
def Gy (tt:bm (bE×ah)) (e:aR) (b:ah):alc->bu (b.den×ak9)
 |.tmp k=>match gt e.g k with
  |.val _ l=>(ij b l).bind λa=>Y (a,[])
  |.eB f=>bif qK b f then(ji b f.cells.toList).bind λa=>Y (a,[]) else bo
  |.ref id d=>match aq e.h id with
   |some c=>(il c.1 c.2 d b).bind λa=>Y (a,[id])
   |none=>bo
  |_=>bo
 |.cell j i=>match aq tt i with
  |some m=>bif bd m b then match gt e.g j with
   |.ref id d=>match aq e.h id with
    |some c=>match fC c.1 d with
     |some (.optr _)=>(il c.1 c.2 (d++[.deref]) b).bind λa=>Y (a,[id])
     |_=>bo
    |none=>bo
   |_=>bo else bo
  |none=>bo
def Gx (tt:bm (bE×ah)) (c:aR):bm alc->(a:bm ah)->bu (l5 a×ak9)
 |[],[]=>Y ((),[])
 |r::f,e::a=>bif e.gp then(Gy tt c e r).bind λd=>(Gx tt c f a).map λb=>((d.1,b.1),d.2++b.2) else bo
 |_,_=>bo
theorem afr {E:fM} {f:aR} {c:ah} {b:alc} {d:c.den×ak9} (a:Gy E.tt f c b=Y d):s3 E.P f ⟨c,d.1⟩ b d.2:=by
 cases b with
 |tmp b=>
  simp only[Gy] at a;simp only[s3];split at a
  ·grind [kD,amw]
  ·grind [amw,qK.ok]
  ·grind [jl,amw]
  grind
 |cell j h=>
  simp only[Gy] at a;simp only[s3];split at a
  case h_2=>cases a
  rename_i g i;cases e:bd g c with
  |false=>grind
  |true=>
  rw[e] at a;refine⟨(E.ok h g i).lay e,?_⟩;simp only[bF] at a;grind [jl,amw]
theorem SF {E:fM} {f:aR}:∀{d:bm alc} {c:bm ah} {b:l5 c×ak9},Gx E.tt f d c=Y b->uZ E.P f d (jx c b.1) b.2
 |[],[],b,a=>by cases a;rfl
 |[],_::_,b,a=>by cases a
 |_::_,[],b,a=>by cases a
 |r::d,k::c,b,a=>by
  simp only[Gx] at a;cases e:k.gp with
  |false=>grind
  |true=>
  rw[e] at a;simp only[bF] at a;obtain⟨j,h,a⟩:=eV.1 a;obtain⟨i,g,rfl⟩:=fO.1 a;exact⟨e,j.2,i.2,bn,afr h,SF g⟩
def pW (
 st:aR) {t:Type} (d:bu t):X->(r:bm hE)->hH r->bu (jn r t)
 |_,[],_=>d
 |k,.v _::b,a=>pW st d (k+1) b a.2
 |k,.o _::b,a=>pW st d (k+1) b a.2
 |k,.c _ _::b,a=>pW st d (k+1) b a.2
 |k,.n::b,a=>pW st d (k+1) b a.2
 |k,.s _ _::b,a=>pW st d (k+1) b a.2
 |k,.m l::b,a=>bif te (.ref k []) (gt st.g k)&&(l.gp&&sI l) then match aq st.h k with
  |some j=>match ij l j.2 with
   |some e=>(pW st d (k+1) b a.2).map λi=>(e,i)
   |none=>bo
  |none=>bo else bo
 |k,.w f::b,a=>match gt st.g k with
  |.view u [] q p=>bif bH k u&&f.gp then match aq st.h k with
   |some j=>match ij (.osl f) j.2 with
    |some e=>bif bH q a.1.2.1&&(bH p a.1.2.2&&(bH (cz (α:=f.den) e) (cz (α:=f.den) a.1.1)&&cb q p)) then(pW st d (k+1) b a.2).map λi=>(e,i) else bo
    |none=>bo
   |none=>bo else bo
  |_=>bo
theorem ug {y:aR} {C:Type} {B:bu C}:∀{k:X} {ps:bm hE} {a:hH ps} {d:jn ps C},pW y B k ps a=Y d->qw y k (gP ps a d)/\B=Y (iP ps d)
 |k,[],a,d,b=>⟨trivial,b⟩
 |k,.v _::e,a,d,b=>ug (ps:=e) b
 |k,.o _::e,a,d,b=>ug (ps:=e) b
 |k,.c _ _::e,a,d,b=>ug (ps:=e) b
 |k,.n::e,a,d,b=>ug (ps:=e) b
 |k,.s _ _::e,a,d,b=>ug (ps:=e) b
 |k,.m E::e,a,d,b=>by
  simp only[pW] at b;cases f:(te (.ref k []) (gt y.g k)&&(E.gp&&sI E)) with
  |false=>grind
  |true=>
  rw[f] at b;simp only[cF] at f;simp only[bF] at b;split at b
  case h_2=>cases b
  rename_i J t;split at b
  case h_2=>cases b
  rename_i D u;obtain⟨I,r,rfl⟩:=fO.1 b;obtain⟨j,l⟩:=ug (a:=a.2) r;refine⟨⟨⟨(te.ok f.1).symm,?_,f.2.1,f.2.2⟩,j⟩,l⟩;rw[t];exact b3 Y (kD u)
 |k,.w z::e,a,d,b=>by
  simp only[pW] at b;split at b
  case h_2=>cases b
  rename_i H x q G;cases f:(bH k H&&z.gp) with
  |false=>grind
  |true=>
  rw[f] at b;simp only[cF] at f;obtain rfl:=fH f.1;simp only[bF] at b;split at b
  case h_2=>cases b
  rename_i J t;split at b
  case h_2=>cases b
  rename_i D u;cases p:(bH x a.1.2.1&&(bH q a.1.2.2&&(bH (cz (α:=z.den) D) (cz (α:=z.den) a.1.1)&&cb x q))) with
  |false=>grind
  |true=>
  rw[p] at b;simp only[cF] at p;obtain⟨h,i,F,A⟩:=p;have h:=fH h;have i:=fH i;have A:x<q:=g1 A;obtain⟨I,r,rfl⟩:=fO.1 b;obtain⟨j,l⟩:=ug (a:=a.2) r;refine⟨⟨⟨by rw[G,h,i],?_,⟨f.2,aa⟩,fH F⟩,j⟩,l⟩;rw[t];exact b3 Y (kD u)
def Ff (tt:bm (bE×ah)) (a:bm hE) (f:bm alc) (d:bm ah) (e:hH a) (c:aR):bu (jn a (l5 d)):=
 match Gx tt c f d with
 |some b=>bif j0 (km 0 a++b.2) then pW c (Y b.1) 0 a e else bo
 |none=>bo
theorem Pb {E:fM} {j:aR} {c:hH f} {d:jn f (l5 g)} {e:b5} (m:e=.normal\/e=.ret) (b:Ff E.tt f i g c j=Y d):Mw E.P (gP f c d) i (jx g (iP f d)) e j:=by
 unfold Ff at b;split at b
 case h_2=>cases b
 rename_i h o;cases l:j0 (km 0 f++h.2) with
 |false=>grind
 |true=>
 rw[l] at b;simp only[bF] at b;obtain⟨k,n⟩:=ug (a:=c) b;refine⟨m,h.2,?_,?_,k⟩
 ·grind [SF,alU]
 simp_all [HU]
def Pc (tt:bm (bE×ah)) (a:bm hE) (e:bm alc) (c:bm ah) (d:hH a):b5->aR->bu (jn a (l5 c))
 |.normal,b=>Ff tt a e c d b
 |.ret,b=>Ff tt a e c d b
 |_,_=>bo
def Bi (c:gZ) (e:mO) (f:cq) (a:bm hE) (g:bm alc) (d:bm ah) (b:hH a):bu (jn a (l5 d)):=
 hW c e f ⟨n3 0 a b,n4 0 a b⟩ _ (Pc c.tt a g d b)
section
variable {E:fM}
theorem aC.Q9 {h:X} {d:Func} {j:hH f->bu (jn f (l5 g))} (n:bm (X×jM)) (r:bm (X×ah)) (o:alb) (w:mO) (az:ey) (F:∀v∈az,zw E.P v) (D:E.P.funcs[h]?=Y d) (O:d.body.isSome=bp) (I:d.results=i.toArray) (R:b2 f.length d.ntmps=bp) (C:∀(s:ew) (t:bC),(callFunc h s).run E.P t=.ok (.enter h s) t) (J:∀K∈n,aC E K.2) (A:∀e,Bi ⟨E.tt,n,r,d.ntmps,km 0 f++ow (j2 0 f),[],o,j2 0 f,az,[],E.glob,E.eqs⟩ w (d.body.getD .skip) f i g e=j e):aC E ⟨h,f,g,j⟩:=by
 refine⟨C,λe u p=>?_⟩;rw[show(jM.mk h f g j).y6 e=j e from rfl,<-A e] at p;obtain⟨al,y,z,N⟩:=HU (k:=0) (ps:=f) (a:=e) (b:=u);refine sN.aa4 D (c:=d.body.getD .skip) (by cases Q:d.body with|none=>grind|some L=>rfl) I (by simp_all) ?_;intro M B l H q G;rw[al,y];rw[B6] at l q;rw[z] at l;refine mB (ic:=⟨E.tt,n,r,d.ntmps,km 0 f++ow (j2 0 f),[],o,j2 0 f,az,[],E.glob,E.eqs⟩) ⟨bn,B.symm,l.symm,⟨J,q,F,G,bn,bn⟩,ql.nil H⟩ p ?_;intro x S m;cases x with
 |normal=>exact Pb (.inl bn) m
 |ret=>exact Pb (.inr bn) m
 |_=>cases m
def aC.of {fn:Func} {rs:bm alc} {j:hH f->bu (jn f (l5 g))} (c:bm (X×jM)) (i:bm (X×ah)) (h:alb) (e:mO) (o:E.P.funcs[a]?=Y fn) (m:fn.body.isSome=bp) (q:fn.results=rs.toArray) (p:b2 f.length fn.ntmps=bp) (n:∀(k:ew) (l:bC),(callFunc a k).run E.P l=.ok (.enter a k) l) (r:∀s∈c,aC E s.2) (b:∀d,Bi ⟨E.tt,c,i,fn.ntmps,km 0 f++ow (j2 0 f),[],h,j2 0 f,[],[],E.glob,E.eqs⟩ e (fn.body.getD .skip) f rs g d=j d):aC E ⟨a,f,g,j⟩:=
 aC.Q9 c i h e [] (λ_ b=>by cases b) o m q p n r b
def GL:cq->cq
 |.seq a _=>a
 |c=>c
def Tq:cq->cq
 |.seq _ a=>a
 |c=>c
def wD (a:X):cq->bu (bT bQ)
 |.region d e _=>if d=a then Y e else bo
 |.seq b c=>(wD a b).orElse λ_=>wD a c
 |.cond _ b c=>(wD a b).orElse λ_=>wD a c
 |.block _ b=>wD a b
 |.loop b=>wD a b
 |_=>bo
def JE {b:gZ} {k:Type} {c:bT bQ} {f:ak9} {d:aR->bu k}:∀(j:ak9) (g:aR),lA b c (j++f) g d=lA b c j g λa=>lA b c f a d
 |[],g=>rfl
 |i::e,g=>by
  have h:(λa=>lA b c (e++f) a d)=λa=>lA b c e a λa=>lA b c f a d:=funext λa=>JE e a;simp only[kT,lA];split
  ·rfl
  split
  ·rw[h]
  simp only[h,JE e]
def YJ {b:bY} {tt:bm (bE×ah)} (i:∀c f,aq tt c=Y f->fx b f c) {a:u1} {S:bE} (g:b.underlying a.T=Y (.array a.xs.length S)) (h:aq tt S=Y (.int a.k)):∀e∈[a],MM b e:=λe d=>by rw[gq] at d;subst d;exact⟨S,g,i _ _ h⟩
def T3:∀b∈([]:bm (X×jM)),aC E b.2:=λ_ a=>by cases a
theorem agS {c:jM} {d:bm (X×jM)} (f:aC E c) (g:∀b∈d,aC E b.2):∀b∈(a,c)::d,aC E b.2:=λb e=>by grind
end
def wU:Value->Value->bz
 |.int c a,.int d b=>if c=d/\a=b then bp else bq
 |.bool a,.bool b=>a==b
 |.string a,.string b=>a.data.toList.isEmpty&&b.data.toList.isEmpty
 |.slice bo 0 0,.slice bo 0 0=>bp
 |.map bo,.map bo=>bp
 |.pointer bo,.pointer bo=>bp
 |.nilFunc,.nilFunc=>bp
 |_,_=>bq
def V6 {a:ByteArray} (c:a.data.toList.isEmpty=bp):a=an2:=by
 cases a with|mk b=>cases b with|mk d=>cases d with
  |nil=>rfl
  |cons=>cases c
theorem wU.ok {b:Value} (a:wU e b=bp):e=b:=by
 unfold wU at a;split at a
 ·grind
 ·rw[beq_iff_eq.1 a]
 ·simp_all [V6,cF]
 ·rfl
 ·rfl
 ·rfl
 ·rfl
 cases a
def wV:ez->ez->bz
 |[],[]=>bp
 |a::c,b::d=>wU a b&&wV c d
 |_,_=>bq
theorem wV.ok:∀{c d:ez},wV c d=bp->c=d
 |[],[],_=>rfl
 |[],_::_,b=>by cases b
 |_::_,[],b=>by cases b
 |a::c,e::d,b=>by simp only[wV,cF] at b;rw[wU.ok b.1,wV.ok b.2]
def jY (b:bY) (c:bE) (d:X) (f:Value):bz:=match b.info? c with
 |some a=>bH a.size 1&&b2 a.bytes d&&(match a.zero with|some e=>wU e f|none=>bq)
 |none=>bq
theorem jY.ok {d:bY} {e:bE} {f:X} {g:Value} (b:jY d e f g=bp):∃a,d.info? e=Y a/\a.size=1/\a.bytes<=f/\a.zero=Y g:=by
 unfold jY at b;split at b
 case h_2=>cases b
 rename_i a j;simp only[cF] at b;obtain⟨⟨h,i⟩,c⟩:=b;split at c
 case h_2=>cases c
 rename_i l k;exact⟨a,j,fH h,g1 i,by rw[k,wU.ok c]⟩
mutual
def h8 (b:bY):ah->bE->bz
 |.int g,a=>jY b a 24 (.int g 0)&&(match b.underlying a with|some (.int j)=>if j=g then bp else bq|_=>bq)
 |.bool,a=>jY b a 24 (.bool bq)&&(match b.underlying a with|some .bool=>bp|_=>bq)
 |.str,a=>jY b a 24 (.string an2)&&(match b.underlying a with|some .string=>bp|_=>bq)
 |.a8 _ c,a=>jY b a 24 (.slice bo 0 0)&&(match b.underlying a with|some (.slice d)=>h8 b c d|_=>bq)
 |.osl c,a=>jY b a 24 (.slice bo 0 0)&&(match b.underlying a with|some (.slice d)=>h8 b c d|_=>bq)
 |.ptr _ c,a=>jY b a 24 (.pointer bo)&&(match b.underlying a with|some (.pointer d)=>h8 b c d|_=>bq)
 |.optr c,a=>jY b a 24 (.pointer bo)&&(match b.underlying a with|some (.pointer d)=>h8 b c d|_=>bq)
 |.mp c,a=>jY b a 24 (.map bo)&&(match b.underlying a with|some (.map e d)=>(match b.underlying e with|some (.int .i64)=>h8 b c d|_=>bq)|_=>bq)
 |.fj _ c,a=>jY b a 24 (.map bo)&&(match b.underlying a with|some (.map e d)=>(match b.underlying e with|some (.int .i64)=>h8 b c d|_=>bq)|_=>bq)
 |.fn _ _,a=>jY b a 24 .nilFunc&&(match b.underlying a with|some (.func _ _ _)=>bp|_=>bq)
 |.st c,a=>cb 0 c.size&&match b.info? a with
  |some f=>bH f.size c.size&&b2 f.bytes (24*c.size)&&(match f.zero with
   |some (.agg h)=>bH h.size c.size&&(match b.underlying a with|some (.struct i)=>tN b c i.toList 0 h.toList|_=>bq)
   |_=>bq)
  |none=>bq
 |_,_=>bq
def tN (c:bY):ah->bm alz->X->ez->bz
 |.pr a f,d::h,e,b=>bH d.offset e&&h8 c a d.type&&cb 0 a.size&&(match c.info? d.type with|some g=>(match g.zero with|some i=>wV (b.take a.size) i.cells.toList|none=>bq)|none=>bq)&&tN c f h (e+a.size) (b.drop a.size)
 |.nil,[],_,b=>b.isEmpty
 |_,_,_,_=>bq
end
mutual
theorem h8.ok {n:bY}:∀{o:ah} {i:bE},h8 n o i=bp->fx n o i
 |.int z,i,a=>by
  simp only[h8,cF] at a;obtain⟨c,b⟩:=a;obtain⟨e,ax,f,g,h⟩:=jY.ok c;split at b
  ·rename_i A d;split at b
   ·rename_i p;subst p;exact⟨e,ax,f,g,h,d⟩
   grind
  grind
 |.bool,i,a=>by
  simp only[h8,cF] at a;obtain⟨c,b⟩:=a;obtain⟨e,ax,f,g,h⟩:=jY.ok c;split at b
  ·rename_i d;exact⟨e,ax,f,g,h,d⟩
  grind
 |.str,i,a=>by
  simp only[h8,cF] at a;obtain⟨c,b⟩:=a;obtain⟨e,ax,f,g,h⟩:=jY.ok c;split at b
  ·rename_i d;exact⟨e,ax,f,g,h,d⟩
  grind
 |.a8 _ k,i,a=>by
  simp only[h8,cF] at a;obtain⟨c,b⟩:=a;obtain⟨e,ax,f,g,h⟩:=jY.ok c;split at b
  ·rename_i j d;exact⟨e,j,ax,f,g,h,d,h8.ok b⟩
  grind
 |.osl k,i,a=>by
  simp only[h8,cF] at a;obtain⟨c,b⟩:=a;obtain⟨e,ax,f,g,h⟩:=jY.ok c;split at b
  ·rename_i j d;exact⟨e,j,ax,f,g,h,d,h8.ok b⟩
  grind
 |.ptr _ k,i,a=>by
  simp only[h8,cF] at a;obtain⟨c,b⟩:=a;obtain⟨e,ax,f,g,h⟩:=jY.ok c;split at b
  ·rename_i j d;exact⟨e,j,ax,f,g,h,d,h8.ok b⟩
  grind
 |.optr k,i,a=>by
  simp only[h8,cF] at a;obtain⟨c,b⟩:=a;obtain⟨e,ax,f,g,h⟩:=jY.ok c;split at b
  ·rename_i j d;exact⟨e,j,ax,f,g,h,d,h8.ok b⟩
  grind
 |.mp k,i,a=>by
  simp only[h8,cF] at a;obtain⟨c,b⟩:=a;obtain⟨e,ax,f,g,h⟩:=jY.ok c;split at b
  ·rename_i l j d;split at b
   ·rename_i m;exact⟨e,l,j,ax,f,g,h,d,m,h8.ok b⟩
   grind
  grind
 |.fj _ k,i,a=>by
  simp only[h8,cF] at a;obtain⟨c,b⟩:=a;obtain⟨e,ax,f,g,h⟩:=jY.ok c;split at b
  ·rename_i l j d;split at b
   ·rename_i m;exact⟨e,l,j,ax,f,g,h,d,m,h8.ok b⟩
   grind
  grind
 |.fn _ _,i,a=>by
  simp only[h8,cF] at a;obtain⟨c,b⟩:=a;obtain⟨e,ax,f,g,h⟩:=jY.ok c;split at b
  ·rename_i v w x d;exact⟨e,v,w,x,ax,f,g,h,d⟩
  grind
 |.st k,i,a=>by
  simp only[h8,cF] at a;obtain⟨r,a⟩:=a;split at a
  case h_2=>cases a
  rename_i e t;simp only[cF] at a;obtain⟨⟨c,b⟩,a⟩:=a;split at a
  case h_2=>cases a
  rename_i y u;simp only[cF] at a;obtain⟨s,a⟩:=a;split at a
  case h_2=>cases a
  rename_i q d;exact⟨g1 r,e,q,y,t,fH c,g1 b,u,d,tN.ok a,fH s⟩
 |.pr _ _,_,a=>by cases a
 |.nil,_,a=>by cases a
 |.eI,_,a=>by cases a
theorem tN.ok {f:bY}:∀{g:ah} {b:bm alz} {d:X} {c:ez},tN f g b d c=bp->i9 f g b d c
 |.pr h i,[],d,c,a=>by cases a
 |.pr h i,r::s,d,c,a=>by
  simp only[tN,cF] at a;obtain⟨⟨⟨⟨j,k⟩,l⟩,e⟩,m⟩:=a;split at e
  case h_2=>cases e
  rename_i p n;split at e
  case h_2=>cases e
  rename_i q o;exact⟨fH j,h8.ok k,g1 l,⟨p,q,n,o,wV.ok e⟩,tN.ok m⟩
 |.nil,[],d,c,a=>by have a:c=[]:=(by grind [tN]);exact a
 |.nil,_::_,d,c,a=>by cases a
 |.int _,b,d,c,a=>by cases b<;>cases a
 |.bool,b,d,c,a=>by cases b<;>cases a
 |.str,b,d,c,a=>by cases b<;>cases a
 |.a8 _ _,b,d,c,a=>by cases b<;>cases a
 |.ptr _ _,b,d,c,a=>by cases b<;>cases a
 |.osl _,b,d,c,a=>by cases b<;>cases a
 |.optr _,b,d,c,a=>by cases b<;>cases a
 |.st _,b,d,c,a=>by cases b<;>cases a
 |.eI,b,d,c,a=>by cases b<;>cases a
end
theorem Ud {e:bY}:∀{tt:bm (bE×ah)},(tt.all λf=>h8 e f.2 f.1)=bp->∀a b,aq tt a=Y b->fx e b a
 |[],_,_,_,c=>by cases c
 |(k,g)::r,c,a,b,d=>by
  simp only[sT,cF] at c;rw[eC] at d;split at d
  ·grind [h8.ok]
  exact Ud (by grind) a b d
def I9 (a:bY):ey->bz
 |[]=>bp
 |T::d=>!a.stoodInHeld T&&(!a.eqGuardType a.depth T&&((match a.underlying T with|some (.struct c)=>c.toList.all λb=>b.name !="_"|_=>bq)&&I9 a d))
def OX {e:bY}:∀{d:ey},I9 e d=bp->∀b∈d,Mu e b
 |[],_,b,a=>by cases a
 |U::d,f,b,a=>by
  simp only[I9,cF,uK] at f;obtain⟨h,i,c,j⟩:=f;rcases fF.1 a with rfl|a
  ·split at c
   ·rename_i g k;exact⟨h,i,g,k,c⟩
   cases c
  exact OX j b a
end
section
def qz:(i:ah)->i.den->Prop
 |.int g,h=>(Lit.int g h).wf=bp
 |.a8 _ b,c=>c.length<=maxLen/\∀a∈c,qz b a
 |.ptr _ b,a=>∀d,a=Y d->qz b d
 |.st b,a=>qz b a
 |.pr e f,a=>qz e a.1/\qz f a.2
 |_,_=>True
def td:ah->bz
 |.int _|.bool|.str|.nil=>bp
 |.a8 _ a|.ptr _ a|.st a=>td a
 |.pr b c=>td b&&td c
 |_=>bq
def If {P:bY} {c:ah} {a:bE} (d:fx P c a):P.cellsOf a=c.size:=by obtain⟨f,e,b,_⟩:=d.info;unfold aqb;rw[b.info];simp[b.size]
section
variable {A:Type} {enc:bE×Value->A} {P:bY} {w:bC}
theorem Ig {h:X} {b:Addr} {c:ez} (d:w.cells? h b a=Y c) (f:0<a):b.spot=bo/\c.length=a/\b.block<w.heap.size/\fE w b.block b.off c:=by
 have l:=World.cells?_block d f;obtain⟨_,k,e⟩:=World.cells?_some d;have m:b.spot=bo:=by
  have o:=e 0 f;have:(w.cell? (b.add 0)).isSome=bp:=(by grind);simp only[aol,ck] at this;unfold amr at this;split at this
  ·cases p:b.spot with
   |none=>rfl
   |some t=>grind
  grind
 refine⟨m,k,l,λg s i=>?_⟩;have j:g<a:=(by grind);have:=e g j;rw[i] at this;rw[<-this];congr 1;unfold aol;obtain⟨n,q,r⟩:=b;grind
def CG (w:bC):eH->X->Prop:=λ_ a=>a<w.heap.size
mutual
theorem G0:∀{τ:ah} {j:bE} {i:ez} {l:X} {o:DataW A×bm amX},td τ=bp->fx P τ j->api enc P w 0 (λ_=>bp) bp l j i=Y o->∃a:τ.den,aW (CG w) w τ i a []/\qz τ a
 |.int n,j,i,l,o,_,⟨b,_,_,_,_,h⟩,d=>by obtain⟨x,rfl,_,ad⟩:=DataW.trod_int h d;exact⟨x,⟨bn,bn⟩,ad⟩
 |.bool,j,i,l,o,_,⟨b,_,_,_,_,h⟩,d=>by obtain⟨y,rfl,_⟩:=DataW.trod_bool h d;exact⟨y,⟨bn,bn⟩,trivial⟩
 |.str,j,i,l,o,_,⟨b,_,_,_,_,h⟩,d=>by obtain⟨av,rfl,_,_⟩:=DataW.trod_string h d;exact⟨av,⟨bn,bn⟩,trivial⟩
 |.a8 an c,j,i,l,o,g,⟨b,O,_,_,_,_,h,m⟩,d=>by
  rcases DataW.trod_slice h d with⟨rfl,_⟩|⟨e,u,Q,F,dl,x,rfl,rfl,_,_,cv,bx,ce,K,_⟩
  ·exact⟨[],⟨bn,bo,0,bn,bc _,λ_=>rfl,.inl bn⟩,by grind,ac⟩
  have H:=If m;have L:=m.pos;have E:∀b,b<u->∃a:c.den,∃f:ez,f.length=c.size/\w.cells? 0 (e.add (b*c.size)) c.size=Y f/\aW (CG w) w c f a []/\qz c a:=by
   intro b v;have s:=K b v;have t:F[b]?=Y (F[b]'(by omega)):=cE _
   rw[t] at s;obtain⟨f,q,z⟩:=eV.1 s;rw[H] at q;obtain⟨a,k,r⟩:=G0 (τ:=c) g m z;exact⟨a,f,k.len,q,k,r⟩
  have U:∀n,n<=u->∃p:bm c.den,p.length=n/\∀(b:X) (a:c.den),p[b]?=Y a->∃f:ez,f.length=c.size/\w.cells? 0 (e.add (b*c.size)) c.size=Y f/\aW (CG w) w c f a []/\qz c a:=by
   intro n
   induction n with
   |zero=>simp_all
   |succ n am=>
    intro ci;obtain⟨p,s,t⟩:=am aa;obtain⟨a,f,q⟩:=E n aa;refine⟨p++[a],by grind,λb M D=>?_⟩;grind
  obtain⟨p,s,t⟩:=U u (bc _);refine⟨p,⟨bn,Y e,Q,by rw[s],aa,(λd=>by cases d),?_⟩,aa,λa k=>?_⟩
  ·cases u with
   |zero=>grind
   |succ u=>
    right;obtain⟨ds,bl,_,I,_⟩:=E 0 aa;have T:e.add (0*c.size)=e:=(by simp[aol]);rw[T] at I;obtain⟨V,_,C,_⟩:=Ig I L;refine⟨e.block,e.off,by obtain⟨y,ap,a0⟩:=e;grind,C,λb a k=>?_⟩;obtain⟨f,a3,S,a4,_⟩:=t b a k;obtain⟨_,_,_,G⟩:=Ig S L;grind [al,aol]
  obtain⟨b,v,rfl⟩:=g8.1 k;obtain⟨_,_,_,_,r⟩:=t b _ (cE v);exact r
 |.ptr an c,j,i,l,o,g,⟨b,O,_,_,_,_,h,m⟩,d=>by
  rcases DataW.trod_pointer h d with⟨rfl,_⟩|⟨e,R,a,x,rfl,rfl,_,q,z⟩
  ·exact⟨bo,⟨bn,bn⟩,λa d=>by cases d⟩
  rw[If m] at q;obtain⟨M,D,r⟩:=G0 (τ:=c) g m z;obtain⟨V,_,C,G⟩:=Ig q m.pos;refine⟨Y M,⟨bn,e.block,e.off,R,by obtain⟨y,ap,a0⟩:=e;grind,C,D.len,G,D⟩,λa d=>by grind⟩
 |.st c,j,i,l,o,g,⟨_,b,N,d0,v,c1,_,_,h,J,_⟩,d=>by
  obtain⟨p,x,rfl,_,co,c2,K⟩:=DataW.trod_struct h d;have H:P.cellsOf j=c.size:=(by grind [aqb]);obtain⟨a,k,r⟩:=Ub (τ:=c) (fs:=N.toList) (cs:=i) g J aa (λdg bs J=>by
   grind)
  rw[np] at k;exact⟨a,k,r⟩
 |.osl _,_,_,_,_,g,_,_=>by cases g
 |.optr _,_,_,_,_,g,_,_=>by cases g
 |.pr _ _,_,_,_,_,_,B,_=>B.elim
 |.nil,_,_,_,_,_,B,_=>B.elim
 |.eI,_,_,_,_,g,_,_=>by cases g
theorem Ub:∀{τ:ah} {fs:bm alz} {c:X} {f cs:ez},td τ=bp->i9 P τ fs c f->cs.length=c+τ.size->(∀(e:X) b,fs[e]?=Y b->∃(j:X) (k:DataW A×bm amX),api enc P w 0 (λ_=>bp) bp j b.type ((cs.drop b.offset).take (P.cellsOf b.type))=Y k)->∃l:τ.den,aW (CG w) w τ (cs.drop c) l []/\qz τ l
 |.pr y z,b::D,c,f,cs,d,p,r,i=>by simp only[td,cF] at d;obtain⟨n,g,B,_,o⟩:=p;obtain⟨j,k,h⟩:=i 0 b bn;rw[n,If g] at h;obtain⟨v,s,t⟩:=G0 d.1 g h;obtain⟨x,C,u⟩:=Ub (cs:=cs) d.2 o (by grind [alC]) (λe m q=>i (e+1) m q);exact⟨(v,x),⟨[],[],bn,s,by simp_all⟩,t,u⟩
 |.nil,[],c,f,cs,_,_,r,_=>by refine⟨(),⟨bn,?_⟩,trivial⟩;grind [List.drop_eq_nil_iff,alC]
 |.pr _ _,[],_,_,_,_,a,_,_=>a.elim
 |.nil,_::_,_,_,_,_,a,_,_=>a.elim
 |.int _,fs,_,_,_,_,a,_,_=>by cases fs<;>exact a.elim
 |.bool,fs,_,_,_,_,a,_,_=>by cases fs<;>exact a.elim
 |.str,fs,_,_,_,_,a,_,_=>by cases fs<;>exact a.elim
 |.a8 _ _,fs,_,_,_,_,a,_,_=>by cases fs<;>exact a.elim
 |.ptr _ _,fs,_,_,_,_,a,_,_=>by cases fs<;>exact a.elim
 |.osl _,fs,_,_,_,_,a,_,_=>by cases fs<;>exact a.elim
 |.optr _,fs,_,_,_,_,a,_,_=>by cases fs<;>exact a.elim
 |.st _,fs,_,_,_,_,a,_,_=>by cases fs<;>exact a.elim
 |.eI,fs,_,_,_,_,a,_,_=>by cases fs<;>exact a.elim
end
theorem adR {g:ah} {h:bE} (l:td g=bp) (d:fx P g h) (c:amY P w .any a h e):e=c3 g e.cells.toList:=by
 cases g with
 |int r=>
  obtain⟨f,_,_,_,_,b⟩:=d;obtain⟨i,rfl⟩:=arh b c;rfl
 |bool=>
  obtain⟨f,_,_,_,_,b⟩:=d;obtain⟨i,rfl⟩:=ari b c;rfl
 |str=>
  obtain⟨f,_,_,_,_,b⟩:=d;obtain⟨i,rfl⟩:=arj b c;rfl
 |a8 m j=>
  obtain⟨f,k,_,_,_,_,b,_⟩:=d;obtain⟨n,s,o,rfl⟩:=ark b c;rfl
 |ptr m j=>
  obtain⟨f,k,_,_,_,_,b,_⟩:=d;simp only[amY,b,Cell.okWide] at c;cases e<;>first|rfl|simp_all [Cell.ok]
 |st j=>
  obtain⟨_,f,q,t,_,_,_,_,b,_,_⟩:=d;simp only[amY,b] at c;obtain⟨p,rfl,_⟩:=c;rfl
 |_=>first|(cases l;done)|exact d.elim
def xp (P:bY):bm hE->ey->bz
 |[],[]=>bp
 |.v a::c,b::d=>td a&&h8 P a b&&xp P c d
 |_,_=>bq
def qA:(d:bm hE)->hH d->Prop
 |[],_=>True
 |.v e::b,a=>qz e a.1/\qA b a.2
 |.m _::b,a=>qA b a.2
 |.o _::b,a=>qA b a.2
 |.c _ _::b,a=>qA b a.2
 |.n::b,a=>qA b a.2
 |.w _::b,a=>qA b a.2
 |.s _ _::b,a=>qA b a.2
def Ni {P:bY}:∀{ps:bm hE} {b:ey} {k:X},xp P ps b=bp->j2 k ps=bo
 |[],_,_,_=>rfl
 |.v g::d,e::f,k,a=>by simp only[xp,cF] at a;exact Ni (ps:=d) (k:=k+1) a.2
 |.v _::_,[],_,a=>by cases a
 |.m _::_,b,_,a=>by cases b<;>cases a
 |.o _::_,b,_,a=>by cases b<;>cases a
 |.c _ _::_,b,_,a=>by cases b<;>cases a
 |.n::_,b,_,a=>by cases b<;>cases a
 |.w _::_,b,_,a=>by cases b<;>cases a
 |.s _ _::_,b,_,a=>by cases b<;>cases a
def B0 {b:Type}:bm b->et
 |[]=>[]
 |_::a=>[]::B0 a
theorem Gw {b:Type}:∀a:bm b,(B0 a).flatten=[]
 |[]=>rfl
 |_::a=>by simp only[B0,mi,Gw a,hx]
theorem Nk:∀{f:bm hE} {l:ey} {base:X} {b:ez} {i:bm (DataW A)} {r:bm amX},xp P f l=bp->amZ enc P w 0 (λ_=>bp) bp l b i r->(∀(j:X) k g,l[j]?=Y k->b[j]?=Y g->amY P w .any base k g)->∃h:hH f,qA f h/\∀{x:Type} (d:jn f x),mY (zo (λd=>d<w.heap.size) (λ_=>b4) w) (gP f h d) b (B0 b)
 |[],[],base,b,i,r,_,q,_=>by cases b<;>cases i<;>first|exact⟨(),trivial,λ_=>trivial⟩|exact q.elim
 |.v U::Q,y::x,base,b,i,r,e,q,u=>by
  simp only[xp,cF] at e;obtain⟨⟨s,z⟩,B⟩:=e;obtain⟨g,T,K,L,R,S,rfl,rfl,rfl,p,C⟩:=apj q;obtain⟨M,p⟩:=p;have t:=h8.ok z;obtain⟨J,G,F⟩:=G0 s t p;obtain⟨h,D,E⟩:=Nk B C (λj k I N O=>u (j+1) k I (by grind) (by grind));refine⟨(J,h),⟨F,D⟩,λd=>⟨⟨bn,g.cells.toList,adR s t (u 0 y g bn rfl),?_⟩,E d⟩⟩;exact G.mono (λH d e=>⟨by cases H with
   |bj=>exact e
   |c9=>exact .inl e,cp _ _⟩) ac
 |[],_::_,_,_,_,_,a,_,_=>by cases a
 |.v _::_,[],_,_,_,_,a,_,_=>by cases a
 |.m _::_,_,_,_,_,_,a,_,_=>by cases a
 |.o _::_,_,_,_,_,_,a,_,_=>by cases a
 |.c _ _::_,_,_,_,_,_,a,_,_=>by cases a
 |.n::_,_,_,_,_,_,a,_,_=>by cases a
 |.w _::_,_,_,_,_,_,a,_,_=>by cases a
theorem Ua {P:bY} (k:laidOutB P=bp) {i j:bC} {o:X->bz}:∀{e:ey} {d:ez} {c:bm (DataW A)} {b:bm amX},(∀g∈e,P.readableRec g=bp/\g<P.types.size)->amZ enc P i 0 (λ_=>bp) bp e d c b->(∀a∈b,i.sameAt j a)->(∀a∈b,o a.block=bp)->amZ enc P j 0 o bp e d c b
 |[],d,c,b,_,f,_,_=>by cases d<;>cases c<;>first|exact f|exact f.elim
 |T::e,d,c,b,l,f,m,n=>by obtain⟨y,z,v,w,r,s,rfl,rfl,rfl,p,q⟩:=apj f;obtain⟨t,u⟩:=l T ac;exact⟨r,s,arl k t u p (λa h=>m a (by grind)) (λa h=>n a (by grind)),Ua k (λg x=>l g (by grind)) q (λa h=>m a (by grind)) (λa h=>n a (by grind)),bn⟩
theorem ZF {E:fM} {F:jM} {l:ChangeSpec} {T:bE} (a4:aC E F) (el:laidOutB E.P=bp) (dl:(k.params.toList.all λd=>E.P.readableRec d&&cb d E.P.types.size)=bp) (S:xp E.P F.ps k.params.toList=bp) (_hrs:F.rs=[.bool]) (H:k.resultTypes=#[T]) (u:E.P.underlying T=Y .bool) (am:l.vars=[]) (fl:∀c:bm (DataW A),c.length=k.params.toList.length->l.fn A c=⟨[.lit (.bool bp)],c,[]⟩) (d2:∀t,qA F.ps t->∃b,F.y6 t=Y b/\jx F.rs (iP F.ps b)=[⟨.bool,bp⟩]) {D a0 ce av:bz} {p:ew} {c y:bm (DataW A)} {g:bm amX} (d3:∀(r:X) d o,k.params[r]?=Y d->p[r]?=Y o->amY E.P h .any a d o) (I:DataW.Whole enc E.P k.params.toList l.vars D h p.toList c y g) (bl:lM E (λb=>b<h.heap.size) h):Calls E.P F.f p h λG e=>∃o,G=.returned o/\l.post enc E.P k D a0 ce av h p o e:=by
 have J:=I;obtain⟨B,d4,a3,z,R,co,em⟩:=I;rw[am] at z;have cs:y=[]/\d4=[]:=by cases y with
  |nil=>exact⟨bn,z⟩
  |cons=>exact z.elim
 obtain⟨rfl,rfl⟩:=cs;rw[pq] at R;subst R;obtain⟨t,dg,bx⟩:=Nk (w:=h) (base:=a) S a3 (λr d o V ad=>d3 r d o (by grind) (by grind));obtain⟨b,bs,ds⟩:=d2 t dg;have ek:∀{s:ey} {C:ez} {c:bm (DataW A)} {B:bm amX},amZ enc E.P h 0 (λ_=>bp) bp s C c B->c.length=s.length:=by
  intro s
  induction s with
  |nil=>intro C c B q;cases C<;>cases c<;>first|rfl|exact q.elim
  |cons T s fr=>
   grind [apj]
 have N:l.fn A (c++[])=⟨[.lit (.bool bp)],c,[]⟩:=(by grind);have Q:=J.lt;have L:=a4.2 t b bs h (λb=>b<h.heap.size) (λ_=>b4) p.toList (B0 p.toList) (λb q=>q.elim id (λq=>q.elim)) (bx b) (by grind [Gw]) (by rw[Gw];simp) (by rw[B6,Ni S];trivial);rw[aqc] at L;refine(L bl).mono ?_;rintro G e ⟨d5,d7,v,cC,rfl,n⟩;refine⟨_,bn,?_⟩;have d1:q9 cC=.bool bp:=by
  have:=n.res;rw[ds] at this;cases cC with
  |nil=>cases v<;>exact this.elim
  |cons o cC=>
   cases v with
   |nil=>exact this.elim
   |cons d8 v=>
    obtain⟨⟨d6,ad,_,rfl⟩,d0⟩:=this;cases cC with
    |nil=>exact ad
    |cons=>cases v<;>exact d0.elim
 have O:∀b,b<h.heap.size->e.heap[b]?=h.heap[b]?:=λb u=>n.heap b u (by rw[Gw];simp);have eq:∀i∈g,h.sameAt e i:=λi x=>by
  have:=O i.block (Q i x);cases i with
  |cell b j=>show e.cell? _=h.cell? _;unfold amr;rw[show e.heap[b]?=h.heap[b]? from this]
  |map b=>exact this
 have ci:∀b j,aqd b j∈g->e.frozen? ⟨b,j,bo⟩=h.frozen? ⟨b,j,bo⟩:=λb j x=>(by unfold an5;rw[show e.heap[b]?=h.heap[b]? from O b (Q _ x)]);rw[d1];have en:∀d∈k.params.toList,E.P.readableRec d=bp/\d<E.P.types.size:=λd V=>(by have:=g7.1 dl d V;simp_all);have K:∀m:X->bz,(∀i∈g,m i.block=bp)->amZ enc E.P e 0 m bp k.params.toList p.toList (l.fn A (c++[])).args g:=λm ex=>(by grind [Ua]);have U:∀(b:X) (m:X->bz) (M:bz),amZ enc E.P e b m M k.resultTypes.toList ((aqe bp).resultList k.resultTypes.size) (l.fn A (c++[])).results []:=λb m M=>(by rw[N,H];exact arn ⟨1,by unfold api;rw[u];rfl⟩);have an:∀m:X->bz,DataW.TrodVars enc E.P e m l.vars (l.fn A (c++[])).vars []:=λm=>(by rw[N,am];rfl);have c1:∀(r:X) (d:bE) (ap:Value),k.resultTypes[r]?=Y d->((aqe bp).resultList k.resultTypes.size)[r]?=Y ap->amY E.P e .any 0 d ap:=
  Go.RowKit.ok_one H bn (Go.RowKit.okWide_bool_mk u bp)
 have c2:∀i∈g,(λb=>br (b<h.heap.size)) i.block=bp:=λi x=>(by grind);have cv:h.keptBut e (λ_=>b4):=(by refine⟨n.os,n.output,λfp d9=>?_⟩;grind);refine⟨c,[],g,[],g,[],J,U _ _ _,K _ c2,an _,World.keptBut_mono (λ_ q=>q.elim) cv,λ_=>?_⟩;refine⟨c1,_,_,([]++g)++[],⟨[]++g,[],aro (K _ (λ_ _=>rfl)) (U _ _ _),an _,bn,?_,?_⟩,?_⟩
 ·intro b j n;have n:aqd b j∈g:=(by grind);rw[ci b j n];exact co b j n
 ·grind
 grind
end
end
section
inductive Hi where
 |a
 |b (f:ak9)
 |c (f m:ak9)
def I1 (a:X):X:=a/32+a %32*500000
abbrev mG (a:X):X×pu:=(a,.s (.ref a []))
abbrev Ck (a:X):X×pu:=(a,.v (.int .i64))
inductive pn where
 |l
 |o (a:pn)
 |t (j:Hn) (a b:pn)
 |n (b:pn)
 |p (Ca:nY) (m:Ho) (a:pn)
 |k (l:ak9) (a:pn)
 |z (F:ak9) (a:pn)
 |d (L:bm Hi)
def GD (b:bT bQ) (a:X) (f c:ak9):md:=match b[a]? with
 |some d=>⟨a,dl d,d.looksAt b,q6 b a,f,c⟩
 |none=>⟨a,[],[],[],f,c⟩
def EV (d:bT bQ):X->bm Hi->bm md
 |_,[]=>[]
 |i,.a::e=>GD d i [] []::EV d (i+1) e
 |i,.b f::e=>GD d i (f.map I1) []::EV d (i+1) e
 |i,.c f g::e=>GD d i (f.map I1) (g.map I1)::EV d (i+1) e
def tL:cq->mO
 |.seq a b=>.two .none (tL a) (tL b)
 |.cond _ a b=>.two .none (tL a) (tL b)
 |.block _ a=>.one (tL a)
 |.region _ c bp=>.draw ((bI c.size).map λd=>GD c d [] [])
 |_=>.leaf
def BT:X->X->bm a6
 |0,_=>[]
 |k+1,a=>match a %5 with
  |1=>.deref::BT k (a/5)
  |2=>.unst::BT k (a/5)
  |3=>.fst::BT k (a/5)
  |4=>.snd::BT k (a/5)
  |_=>[]
def pn.ex:pn->cq->mO
 |.l,a=>tL a
 |.o b,.block _ a=>.one (b.ex a)
 |.t J b c,.seq a e=>.two J (b.ex a) (c.ex e)
 |.t J b c,.cond _ a e=>.two J (b.ex a) (c.ex e)
 |.n c,.seq a e=>.two .none (tL a) (c.ex e)
 |.n c,.cond _ a e=>.two .none (tL a) (c.ex e)
 |.p j h b,.loop a=>.loop j h (b.ex a)
 |.k g b,a=>.keep g (b.ex a)
 |.z f b,a=>match f with
  |[q]=>bif b2 1000000 q then .fp (q %1000000) (BT 12 (q/1000000)) (b.ex a) else bif bH q 888888 then .z6 else .qS f (b.ex a)
  |_=>.qS f (b.ex a)
 |.d g,.region _ i _=>.draw (EV i 0 g)
 |_,_=>.leaf
def zL (E:fM):Type:={a:bm (X×jM)//∀b∈a,aC E b.2}
def aG {E:fM}:zL E:=⟨[],T3⟩
def aj {E:fM} {a:jM} (c:aC E a) (b:zL E):zL E:=⟨(a.f,a)::b.1,agS c b.2⟩
section
variable {E:fM} {f:X} {fn:Func} {ps:bm hE} {C:bm ah} {D:hH ps->bu (jn ps (l5 C))}
def aC.q (d:zL E) (l:pn) (k:E.P.funcs[f]?=Y fn) (j:∀(h:ew) (i:bC),(callFunc f h).run E.P i=.ok (.enter f h) i) (g:bm (X×ah):=[]) (e:alb:=[]) (a:(fn.body.isSome&&b2 ps.length fn.ntmps)=bp:=by kernel_rfl) (c:∀b,Bi ⟨E.tt,d.1,g,fn.ntmps,km 0 ps++ow (j2 0 ps),[],e,j2 0 ps,[],[],E.glob,E.eqs⟩ (l.ex (fn.body.getD .skip)) (fn.body.getD .skip) ps fn.results.toList C b=D b:=by intro b;kernel_rfl):aC E ⟨f,ps,C,D⟩:=
 have a:=cF _ _▸a
 aC.Q9 d.1 g e _ [] (λ_ c=>by cases c) k a.1 aqc.symm a.2 j d.2 c
end
end
def lE (a:X):X×X:=bif cb (a %32) 28 then(a %32,a/32) else bif bH (a %32) 31 then(a/32 %134217728,a/4294967296) else((a %32-28)*256+a/32 %256+28,a/8192)
def oo {c:Type} (b:X->c×X):X->X->bm c×X
 |0,a=>([],a)
 |k+1,a=>match a %2 with
  |0=>([],a/2)
  |_=>match b (a/2) with
   |(x,t)=>match oo b k t with
    |(l,u)=>(x::l,u)
def Ln (a:bm ah) (b:X):ah×X:=match lE b with
 |(i,t)=>(a.getD i .nil,t)
def oq {a b:Type} (c:X->a×X) (d:X->b×X) (e:X):(a×b)×X:=match c e with
 |(x,t)=>match d t with
  |(y,u)=>((x,y),u)
def afc (b:bm ah) (a:X):(X×pu)×X:=match a %4 with
 |0=>match lE (a/4) with
  |(k,t)=>(mG k,t)
 |1=>match lE (a/4) with
  |(k,t)=>(Ck k,t)
 |2=>match oq lE (Ln b) (a/4) with
  |((k,x),t)=>((k,.v x),t)
 |_=>match oq lE lE (a/4) with
  |((k,x),t)=>((k,.s (.ref x [])),t)
def BX (a:bm ah) (b:X):nY×X:=match oq (oo (afc a) 99) (oo (oq lE (Ln a)) 99) b with
 |((x,y),t)=>(⟨x,y⟩,t)
def afb (b:bm ah) (a:X):Hn×X:=match a %3 with
 |0=>(.none,a/3)
 |1=>match oq (oo lE 99) (BX b) (a/3) with
  |((x,y),t)=>(.x x y,t)
 |_=>match oq (oo lE 99) (BX b) (a/3) with
  |((x,y),t)=>(.wS x y,t)
def afd (b:bm ah) (a:X):Ho×X:=match a %3 with
 |0=>(.r,a/3)
 |1=>match oq lE (BX b) (a/3) with
  |((x,y),t)=>(.x x y,t)
 |_=>match oq lE (BX b) (a/3) with
  |((x,y),t)=>(.wS x y,t)
def Ll (a:X):X×X:=match a %2 with
 |0=>match lE (a/2) with
  |(k,t)=>(k*32,t)
 |_=>match lE (a/64) with
  |(k,t)=>(k*32+a/2 %32,t)
def afa (d:X):Hi×X:=match d %3 with
 |0=>(.a,d/3)
 |1=>match oo Ll 99 (d/3) with
  |(x,t)=>(.b x,t)
 |_=>match oq (oo Ll 99) (oo Ll 99) (d/3) with
  |((x,y),t)=>(.c x y,t)
def uv (e:bm ah):X->X->pn×X
 |0,c=>(.l,c)
 |k+1,c=>match c %8 with
  |0=>(.l,c/8)
  |1=>match uv e k (c/8) with
   |(a,t)=>(.o a,t)
  |2=>match afb e (c/8) with
   |(f,t)=>match uv e k t with
    |(a,t)=>match uv e k t with
     |(b,t)=>(.t f a b,t)
  |3=>match uv e k (c/8) with
   |(a,t)=>(.n a,t)
  |4=>match oq (BX e) (afd e) (c/8) with
   |((x,y),t)=>match uv e k t with
    |(a,t)=>(.p x y a,t)
  |5=>match oo lE 99 (c/8) with
   |(x,t)=>match uv e k t with
    |(a,t)=>(.k x a,t)
  |6=>match oo lE 99 (c/8) with
   |(x,t)=>match uv e k t with
    |(a,t)=>(.z x a,t)
  |_=>match oo afa 999 (c/8) with
   |(x,t)=>(.d x,t)
def Lm (b:bm ah) (c:X):pn×bm (X×ah)×alb:=match uv b 999 c with
 |(a,t)=>match oq (oo (oq lE (Ln b)) 99) (oo (oq lE lE) 99) t with
  |((x,y),_)=>(a,x,y)
def Wx {b:bY} (h:b.funcs[a]?=Y k) (i:(k.name=="runtime.NumGoroutine")=bq) (g:k.body.isSome=bp) (c:ew) (d:bC):(callFunc a c).run b d=.ok (.enter a c) d:=by have e:k.name≠"runtime.NumGoroutine":=(by simpa using i);obtain⟨j,f⟩:=Hv.1 g;simp[callFunc,h,e,f,Sem.run]
section
def ae {α:Type} (c:bu α) (b:α->Prop):Prop:=∃a,c=Y a/\b a
section
variable {α A σ ρ τ:Type}
theorem ae.af {a:α} {b:α->Prop}:ae (Y a) b↔b a:=⟨λ⟨_,c,d⟩=>by grind,λc=>⟨a,bn,c⟩⟩
theorem ae.uk {a:α->Prop}:ae bo a↔False:=⟨(λ⟨_,b,_⟩=>by cases b),False.elim⟩
theorem ae.fd {x:bu α} {b:α->bu A} {a:A->Prop}:ae (x.bind b) a↔ae x (λc=>ae (b c) a):=by
 cases x with
 |none=>grind [ae.uk]
 |some c=>grind [ae.af]
theorem ae.Kh {a:bu α} {c:α->A} {b:A->Prop}:ae (a.map c) b↔ae a (λd=>b (c d)):=by
 cases a with
 |none=>grind [ae.uk]
 |some d=>grind [ae.af]
theorem ae.fm {b:bz} {c d:bu α} {a:α->Prop}:ae (bif b then c else d) a↔(b=bp->ae c a)/\(b=bq->ae d a):=by grind
theorem ae.mono {c:bu α} {P b:α->Prop} (d:ae c P) (g:∀a,P a->b a):ae c b:=let⟨a,e,f⟩:=d;⟨a,e,g a f⟩
def ae.eq_iff {c:bu α} {b:α}:ae c (· =b)↔c=Y b:=⟨λ⟨e,a,d⟩=>by rw[a,d],λa=>⟨b,a,bn⟩⟩
theorem ae.Pr {a:bm α} {b:α->Prop}:ae (aw a d) b↔∃(e:d.toNat<a.length),0<=d/\b a[d.toNat]:=by
 unfold aw;by_cases c:0<=d
 ·rw[au c];grind [am0,ae.uk,bX,ae.af]
 rw[ar c,ae.uk];grind
theorem ae.k2 {b:bm α} {c:α->Prop}:ae (aw b (a:Z)) c↔∃(d:a<b.length),c b[a]:=by rw[ae.Pr];simp
theorem ae.Fx:ae (be a d) l↔(0<=d/\d.toNat<a)/\l d.toNat:=by
 unfold be;by_cases b:0<=d/\d.toNat<a
 ·simp_all [au,ae.af]
 rw[ar b,ae.uk];simp[b]
theorem ae.yy {b:bt->Prop}:ae (cN a) b↔a<=hN/\b ():=by
 unfold cN;by_cases c:a<=hN
 ·simp_all [au,ae.af]
 rw[ar c,ae.uk];simp[c]
theorem ae.Kg {a:Z}:ae (gg d a) l↔(0<=d/\d<=a/\a<=(hN:Z))/\l d.toNat:=by
 unfold gg;by_cases b:0<=d/\d<=a/\a<=(hN:Z)
 ·simp_all [au,ae.af]
 rw[ar b,ae.uk];simp[b]
def a5 (d:bm α) (c:X) (b:α->bu A):bu A:=match d[c]? with
 |some a=>b a
 |none=>bo
theorem ae.CX {b:bm α} {d:α->bu A} {c:A->Prop}:ae (a5 b a d) c↔∃(e:a<b.length),ae (d b[a]) c:=by grind [am0,ae.uk,bX,a5]
theorem ae.loop {g:σ->bu (σ⊕ρ)} {f:ρ->Prop} (d:σ->Prop) (e:σ->X) {a:σ} (m:d a) (k:∀a,d a->ae (g a) (λ|.inl l=>d l/\e l<e a|.inr b=>f b)):ae (loop g a) f:=by
 have o:∀c a,e a<=c->d a->∃b,kJ g (c+1) a=Y b/\f b:=by
  intro c
  induction c with
  |zero=>
   intro a n j;obtain⟨p,h,i⟩:=k a j;grind [kJ]
  |succ c q=>
   intro a n j;obtain⟨p,h,i⟩:=k a j;grind [kJ]
 obtain⟨b,h,i⟩:=o (e a) a (bc _) m;exact⟨b,Bs.2 ⟨_,h⟩,i⟩
theorem ae.for {h:Z×τ->bu ((Z×τ)⊕ρ)} {g:ρ->Prop} (b:X) (e:X->τ->Prop) {i0:X} {m:τ} (o:d=(i0:Z)) (n:e i0 m) (k:i0<=b) (q:∀a c,i0<=a->a<b->e a c->ae (h ((a:Z),c)) (λ|.inl l=>l.1=((a+1:X):Z)/\e (a+1) l.2|.inr i=>g i)) (s:∀c,e b c->ae (h ((b:Z),c)) (λ|.inl _=>b4|.inr i=>g i)):ae (jN.loop h (d,m)) g:=by
 subst o;refine ae.loop (λf=>∃a:X,i0<=a/\a<=b/\f.1=(a:Z)/\e a f.2) (λf=>b-f.1.toNat) ⟨i0,bc _,k,bn,n⟩ ?_;rintro⟨t,c⟩ ⟨a,p,k,rfl,r⟩;rcases cU a b with j|j
 ·refine(q a c p j r).mono ?_;grind
 grind [mono]
end
theorem ahD (a:Z):bK.wrap a=if(9223372036854775808:Z)<=a %18446744073709551616 then a %18446744073709551616-18446744073709551616 else a %18446744073709551616:=by
 unfold am1;by_cases b:(9223372036854775808:Z)<=a %18446744073709551616
 ·rw[au b];exact au (show(bp&&br (a %18446744073709551616>=(9223372036854775808:Z)))=bp by simp[b])
 rw[ar b];exact ar (show¬(bp&&br (a %18446744073709551616>=(9223372036854775808:Z)))=bp by simp[b])
theorem wrap64 (a:-9223372036854775808<=d) (b:d<=9223372036854775807):bK.wrap d=d:=by grind [ahD]
theorem jo (b:a<9223372036854775807):bK.wrap ((a:Z)+1)=((a+1:X):Z):=by grind [wrap64]
end
section
abbrev ao {α:Type} (a:bm α):Z:=((a.length:X):Z)
abbrev ay (a:Z):Z:=bK.wrap a
abbrev aL (a:Z):Z:=bD.wrap a
abbrev eD (a:Z):Z:=cd.wrap a
abbrev aQ (a:Z):Z:=bK.wrap (a+1)
def rd {α A:Type} (a:bm α) (c:Z) (e:α->bu A):bu A:=(be a.length c).bind λd=>(a5 a d λb=>Y b).bind e
def wr {α A:Type} (a:bm α) (c:Z) (e:α) (d:bm α->bu A):bu A:=(be a.length c).bind λb=>(a5 a b λ_=>Y (a.set b e)).bind d
section
variable {α A:Type}
def iE {b:bm α} (d:a<b.length) (c:α->bu A):rd b (a:Z) c=c b[a]:=by unfold rd be;rw[au ⟨aa,by simpa using d⟩];show(a5 b (a:Z).toNat _).bind c=_;unfold a5;rw[fP,cE d];rfl
def afe {b:bm α} {c:α} (f:0<=d) (e:b[d.toNat]?=Y c) (a:α->bu A):rd b d a=a c:=by obtain⟨g,h⟩:=h0.1 e;obtain⟨j,rfl⟩:=gh f;have i:j<b.length:=g;exact(iE i a).trans (b3 a h)
theorem lI {b:bm α} (d:a<b.length) (e:α) (c:bm α->bu A):wr b (a:Z) e c=c (b.set a e):=by unfold wr be;rw[au ⟨aa,by simpa using d⟩];show(a5 b (a:Z).toNat _).bind c=_;unfold a5;rw[fP,cE d];rfl
end
end
def Ds:dV->ak7:=λ(e,h,_)=>(loop (σ:=eg) (ρ:=dZ) (λ(f,c,_)=>bif br (c<((e.length:X):Z)) then(bB (α:=ei⊕dH) ((aw e c).bind λd=>bB (α:=bt⊕(ei⊕dH)) (bw (br (d<=f)==bq) (bw (br (d>=h)) (Y (.inr (.inr (.inr (.inr (bq,())))))) (Y (.inl ()))) (Y (.inr (.inr (.inr (.inr (bq,()))))))) λa=>match a with
 |.inl _=>(Y (.inl (d,())))
 |.inr b=>Y b) λa=>match a with
 |.inl (g,_)=>(Y (.inl (g,bK.wrap (c+(1:Z)),())))
 |.inr b=>Y b) else Y (.inr (.inl ()))) ((-1:Z),(0:Z),())).bind λa=>match a with
 |.inl _=>(Y (bp,()))
 |.inr b=>Y b
def tn:ei->ak7:=λ(a,_)=>Y ((a !=a),())
def vk:eg->ak7:=λ(a,b,_)=>(tn (a,())).bind λ(c,_)=>(bw (c==bp) ((tn (b,())).bind λ(aV,_)=>bw ((!aV)==bq) (Y (br (a<b),())) (Y (bp,()))) (Y (br (a<b),())))
def Eb:ei->ak7:=λ(a,_)=>Y ((a !=a),())
def vw:dV->bu ed:=λ(b,e,_)=>(loop (σ:=eg) (ρ:=ei) (λ(c,d,_)=>bw (br (c<d)) ((eQ bD (bD.wrap (bK.wrap (c+d))) (1:Z)).bind λf=>(aw b (bK.wrap f)).bind λk=>(vk (k,e,())).bind λ(i,_)=>bw i (Y (.inl (bK.wrap (bK.wrap f+(1:Z)),d,()))) (Y (.inl (c,bK.wrap f,())))) (Y (.inr (c,())))) ((0:Z),((b.length:X):Z),())).bind λ(a,_)=>(bw (br (a<((b.length:X):Z))==bp) ((aw b a).bind λl=>bw ((l==e)==bq) ((aw b a).bind λj=>(Eb (j,())).bind λ(g,_)=>bw (g==bp) ((Eb (e,())).bind λ(h,_)=>Y (a,h,())) (Y (a,bq,()))) (Y (a,bp,()))) (Y (a,bq,())))
def xL:(dR×Z×Z×bt)->ak7:=λ(a,c,d,_)=>(aw a.1 c).bind λe=>(vw (e,d,())).bind λ(_,b,_)=>Y (b,())
def Ah:dN->ak8:=λ(a,_)=>(bif br ((((a.1).length:X):Z)>(200:Z)) then Y ((6:Z),()) else((loop (σ:=ei) (ρ:=eb) (λ(d,_)=>bif br (d<(((a.1).length:X):Z)) then(bB (α:=bt⊕dM) ((aw a.1 d).bind λj=>(Ds (j,(((a.1).length:X):Z),())).bind λ(aV,_)=>bw ((!aV)==bq) ((xL (a,d,d,())).bind λ(i,_)=>bw i (Y (.inr (.inr (.inr ((1:Z),()))))) (Y (.inl ()))) (Y (.inr (.inr (.inr ((1:Z),())))))) λb=>match b with
 |.inl _=>(Y (.inl (bK.wrap (d+(1:Z)),())))
 |.inr c=>Y c) else Y (.inr (.inl ()))) ((0:Z),())).bind λb=>match b with
 |.inl _=>((loop (σ:=ei) (ρ:=eb) (λ(e,_)=>bif br (e<(((a.1).length:X):Z)) then((aw a.1 e).bind λg=>(loop (σ:=ei) (ρ:=dE) (λ(f,_)=>bw (br (f<((g.length:X):Z))) ((aw g f).bind λk=>(xL (a,k,e,())).bind λ(h,_)=>bw (!h) (Y (.inr (.inr (.inr (.inr ((1:Z),())))))) (Y (.inl (bK.wrap (f+(1:Z)),())))) (Y (.inr (.inl ())))) ((0:Z),())).bind λb=>match b with
 |.inl _=>(Y (.inl (bK.wrap (e+(1:Z)),())))
 |.inr c=>Y c) else Y (.inr (.inl ()))) ((0:Z),())).bind λb=>match b with
 |.inl _=>(Y ((0:Z),()))
 |.inr c=>Y c)
 |.inr c=>Y c))
def Ei:(ala×ala×bt)->ak7:=λ(b,c,_)=>(bif ((b.length:X):Z)!=((c.length:X):Z) then Y (bq,()) else((loop (σ:=ei) (ρ:=dZ) (λ(a,_)=>bw (br (a<((b.length:X):Z))) ((aw b a).bind λf=>(aw c a).bind λg=>bw (f !=g) (Y (.inr (.inr (bq,())))) (Y (.inl (bK.wrap (a+(1:Z)),())))) (Y (.inr (.inl ())))) ((0:Z),())).bind λd=>match d with
 |.inl _=>(Y (bp,()))
 |.inr e=>Y e))
def Eh:ee->ak7:=λ(b,_)=>(loop (σ:=ei) (ρ:=dZ) (λ(a,_)=>bw (br (a<((b.length:X):Z))) ((aw b a).bind λe=>(aw b (bK.wrap (a-(1:Z)))).bind λf=>bw (br (e<=f)) (Y (.inr (.inr (bq,())))) (Y (.inl (bK.wrap (a+(1:Z)),())))) (Y (.inr (.inl ())))) ((1:Z),())).bind λc=>match c with
 |.inl _=>(Y (bp,()))
 |.inr d=>Y d
def AU:dQ->bu dN:=λ(f,_)=>(loop (σ:=dr) (ρ:=dt) (λ(b,l,i,_)=>bif br (b<((f.length:X):Z)) then(loop (σ:=(Z×dR×dR×ala×bt)) (ρ:=dn) (λ(a,e,c,d,_)=>bif br (a<((f.length:X):Z)) then bB (α:=dn) (bB (α:=(bz×dR×dR×ala×bt)) (bw ((b !=a)==bp) ((aw f b).bind λt=>(aw t a).bind λu=>bw (u==bq) ((aw f a).bind λv=>(aw v b).bind λw=>Y (w,e,c,d,())) (Y (bp,e,c,d,()))) (Y (bq,e,c,d,()))) λ(q,m,j,h,_)=>
 bw q ((cN (h.length+([a]).length)).bind λ_=>Y (m,j,(h++[a]),())) (Y (m,j,h,()))) λ(r,n,p,_)=>Y (.inl (bK.wrap (a+(1:Z)),r,n,p,())) else Y (.inr (e,c,d,()))) ((0:Z),l,i,[],())).bind λ(s,g,k,_)=>(cN ((g.1).length+([k]).length)).bind λ_=>Y (.inl (bK.wrap (b+(1:Z)),s,((g.1++[k]),g.2),())) else Y (.inr (l,i,()))) ((0:Z),([],()),([],()),())).bind λ(_,o,_)=>Y (o,())
def AF:dV->ak7:=λ(b,e,_)=>(loop (σ:=ei) (ρ:=dZ) (λ(a,_)=>bw (br (a<((b.length:X):Z))) ((aw b a).bind λf=>bw (f==e) (Y (.inr (.inr (bp,())))) (Y (.inl (bK.wrap (a+(1:Z)),())))) (Y (.inr (.inl ())))) ((0:Z),())).bind λc=>match c with
 |.inl _=>(Y (bq,()))
 |.inr d=>Y d
def x9:dN->ak8:=λ(a,_)=>(bif br ((((a.1).length:X):Z)>(200:Z)) then Y ((6:Z),()) else((loop (σ:=ei) (ρ:=eb) (λ(b,_)=>bif br (b<(((a.1).length:X):Z)) then(aw a.1 b).bind λh=>(Eh (h,())).bind λ(aV,_)=>bif !aV then Y (.inr (.inr ((1:Z),()))) else((loop (σ:=ei) (ρ:=dE) (λ(f,_)=>(aw a.1 b).bind λi=>bif br (f<((i.length:X):Z)) then(bB (α:=bt⊕(ei⊕dE)) ((aw a.1 b).bind λj=>(aw j f).bind λe=>bw (br (e<(0:Z))==bq) (bw (br (e>=(((a.1).length:X):Z))==bq) (bw ((e==b)==bq) ((aw a.1 e).bind λk=>(AF (k,b,())).bind λ(g,_)=>bw (!g) (Y (.inr (.inr (.inr (.inr (.inr ((1:Z),()))))))) (Y (.inl ()))) (Y (.inr (.inr (.inr (.inr (.inr ((1:Z),())))))))) (Y (.inr (.inr (.inr (.inr (.inr ((1:Z),())))))))) (Y (.inr (.inr (.inr (.inr (.inr ((1:Z),())))))))) λc=>match c with
 |.inl _=>(Y (.inl (bK.wrap (f+(1:Z)),())))
 |.inr d=>Y d) else Y (.inr (.inl ()))) ((0:Z),())).bind λc=>match c with
 |.inl _=>(Y (.inl (bK.wrap (b+(1:Z)),())))
 |.inr d=>Y d) else Y (.inr (.inl ()))) ((0:Z),())).bind λc=>match c with
 |.inl _=>(Y ((0:Z),()))
 |.inr d=>Y d))
def EE:dV->ak7:=λ(b,e,_)=>(loop (σ:=ei) (ρ:=dZ) (λ(a,_)=>bif br (a<((b.length:X):Z)) then(bB (α:=bt⊕dL) ((aw b a).bind λf=>bw (br (f<(0:Z))==bq) ((aw b a).bind λg=>bw (br (g>=e)) (Y (.inr (.inr (.inr (bq,()))))) (Y (.inl ()))) (Y (.inr (.inr (.inr (bq,())))))) λc=>match c with
 |.inl _=>(Y (.inl (bK.wrap (a+(1:Z)),())))
 |.inr d=>Y d) else Y (.inr (.inl ()))) ((0:Z),())).bind λc=>match c with
 |.inl _=>(Y (bp,()))
 |.inr d=>Y d
def EF:ee->ak7:=λ(b,_)=>(loop (σ:=ei) (ρ:=dZ) (λ(a,_)=>bw (br (a<((b.length:X):Z))) (((Y (0)).bind λc=>(hj a).bind λd=>(hX c d b.length).map λ_=>(c,d)).bind λe=>(aw b a).bind λi=>(AF (((b.take e.2).drop e.1),i,())).bind λ(h,_)=>bw h (Y (.inr (.inr (bp,())))) (Y (.inl (bK.wrap (a+(1:Z)),())))) (Y (.inr (.inl ())))) ((0:Z),())).bind λf=>match f with
 |.inl _=>(Y (bq,()))
 |.inr g=>Y g
def AV:dN->bu dQ:=λ(a,_)=>(loop (σ:=dO) (ρ:=dQ) (λ(c,g,_)=>bw (br (c<(((a.1).length:X):Z))) ((gg (((a.1).length:X):Z) (((a.1).length:X):Z)).bind λj=>(loop (σ:=(Z×es×ak6×bt)) (ρ:=(es×ak6×bt)) (λ(d,h,b,_)=>(aw a.1 c).bind λm=>bw (br (d<((m.length:X):Z))) ((aw a.1 c).bind λn=>(aw n d).bind λl=>(be b.length l).bind λe=>(a5 b e λ_=>Y (b.set e bp)).bind λo=>Y (.inl (bK.wrap (d+(1:Z)),h,o,()))) (Y (.inr (h,b,())))) ((0:Z),g,bJ j bq,())).bind λ(f,i,_)=>(cN (f.length+([i]).length)).bind λ_=>Y (.inl (bK.wrap (c+(1:Z)),(f++[i]),()))) (Y (.inr (g,())))) ((0:Z),[],())).bind λ(k,_)=>
 Y (k,())
def AW:ei->bu dQ:=λ(a,_)=>(loop (σ:=dO) (ρ:=dQ) (λ(c,b,_)=>bw (br (c<a)) ((gg a a).bind λd=>(cN (b.length+([bJ d bq]).length)).bind λ_=>Y (.inl (bK.wrap (c+(1:Z)),(b++[bJ d bq]),()))) (Y (.inr (b,())))) ((0:Z),[],())).bind λ(e,_)=>Y (e,())
def EG:dC->bu dJ:=λ(e,a,_)=>(x9 (e,())).bind λ(j,_)=>(bif j !=(0:Z) then Y (([],()),j,()) else(EE (a,(((e.1).length:X):Z),())).bind λ(aV,_)=>bif !aV then Y (([],()),(3:Z),()) else(EF (a,())).bind λ(r,_)=>bif r then Y (([],()),(90:Z),()) else(AV (e,())).bind λ(s,_)=>(AW (((a.length:X):Z),())).bind λ(t,_)=>(loop (σ:=dv) (ρ:=dw) (λ(c,l,i,_)=>bif br (c<((a.length:X):Z)) then(loop (σ:=dv) (ρ:=dw) (λ(d,k,b,_)=>bif br (d<((a.length:X):Z)) then(be b.length c).bind λf=>(aw a c).bind λv=>
 (aw s v).bind λw=>(aw a d).bind λx=>(aw w x).bind λy=>((a5 b f λm=>Y m).bind λn=>be n.length d).bind λh=>(a5 b f λg=>(a5 g h λ_=>Y (g.set h y)).map λz=>b.set f z).bind λA=>Y (.inl (bK.wrap (d+(1:Z)),k,A,())) else Y (.inr (k,b,()))) ((0:Z),l,i,())).bind λ(u,o,_)=>Y (.inl (bK.wrap (c+(1:Z)),u,o,())) else Y (.inr (l,i,()))) ((0:Z),([],()),t,())).bind λ(_,p,_)=>(AU (p,())).bind λ(q,_)=>Y (q,(0:Z),()))
def EH:dN->bu dy:=λ(a,_)=>(AV (a,())).bind λ(c,_)=>(gg (((a.1).length:X):Z) (((a.1).length:X):Z)).bind λb=>Y ((c,(bJ b bq,())),())
def AY:(bu dI×Z×bt)->bu ee:=λ(b,h,_)=>(loop (σ:=dX) (ρ:=ee) (λ(a,d,_)=>b.bind λj=>bw (br (a<(((j.1).length:X):Z))) (bB (α:=ee) (bB (α:=(bz×ala×bt)) (b.bind λk=>(aw k.1 h).bind λl=>(aw l a).bind λm=>bw (m==bp) (b.bind λn=>(aw n.2.1 a).bind λi=>Y ((!i),d,())) (Y (bq,d,()))) λ(g,c,_)=>bw g ((cN (c.length+([a]).length)).bind λ_=>Y ((c++[a]),())) (Y (c,()))) λ(e,_)=>Y (.inl (bK.wrap (a+(1:Z)),e,()))) (Y (.inr (d,())))) ((0:Z),[],())).bind λ(f,_)=>Y (f,())
def AX:(dI×Z×bt)->bu dy:=λ(h,l,_)=>(AY (Y h,l,())).bind λ(e,_)=>(loop (σ:=dx) (ρ:=dy) (λ(c,i,_)=>bif br (c<((e.length:X):Z)) then(loop (σ:=dx) (ρ:=dy) (λ(d,a,_)=>bif br (d<((e.length:X):Z)) then bB (α:=dy) (bw (c !=d) ((aw e c).bind λr=>(be (a.1).length r).bind λf=>(aw e d).bind λq=>((a5 a.1 f λm=>Y m).bind λn=>be n.length q).bind λj=>((a5 a.1 f λg=>(a5 g j λ_=>Y (g.set j bp)).map λs=>(a.1).set f s).map λt=>(t,a.2)).bind λu=>Y (u,())) (Y (a,()))) λ(o,_)=>
 Y (.inl (bK.wrap (d+(1:Z)),o,())) else Y (.inr (a,()))) ((0:Z),i,())).bind λ(p,_)=>Y (.inl (bK.wrap (c+(1:Z)),p,())) else Y (.inr (i,()))) ((0:Z),h,())).bind λ(b,_)=>(be (b.2.1).length l).bind λk=>(((a5 b.2.1 k λ_=>Y ((b.2.1).set k bp)).map λv=>(v,b.2.2)).map λw=>(b.1,w)).bind λx=>Y (x,())
def AZ:dN->bu (eu×Z×bt):=λ(b,_)=>(x9 (b,())).bind λ(e,_)=>(bw (e !=(0:Z)) (Y ([],e,())) ((EH (b,())).bind λ(i,_)=>(loop (σ:=(Z×dI×eu×bt)) (ρ:=dR) (λ(a,f,c,_)=>bw (br (a<(((b.1).length:X):Z))) ((AY (Y f,a,())).bind λ(d,_)=>(cN (([a]).length+d.length)).bind λ_=>(cN (c.length+([([a]++d)]).length)).bind λ_=>(AX (f,a,())).bind λ(g,_)=>Y (.inl (bK.wrap (a+(1:Z)),g,(c++[([a]++d)]),()))) (Y (.inr (c,())))) ((0:Z),i,[],())).bind λ(h,_)=>Y (h,(0:Z),())))
def DU:eg->bu eg:=λ(b,a,_)=>(eQ bD b (32:Z)).bind λc=>(eQ bD a (32:Z)).bind λd=>(eQ bD (bD.wrap (e0 bD b (4294967295:Z)*e0 bD a (4294967295:Z))) (32:Z)).bind λe=>(eQ bD (bD.wrap (bD.wrap (c*e0 bD a (4294967295:Z))+e)) (32:Z)).bind λf=>(eQ bD (bD.wrap (e0 bD (bD.wrap (bD.wrap (c*e0 bD a (4294967295:Z))+e)) (4294967295:Z)+bD.wrap (e0 bD b (4294967295:Z)*d))) (32:Z)).bind λg=>Y (bD.wrap (bD.wrap (bD.wrap (c*d)+f)+g),bD.wrap (b*a),())
def IA:eg->bu eg:=λ(b,c,_)=>(DU (b,c,())).bind λ(a,aV,_)=>Y (a,aV,())
def D8:dV->bu ee:=λ(f,g,_)=>bB (α:=bt) (bw (br (g<(0:Z))) bo (Y ())) λ_=>(IA (bD.wrap ((f.length:X):Z),bD.wrap g,())).bind λ(m,aV,_)=>bB (α:=bt) (bB (α:=eh) (bw (br (m>(0:Z))==bq) (Y (br (aV>(9223372036854775807:Z)),())) (Y (bp,()))) λ(n,_)=>bw n bo (Y ())) λ_=>(gg (bK.wrap aV) (bK.wrap aV)).bind λe=>(loop (σ:=dX) (ρ:=ee) (λ(b,a,_)=>bif br (b<((a.length:X):Z)) then((hj b).bind λk=>(Y (a.length)).bind λh=>(hX k h a.length).bind λ_=>(wx a.length).map λ_=>(k,h)).bind λc=>((Y (0)).bind λi=>(hj b).bind λj=>(hX i j a.length).bind λ_=>(wx a.length).map λ_=>(i,j)).bind λd=>Y (.inl (bK.wrap (b+((min ((a.take d.2).drop d.1).length (c.2-c.1):X):Z)),jW a ((a.take d.2).drop d.1) c.1 c.2,())) else
 Y (.inr (a,()))) (((min f.length ((bJ e (0:Z)).length-0):X):Z),jW (bJ e (0:Z)) f 0 (bJ e (0:Z)).length,())).bind λ(l,_)=>Y (l,())
def EO:(bm dK×Z×bt)->bu dT:=λ(g,h,_)=>(loop (σ:=dX) (ρ:=dD) (λ(e,b,_)=>bif br (e<((g.length:X):Z)) then(bB (α:=ee⊕dp) ((aw g e).bind λa=>bB (α:=(ala×dK×bt)⊕(ee⊕dp)) (bB (α:=(bz×ala×dK×bt)) (bw ((a.1 !=((b.length:X):Z))==bq) (bw (br (a.2.1<=a.1)==bq) (Y (br (a.2.1>h),b,a,())) (Y (bp,b,a,()))) (Y (bp,b,a,()))) λ(o,m,l,_)=>bw o (Y (.inr (.inr (.inr (.inr ([],bq,())))))) (Y (.inl (m,l,())))) λc=>match c with
 |.inl (i,f,_)=>((D8 ([e],bK.wrap (f.2.1-f.1),())).bind λ(k,_)=>(cN (i.length+k.length)).bind λ_=>Y (.inl ((i++k),())))
 |.inr d=>Y d) λc=>match c with
 |.inl (n,_)=>(Y (.inl (bK.wrap (e+(1:Z)),n,())))
 |.inr d=>Y d) else Y (.inr (.inl (b,())))) ((0:Z),[],())).bind λc=>match c with
 |.inl (j,_)=>(Y (j,(((j.length:X):Z)==h),()))
 |.inr d=>Y d
def EQ:(dK×Z×bt)->ak7:=λ(a,g,_)=>(bif br ((((a.2.2.1).length:X):Z)<bK.wrap (a.2.1-a.1)) then Y (bq,()) else((loop (σ:=ei) (ρ:=dZ) (λ(b,_)=>bif br (b<(((a.2.2.1).length:X):Z)) then(bB (α:=bt⊕dL) ((aw a.2.2.1 b).bind λc=>bB (α:=eh) (bw (br (b<bK.wrap (a.2.1-a.1))==bp) (Y ((c !=bK.wrap (a.1+b)),())) (Y (bq,()))) λ(f,_)=>bw f (bw f (Y (.inr (.inr (.inr (bq,()))))) (Y (.inl ()))) (bw (br (b>=bK.wrap (a.2.1-a.1))==bp) (bw (br (c<a.2.1)==bq) (bw (br (c>=g)==bq) ((aw a.2.2.1 (bK.wrap (b-(1:Z)))).bind λh=>bw (br (c<=h)) (Y (.inr (.inr (.inr (bq,()))))) (Y (.inl ()))) (Y (.inr (.inr (.inr (bq,())))))) (Y (.inr (.inr (.inr (bq,())))))) (Y (.inl ())))) λd=>match d with
 |.inl _=>(Y (.inl (bK.wrap (b+(1:Z)),())))
 |.inr e=>Y e) else Y (.inr (.inl ()))) ((0:Z),())).bind λd=>match d with
 |.inl _=>(Y (bp,()))
 |.inr e=>Y e))
def EP:(bm dK×ala×dK×bt)->ak7:=λ(f,g,a,_)=>((hj (bK.wrap (a.2.1-a.1))).bind λd=>(Y ((a.2.2.1).length)).bind λe=>(hX d e (a.2.2.1).length).map λ_=>(d,e)).bind λb=>(bif (((((a.2.2.1).take b.2).drop b.1).length:X):Z)==(0:Z) then Y ((a.2.2.2.1==(-1:Z)),()) else(aw (((a.2.2.1).take b.2).drop b.1) (0:Z)).bind λm=>(aw g m).bind λn=>bif a.2.2.2.1 !=n then Y (bq,()) else((loop (σ:=ei) (ρ:=dZ) (λ(c,_)=>bw (br (c<(((((a.2.2.1).take b.2).drop b.1).length:X):Z))) ((aw (((a.2.2.1).take b.2).drop b.1) c).bind λk=>(aw f a.2.2.2.1).bind λl=>(vw (l.2.2.1,k,())).bind λ(_,j,_)=>bw (!j) (Y (.inr (.inr (bq,())))) (Y (.inl (bK.wrap (c+(1:Z)),())))) (Y (.inr (.inl ())))) ((0:Z),())).bind λh=>match h with
 |.inl _=>(Y (bp,()))
 |.inr i=>Y i))
def IT:(dK×eA×bt)->ak7:=λ(a,b,_)=>b.bind λc=>(EQ (a,c,())).bind λ(aV,_)=>Y ((!aV),())
def IE:dm->ak8:=λ(b,c,_)=>(loop (σ:=ei) (ρ:=eb) (λ(a,_)=>bw (br (a<((b.length:X):Z))) ((aw b a).bind λg=>(IT (g,c.1,())).bind λ(f,_)=>bw f (Y (.inr (.inr (a,())))) (Y (.inl (bK.wrap (a+(1:Z)),())))) (Y (.inr (.inl ())))) ((0:Z),())).bind λd=>match d with
 |.inl _=>(Y ((-1:Z),()))
 |.inr e=>Y e
def D2:dm->ak7:=λ(c,a,_)=>(IE (c,(a.1,()),())).bind λ(b,_)=>Y (br (b>=(0:Z)),())
def IU:(dK×bu dA×ep×bt)->ak7:=λ(a,b,c,_)=>b.bind λe=>c.bind λf=>(EP (e,f,a,())).bind λ(d,_)=>Y ((!d),())
def IF:dj->ak8:=λ(c,b,_)=>(loop (σ:=ei) (ρ:=eb) (λ(a,_)=>bw (br (a<((c.length:X):Z))) ((aw c a).bind λg=>(IU (g,b.1,b.2.1,())).bind λ(f,_)=>bw f (Y (.inr (.inr (a,())))) (Y (.inl (bK.wrap (a+(1:Z)),())))) (Y (.inr (.inl ())))) ((0:Z),())).bind λd=>match d with
 |.inl _=>(Y ((-1:Z),()))
 |.inr e=>Y e
def D3:dj->ak7:=λ(c,a,_)=>(IF (c,(a.1,a.2.1,()),())).bind λ(b,_)=>Y (br (b>=(0:Z)),())
def vD:(dR×bm dK×bt)->ak8:=λ(c,d,_)=>(Ah (c,())).bind λ(i,_)=>(bif i !=(0:Z) then Y (i,()) else((EO (d,(((c.1).length:X):Z),())).bind λ(aV,p,_)=>bB (α:=ee⊕ei) (bw ((!p)==bq) ((D2 (d,(Y (((c.1).length:X):Z),()),())).bind λ(q,_)=>bw q (Y (.inr ((211:Z),()))) (Y (.inl (aV,())))) (Y (.inr ((211:Z),())))) λa=>match a with
 |.inl (h,_)=>((D3 (d,(Y d,Y h,()),())).bind λ(r,_)=>bif r then Y ((211:Z),()) else((loop (σ:=dX) (ρ:=eb) (λ(e,l,_)=>bif br (e<(((c.1).length:X):Z)) then((aw c.1 e).bind λj=>(loop (σ:=dX) (ρ:=dq) (λ(g,f,_)=>bif br (g<((j.length:X):Z)) then(bB (α:=ee⊕(dX⊕dq)) ((aw j g).bind λk=>bw (br (k>e)) (Y (.inl (f,()))) ((aw f k).bind λs=>(aw d s).bind λt=>(vw (t.2.2.1,e,())).bind λ(_,o,_)=>bw (!o) (Y (.inr (.inr (.inr (.inr (.inr ((211:Z),()))))))) (Y (.inl (f,()))))) λa=>match a with
 |.inl (m,_)=>(Y (.inl (bK.wrap (g+(1:Z)),m,())))
 |.inr b=>Y b) else Y (.inr (.inl (f,())))) ((0:Z),l,())).bind λa=>match a with
 |.inl (n,_)=>(Y (.inl (bK.wrap (e+(1:Z)),n,())))
 |.inr b=>Y b) else Y (.inr (.inl ()))) ((0:Z),h,())).bind λa=>match a with
 |.inl _=>(Y ((0:Z),()))
 |.inr b=>Y b))
 |.inr b=>Y b))
def Ej:dV->ak7:=λ(b,c,_)=>(bif ((b.length:X):Z)!=c then Y (bq,()) else((gg c c).bind λk=>(loop (σ:=dU) (ρ:=dZ) (λ(a,g,_)=>bif br (a<c) then(bB (α:=ec⊕dz) (bB (α:=ec⊕(ec⊕dz)) ((aw b a).bind λo=>bw (br (o<(0:Z))==bq) ((aw b a).bind λp=>bw (br (p>=c)==bq) ((aw b a).bind λq=>(be g.length q).bind λj=>(a5 g j λi=>Y i).bind λm=>bw m (Y (.inr (.inr (.inr (.inr (bq,())))))) (Y (.inl (g,())))) (Y (.inr (.inr (.inr (.inr (bq,()))))))) (Y (.inr (.inr (.inr (.inr (bq,()))))))) λd=>match d with
 |.inl (f,_)=>((aw b a).bind λn=>(be f.length n).bind λh=>(a5 f h λ_=>Y (f.set h bp)).bind λr=>Y (.inl (r,())))
 |.inr e=>Y e) λd=>match d with
 |.inl (l,_)=>(Y (.inl (bK.wrap (a+(1:Z)),l,())))
 |.inr e=>Y e) else Y (.inr (.inl ()))) ((0:Z),bJ k bq,())).bind λd=>match d with
 |.inl _=>(Y (bp,()))
 |.inr e=>Y e))
def tB:dC->bu dJ:=λ(a,b,_)=>(x9 (a,())).bind λ(c,_)=>(bw (c !=(0:Z)) (Y (([],()),c,())) (bw (((b.length:X):Z)!=(((a.1).length:X):Z)) (Y (([],()),(2:Z),())) ((Ej (b,(((a.1).length:X):Z),())).bind λ(aV,_)=>bw (!aV) (Y (([],()),(90:Z),())) ((EG (a,b,())).bind λ(d,e,_)=>Y (d,e,())))))
section
open Go
def Ch (c:ala->ep) (a:ala):bu bz:=bif b2 a.length 1000000 then(c a).bind λb=>bif b2 b.length 1000000 then Y (br ((al5 b).length<a.length)) else bo else bo
end
def Dv:dJ->ak7:=λ(b,a,_)=>(bw (br (a>=(0:Z))==bp) (Y (br (a<(((b.1).length:X):Z)),())) (Y (bq,())))
def xU:ei->ak8:=λ(a,_)=>bB (α:=eg) (bw (br (a>=(65536:Z))) ((eQ cd a (16:Z)).bind λg=>Y (g,(16:Z),())) (Y (a,(0:Z),()))) λ(b,c,_)=>bB (α:=eg) (bw (br (b>=(256:Z))) ((eQ cd b (8:Z)).bind λh=>Y (h,bK.wrap (c+(8:Z)),())) (Y (b,c,()))) λ(f,e,_)=>(rp FI (apk.wrap f)).bind λd=>Y (bK.wrap (e+bK.wrap d),())
def Oe:ei->ak8:=λ(a,_)=>bB (α:=eg) (bw (br (a>=(4294967296:Z))) ((eQ bD a (32:Z)).bind λi=>Y (i,(32:Z),())) (Y (a,(0:Z),()))) λ(b,d,_)=>bB (α:=eg) (bw (br (b>=(65536:Z))) ((eQ bD b (16:Z)).bind λj=>Y (j,bK.wrap (d+(16:Z)),())) (Y (b,d,()))) λ(c,e,_)=>bB (α:=eg) (bw (br (c>=(256:Z))) ((eQ bD c (8:Z)).bind λk=>Y (k,bK.wrap (e+(8:Z)),())) (Y (c,e,()))) λ(h,g,_)=>(rp FI (apk.wrap h)).bind λf=>Y (bK.wrap (g+bK.wrap f),())
def DT:ei->ak8:=λ(b,_)=>(Oe (b,())).bind λ(a,_)=>Y (a,())
def Ea:(ala×Z×Z×bt)->bu ee:=λ(k,f,j,_)=>(loop (σ:=dX) (ρ:=ee) (λ(d,g,_)=>bif br (d<j) then(loop (σ:=dX) (ρ:=ee) (λ(a,c,_)=>bB (α:=ee⊕dF) (bw (br (a>f)==bp) ((be c.length a).bind λu=>(a5 c u λq=>Y q).bind λy=>(be c.length (bK.wrap (a-(1:Z)))).bind λr=>(a5 c r λn=>Y n).bind λz=>(vk (y,z,())).bind λ(x,_)=>bw x (Y (.inl (c,()))) (Y (.inr (.inr (c,()))))) (Y (.inr (.inr (c,()))))) λv=>match v with
 |.inl (b,_)=>((be b.length (bK.wrap (a-(1:Z)))).bind λs=>(a5 b s λo=>Y o).bind λA=>(be b.length a).bind λt=>(a5 b t λp=>Y p).bind λB=>(be b.length a).bind λh=>(a5 b h λ_=>Y (b.set h A)).bind λe=>(be e.length (bK.wrap (a-(1:Z)))).bind λi=>(a5 e i λ_=>Y (e.set i B)).bind λC=>Y (.inl (bK.wrap (a-(1:Z)),C,())))
 |.inr w=>Y w) (d,g,())).bind λ(l,_)=>Y (.inl (bK.wrap (d+(1:Z)),l,())) else Y (.inr (g,()))) (bK.wrap (f+(1:Z)),k,())).bind λ(m,_)=>Y (m,())
def Ed:(ala×Z×Z×Z×bt)->bu ee:=λ(e,c,d,g,_)=>(loop (σ:=(Z×Z×Z×bz×bz×ala×bt)) (ρ:=ee) (λ(a,b,_,_,_,f,_)=>bw (br (bK.wrap (b-a)<=(12:Z))) ((Ea (f,a,b,())).bind λ(h,_)=>Y (.inr (h,()))) bo) (c,d,g,bp,bp,e,())).bind Y
def AC:ee->bu ee:=λ(a,_)=>(DT (bD.wrap ((a.length:X):Z),())).bind λ(c,_)=>(Ed (a,(0:Z),((a.length:X):Z),c,())).bind λ(b,_)=>Y (b,())
def Du:ala×bt->ak7:=λa=>(Ch (λc=>(AC (c,())).map λd=>d.1) a.1).map λb=>(b,())
def It:(Z×bu dR×bt)->ak7:=λ(b,a,_)=>a.bind λc=>(Dv (c,b,())).bind λ(aV,_)=>Y ((!aV),())
def IG:du->ak8:=λ(b,c,_)=>(loop (σ:=ei) (ρ:=eb) (λ(a,_)=>bw (br (a<((b.length:X):Z))) ((aw b a).bind λg=>(It (g,c.1,())).bind λ(f,_)=>bw f (Y (.inr (.inr (a,())))) (Y (.inl (bK.wrap (a+(1:Z)),())))) (Y (.inr (.inl ())))) ((0:Z),())).bind λd=>match d with
 |.inl _=>(Y ((-1:Z),()))
 |.inr e=>Y e
def D5:du->ak7:=λ(c,a,_)=>(IG (c,(a.1,()),())).bind λ(b,_)=>Y (br (b>=(0:Z)),())
def Dq:dC->ak8:=λ(a,b,_)=>(Ah (a,())).bind λ(c,_)=>(bw (c !=(0:Z)) (Y (c,())) (bw (((b.length:X):Z)!=(((a.1).length:X):Z)) (Y ((2:Z),())) ((D5 (b,(Y a,()),())).bind λ(aV,_)=>bw (aV==bq) ((Du (b,())).bind λ(d,_)=>bw d (Y ((90:Z),())) (Y ((0:Z),()))) (Y ((90:Z),())))))
def Aj:ei->bu dQ:=λ(a,_)=>(gg a a).bind λe=>(loop (σ:=dO) (ρ:=dQ) (λ(c,b,_)=>bw (br (c<((((bJ e []):es).length:X):Z))) ((gg a a).bind λf=>(be b.length c).bind λd=>(a5 b d λ_=>Y (b.set d (bJ f bq))).bind λh=>Y (.inl (bK.wrap (c+(1:Z)),h,()))) (Y (.inr (b,())))) ((0:Z),bJ e [],())).bind λ(g,_)=>Y (g,())
def Am:(es×Z×Z×bt)->bu dQ:=λ(a,d,e,_)=>(bw (d !=e) ((be a.length d).bind λb=>(be a.length e).bind λc=>((a5 a b λm=>Y m).bind λn=>be n.length e).bind λi=>(a5 a b λg=>(a5 g i λ_=>Y (g.set i bp)).map λo=>a.set b o).bind λf=>((a5 f c λk=>Y k).bind λl=>be l.length d).bind λj=>(a5 f c λh=>(a5 h j λ_=>Y (h.set j bp)).map λp=>f.set c p).bind λq=>Y (q,())) (Y (a,())))
def Dr:(es×Z×bt)->bu ee:=λ(f,g,_)=>(aw f g).bind λc=>(loop (σ:=dX) (ρ:=ee) (λ(a,b,_)=>bw (br (a<((c.length:X):Z))) (bB (α:=ee) ((aw c a).bind λh=>bw h ((cN (b.length+([a]).length)).bind λ_=>Y ((b++[a]),())) (Y (b,()))) λ(d,_)=>Y (.inl (bK.wrap (a+(1:Z)),d,()))) (Y (.inr (b,())))) ((0:Z),[],())).bind λ(e,_)=>Y (e,())
def Al:dQ->bu dN:=λ(b,_)=>(gg ((b.length:X):Z) ((b.length:X):Z)).bind λg=>(loop (σ:=dr) (ρ:=dt) (λ(c,e,a,_)=>bw (br (c<((b.length:X):Z))) ((Dr (b,c,())).bind λ(h,_)=>(be (a.1).length c).bind λd=>((a5 a.1 d λ_=>Y ((a.1).set d h)).map λi=>(i,a.2)).bind λj=>Y (.inl (bK.wrap (c+(1:Z)),e,j,()))) (Y (.inr (e,a,())))) ((0:Z),([],()),(bJ g [],()),())).bind λ(_,f,_)=>Y (f,())
def Dt:dC->bu dN:=λ(k,a,_)=>(Aj (((a.length:X):Z),())).bind λ(o,_)=>(loop (σ:=dv) (ρ:=dw) (λ(b,i,j,_)=>bif br (b<((a.length:X):Z)) then(aw a b).bind λv=>((Y (0)).bind λg=>(hj b).bind λh=>(hX g h a.length).map λ_=>(g,h)).bind λc=>(loop (σ:=dv) (ρ:=dw) (λ(d,e,f,_)=>bif br (d<((((a.take c.2).drop c.1).length:X):Z)) then bB (α:=dw) ((aw ((a.take c.2).drop c.1) d).bind λu=>(xL (k,v,u,())).bind λ(m,_)=>bw m ((Am (f,b,d,())).bind λ(l,_)=>Y (e,l,())) (Y (e,f,()))) λ(p,q,_)=>
 Y (.inl (bK.wrap (d+(1:Z)),p,q,())) else Y (.inr (e,f,()))) ((0:Z),i,j,())).bind λ(r,s,_)=>Y (.inl (bK.wrap (b+(1:Z)),r,s,())) else Y (.inr (i,j,()))) ((0:Z),([],()),o,())).bind λ(_,t,_)=>(Al (t,())).bind λ(n,_)=>Y (n,())
def Ak:dC->bu dJ:=λ(a,b,_)=>(Dq (a,b,())).bind λ(c,_)=>(bw (c !=(0:Z)) (Y (([],()),c,())) ((Dt (a,b,())).bind λ(aV,_)=>Y (aV,(0:Z),())))
def vj:eg->ak8:=λ(a,b,_)=>(tn (a,())).bind λ(c,_)=>(tn (b,())).bind λ(aV,_)=>(bw c (bw aV (Y ((0:Z),())) (Y ((-1:Z),()))) (bw aV (Y ((1:Z),())) (bw (br (a<b)) (Y ((-1:Z),())) (bw (br (a>b)) (Y ((1:Z),())) (Y ((0:Z),()))))))
def Dd:ee->ak8:=λ(b,_)=>(loop (σ:=ei) (ρ:=eb) (λ(a,_)=>bw (br (a<((b.length:X):Z))) ((aw b a).bind λc=>bw (c !=(0:Z)) (Y (.inr (.inr (c,())))) (Y (.inl (bK.wrap (a+(1:Z)),())))) (Y (.inr (.inl ())))) ((0:Z),())).bind λd=>match d with
 |.inl _=>(Y ((0:Z),()))
 |.inr e=>Y e
abbrev bi:Type:=ala
abbrev hA:Type:=(bi×bt)
abbrev eW:Type:=(bz×hA)
abbrev cQ:Type:=ei
abbrev e2:Type:=(bz×(eW×cQ))
abbrev HM:Type:=(bi×(bi×hA))
abbrev nw:Type:=(bm e2)
abbrev s9:Type:=(Z×(Z×(nw×bt)))
abbrev lr:Type:=(bm (Z×(Z×cQ)))
abbrev da:Type:=(Z×(Z×HM))
abbrev hJ:Type:=eh
abbrev rR:Type:=(Z×((bm bi×bt)×(bm (bu (bm (Z×e2)×X))×bt)))
abbrev jS:Type:=(bm (Z×(Z×(bi×cQ))))
abbrev gr:Type:=(e2×bt)
abbrev gS:Type:=(eW×bt)
abbrev mX:Type:=(e2×e2×bt)
abbrev jf:Type:=(Z×bi×bt)
abbrev gD:Type:=ak6
abbrev n1:Type:=(bt⊕hJ)
abbrev CQ:Type:=(Z×s9×s9×bt)
abbrev j8:Type:=(lr×bt)
abbrev CR:Type:=(s9×s9×bt)
abbrev VA:Type:=(lr×Z×Z×Z×bt×bt)
abbrev oS:Type:=(Z×lr×bt)
abbrev kA:Type:=(bi×bi×bt)
abbrev mr:Type:=(eW×eW×bt)
abbrev oT:Type:=(bt⊕cQ)
abbrev n2:Type:=(bi×Z×bt)
abbrev ny:Type:=eg
abbrev MW:Type:=(s9×Z×bt)
abbrev kB:Type:=(jS×bm gD×bt)
abbrev zO:Type:=(Z×Z×lr×bt)
abbrev xn:Type:=(bz×(eW×(Z×hJ)))
abbrev qD:Type:=(Z×Z×bi×bt)
abbrev qE:Type:=(eW×Z×bt)
abbrev nz:Type:=(da×bt)
def m0:hA->bu hA:=λ(c,_)=>(loop (σ:=cQ) (ρ:=cQ) (λ(a,_)=>bB (α:=bt⊕(cQ⊕cQ)) (bw (br (a>0)==bp) ((aw c (ay (a-1))).bind λj=>bw (j==0) (Y (.inl ())) (Y (.inr (.inr (a,()))))) (Y (.inr (.inr (a,()))))) λh=>match h with
 |.inl _=>(Y (.inl (ay (a-1),())))
 |.inr i=>Y i) (ao c,())).bind λ(f,_)=>(loop (σ:=jf) (ρ:=hA) (λ(b,d,_)=>bw (br (b<f)) ((aw c b).bind λe=>(cN (d.length+([e]).length)).bind λ_=>Y (.inl (aQ b,(d++[e]),()))) (Y (.inr (d,())))) (0,[],())).bind λ(g,_)=>Y (g,())
def mx:(bz×bi×bt)->bu gS:=λ(c,b,_)=>(m0 (b,())).bind λ(a,_)=>(bw (c==bp) (Y ((br (ao a>0),(a,())),())) (Y ((bq,(a,())),())))
def r2:cQ->bu gS:=λ(a,_)=>bB (α:=(Z×eW×bt)) (bw (br (a<0)) (Y (aL (aL (ay (0-aQ a))+1),(bq,([],())),())) (Y (aL a,(bq,([],())),()))) λ(b,_,_)=>(eQ bD b 32).bind λd=>(mx (br (a<0),[eD b,eD d],())).bind λ(c,_)=>Y (c,())
def pM:gS->bu gS:=λ(a,_)=>(mx (a.1,a.2.1,())).bind λ(b,_)=>Y (b,())
def r4:bt->bu gr:=λ_=>Y ((bp,((bq,([],())),((0:Z),()))),())
def xV:cQ->bu cQ:=λ(a,_)=>(bw (a==0) (Y (32,())) ((eQ cd (eD (e0 cd a (eD (0-a))*125613361)) 27).bind λb=>(aw qI b).bind λc=>Y (ay c,())))
def r3:gS->bu cQ:=λ(c,_)=>(m0 (c.2.1,())).bind λ(b,_)=>(loop (σ:=cQ) (ρ:=oT) (λ(a,_)=>bw (br (a<ao b)) ((aw b a).bind λg=>bw (g !=0) ((aw b a).bind λh=>(xV (h,())).bind λ(f,_)=>Y (.inr (.inr (ay (ay (32*a)+f),())))) (Y (.inl (aQ a,())))) (Y (.inr (.inl ())))) (0,())).bind λd=>match d with
 |.inl _=>(Y (0,()))
 |.inr e=>Y e
def r1:gS->bu gS:=λ(a,_)=>(mx (bq,a.2.1,())).bind λ(b,_)=>Y (b,())
def x3:n2->bu hA:=λ(f,g,_)=>(kM bK g 32).bind λi=>(gg i i).bind λj=>(loop (σ:=qD) (ρ:=jf) (λ(a,b,c,_)=>bw (br (b<ao f)) ((aw f b).bind λl=>(jy g 32).bind λm=>(it bD (aL l) m).bind λd=>(cN (c.length+([eD (gK bD a d)]).length)).bind λ_=>(eQ bD (gK bD a d) 32).bind λk=>Y (.inl (k,aQ b,(c++[eD (gK bD a d)]),()))) (Y (.inr (a,c,())))) (0,0,bJ j (0:Z),())).bind λ(e,h,_)=>(cN (h.length+([eD e]).length)).bind λ_=>Y ((h++[eD e]),())
def x4:n2->bu (bi×bz×bt):=λ(b,d,_)=>(loop (σ:=ef) (ρ:=hJ) (λ(e,c,_)=>bB (α:=bt⊕(ef⊕hJ)) ((kM bK d 32).bind λw=>bw (br (c<w)==bp) (bw (br (c<ao b)) (Y (.inl ())) (Y (.inr (.inr (e,()))))) (Y (.inr (.inr (e,()))))) λt=>match t with
 |.inl _=>(bB (α:=hJ) (bw (e==bq) ((aw b c).bind λx=>Y ((x !=0),())) (Y (bp,()))) λ(m,_)=>Y (.inl (m,aQ c,())))
 |.inr u=>Y u) (bq,0,())).bind λ(n,_)=>(jy d 32).bind λj=>(kM bK d 32).bind λy=>(loop (σ:=(bz×Z×bi×bt)) (ρ:=(bz×bi×bt)) (λ(f,a,g,_)=>bif br (a<ao b) then bB (α:=(bz×bi×bt)) ((aw b a).bind λk=>bB (α:=jf) (bw (br (aQ a<ao b)) ((aw b (aQ a)).bind λz=>(it bD (aL z) 32).bind λA=>Y (gK bD (aL k) A,g,())) (Y (aL k,g,()))) λ(v,h,_)=>bB (α:=(bz×bi×bt)) ((kM bK d 32).bind λB=>bw ((a==B)==bp) ((aw b a).bind λC=>(it cd 1 j).bind λD=>bw (e0 cd C (eD (D-1))!=0) (Y (bp,h,())) (Y (f,h,()))) (Y (f,h,()))) λ(o,i,_)=>(eQ bD v j).bind λl=>(cN (i.length+([eD l]).length)).bind λ_=>Y (o,(i++[eD l]),())) λ(p,r,_)=>Y (.inl (p,aQ a,r,())) else
 Y (.inr (f,g,()))) (n,y,[],())).bind λ(q,s,_)=>Y (s,q,())
def x1:gS->bu gS:=λ(a,_)=>(mx ((!a.1),a.2.1,())).bind λ(b,_)=>Y (b,())
def Eo:kA->bu hA:=λ(b,c,_)=>(loop (σ:=qD) (ρ:=jf) (λ(e,a,f,_)=>bw (br (a<(if(ao c)>ao b then ao c else ao b))) (bB (α:=jf) (bB (α:=jf) (bw (br (a<ao b)) ((aw b a).bind λo=>Y (aL (e+aL o),f,())) (Y (e,f,()))) λ(h,k,_)=>bB (α:=jf) (bw (br (a<ao c)) ((aw c a).bind λp=>Y (aL (h+aL p),k,())) (Y (h,k,()))) λ(d,i,_)=>(cN (i.length+([eD d]).length)).bind λ_=>(eQ bD d 32).bind λn=>Y (n,(i++[eD d]),())) λ(l,m,_)=>Y (.inl (l,aQ a,m,()))) (Y (.inr (e,f,())))) (0,0,[],())).bind λ(g,j,_)=>(cN (j.length+([eD g]).length)).bind λ_=>Y ((j++[eD g]),())
def AK:kA->bu cQ:=λ(b,c,_)=>(bif ao b !=ao c then bw (br (ao b<ao c)) (Y ((-1:Z),())) (Y (1,())) else((loop (σ:=cQ) (ρ:=oT) (λ(a,_)=>bw (br (a>=0)) ((aw b a).bind λf=>(aw c a).bind λg=>bw (f !=g) ((aw b a).bind λh=>(aw c a).bind λi=>bw (br (h<i)) (Y (.inr (.inr ((-1:Z),())))) (Y (.inr (.inr (1,()))))) (Y (.inl (ay (a-1),())))) (Y (.inr (.inl ())))) (ay (ao b-1),())).bind λd=>match d with
 |.inl _=>(Y (0,()))
 |.inr e=>Y e))
def AL:kA->bu hA:=λ(d,e,_)=>(loop (σ:=qD) (ρ:=hA) (λ(f,a,b,_)=>bw (br (a<ao d)) (bB (α:=jf) ((aw d a).bind λh=>bB (α:=jf) (bw (br (a<ao e)) ((aw e a).bind λm=>Y (aL (aL (aL h-f)-aL m),b,())) (Y (aL (aL h-f),b,()))) λ(c,g,_)=>(cN (g.length+([eD c]).length)).bind λ_=>(eQ bD c 63).bind λl=>Y (l,(g++[eD c]),())) λ(i,j,_)=>Y (.inl (i,aQ a,j,()))) (Y (.inr (b,())))) (0,0,[],())).bind λ(k,_)=>Y (k,())
def qN:mr->bu gS:=λ(a,c,_)=>(m0 (a.2.1,())).bind λ(b,_)=>(m0 (c.2.1,())).bind λ(aV,_)=>(bw (a.1==c.1) ((Eo (b,aV,())).bind λ(f,_)=>(mx (a.1,f,())).bind λ(g,_)=>Y (g,())) ((AK (b,aV,())).bind λ(h,_)=>bw (br (h>=0)) ((AL (b,aV,())).bind λ(i,_)=>(mx (a.1,i,())).bind λ(j,_)=>Y (j,())) ((AL (aV,b,())).bind λ(d,_)=>(mx (c.1,d,())).bind λ(e,_)=>Y (e,()))))
def x2:mr->bu gS:=λ(a,b,_)=>(x1 (b,())).bind λ(c,_)=>(qN (a,c,())).bind λ(aV,_)=>Y (aV,())
def nB:qE->bu gS:=λ(f,b,_)=>(pM (f,())).bind λ(a,_)=>(bw (br (b>=0)) ((x3 (a.2.1,b,())).bind λ(aV,_)=>(mx (a.1,aV,())).bind λ(j,_)=>Y (j,())) ((x4 (a.2.1,ay (0-b),())).bind λ(k,l,_)=>(mx (a.1,k,())).bind λ(d,_)=>bB (α:=mr) (bB (α:=(bz×eW×eW×bt)) (bw (a.1==bp) (Y (l,(bq,([],())),d,())) (Y (bq,(bq,([],())),d,()))) λ(m,e,c,_)=>bw m ((r2 (1,())).bind λ(h,_)=>(x2 (c,h,())).bind λ(i,_)=>Y (e,i,())) (Y (e,c,()))) λ(_,g,_)=>Y (g,())))
def x6:qE->bu gS:=λ(d,f,_)=>(loop (σ:=(Z×eW×eW×bt)) (ρ:=(Z×eW×eW×bt)) (λ(a,b,c,_)=>bw (br (a>1048576)) ((nB (b,(-1048576:Z),())).bind λ(i,_)=>Y (.inl (ay (a-1048576),i,c,()))) (Y (.inr (a,b,c,())))) (f,d,(bq,([],())),())).bind λ(g,e,_,_)=>(nB (e,ay (0-g),())).bind λ(h,_)=>Y (h,())
def AH:gS->bu cQ:=λ(b,_)=>(m0 (b.2.1,())).bind λ(a,_)=>(bw (ao a==0) (Y (0,())) ((aw a (ay (ao a-1))).bind λc=>(xU (c,())).bind λ(aV,_)=>Y (ay (ay (32*ay (ao a-1))+aV),())))
def oa:qE->bu gr:=λ(e,a,_)=>(pM (e,())).bind λ(c,_)=>(bif ao c.2.1==0 then Y ((bq,((bq,([],())),((0:Z),()))),()) else bif br (a>65536) then(r4 ()).bind λ(aV,_)=>Y (aV,()) else((r3 (c,())).bind λ(b,_)=>(r1 (c,())).bind λ(k,_)=>(x6 (k,b,())).bind λ(d,_)=>bB (α:=(e2×eW×bt)⊕gr) (bB (α:=(bz×e2×eW×bt)) (bw (br (ay (a+b)<(-65536:Z))==bq) ((AH (d,())).bind λ(l,_)=>Y (br (ay (ay (a+b)+l)>65536),(bq,((bq,([],())),((0:Z),()))),d,())) (Y (bp,(bq,((bq,([],())),((0:Z),()))),d,()))) λ(n,m,f,_)=>bw n ((r4 ()).bind λ(j,_)=>Y (.inr (j,()))) (Y (.inl (m,f,())))) λh=>match h with
 |.inl (_,g,_)=>(Y ((bq,((e.1,g.2),(ay (a+b),()))),()))
 |.inr i=>Y i))
def AN:cQ->bu gr:=λ(a,_)=>(r2 (a,())).bind λ(b,_)=>(oa (b,0,())).bind λ(c,_)=>Y (c,())
def m1:gr->bu gr:=λ(a,_)=>(bw a.1 ((r4 ()).bind λ(b,_)=>Y (b,())) ((oa (a.2.1,a.2.2.1,())).bind λ(c,_)=>Y (c,())))
def ls:gS->bu cQ:=λ(b,_)=>(pM (b,())).bind λ(a,_)=>(bw (ao a.2.1==0) (Y (0,())) (bw a.1 (Y ((-1:Z),())) (Y (1,()))))
def r5:ef->bu cQ:=λ(b,a,_)=>(bw b (Y (gK bD a 9223372036854775808,())) (Y (a,())))
def AQ:ef->bu cQ:=λ(a,b,_)=>bB (α:=bt⊕cQ) (bB (α:=hJ) (bw ((b==3)==bq) (bw ((b==1)==bp) (bw ((!a)==bq) (bw ((b==2)==bp) (Y (a,())) (Y (bq,()))) (Y (bp,()))) (bw ((b==2)==bp) (Y (a,())) (Y (bq,())))) (Y (bp,()))) λ(f,_)=>bw f ((r5 (a,9218868437227405311,())).bind λ(aV,_)=>Y (.inr (aV,()))) (Y (.inl ()))) λc=>match c with
 |.inl _=>((r5 (a,9218868437227405312,())).bind λ(e,_)=>Y (e,()))
 |.inr d=>Y d
def AI:qE->bu hJ:=λ(a,b,_)=>(m0 (a.2.1,())).bind λ(c,_)=>(x4 (c,b,())).bind λ(_,d,_)=>Y (d,())
def Ev:(bz×Z×bz×Z×bt)->bu hJ:=λ(c,b,d,a,_)=>(bw (a==1) (Y (c,())) (bw (a==2) (Y ((!c),())) (bw (a==3) (Y (bq,())) (bw (br (b>0)==bq) (bw ((b==0)==bp) (Y (d,())) (Y (bq,()))) (Y (bp,()))))))
def Es:(bz×eW×Z×bz×Z×bt)->bu gS:=λ(q,b,a,h,p,_)=>(x6 (b,a,())).bind λ(l,_)=>(AI (b,a,())).bind λ(D,_)=>bB (α:=mr⊕gS) (bB (α:=(bz×eW×eW×bt)) (bw ((!D)==bp) (Y ((!h),(bq,([],())),l,())) (Y (bq,(bq,([],())),l,()))) λ(F,G,i,_)=>bw F (Y (.inr (i,()))) (Y (.inl (G,i,())))) λs=>match s with
 |.inl (g,f,_)=>(bB (α:=(Z×eW×eW×bt)) (bw (br (a>0)) ((x6 (b,ay (a-1),())).bind λ(k,_)=>bB (α:=(bz×eW×eW×bt)) ((r3 (k,())).bind λ(v,_)=>bw ((v==0)==bp) ((ls (k,())).bind λ(w,_)=>Y ((w !=0),g,f,())) (Y (bq,g,f,()))) λ(E,e,c,_)=>bw E (bw (h==bq) ((AI (b,ay (a-1),())).bind λ(x,_)=>bw x (Y (1,e,c,())) (Y (0,e,c,()))) (Y (1,e,c,()))) (Y ((-1:Z),e,c,()))) (Y ((-1:Z),g,f,()))) λ(o,m,d,_)=>bB (α:=(bz×eW×eW×bt)) ((ls (d,())).bind λ(y,_)=>bw ((y !=0)==bp) ((r3 (d,())).bind λ(z,_)=>Y ((z==0),m,d,())) (Y (bq,m,d,()))) λ(r,n,j,_)=>bB (α:=mr) ((Ev (q,o,r,p,())).bind λ(A,_)=>
  bw A ((r2 (1,())).bind λ(B,_)=>(qN (j,B,())).bind λ(C,_)=>Y (n,C,())) (Y (n,j,()))) λ(_,t,_)=>Y (t,()))
 |.inr u=>Y u
def En:gS->bu ed:=λ(f,_)=>(pM (f,())).bind λ(d,_)=>(bw (br (ao d.2.1>2)) (Y (0,bq,())) ((loop (σ:=(Z×Z×eW×bt)) (ρ:=(Z×eW×bt)) (λ(e,b,a,_)=>bw (br (b<ao a.2.1)) ((aw a.2.1 b).bind λh=>(it bD (aL h) (ay (32*b))).bind λi=>Y (.inl (gK bD e i,aQ b,a,()))) (Y (.inr (e,a,())))) (0,0,d,())).bind λ(c,g,_)=>bw g.1 (bw (br (c>9223372036854775808)) (Y (0,bq,())) (Y (ay (ay (0-ay (aL (c-1)))-1),bp,()))) (bw (br (c>9223372036854775807)) (Y (0,bq,())) (Y (ay c,bp,())))))
def Ey:(bz×eW×Z×bz×Z×bt)->bu cQ:=λ(c,e,a,i,f,_)=>(AH (e,())).bind λ(b,_)=>(bif br (ay (ay (a+b)-1)>=1024) then(AQ (c,f,())).bind λ(p,_)=>Y (p,()) else(bB (α:=gS) (bw (br ((if(-1074:Z)>ay (ay (ay (a+b)-1)-52) then(-1074:Z) else ay (ay (ay (a+b)-1)-52))>=a)) ((Es (c,e,ay ((if(-1074:Z)>ay (ay (ay (a+b)-1)-52) then(-1074:Z) else ay (ay (ay (a+b)-1)-52))-a),i,f,())).bind λ(q,_)=>Y (q,())) ((nB (e,ay (a-(if(-1074:Z)>ay (ay (ay (a+b)-1)-52) then(-1074:Z) else ay (ay (ay (a+b)-1)-52))),())).bind λ(r,_)=>Y (r,()))) λ(j,_)=>(En (j,())).bind λ(g,_,_)=>bB (α:=ny) (bif g==9007199254740992 then Y (aQ (if(-1074:Z)>ay (ay (ay (a+b)-1)-52) then(-1074:Z) else ay (ay (ay (a+b)-1)-52)),4503599627370496,()) else
 Y ((if(-1074:Z)>ay (ay (ay (a+b)-1)-52) then(-1074:Z) else ay (ay (ay (a+b)-1)-52)),g,())) λ(h,d,_)=>bB (α:=bt⊕cQ) (bB (α:=hJ) (bw (br (d>=4503599627370496)==bp) (Y (br (ay (h+53)>1024),())) (Y (bq,()))) λ(s,_)=>bw s ((AQ (c,f,())).bind λ(m,_)=>Y (.inr (m,()))) (bw (br (d>=4503599627370496)) ((it bD (aL (ay (h+1075))) 52).bind λt=>(r5 (c,gK bD t (aL (ay (d-4503599627370496))),())).bind λ(n,_)=>Y (.inr (n,()))) (Y (.inl ())))) λk=>match k with
 |.inl _=>((r5 (c,aL d,())).bind λ(o,_)=>Y (o,()))
 |.inr l=>Y l))
def AP:(e2×Z×bt)->bu cQ:=λ(b,c,_)=>(m1 (b,())).bind λ(a,_)=>(bw a.1 (Y (9221120237041090560,())) ((ls (a.2.1,())).bind λ(aV,_)=>bw (aV==0) (Y (0,())) ((r1 (a.2.1,())).bind λ(d,_)=>(Ey (a.2.1.1,d,a.2.2.1,bq,c,())).bind λ(e,_)=>Y (e,()))))
def Ew:ny->bu cQ:=λ(b,a,_)=>(AN (b,())).bind λ(c,_)=>(AP (c,a,())).bind λ(aV,_)=>Y (aV,())
def xK:cQ->bu ny:=λ(a,_)=>(eQ bD a 52).bind λb=>Y (ay (e0 bD b 2047),e0 bD a 4503599627370495,())
def pJ:cQ->bu hJ:=λ(a,_)=>(xK (a,())).bind λ(b,_,_)=>Y ((b !=2047),())
def iZ:hA->bu hA:=λ(b,_)=>(loop (σ:=cQ) (ρ:=cQ) (λ(a,_)=>bB (α:=bt⊕(cQ⊕cQ)) (bw (br (a>0)==bp) ((aw b (ay (a-1))).bind λi=>bw (i==0) (Y (.inl ())) (Y (.inr (.inr (a,()))))) (Y (.inr (.inr (a,()))))) λg=>match g with
 |.inl _=>(Y (.inl (ay (a-1),())))
 |.inr h=>Y h) (ao b,())).bind λ(f,_)=>((Y (0)).bind λc=>(hj f).bind λd=>(hX c d b.length).map λ_=>(c,d)).bind λe=>Y (((b.take e.2).drop e.1),())
def mw:(bz×bi×bt)->bu gS:=λ(c,b,_)=>(iZ (b,())).bind λ(a,_)=>(bw (ao a==0) (Y ((bq,(([]:bi),())),())) (Y ((c,(a,())),())))
def vq:cQ->bu gS:=λ(a,_)=>bB (α:=(Z×eW×bt)) (bw (br (a<0)) (Y (aL (0-aL a),(bq,([],())),())) (Y (aL a,(bq,([],())),()))) λ(b,_,_)=>(eQ bD b 32).bind λd=>(mw (br (a<0),[eD (e0 bD b 4294967295),eD d],())).bind λ(c,_)=>Y (c,())
def Do:cQ->bu hJ:=λ(a,_)=>Y ((e0 bD a 9223372036854775808 !=0),())
def vx:hA->bu hA:=λ(a,_)=>ss a.length (Y ([],())) ((cN (([]:bi).length+a.length)).bind λ_=>Y (([]++a),()))
def tv:gS->bu gS:=λ(a,_)=>(vx (a.2.1,())).bind λ(b,_)=>(mw ((!a.1),b,())).bind λ(c,_)=>Y (c,())
def xH:bt->bu gr:=λ_=>Y ((bp,((bq,([],())),((0:Z),()))),())
def Dz:gS->bu gS:=λ(a,_)=>(vx (a.2.1,())).bind λ(b,_)=>(mw (a.1,b,())).bind λ(c,_)=>Y (c,())
def qL:gS->bu cQ:=λ(a,_)=>(iZ (a.2.1,())).bind λ(b,_)=>(bw (ao b==0) (Y (0,())) (bw a.1 (Y ((-1:Z),())) (Y (1,()))))
def Ao:gS->bu cQ:=λ(b,_)=>(loop (σ:=cQ) (ρ:=oT) (λ(a,_)=>bw (br (a<ao b.2.1)) ((aw b.2.1 a).bind λc=>bw (c !=0) ((xV (c,())).bind λ(aV,_)=>Y (.inr (.inr (ay (ay (a*32)+aV),())))) (Y (.inl (aQ a,())))) (Y (.inr (.inl ())))) (0,())).bind λd=>match d with
 |.inl _=>(Y (0,()))
 |.inr e=>Y e
def Ar:hA->bu cQ:=λ(a,_)=>(bw (ao a==0) (Y (0,())) ((aw a (ay (ao a-1))).bind λc=>(xU (c,())).bind λ(b,_)=>Y (ay (ay (ay (ao a-1)*32)+b),())))
def tu:gS->bu cQ:=λ(a,_)=>(iZ (a.2.1,())).bind λ(b,_)=>(Ar (b,())).bind λ(c,_)=>Y (c,())
def xP:n2->bu hA:=λ(b,e,_)=>(bw (ao b==0) (Y ([],())) ((kM bK e 32).bind λc=>(jy e 32).bind λj=>(gg (aQ (ay (c+ao b))) (aQ (ay (c+ao b)))).bind λg=>(loop (σ:=jf) (ρ:=hA) (λ(a,d,_)=>bw (br (a<ao b)) ((aw b a).bind λk=>(it bD (aL k) (aL j)).bind λf=>rd d (ay (c+a)) λl=>wr d (ay (c+a)) (gK cd l (eD (e0 bD f 4294967295))) λn=>(eQ bD f 32).bind λm=>wr n (aQ (ay (c+a))) (eD m) λo=>Y (.inl (aQ a,o,()))) (Y (.inr (d,())))) (0,bJ g (0:Z),())).bind λ(h,_)=>(iZ (h,())).bind λ(i,_)=>Y (i,())))
def Iu:cQ->bu hJ:=λ(a,_)=>Y ((a !=0),())
def IH:(bi×bt×bt)->bu cQ:=λ(b,_,_)=>(loop (σ:=cQ) (ρ:=oT) (λ(a,_)=>bw (br (a<ao b)) ((aw b a).bind λf=>(Iu (f,())).bind λ(e,_)=>bw e (Y (.inr (.inr (a,())))) (Y (.inl (aQ a,())))) (Y (.inr (.inl ())))) (0,())).bind λc=>match c with
 |.inl _=>(Y ((-1:Z),()))
 |.inr d=>Y d
def AA:(bi×bt×bt)->bu hJ:=λ(b,_,_)=>(IH (b,(),())).bind λ(a,_)=>Y (br (a>=0),())
def Aq:n2->bu (bi×bz×bt):=λ(a,h,_)=>(kM bK h 32).bind λb=>(jy h 32).bind λj=>(bif br (b>=ao a) then Y ([],br (ao a>0),()) else bB (α:=hJ) (((Y (0)).bind λe=>(hj b).bind λf=>(hX e f a.length).map λ_=>(e,f)).bind λi=>(AA (((a.take i.2).drop i.1),(),())).bind λ(p,_)=>bw (p==bq) ((aw a b).bind λs=>(it cd 1 (aL j)).bind λt=>Y ((e0 cd s (eD (t-1))!=0),())) (Y (bp,()))) λ(l,_)=>(gg (ay (ao a-b)) (ay (ao a-b))).bind λg=>(loop (σ:=jf) (ρ:=hA) (λ(c,d,_)=>bif br (c<ao (bJ g (0:Z))) then bB (α:=hA) ((aw a (ay (b+c))).bind λk=>bB (α:=jf) (bw (br (aQ (ay (b+c))<ao a)) ((aw a (aQ (ay (b+c)))).bind λu=>(it bD (aL u) 32).bind λv=>Y (gK bD (aL k) v,d,())) (Y (aL k,d,()))) λ(r,m,_)=>
 (eQ bD r (aL j)).bind λw=>wr m c (eD (e0 bD w 4294967295)) λx=>Y (x,())) λ(n,_)=>Y (.inl (aQ c,n,())) else Y (.inr (d,()))) (0,bJ g (0:Z),())).bind λ(o,_)=>(iZ (o,())).bind λ(q,_)=>Y (q,l,()))
def xO:kA->bu hA:=λ(b,d,_)=>bB (α:=kA) (bw (br (ao b<ao d)) (Y (d,b,())) (Y (b,d,()))) λ(c,h,_)=>(gg 0 (aQ (ao c))).bind λn=>(loop (σ:=qD) (ρ:=jf) (λ(e,a,f,_)=>bw (br (a<ao c)) (bB (α:=jf) ((aw c a).bind λl=>bB (α:=jf) (bw (br (a<ao h)) ((aw h a).bind λq=>Y (aL (aL (aL l+e)+aL q),f,())) (Y (aL (aL l+e),f,()))) λ(g,j,_)=>(cN (j.length+([eD (e0 bD g 4294967295)]).length)).bind λ_=>(eQ bD g 32).bind λr=>Y (r,(j++[eD (e0 bD g 4294967295)]),())) λ(m,o,_)=>Y (.inl (m,aQ a,o,()))) (Y (.inr (e,f,())))) (0,0,bJ n (0:Z),())).bind λ(i,k,_)=>(cN (k.length+([eD i]).length)).bind λ_=>(iZ ((k++[eD i]),())).bind λ(p,_)=>Y (p,())
def rZ:qE->bu qE:=λ(b,a,_)=>bB (α:=gS⊕qE) (bB (α:=(bz×eW×bt)) (bw (br (a<(-1048576:Z))==bq) (Y (br (a>1048576),(bq,([],())),())) (Y (bp,(bq,([],())),()))) λ(p,q,_)=>bw p (Y (.inr ((bq,(([]:bi),())),3,()))) (Y (.inl (q,())))) λh=>match h with
 |.inl (f,_)=>((iZ (b.2.1,())).bind λ(c,_)=>bw (br (a>=0)) ((xP (c,a,())).bind λ(m,_)=>(mw (b.1,m,())).bind λ(n,_)=>Y (n,0,())) ((Aq (c,ay (0-a),())).bind λ(d,j,_)=>bB (α:=(bi×eW×bt)) (bB (α:=(bz×eW×bt)) (bw (b.1==bp) (Y (j,f,())) (Y (bq,f,()))) λ(o,e,_)=>bw o ((xO (d,[1],())).bind λ(k,_)=>Y (k,e,())) (Y (d,e,()))) λ(g,_,_)=>(mw (b.1,g,())).bind λ(l,_)=>Y (l,0,())))
 |.inr i=>Y i
def Af:qE->bu gS:=λ(d,f,_)=>(loop (σ:=(Z×eW×eW×bt)) (ρ:=(Z×eW×eW×bt)) (λ(a,b,c,_)=>bw (br (a>1048576)) ((rZ (b,(-1048576:Z),())).bind λ(i,_,_)=>Y (.inl (ay (a-1048576),i,c,()))) (Y (.inr (a,b,c,())))) (f,d,(bq,([],())),())).bind λ(g,e,_,_)=>(rZ (e,ay (0-g),())).bind λ(h,_,_)=>Y (h,())
def oY:gr->bu (e2×bz×bt):=λ(a,_)=>(bif a.1 then(xH ()).bind λ(j,_)=>Y (j,bq,()) else(Dz (a.2.1,())).bind λ(b,_)=>(qL (b,())).bind λ(aV,_)=>bif aV==0 then Y ((bq,((bq,([],())),((0:Z),()))),bp,()) else((Ao (b,())).bind λ(c,_)=>bB (α:=(e2×eW×bt)⊕(e2×bz×bt)) (bB (α:=(bz×e2×eW×bt)) ((tu (b,())).bind λ(k,_)=>bw (br (a.2.2.1>ay (65536-k))==bq) (Y (br (a.2.2.1<ay ((-65536:Z)-c)),(bq,((bq,([],())),((0:Z),()))),b,())) (Y (bp,(bq,((bq,([],())),((0:Z),()))),b,()))) λ(l,m,e,_)=>bw l ((xH ()).bind λ(h,_)=>Y (.inr (h,bq,()))) (Y (.inl (m,e,())))) λf=>match f with
 |.inl (_,d,_)=>((Af (d,c,())).bind λ(i,_)=>Y ((bq,(i,(ay (a.2.2.1+c),()))),bp,()))
 |.inr g=>Y g))
def tp:qE->bu gr:=λ(b,a,_)=>(oY ((bq,(b,(a,()))),())).bind λ(c,_,_)=>Y (c,())
def kZ:cQ->bu gr:=λ(b,_)=>(xK (b,())).bind λ(a,c,_)=>bB (α:=(Z×Z×e2×bt)⊕gr) (bw (a==2047) (Y (.inr ((bp,((bq,([],())),((0:Z),()))),()))) (bw (a==0) (Y (.inl ((-1074:Z),c,(bq,((bq,([],())),((0:Z),()))),()))) (Y (.inl (ay (a-1075),gK bD c 4503599627370496,(bq,((bq,([],())),((0:Z),()))),()))))) λi=>match i with
 |.inl (f,g,e,_)=>((vq (ay g,())).bind λ(d,_)=>bB (α:=(e2×eW×bt)) ((Do (b,())).bind λ(l,_)=>bw l ((tv (d,())).bind λ(m,_)=>Y (e,m,())) (Y (e,d,()))) λ(_,h,_)=>(tp (h,f,())).bind λ(k,_)=>Y (k,()))
 |.inr j=>Y j
def xI:mX->bu (e2×e2×bz×bt):=λ(c,d,_)=>(oY (c,())).bind λ(a,aV,_)=>(oY (d,())).bind λ(b,e,_)=>(bw (aV==bp) (Y (a,b,e,())) (Y (a,b,bq,())))
def DD:kA->bu hA:=λ(c,a,_)=>bB (α:=bt⊕hA) (bw ((ao c==0)==bq) (bw (ao a==0) (Y (.inr ([],()))) (Y (.inl ()))) (Y (.inr ([],())))) λo=>match o with
 |.inl _=>((gg (ay (ao c+ao a)) (ay (ao c+ao a))).bind λl=>(loop (σ:=jf) (ρ:=hA) (λ(b,g,_)=>bw (br (b<ao c)) ((aw c b).bind λh=>(loop (σ:=qD) (ρ:=jf) (λ(e,d,f,_)=>bw (br (d<ao a)) ((aw a d).bind λi=>rd f (ay (b+d)) λj=>wr f (ay (b+d)) (eD (e0 bD (aL (aL (aL (aL h*aL i)+aL j)+e)) 4294967295)) λs=>(eQ bD (aL (aL (aL (aL h*aL i)+aL j)+e)) 32).bind λr=>Y (.inl (r,aQ d,s,()))) (Y (.inr (e,f,())))) (0,0,g,())).bind λ(k,m,_)=>wr m (ay (b+ao a)) (eD k) λt=>Y (.inl (aQ b,t,()))) (Y (.inr (g,())))) (0,bJ l (0:Z),())).bind λ(n,_)=>(iZ (n,())).bind λ(q,_)=>Y (q,()))
 |.inr p=>Y p
def Dy:mr->bu gS:=λ(a,b,_)=>(iZ (a.2.1,())).bind λ(c,_)=>(iZ (b.2.1,())).bind λ(aV,_)=>(DD (c,aV,())).bind λ(d,_)=>(mw ((!(a.1==b.1)),d,())).bind λ(e,_)=>Y (e,())
def mZ:mX->bu gr:=λ(b,c,_)=>(xI (b,c,())).bind λ(a,aV,d,_)=>(bw (!d) ((xH ()).bind λ(e,_)=>Y (e,())) ((Dy (a.2.1,aV.2.1,())).bind λ(f,_)=>(tp (f,ay (a.2.2.1+aV.2.2.1),())).bind λ(g,_)=>Y (g,())))
def Dg:gr->bu gr:=λ(b,_)=>(oY (b,())).bind λ(a,d,_)=>bB (α:=mX) (bw d ((tv (a.2.1,())).bind λ(aV,_)=>Y ((a.1,(aV,a.2.2)),(bq,((bq,([],())),((0:Z),()))),())) (Y (a,(bq,((bq,([],())),((0:Z),()))),()))) λ(c,_,_)=>Y (c,())
def oX:qE->bu gS:=λ(a,b,_)=>(rZ (a,b,())).bind λ(c,_,_)=>Y (c,())
def De:cQ->bu hJ:=λ(a,_)=>Y ((a !=a),())
def Dc:ny->bu cQ:=λ(a,b,_)=>(De (a,())).bind λ(c,_)=>(De (b,())).bind λ(aV,_)=>(bw c (bw aV (Y (0,())) (Y ((-1:Z),()))) (bw aV (Y (1,())) (bw (br (a<b)) (Y ((-1:Z),())) (bw (br (a>b)) (Y (1,())) (Y (0,()))))))
def xM:kA->bu cQ:=λ(b,c,_)=>(bif ao b !=ao c then(vj (ao b,ao c,())).bind λ(f,_)=>Y (f,()) else((loop (σ:=cQ) (ρ:=oT) (λ(a,_)=>bw (br (a>=0)) ((aw b a).bind λh=>(aw c a).bind λi=>bw (h !=i) ((aw b a).bind λj=>(aw c a).bind λk=>(Dc (j,k,())).bind λ(g,_)=>Y (.inr (.inr (g,())))) (Y (.inl (ay (a-1),())))) (Y (.inr (.inl ())))) (ay (ao b-1),())).bind λd=>match d with
 |.inl _=>(Y (0,()))
 |.inr e=>Y e))
def xN:kA->bu hA:=λ(b,d,_)=>(gg (ao b) (ao b)).bind λi=>(loop (σ:=qD) (ρ:=hA) (λ(e,a,c,_)=>bw (br (a<ao b)) (bB (α:=jf) ((aw b a).bind λg=>bB (α:=jf) (bw (br (a<ao d)) ((aw d a).bind λn=>Y (aL (aL (aL g-e)-aL n),c,())) (Y (aL (aL g-e),c,()))) λ(f,j,_)=>wr j a (eD (e0 bD f 4294967295)) λp=>(eQ bD f 32).bind λo=>Y (e0 bD o 1,p,())) λ(h,k,_)=>Y (.inl (h,aQ a,k,()))) (Y (.inr (c,())))) (0,0,bJ i (0:Z),())).bind λ(l,_)=>(iZ (l,())).bind λ(m,_)=>Y (m,())
def ts:mr->bu gS:=λ(a,c,_)=>(iZ (a.2.1,())).bind λ(b,_)=>(iZ (c.2.1,())).bind λ(aV,_)=>(bw (a.1==c.1) ((xO (b,aV,())).bind λ(f,_)=>(mw (a.1,f,())).bind λ(g,_)=>Y (g,())) ((xM (b,aV,())).bind λ(h,_)=>bw (br (h>=0)) ((xN (b,aV,())).bind λ(i,_)=>(mw (a.1,i,())).bind λ(j,_)=>Y (j,())) ((xN (aV,b,())).bind λ(d,_)=>(mw (c.1,d,())).bind λ(e,_)=>Y (e,()))))
def Dk:(nw×bt)->bu gr:=λ(i,_)=>(loop (σ:=(Z×Z×e2×nw×bt)) (ρ:=((Z×e2×nw×bt)⊕gr)) (λ(c,e,k,b,_)=>bw (br (e<ao i)) ((aw i e).bind λw=>(oY (w,())).bind λ(a,s,_)=>bw (!s) ((xH ()).bind λ(t,_)=>Y (.inr (.inr (t,())))) ((cN (b.length+([a]).length)).bind λ_=>Y (.inl ((if a.2.2.1<c then a.2.2.1 else c),aQ e,k,(b++[a]),())))) (Y (.inr (.inl (c,k,b,()))))) (0,0,(bq,((bq,([],())),((0:Z),()))),[],())).bind λn=>match n with
 |.inl (h,u,f,_)=>((loop (σ:=(Z×e2×nw×eW×bt)) (ρ:=(e2×eW×bt)) (λ(d,j,g,l,_)=>bw (br (d<ao f)) (rd g d λm=>(oX (m.2.1,ay (m.2.2.1-h),())).bind λ(p,_)=>(ts (l,p,())).bind λ(q,_)=>Y (.inl (aQ d,j,g,q,()))) (Y (.inr (j,l,())))) (0,u,f,(bq,([],())),())).bind λ(_,v,_)=>(tp (v,h,())).bind λ(r,_)=>Y (r,()))
 |.inr o=>Y o
def pI:gr->bu cQ:=λ(a,_)=>(oY (a,())).bind λ(b,_,_)=>(qL (b.2.1,())).bind λ(aV,_)=>Y (aV,())
def vl:gr->bu gr:=λ(a,_)=>(oY (a,())).bind λ(b,_,_)=>Y (b,())
def DC:n2->bu n2:=λ(a,c,_)=>(gg (ao a) (ao a)).bind λh=>(loop (σ:=qD) (ρ:=jf) (λ(e,b,d,_)=>bw (br (b>=0)) ((it bD e 32).bind λf=>(aw a b).bind λg=>(kM bD (gK bD f (aL g)) (aL c)).bind λl=>wr d b (eD l) λn=>(jy (gK bD f (aL g)) (aL c)).bind λm=>Y (.inl (m,ay (b-1),n,()))) (Y (.inr (e,d,())))) (0,ay (ao a-1),bJ h (0:Z),())).bind λ(k,i,_)=>(iZ (i,())).bind λ(j,_)=>Y (j,eD k,())
def vv:cQ->bu cQ:=λ(b,_)=>(xU (b,())).bind λ(a,_)=>Y (ay (32-a),())
def Ap:((bi×X×X)×bi×bt)->bu n2:=λ(b,a,_)=>(be (b.2.2-b.2.1) (ao a)).bind λV=>(a5 b.1 (b.2.1+V) λP=>Y P).bind λdg=>(it bD (aL dg) 32).bind λI=>(be (b.2.2-b.2.1) (ay (ao a-1))).bind λav=>(a5 b.1 (b.2.1+av) λT=>Y T).bind λK=>(aw a (ay (ao a-1))).bind λbs=>(kM bD (gK bD I (aL K)) (aL bs)).bind λbx=>(aw a (ay (ao a-1))).bind λce=>(jy (gK bD I (aL K)) (aL ce)).bind λci=>(loop (σ:=(ej×Z×Z×bi×bt)) (ρ:=(ej×Z×bi×bt)) (λ(g,h,r,m,_)=>bB (α:=(ej×bi×bt)⊕((ej×Z×Z×bi×bt)⊕(ej×Z×bi×bt))) (bif br (h>4294967295)==bq then(aw a (ay (ao a-2))).bind λco=>(it bD r 32).bind λcs=>(be (g.2-g.1) (ay (ao a-2))).bind λU=>(a5 m (g.1+U) λN=>Y N).bind λcv=>bif br (aL (h*aL co)>gK bD cs (aL cv)) then
 Y (.inl (g,m,())) else Y (.inr (.inr (g,h,m,()))) else Y (.inl (g,m,()))) λa0=>match a0 with
 |.inl (C,D,_)=>((aw a (ay (ao a-1))).bind λE=>bw (br (aL (r+aL E)>4294967295)) (Y (.inr (C,aL (h-1),D,()))) (Y (.inl (C,aL (h-1),aL (r+aL E),D,()))))
 |.inr a3=>Y a3) (b.2,bx,ci,b.1,())).bind λ(a4,i,bl,_)=>(loop (σ:=(ej×Z×Z×Z×bi×bt)) (ρ:=(ej×Z×Z×bi×bt)) (λ(e,l,p,j,n,_)=>bw (br (j<ao a)) ((aw a j).bind λu=>(eQ bD (aL (aL (i*aL u)+l)) 32).bind λc1=>(be (e.2-e.1) j).bind λad=>(a5 n (e.1+ad) λO=>Y O).bind λF=>(be (e.2-e.1) j).bind λy=>(a5 n (e.1+y) λ_=>Y (n.set (e.1+y) (eD (e0 bD (aL (aL (aL F-e0 bD (aL (aL (i*aL u)+l)) 4294967295)-p)) 4294967295)))).bind λd1=>(eQ bD (aL (aL (aL F-e0 bD (aL (aL (i*aL u)+l)) 4294967295)-p)) 32).bind λc2=>Y (.inl (e,c1,e0 bD c2 1,aQ j,d1,()))) (Y (.inr (e,l,p,n,())))) (a4,0,0,0,bl,())).bind λ(c,x,w,s,_)=>(be (c.2-c.1) (ao a)).bind λam=>(a5 s (c.1+am) λQ=>Y Q).bind λG=>
 (be (c.2-c.1) (ao a)).bind λz=>(a5 s (c.1+z) λ_=>Y (s.set (c.1+z) (eD (e0 bD (aL (aL (aL G-x)-w)) 4294967295)))).bind λv=>(eQ bD (aL (aL (aL G-x)-w)) 32).bind λdl=>(bif e0 bD dl 1==0 then bw (bH c.1 b.2.1&&(bH c.2 b.2.2&&(bH v.length ((b.1).length)&&cb c.1 c.2))) (Y (v,eD i,())) bo else(loop (σ:=(ej×Z×Z×bi×bt)) (ρ:=(ej×Z×bi×bt)) (λ(f,q,k,o,_)=>bw (br (k<ao a)) ((aw a k).bind λH=>(be (f.2-f.1) k).bind λan=>(a5 o (f.1+an) λR=>Y R).bind λJ=>(be (f.2-f.1) k).bind λA=>(a5 o (f.1+A) λ_=>Y (o.set (f.1+A) (eD (e0 bD (aL (aL (aL J+aL H)+q)) 4294967295)))).bind λd2=>(eQ bD (aL (aL (aL J+aL H)+q)) 32).bind λds=>Y (.inl (f,ds,aQ k,d2,()))) (Y (.inr (f,q,o,())))) (c,0,0,v,())).bind λ(d,M,t,_)=>
 (be (d.2-d.1) (ao a)).bind λap=>(a5 t (d.1+ap) λS=>Y S).bind λd0=>(be (d.2-d.1) (ao a)).bind λB=>(a5 t (d.1+B) λ_=>Y (t.set (d.1+B) (eD (d0+eD M)))).bind λL=>bw (bH d.1 b.2.1&&(bH d.2 b.2.2&&(bH L.length ((b.1).length)&&cb d.1 d.2))) (Y (L,eD (aL (i-1)),())) bo)
def DB:kA->bu kA:=λ(a,b,_)=>(xM (a,b,())).bind λ(t,_)=>(bif br (t<0) then(vx (a,())).bind λ(u,_)=>Y ([],u,()) else bif ao b==1 then(aw b 0).bind λC=>(DC (a,C,())).bind λ(v,w,_)=>(iZ ([w],())).bind λ(x,_)=>Y (v,x,()) else(aw b (ay (ao b-1))).bind λD=>(vv (D,())).bind λ(h,_)=>(xP (b,h,())).bind λ(e,_)=>(gg (aQ (ao a)) (aQ (ao a))).bind λc=>(xP (a,h,())).bind λ(i,_)=>(gg (ay (ao (jW (bJ c (0:Z)) i 0 (bJ c (0:Z)).length)-ao e)) (ay (ao (jW (bJ c (0:Z)) i 0 (bJ c (0:Z)).length)-ao e))).bind λn=>(loop (σ:=(Z×bi×bi×bt)) (ρ:=kA) (λ(d,p,g,_)=>bif br (d>=0) then((hj d).bind λj=>(hj (aQ (ay (d+ao e)))).bind λk=>(hX j k g.length).bind λ_=>(wx g.length).map λ_=>(j,k)).bind λf=>
 bw (cb f.1 f.2) ((Ap ((g,f.1,f.2),e,())).bind λ(r,y,_)=>wr p d y λE=>Y (.inl (ay (d-1),E,r,()))) bo else Y (.inr (p,g,()))) (ay (ao (bJ n (0:Z))-1),bJ n (0:Z),jW (bJ c (0:Z)) i 0 (bJ c (0:Z)).length,())).bind λ(s,q,_)=>((Y (0)).bind λl=>(hj (ao e)).bind λm=>(hX l m q.length).map λ_=>(l,m)).bind λo=>(iZ (((q.take o.2).drop o.1),())).bind λ(z,_)=>(Aq (z,h,())).bind λ(A,_,_)=>(iZ (s,())).bind λ(B,_)=>Y (B,A,()))
def An:mr->bu cQ:=λ(b,c,_)=>(qL (b,())).bind λ(a,_)=>(qL (c,())).bind λ(aV,_)=>(bw (br (a<aV)) (Y ((-1:Z),())) (bw (br (a>aV)) (Y (1,())) ((iZ (b.2.1,())).bind λ(d,_)=>(iZ (c.2.1,())).bind λ(e,_)=>(xM (d,e,())).bind λ(f,_)=>Y (ay (a*f),()))))
def Di:(xn×bt)->bu cQ:=λ(a,_)=>(tu (a.2.1,())).bind λ(b,_)=>Y (ay (ay (a.2.2.1+b)-1),())
def DA:mr->bu gS:=λ(b,a,_)=>(ts (b,((!a.1),a.2),())).bind λ(c,_)=>Y (c,())
def Ad:(xn×Z×bt)->bu (eW×Z×bz×bt):=λ(a,b,_)=>(tu (a.2.1,())).bind λ(h,_)=>(bw (br (b>h)) (Y ((bq,(([]:bi),())),(-1:Z),bq,())) ((Af (a.2.1,b,())).bind λ(aV,_)=>(oX (aV,b,())).bind λ(i,_)=>(DA (a.2.1,i,())).bind λ(c,_)=>(vq (1,())).bind λ(j,_)=>(oX (j,ay (b-1),())).bind λ(k,_)=>(An (c,k,())).bind λ(d,_)=>bB (α:=(Z×eW×eW×bt)) (bw ((d==0)==bp) (bw a.2.2.2.1 (Y (1,aV,c,())) (Y (d,aV,c,()))) (Y (d,aV,c,()))) λ(e,f,l,_)=>(qL (l,())).bind λ(g,_)=>bw ((g==0)==bp) (Y (f,e,(!a.2.2.2.1),())) (Y (f,e,bq,()))))
def Dj:(xn×Z×Z×bt)->bu gS:=λ(c,e,d,_)=>bB (α:=(Z×bz×eW×eW×bt)) (bw (br (e<=c.2.2.1)) ((oX (c.2.1,ay (c.2.2.1-e),())).bind λ(aV,_)=>Y ((-1:Z),bp,(bq,([],())),aV,())) ((Ad (c,ay (e-c.2.2.1),())).bind λ(s,t,u,_)=>Y (t,u,(bq,([],())),s,()))) λ(f,l,b,a,_)=>bB (α:=(bz×eW×eW×bt)) (bw l (Y (bq,b,a,())) (bw (d==1) (Y (c.1,b,a,())) (bw (d==2) (Y ((!c.1),b,a,())) (bw (d==3) (Y (bq,b,a,())) (bw (br (f>0)==bq) (bw ((f==0)==bp) ((qL (a,())).bind λ(n,_)=>bw ((n !=0)==bp) ((Ao (a,())).bind λ(o,_)=>Y ((o==0),b,a,())) (Y (bq,b,a,()))) (Y (bq,b,a,()))) (Y (bp,b,a,()))))))) λ(k,i,g,_)=>bB (α:=mr) (bw k ((vq (1,())).bind λ(p,_)=>(ts (g,p,())).bind λ(q,_)=>Y (i,q,())) (Y (i,g,()))) λ(j,h,_)=>bB (α:=mr) (bw c.1 ((tv (h,())).bind λ(r,_)=>Y (j,r,())) (Y (j,h,()))) λ(_,m,_)=>Y (m,())
def tr:gS->bu gS:=λ(a,_)=>(vx (a.2.1,())).bind λ(b,_)=>(mw (bq,b,())).bind λ(c,_)=>Y (c,())
def Dx:gS->bu ed:=λ(c,_)=>(iZ (c.2.1,())).bind λ(d,_)=>(bif br (ao d>2) then Y (0,bq,()) else((loop (σ:=ny) (ρ:=cQ) (λ(e,b,_)=>bw (br (b<ao d)) ((aw d b).bind λj=>(it bD (aL j) (ay (32*b))).bind λk=>Y (.inl (gK bD e k,aQ b,()))) (Y (.inr (e,())))) (0,0,())).bind λ(a,_)=>bB (α:=bt⊕ed) (bB (α:=hJ) (bw (c.1==bp) (bw (br (a>0)==bp) (Y (br (a<=9223372036854775808),())) (Y (bq,()))) (Y (bq,()))) λ(h,_)=>bw h (Y (.inr (ay (ay (0-ay (aL (a-1)))-1),bp,()))) (bB (α:=hJ) (bw (br (a<9223372036854775808)==bp) (bw ((!c.1)==bq) (Y ((a==0),())) (Y (bp,()))) (Y (bq,()))) λ(i,_)=>bw i (Y (.inr (ay a,bp,()))) (Y (.inl ())))) λf=>match f with
 |.inl _=>(Y (0,bq,()))
 |.inr g=>Y g))
def vp:ed->bu cQ:=λ(a,b,_)=>(bw b (Y (gK bD a 9223372036854775808,())) (Y (a,())))
def Dp:ef->bu cQ:=λ(a,b,_)=>bB (α:=bt⊕cQ) (bB (α:=hJ) (bw ((b==3)==bq) (bw ((b==1)==bp) (bw ((!a)==bq) (bw ((b==2)==bp) (Y (a,())) (Y (bq,()))) (Y (bp,()))) (bw ((b==2)==bp) (Y (a,())) (Y (bq,())))) (Y (bp,()))) λ(f,_)=>bw f ((vp (9218868437227405311,a,())).bind λ(aV,_)=>Y (.inr (aV,()))) (Y (.inl ()))) λc=>match c with
 |.inl _=>((vp (9218868437227405312,a,())).bind λ(e,_)=>Y (e,()))
 |.inr d=>Y d
def Ag:(xn×Z×bt)->bu cQ:=λ(b,d,_)=>(Di (b,())).bind λ(a,_)=>(Dj (b,(if(-1074:Z)>ay (a-52) then(-1074:Z) else ay (a-52)),d,())).bind λ(aV,_)=>(tr (aV,())).bind λ(j,_)=>(Dx (j,())).bind λ(f,_,_)=>bB (α:=ny) (bw (aL f==9007199254740992) (Y (aQ (if(-1074:Z)>ay (a-52) then(-1074:Z) else ay (a-52)),4503599627370496,())) (Y ((if(-1074:Z)>ay (a-52) then(-1074:Z) else ay (a-52)),aL f,()))) λ(e,c,_)=>(bw (br (c<4503599627370496)) ((vp (c,b.1,())).bind λ(g,_)=>Y (g,())) (bw (br (ay (e+1075)>=2047)) ((Dp (b.1,d,())).bind λ(h,_)=>Y (h,())) ((it bD (aL (ay (e+1075))) 52).bind λk=>(vp (gK bD k (aL (c-4503599627370496)),b.1,())).bind λ(i,_)=>Y (i,()))))
def Dl:cQ->bu cQ:=λ(c,_)=>(xK (c,())).bind λ(a,b,_)=>bB (α:=hJ) (bw ((a==2047)==bp) (Y ((b !=0),())) (Y (bq,()))) λ(d,_)=>(bw d (Y (3,())) (bw (a==2047) (Y (2,())) (bw ((a==0)==bp) (bw (b==0) (Y (0,())) (Y (1,()))) (Y (1,())))))
def Dw:mr->bu (eW×eW×Z×bt):=λ(a,d,_)=>(iZ (d.2.1,())).bind λ(b,_)=>(bw (ao b==0) (Y ((bq,(([]:bi),())),(bq,(([]:bi),())),8,())) ((iZ (a.2.1,())).bind λ(aV,_)=>(DB (aV,b,())).bind λ(f,c,_)=>bB (α:=(bi×bi×eW×eW×bt)) (bB (α:=(bz×eW×eW×bt)) (bw (a.1==bp) (Y (br (ao c>0),(bq,([],())),(bq,([],())),())) (Y (bq,(bq,([],())),(bq,([],())),()))) λ(n,e,g,_)=>bw n ((xO (f,[1],())).bind λ(j,_)=>(xN (b,c,())).bind λ(k,_)=>Y (j,k,e,g,())) (Y (f,c,e,g,()))) λ(h,i,_,_,_)=>(mw ((!(a.1==d.1)),h,())).bind λ(l,_)=>(mw (bq,i,())).bind λ(m,_)=>Y (l,m,0,())))
def Dh:(e2×e2×Z×bt)->bu (xn×bt):=λ(a,b,c,_)=>(tu (b.2.1,())).bind λ(aV,_)=>(tu (a.2.1,())).bind λ(d,_)=>(tr (a.2.1,())).bind λ(g,_)=>(oX (g,(if(ay (ay (ay (c+3)+aV)-d))>0 then ay (ay (ay (c+3)+aV)-d) else 0),())).bind λ(h,_)=>(tr (b.2.1,())).bind λ(i,_)=>(Dw (h,i,())).bind λ(j,e,_,_)=>(qL (e,())).bind λ(f,_)=>Y (((!(a.2.1.1==b.2.1.1)),(j,(ay (ay (a.2.2.1-(if(ay (ay (ay (c+3)+aV)-d))>0 then ay (ay (ay (c+3)+aV)-d) else 0))-b.2.2.1),((f !=0),())))),())
def tq:(e2×e2×Z×bt)->bu cQ:=λ(c,f,h,_)=>(vl (c,())).bind λ(aV,_)=>(vl (f,())).bind λ(a,_)=>bB (α:=mX⊕cQ) (bB (α:=(bz×e2×e2×bt)) (bw (aV.1==bq) (bw (a.1==bq) ((pI (a,())).bind λ(n,_)=>Y ((n==0),aV,a,())) (Y (bp,aV,a,()))) (Y (bp,aV,a,()))) λ(o,b,g,_)=>bw o (Y (.inr (9221120237041090560,()))) ((pI (b,())).bind λ(k,_)=>bw (k==0) (Y (.inr (0,()))) (Y (.inl (b,g,()))))) λi=>match i with
 |.inl (d,e,_)=>((Dh (d,e,56,())).bind λ(l,_)=>(Ag (l,h,())).bind λ(m,_)=>Y (m,()))
 |.inr j=>Y j
def x7:cQ->bu hJ:=λ(a,_)=>(eQ bD a 52).bind λb=>Y ((e0 bD b 2047 !=2047),())
def Ex:cQ->bu hJ:=λ(a,_)=>Y ((e0 bD a 9223372036854775808 !=0),())
def vA:cQ->bu gr:=λ(a,_)=>(x7 (a,())).bind λ(f,_)=>(bw (!f) ((r4 ()).bind λ(g,_)=>Y (g,())) ((eQ bD a 52).bind λc=>bB (α:=(Z×Z×e2×bt)) (bw (br (ay (e0 bD c 2047)>0)) (Y (gK bD (e0 bD a 4503599627370495) 4503599627370496,ay (ay (e0 bD c 2047)-1075),(bq,((bq,([],())),((0:Z),()))),())) (Y (e0 bD a 4503599627370495,(-1074:Z),(bq,((bq,([],())),((0:Z),()))),()))) λ(b,d,_,_)=>(Ex (a,())).bind λ(h,_)=>(eQ bD b 32).bind λi=>(oa ((h,([eD b,eD i],())),d,())).bind λ(e,_)=>Y (e,())))
def Oh:gr->bu gr:=λ(b,_)=>(m1 (b,())).bind λ(a,_)=>(bw a.1 (Y (a,())) ((r1 (a.2.1,())).bind λ(c,_)=>(oa (c,a.2.2.1,())).bind λ(aV,_)=>Y (aV,())))
def Oi:(nw×bt)->bu gr:=λ(h,_)=>(loop (σ:=(Z×Z×e2×eW×bt)) (ρ:=((Z×e2×eW×bt)⊕gr)) (λ(b,e,c,d,_)=>bif br (e<ao h) then(bB (α:=(Z×e2×eW×bt)⊕((Z×Z×e2×eW×bt)⊕((Z×e2×eW×bt)⊕gr))) ((aw h e).bind λv=>(m1 (v,())).bind λ(a,_)=>bw a.1 ((r4 ()).bind λ(q,_)=>Y (.inr (.inr (.inr (q,()))))) ((ls (a.2.1,())).bind λ(r,_)=>bw (r==0) (Y (.inl (b,c,d,()))) ((ls (d,())).bind λ(k,_)=>bw (k==0) (Y (.inl (a.2.2.1,c,a.2.1,()))) (bw (br (a.2.2.1>=b)) ((nB (a.2.1,ay (a.2.2.1-b),())).bind λ(l,_)=>(qN (d,l,())).bind λ(m,_)=>Y (.inl (b,c,m,()))) ((nB (d,ay (b-a.2.2.1),())).bind λ(n,_)=>(qN (n,a.2.1,())).bind λ(o,_)=>Y (.inl (a.2.2.1,c,o,()))))))) λf=>match f with
 |.inl (i,s,t,_)=>(Y (.inl (i,aQ e,s,t,())))
 |.inr g=>Y g) else Y (.inr (.inl (b,c,d,())))) (0,0,(bq,((bq,([],())),((0:Z),()))),(bq,(([]:bi),())),())).bind λf=>match f with
 |.inl (j,_,u,_)=>((oa (u,j,())).bind λ(p,_)=>Y (p,()))
 |.inr g=>Y g
def Er:kA->bu hA:=λ(d,b,_)=>(gg (ay (ao d+ao b)) (ay (ao d+ao b))).bind λl=>(loop (σ:=jf) (ρ:=hA) (λ(a,g,_)=>bw (br (a<ao d)) ((loop (σ:=qD) (ρ:=jf) (λ(e,c,f,_)=>bw (br (c<ao b)) ((aw d a).bind λj=>(aw b c).bind λh=>rd f (ay (a+c)) λi=>wr f (ay (a+c)) (eD (aL (aL (e+aL (aL j*aL h))+aL i))) λp=>(eQ bD (aL (aL (e+aL (aL j*aL h))+aL i)) 32).bind λo=>Y (.inl (o,aQ c,p,()))) (Y (.inr (e,f,())))) (0,0,g,())).bind λ(k,m,_)=>wr m (ay (a+ao b)) (eD k) λq=>Y (.inl (aQ a,q,()))) (Y (.inr (g,())))) (0,bJ l (0:Z),())).bind λ(n,_)=>Y (n,())
def pL:mr->bu gS:=λ(a,b,_)=>(m0 (a.2.1,())).bind λ(c,_)=>(m0 (b.2.1,())).bind λ(aV,_)=>(Er (c,aV,())).bind λ(d,_)=>(mx ((!(a.1==b.1)),d,())).bind λ(e,_)=>Y (e,())
def IP:mX->bu gr:=λ(d,f,_)=>(m1 (d,())).bind λ(a,_)=>(m1 (f,())).bind λ(aV,_)=>bB (α:=(e2×e2×e2×bt)⊕gr) (bB (α:=(bz×e2×e2×e2×bt)) (bw (a.1==bq) (Y (aV.1,a,aV,(bq,((bq,([],())),((0:Z),()))),())) (Y (bp,a,aV,(bq,((bq,([],())),((0:Z),()))),()))) λ(m,e,g,n,_)=>bw m ((r4 ()).bind λ(l,_)=>Y (.inr (l,()))) (Y (.inl (e,g,n,())))) λh=>match h with
 |.inl (b,c,_,_)=>((pL (b.2.1,c.2.1,())).bind λ(j,_)=>(oa (j,ay (b.2.2.1+c.2.2.1),())).bind λ(k,_)=>Y (k,()))
 |.inr i=>Y i
def IQ:gr->bu gr:=λ(b,_)=>(m1 (b,())).bind λ(a,_)=>(bw a.1 (Y (a,())) ((x1 (a.2.1,())).bind λ(c,_)=>(oa (c,a.2.2.1,())).bind λ(aV,_)=>Y (aV,())))
def AM:(bi×bi×Z×Z×bt)->bu (bi×bz×bt):=λ(w,b,i,r,_)=>(gg (aQ (ao b)) (aQ (ao b))).bind λs=>(loop (σ:=(Z×Z×Z×bi×bi×bt)) (ρ:=(Z×bi×bi×bt)) (λ(d,h,a,g,f,_)=>bw (br (a<=ao b)) (bB (α:=(Z×Z×bi×bi×bt)) (bB (α:=(Z×bi×bi×bt)) (bw (br (a<ao b)) ((aw b a).bind λz=>Y (aL (h+aL (r*aL z)),g,f,())) (Y (h,g,f,()))) λ(e,k,t,_)=>rd k (ay (a+i)) λn=>(eQ bD e 32).bind λA=>wr t a (eD (aL (aL (aL n-d)-e0 bD e 4294967295))) λD=>(eQ bD (aL (aL (aL n-d)-e0 bD e 4294967295)) 63).bind λB=>Y (B,A,k,D,())) λ(o,q,x,u,_)=>Y (.inl (o,q,aQ a,x,u,()))) (Y (.inr (d,g,f,())))) (0,0,0,w,bJ s (0:Z),())).bind λ(p,l,v,_)=>
 (bw (p !=0) (Y (l,bq,())) ((loop (σ:=(Z×bi×bi×bt)) (ρ:=hA) (λ(c,m,j,_)=>bw (br (c<=ao b)) (rd j c λC=>wr m (ay (c+i)) C λE=>Y (.inl (aQ c,E,j,()))) (Y (.inr (m,())))) (0,l,v,())).bind λ(y,_)=>Y (y,bp,())))
def Ep:kA->bu kA:=λ(b,a,_)=>(AK (b,a,())).bind λ(u,_)=>(bif br (u<0) then Y ([],b,()) else(aw a (ay (ao a-1))).bind λE=>(vv (E,())).bind λ(i,_)=>(x3 (b,i,())).bind λ(e,_)=>(x3 (a,i,())).bind λ(f,_)=>((Y (0)).bind λj=>(hj (ao a)).bind λk=>(hX j k f.length).bind λ_=>(wx f.length).map λ_=>(j,k)).bind λd=>bB (α:=kA) (bw (ao e==ao b) ((cN (e.length+([0]).length)).bind λ_=>Y (((f.take d.2).drop d.1),(e++[0]),())) (Y (((f.take d.2).drop d.1),e,()))) λ(o,A,_)=>(gg (aQ (ay (ao b-ao a))) (aQ (ay (ao b-ao a)))).bind λr=>(loop (σ:=(Z×bi×bi×bt)) (ρ:=kA) (λ(c,g,m,_)=>bif br (c>=0) then rd g (ay (c+ao a)) λF=>(it bD (aL F) 32).bind λG=>rd g (ay (ay (c+ao a)-1)) λH=>
 (aw o (ay (ao a-1))).bind λI=>(kM bD (gK bD G (aL H)) (aL I)).bind λp=>(loop (σ:=(Z×bi×bi×bt)) (ρ:=(Z×bi×bi×bt)) (λ(h,B,n,_)=>(AM (B,o,c,h,())).bind λ(l,v,_)=>bw (!v) (Y (.inl (aL (h-1),l,n,()))) (Y (.inr (h,l,n,())))) ((if 4294967295<p then 4294967295 else p),g,m,())).bind λ(q,C,s,_)=>wr s c (eD q) λJ=>Y (.inl (ay (c-1),C,J,())) else Y (.inr (g,m,()))) (ay (ao b-ao a),A,bJ r (0:Z),())).bind λ(D,t,_)=>(m0 (D,())).bind λ(w,_)=>(x4 (w,i,())).bind λ(x,_,_)=>(m0 (t,())).bind λ(y,_)=>(m0 (x,())).bind λ(z,_)=>Y (y,z,()))
def vz:mr->bu mr:=λ(e,f,_)=>(pM (e,())).bind λ(a,_)=>(pM (f,())).bind λ(aV,_)=>(Ep (a.2.1,aV.2.1,())).bind λ(m,n,_)=>(mx ((!(a.1==aV.1)),m,())).bind λ(b,_)=>(mx (a.1,n,())).bind λ(c,_)=>bB (α:=(eW×eW×eW×eW×bt)) ((ls (c,())).bind λ(o,_)=>bw (br (o<0)) ((r1 (aV,())).bind λ(h,_)=>(qN (c,h,())).bind λ(d,_)=>bw aV.1 ((r2 (1,())).bind λ(i,_)=>(qN (b,i,())).bind λ(j,_)=>Y ((bq,([],())),(bq,([],())),j,d,())) ((r2 (1,())).bind λ(k,_)=>(x2 (b,k,())).bind λ(l,_)=>Y ((bq,([],())),(bq,([],())),l,d,()))) (Y ((bq,([],())),(bq,([],())),b,c,()))) λ(_,_,g,p,_)=>Y (g,p,())
def AO:gr->bu cQ:=λ(b,_)=>(m1 (b,())).bind λ(a,_)=>(bw a.1 (Y (0,())) ((ls (a.2.1,())).bind λ(c,_)=>Y (c,())))
def Eu:(e2×Z×bt)->bu gr:=λ(i,b,_)=>(m1 (i,())).bind λ(a,_)=>bB (α:=mX⊕gr) (bB (α:=(bz×e2×e2×bt)) (bw (a.1==bq) ((ls (a.2.1,())).bind λ(aV,_)=>Y ((aV==0),a,(bq,((bq,([],())),((0:Z),()))),())) (Y (bp,a,(bq,((bq,([],())),((0:Z),()))),()))) λ(o,f,p,_)=>bw o (Y (.inr (f,()))) (Y (.inl (f,p,())))) λc=>match c with
 |.inl (g,h,_)=>(bB (α:=mX⊕gr) (bB (α:=(bz×e2×e2×bt)) (bw (br (b>262144)==bq) (Y (br (b<(-262144:Z)),g,h,())) (Y (bp,g,h,()))) λ(m,j,n,_)=>bw m ((r4 ()).bind λ(k,_)=>Y (.inr (k,()))) (Y (.inl (j,n,())))) λc=>match c with
 |.inl (e,_,_)=>((oa (e.2.1,ay (e.2.2.1+b),())).bind λ(l,_)=>Y (l,()))
 |.inr d=>Y d)
 |.inr d=>Y d
def x5:mX->bu (eW×eW×Z×bt):=λ(a,b,_)=>(ls (a.2.1,())).bind λ(c,_)=>(bw (c==0) (Y (a.2.1,b.2.1,b.2.2.1,())) ((ls (b.2.1,())).bind λ(aV,_)=>bw (aV==0) (Y (a.2.1,b.2.1,a.2.2.1,())) (bw (br (a.2.2.1>b.2.2.1)) ((nB (a.2.1,ay (a.2.2.1-b.2.2.1),())).bind λ(d,_)=>Y (d,b.2.1,b.2.2.1,())) ((nB (b.2.1,ay (b.2.2.1-a.2.2.1),())).bind λ(e,_)=>Y (a.2.1,e,a.2.2.1,())))))
def IN:mX->bu gr:=λ(b,f,_)=>(m1 (b,())).bind λ(a,_)=>(m1 (f,())).bind λ(aV,_)=>bB (α:=(e2×e2×e2×bt)⊕gr) (bB (α:=(bz×e2×e2×e2×bt)) (bw (a.1==bq) (Y (aV.1,a,aV,(bq,((bq,([],())),((0:Z),()))),())) (Y (bp,a,aV,(bq,((bq,([],())),((0:Z),()))),()))) λ(p,d,g,q,_)=>bw p ((r4 ()).bind λ(o,_)=>Y (.inr (o,()))) (Y (.inl (d,g,q,())))) λh=>match h with
 |.inl (c,e,_,_)=>((x5 (c,e,())).bind λ(j,k,l,_)=>(qN (j,k,())).bind λ(m,_)=>(oa (m,l,())).bind λ(n,_)=>Y (n,()))
 |.inr i=>Y i
def IR:mX->bu gr:=λ(a,b,_)=>(IQ (b,())).bind λ(c,_)=>(IN (a,c,())).bind λ(aV,_)=>Y (aV,())
def pH:cQ->bu gr:=λ(a,_)=>(vq (a,())).bind λ(b,_)=>(tp (b,0,())).bind λ(c,_)=>Y (c,())
def Ae:mX->bu (eW×eW×Z×bt):=λ(a,b,_)=>(oX (a.2.1,ay (a.2.2.1-(if b.2.2.1<a.2.2.1 then b.2.2.1 else a.2.2.1)),())).bind λ(c,_)=>(oX (b.2.1,ay (b.2.2.1-(if b.2.2.1<a.2.2.1 then b.2.2.1 else a.2.2.1)),())).bind λ(aV,_)=>Y (c,aV,(if b.2.2.1<a.2.2.1 then b.2.2.1 else a.2.2.1),())
def Ac:mX->bu gr:=λ(a,b,_)=>(xI (a,b,())).bind λ(e,aV,f,_)=>(bw (!f) ((xH ()).bind λ(g,_)=>Y (g,())) ((Ae (e,aV,())).bind λ(h,i,j,_)=>(ts (h,i,())).bind λ(c,_)=>(tp (c,j,())).bind λ(d,_)=>Y (d,())))
def vo:mX->bu gr:=λ(a,b,_)=>(Dg (b,())).bind λ(c,_)=>(Ac (a,c,())).bind λ(aV,_)=>Y (aV,())
def Df:gr->bu gr:=λ(b,_)=>(oY (b,())).bind λ(a,d,_)=>bB (α:=mX) (bw d ((tr (a.2.1,())).bind λ(aV,_)=>Y ((a.1,(aV,a.2.2)),(bq,((bq,([],())),((0:Z),()))),())) (Y (a,(bq,((bq,([],())),((0:Z),()))),()))) λ(c,_,_)=>Y (c,())
def xG:mX->bu ed:=λ(a,b,_)=>(xI (a,b,())).bind λ(c,aV,d,_)=>(bw (!d) (Y (0,bq,())) ((Ae (c,aV,())).bind λ(e,f,_,_)=>(An (e,f,())).bind λ(g,_)=>Y (g,bp,())))
def D0:ea->bu hJ:=λ(a,c,b,_)=>(bw (br (a>=c)==bp) (Y (br (a<=b),())) (Y (bq,())))
def D7:hA->bu hJ:=λ(b,_)=>(loop (σ:=cQ) (ρ:=n1) (λ(a,_)=>bw (br (a>0)) ((aw b a).bind λf=>(aw b (ay (a-1))).bind λg=>(vk (f,g,())).bind λ(e,_)=>bw e (Y (.inr (.inr (bq,())))) (Y (.inl (ay (a-1),())))) (Y (.inr (.inl ())))) (ay (ao b-1),())).bind λc=>match c with
 |.inl _=>(Y (bp,()))
 |.inr d=>Y d
def DY:nz->bu hJ:=λ(a,_)=>bB (α:=bt⊕hJ) (bw ((ao a.2.2.1 !=aQ a.2.1)==bq) ((aw a.2.2.1 0).bind λm=>bw ((m !=0)==bq) ((D7 (a.2.2.1,())).bind λ(l,_)=>bw ((!l)==bq) ((aw a.2.2.1 a.2.1).bind λn=>bw ((n !=ao a.2.2.2.1)==bq) (bw (ao a.2.2.2.1 !=ao a.2.2.2.2.1) (Y (.inr (bq,()))) (Y (.inl ()))) (Y (.inr (bq,())))) (Y (.inr (bq,())))) (Y (.inr (bq,())))) (Y (.inr (bq,())))) λb=>match b with
 |.inl _=>((loop (σ:=cQ) (ρ:=n1) (λ(e,_)=>bif br (e<a.2.1) then((aw a.2.2.1 e).bind λo=>(aw a.2.2.1 (aQ e)).bind λp=>((hj o).bind λh=>(hj p).bind λi=>(hX h i (a.2.2.2.1).length).map λ_=>(h,i)).bind λd=>(loop (σ:=ny) (ρ:=(bt⊕(cQ⊕n1))) (λ(j,f,_)=>bif br (f<ao (((a.2.2.2.1).take d.2).drop d.1)) then(bB (α:=cQ⊕(ny⊕(bt⊕(cQ⊕n1)))) ((aw (((a.2.2.2.1).take d.2).drop d.1) f).bind λg=>bB (α:=bt⊕(cQ⊕(ny⊕(bt⊕(cQ⊕n1))))) (bw (br (g<=j)==bq) (bw (br (g>=a.1)) (Y (.inr (.inr (.inr (.inr (.inr (.inr (bq,())))))))) (Y (.inl ()))) (Y (.inr (.inr (.inr (.inr (.inr (.inr (bq,()))))))))) λb=>match b with
 |.inl _=>(Y (.inl (g,())))
 |.inr c=>Y c) λb=>match b with
 |.inl (k,_)=>(Y (.inl (k,aQ f,())))
 |.inr c=>Y c) else Y (.inr (.inl ()))) ((-1:Z),0,())).bind λb=>match b with
 |.inl _=>(Y (.inl (aQ e,())))
 |.inr c=>Y c) else Y (.inr (.inl ()))) (0,())).bind λb=>match b with
 |.inl _=>(Y (bp,()))
 |.inr c=>Y c)
 |.inr c=>Y c
def IB:cQ->bu hJ:=λ(a,_)=>(pJ (a,())).bind λ(b,_)=>Y ((!b),())
def ID:(bi×bt×bt)->bu cQ:=λ(b,_,_)=>(loop (σ:=cQ) (ρ:=oT) (λ(a,_)=>bw (br (a<ao b)) ((aw b a).bind λf=>(IB (f,())).bind λ(e,_)=>bw e (Y (.inr (.inr (a,())))) (Y (.inl (aQ a,())))) (Y (.inr (.inl ())))) (0,())).bind λc=>match c with
 |.inl _=>(Y ((-1:Z),()))
 |.inr d=>Y d
def D1:(bi×bt×bt)->bu hJ:=λ(b,_,_)=>(ID (b,(),())).bind λ(a,_)=>Y (br (a>=0),())
def tz:nz->bu cQ:=λ(a,_)=>bB (α:=hJ) ((D0 (a.1,0,200,())).bind λ(b,_)=>bw ((!b)==bq) ((D0 (a.2.1,0,200,())).bind λ(c,_)=>bw ((!c)==bq) (Y (br (ao a.2.2.2.1>10000),())) (Y (bp,()))) (Y (bp,()))) λ(f,_)=>(bw f (Y (6,())) ((DY (a,())).bind λ(d,_)=>bw (!d) (Y (1,())) ((D1 (a.2.2.2.2.1,(),())).bind λ(e,_)=>bw e (Y (4,())) (Y (0,())))))
def ER:n2->bu (bi×bz×bt):=λ(h,a,_)=>(bif ao h !=a then Y ([],bq,()) else((gg a a).bind λi=>(gg a a).bind λj=>(loop (σ:=(Z×bi×gD×bt)) (ρ:=(hA⊕(bi×bz×bt))) (λ(f,e,g,_)=>bif br (f<ao h) then(bB (α:=(bi×gD×bt)⊕((Z×bi×gD×bt)⊕(hA⊕(bi×bz×bt)))) ((aw h f).bind λd=>bB (α:=(bi×gD×bt)⊕((bi×gD×bt)⊕((Z×bi×gD×bt)⊕(hA⊕(bi×bz×bt))))) (bB (α:=(bz×bi×gD×bt)) (bw (br (d<0)==bq) (bw (br (d>=a)==bq) (rd g d λs=>Y (s,e,g,())) (Y (bp,e,g,()))) (Y (bp,e,g,()))) λ(o,k,p,_)=>bw o (Y (.inr (.inr (.inr (.inr ([],bq,())))))) (Y (.inl (k,p,())))) λb=>match b with
 |.inl (l,q,_)=>(wr l d f λt=>wr q d bp λu=>Y (.inl (t,u,())))
 |.inr c=>Y c) λb=>match b with
 |.inl (m,r,_)=>(Y (.inl (aQ f,m,r,())))
 |.inr c=>Y c) else Y (.inr (.inl (e,())))) (0,bJ i (0:Z),bJ j bq,())).bind λb=>match b with
 |.inl (n,_)=>(Y (n,bp,()))
 |.inr c=>Y c))
def xW:nz->bu j8:=λ(b,_)=>(loop (σ:=oS) (ρ:=j8) (λ(a,e,_)=>bw (br (a<b.2.1)) ((aw b.2.2.1 a).bind λj=>(loop (σ:=oS) (ρ:=j8) (λ(c,d,_)=>(aw b.2.2.1 (aQ a)).bind λk=>bw (br (c<k)) ((aw b.2.2.2.1 c).bind λf=>(aw b.2.2.2.2.1 c).bind λg=>(cN (d.length+([(f,(a,(g,())))]).length)).bind λ_=>Y (.inl (aQ c,(d++[(f,(a,(g,())))]),()))) (Y (.inr (d,())))) (j,e,())).bind λ(h,_)=>Y (.inl (aQ a,h,()))) (Y (.inr (e,())))) (0,[],())).bind λ(i,_)=>Y (i,())
def IC:j8->bu j8:=λ(a,_)=>ss a.length (Y ([],())) ((cN (([]:lr).length+a.length)).bind λ_=>Y (([]++a),()))
def xX:((Z×(Z×cQ))×(Z×(Z×cQ))×bt)->bu cQ:=λ(a,b,_)=>(vj (a.2.1,b.2.1,())).bind λ(c,_)=>(vj (a.1,b.1,())).bind λ(aV,_)=>(Dd ([c,aV],())).bind λ(d,_)=>Y (d,())
def AD:(lr×Z×Z×bt×bt)->bu j8:=λ(h,e,g,_,_)=>(loop (σ:=oS) (ρ:=j8) (λ(d,f,_)=>bif br (d<g) then(loop (σ:=oS) (ρ:=j8) (λ(a,b,_)=>bB (α:=j8⊕(oS⊕j8)) (bw (br (a>e)==bp) (rd b a λn=>rd b (ay (a-1)) λo=>(xX (n,o,())).bind λ(m,_)=>bw (br (m<0)) (Y (.inl (b,()))) (Y (.inr (.inr (b,()))))) (Y (.inr (.inr (b,()))))) λk=>match k with
 |.inl (c,_)=>(rd c (ay (a-1)) λp=>rd c a λq=>wr c a p λr=>wr r (ay (a-1)) q λs=>Y (.inl (ay (a-1),s,())))
 |.inr l=>Y l) (d,f,())).bind λ(i,_)=>Y (.inl (aQ d,i,())) else Y (.inr (f,()))) (aQ e,h,())).bind λ(j,_)=>Y (j,())
def Ee:VA->bu j8:=λ(h,e,a,g,_,_)=>(bw (ay (a-e)==1) bo (bw (ay (g-a)==1) ((loop (σ:=zO) (ρ:=oS) (λ(c,d,b,_)=>bw (br (c<d)) ((eQ bD (aL (ay (c+d))) 1).bind λf=>rd b a λo=>rd b (ay f) λp=>(xX (o,p,())).bind λ(n,_)=>bw (!(br (n<0))) (Y (.inl (aQ (ay f),d,b,()))) bo) (Y (.inr (c,b,())))) (e,a,h,())).bind λ(l,i,_)=>(loop (σ:=oS) (ρ:=j8) (λ(m,j,_)=>bw (br (m>l)) bo (Y (.inr (j,())))) (a,i,())).bind λ(k,_)=>Y (k,())) bo))
def IK:(lr×Z×bt×bt)->bu j8:=λ(l,a,_,_)=>(loop (σ:=zO) (ρ:=oS) (λ(e,c,h,_)=>bw (br (c<=a)) ((AD (h,e,c,(),())).bind λ(s,_)=>Y (.inl (c,ay (c+20),s,()))) (Y (.inr (e,h,())))) (0,20,l,())).bind λ(j,p,_)=>(AD (p,j,a,(),())).bind λ(q,_)=>(loop (σ:=oS) (ρ:=j8) (λ(b,f,_)=>bw (br (b<a)) ((loop (σ:=zO) (ρ:=oS) (λ(i,k,m,_)=>bw (br (k<=a)) bo (Y (.inr (i,m,())))) (0,ay (2*b),f,())).bind λ(d,g,_)=>bB (α:=j8) (bw (br (ay (d+b)<a)) ((Ee (g,d,ay (d+b),a,(),())).bind λ(r,_)=>Y (r,())) (Y (g,()))) λ(n,_)=>Y (.inl (ay (b*2),n,()))) (Y (.inr (f,())))) (20,q,())).bind λ(o,_)=>
 Y (o,())
def II:(lr×bt×bt)->bu j8:=λ(a,_,_)=>(IK (a,ao a,(),())).bind λ(b,_)=>Y (b,())
def DZ:j8->bu j8:=λ(a,_)=>(IC (a,())).bind λ(c,_)=>(II (c,(),())).bind λ(b,_)=>Y (b,())
def DX:zO->bu nz:=λ(s,e,o,_)=>(gg (aQ e) (aQ e)).bind λr=>(DZ (o,())).bind λ(i,_)=>(loop (σ:=(Z×da×da×lr×bt)) (ρ:=(da×da×bt)) (λ(f,k,a,l,_)=>bw (br (f<ao i)) (rd l f λc=>(cN ((a.2.2.2.1).length+([c.1]).length)).bind λ_=>(cN ((a.2.2.2.2.1).length+([c.2.2.1]).length)).bind λ_=>(be (a.2.2.1).length (aQ c.2.1)).bind λn=>(a5 a.2.2.1 n λm=>Y m).bind λu=>(be (a.2.2.1).length (aQ c.2.1)).bind λg=>((((a5 a.2.2.1 g λ_=>Y ((a.2.2.1).set g (aQ u))).map λx=>(x,((a.2.2.2.1++[c.1]),((a.2.2.2.2.1++[c.2.2.1]),a.2.2.2.2.2)))).map λy=>(a.2.1,y)).map λz=>(a.1,z)).bind λA=>Y (.inl (aQ f,k,A,l,()))) (Y (.inr (k,a,())))) (0,((0:Z),((0:Z),([],([],([],()))))),(s,(e,(bJ r (0:Z),(([]:bi),(([]:bi),()))))),i,())).bind λ(t,p,_)=>(loop (σ:=(Z×da×da×bt)) (ρ:=(da×da×bt)) (λ(d,j,b,_)=>
 bw (br (d<e)) (rd b.2.2.1 (aQ d) λv=>rd b.2.2.1 d λw=>(be (b.2.2.1).length (aQ d)).bind λh=>((((a5 b.2.2.1 h λ_=>Y ((b.2.2.1).set h (ay (v+w)))).map λB=>(B,b.2.2.2)).map λC=>(b.2.1,C)).map λD=>(b.1,D)).bind λE=>Y (.inl (aQ d,j,E,()))) (Y (.inr (j,b,())))) (0,t,p,())).bind λ(_,q,_)=>Y (q,())
def DW:nz->bu (da×Z×bt):=λ(a,_)=>(tz (a,())).bind λ(aV,_)=>(bw (aV !=0) (Y (((0:Z),((0:Z),(([]:bi),(([]:bi),(([]:bi),()))))),aV,())) ((xW (a,())).bind λ(g,_)=>(loop (σ:=(Z×da×lr×lr×bt)) (ρ:=(da×lr×bt)) (λ(d,e,b,f,_)=>bw (br (d<ao g)) (bB (α:=(da×lr×lr×bt)) (rd f d λc=>bw (br (c.1>=c.2.1)) ((cN (b.length+([c]).length)).bind λ_=>Y (e,(b++[c]),f,())) (Y (e,b,f,()))) λ(k,h,l,_)=>Y (.inl (aQ d,k,h,l,()))) (Y (.inr (e,b,())))) (0,((0:Z),((0:Z),([],([],([],()))))),[],g,())).bind λ(_,i,_)=>(DX (a.1,a.2.1,i,())).bind λ(j,_)=>Y (j,0,())))
def DV:nz->bu j8:=λ(a,_)=>(tz (a,())).bind λ(aV,_)=>(bw (aV !=0) (Y ([],())) ((xW (a,())).bind λ(b,_)=>Y (b,())))
def Ai:nz->bu ((bm bi×bt)×Z×bt):=λ(a,_)=>(tz (a,())).bind λ(c,_)=>(bw (c !=0) (Y ((([]:bm bi),()),c,())) (bw (a.1 !=a.2.1) (Y ((([]:bm bi),()),5,())) ((Aj (a.2.1,())).bind λ(j,_)=>(DV (a,())).bind λ(aV,_)=>(loop (σ:=(Z×(bm bi×bt)×bm gD×lr×bt)) (ρ:=((bm bi×bt)×bm gD×bt)) (λ(b,d,e,f,_)=>bw (br (b<ao aV)) (rd f b λg=>(Am (e,g.1,g.2.1,())).bind λ(h,_)=>Y (.inl (aQ b,d,h,f,()))) (Y (.inr (d,e,())))) (0,([],()),j,aV,())).bind λ(_,k,_)=>(Al (k,())).bind λ(i,_)=>Y (i,0,()))))
def tC:(da×bi×bt)->bu (bu rR×Z×bt):=λ(a,q,_)=>(tz (a,())).bind λ(r,_)=>(bif r !=0 then Y (bo,r,()) else bif a.1 !=a.2.1 then Y (bo,5,()) else(ER (q,a.2.1,())).bind λ(s,D,_)=>bif !D then Y (bo,90,()) else(DW (a,())).bind λ(E,_,_)=>(Ai (E,())).bind λ(F,_,_)=>(Ak (F,q,())).bind λ(G,_,_)=>(gg a.2.1 a.2.1).bind λp=>(loop (σ:=(Z×da×rR×bt)) (ρ:=(da×rR×bt)) (λ(j,k,c,_)=>bw (br (j<ao (bJ p (bo:bu (bm (Z×e2)×X))))) ((be (c.2.2.1).length j).bind λn=>((((a5 c.2.2.1 n λ_=>Y ((c.2.2.1).set n (Y ([],0)))).map λL=>(L,c.2.2.2)).map λM=>(c.2.1,M)).map λN=>(c.1,N)).bind λO=>Y (.inl (aQ j,k,O,()))) (Y (.inr (k,c,())))) (0,a,(a.2.1,(G,(bJ p (bo:bu (bm (Z×e2)×X)),()))),())).bind λ(l,y,_)=>
 (loop (σ:=(Z×da×rR×bt)) (ρ:=(rR×bt)) (λ(e,m,o,_)=>bif br (e<l.2.1) then(aw m.2.2.1 e).bind λI=>(loop (σ:=(Z×da×rR×bt)) (ρ:=(da×rR×bt)) (λ(f,d,b,_)=>(aw d.2.2.1 (aQ e)).bind λJ=>bw (br (f<J)) (bB (α:=(da×rR×bt)) ((aw d.2.2.2.1 f).bind λt=>bw (br (t>=e)) ((aw s t).bind λg=>(aw s e).bind λh=>(be (b.2.2.1).length (if h<g then h else g)).bind λi=>(aw d.2.2.2.2.1 f).bind λK=>(kZ (K,())).bind λ(H,_)=>(a5 b.2.2.1 i λw=>Y w).bind λB=>(uc B (if h>g then h else g) H).bind λC=>((((a5 b.2.2.1 i λ_=>Y ((b.2.2.1).set i C)).map λP=>(P,b.2.2.2)).map λQ=>(b.2.1,Q)).map λR=>(b.1,R)).bind λS=>Y (d,S,())) (Y (d,b,()))) λ(u,z,_)=>Y (.inl (aQ f,u,z,()))) (Y (.inr (d,b,())))) (I,m,o,())).bind λ(v,A,_)=>
 Y (.inl (aQ e,v,A,())) else Y (.inr (o,()))) (0,l,y,())).bind λ(x,_)=>Y (Y x,0,()))
def vE:(bu rR×Z×Z×bt)->bu gr:=λ(c,a,b,_)=>c.bind λd=>(aw d.2.2.1 (if b<a then b else a)).bind λe=>Y (((gO (α:=e2) e (if b>a then b else a)).getD (bq,((bq,([],())),((0:Z),())))),())
def r0:ny->bu cQ:=λ(a,b,_)=>(jy (aL a) (aL b)).bind λc=>Y (ay c,())
def vy:n2->bu cQ:=λ(b,a,_)=>bB (α:=cQ) (bw (br (ao b>0)) ((r0 (a,ao b,())).bind λ(e,_)=>(aw b e).bind λf=>Y (uJ bD (aL (aL (aQ a)*11400714819323198485)) f,())) (Y (aL (aL (aQ a)*11400714819323198485),()))) λ(c,_)=>(eQ bD c 31).bind λd=>(eQ bD (aL (uJ bD c d*13787848793156543929)) 29).bind λg=>Y (uJ bD (aL (uJ bD c d*13787848793156543929)) g,())
def IL:cQ->bu cQ:=λ(b,_)=>(jy b 19).bind λc=>(Ew (ay (ay c-9),0,())).bind λ(a,_)=>Y (a,())
def x0:ny->bu cQ:=λ(a,e,_)=>(r0 (e,4,())).bind λ(b,_)=>(bw (b==1) ((eQ bD a 52).bind λf=>(it bD (aL (1019+e0 bD f 7)) 52).bind λg=>Y (gK bD (e0 bD a 9227875636482146303) g,())) (bw (b==2) ((eQ bD a 8).bind λh=>(jy h 81).bind λi=>(it bD (aL (983+i)) 52).bind λj=>Y (gK bD (e0 bD a 9225623836668461056) j,())) (bw (b==3) ((x7 (a,())).bind λ(d,_)=>bw (!d) (Y (0,())) (Y (a,()))) ((IL (a,())).bind λ(c,_)=>Y (c,())))))
def xZ:(bi×Z×Z×Z×bt)->bu nz:=λ(n,e,g,q,_)=>(loop (σ:=(Z×da×da×bt)) (ρ:=(da×da×bt)) (λ(d,k,h,_)=>bif br (d<g) then(loop (σ:=(Z×da×da×bt)) (ρ:=(da×da×bt)) (λ(c,f,a,_)=>bw (br (c<e)) (bB (α:=(da×da×bt)) ((vy (n,ay (ay (100+ay (d*e))+c),())).bind λ(i,_)=>(eQ bD i 40).bind λr=>(jy r 3).bind λs=>bw (br (s>0)) ((cN ((a.2.2.2.1).length+([c]).length)).bind λ_=>(x0 (i,q,())).bind λ(j,_)=>(cN ((a.2.2.2.2.1).length+([j]).length)).bind λ_=>Y (f,(a.1,(a.2.1,(a.2.2.1,((a.2.2.2.1++[c]),((a.2.2.2.2.1++[j]),a.2.2.2.2.2))))),())) (Y (f,a,()))) λ(o,l,_)=>Y (.inl (aQ c,o,l,()))) (Y (.inr (f,a,())))) (0,k,h,())).bind λ(p,b,_)=>(cN ((b.2.2.1).length+([ao b.2.2.2.1]).length)).bind λ_=>Y (.inl (aQ d,p,(b.1,(b.2.1,((b.2.2.1++[ao b.2.2.2.1]),b.2.2.2))),())) else
 Y (.inr (k,h,()))) (0,((0:Z),((0:Z),([],([],([],()))))),(e,(g,([0],(([]:bi),(([]:bi),()))))),())).bind λ(_,m,_)=>Y (m,())
def Ez:hA->bu hJ:=λ(b,_)=>(loop (σ:=cQ) (ρ:=n1) (λ(a,_)=>bw (br (a<ao b)) ((aw b a).bind λe=>(x7 (e,())).bind λ(aV,_)=>bw (!aV) (Y (.inr (.inr (bq,())))) (Y (.inl (aQ a,())))) (Y (.inr (.inl ())))) (0,())).bind λc=>match c with
 |.inl _=>(Y (bp,()))
 |.inr d=>Y d
def r6:nz->bu cQ:=λ(a,_)=>bB (α:=bt⊕cQ) (bw (br (a.1<0)==bq) (bw (br (a.1>200)==bq) (bw (br (a.2.1<0)==bq) (bw (br (a.2.1>200)==bq) (bw (br (ao a.2.2.2.1>10000)) (Y (.inr (6,()))) (Y (.inl ()))) (Y (.inr (6,())))) (Y (.inr (6,())))) (Y (.inr (6,())))) (Y (.inr (6,())))) λb=>match b with
 |.inl _=>(bB (α:=bt⊕cQ) (bw ((ao a.2.2.2.2.1 !=ao a.2.2.2.1)==bq) (bw ((ao a.2.2.1 !=aQ a.2.1)==bq) ((aw a.2.2.1 0).bind λn=>bw ((n !=0)==bq) ((aw a.2.2.1 a.2.1).bind λo=>bw (o !=ao a.2.2.2.1) (Y (.inr (1,()))) (Y (.inl ()))) (Y (.inr (1,())))) (Y (.inr (1,())))) (Y (.inr (1,())))) λb=>match b with
 |.inl _=>((loop (σ:=cQ) (ρ:=oT) (λ(f,_)=>bw (br (f<a.2.1)) ((aw a.2.2.1 f).bind λp=>(aw a.2.2.1 (aQ f)).bind λq=>bw (br (p>q)) (Y (.inr (.inr (1,())))) (Y (.inl (aQ f,())))) (Y (.inr (.inl ())))) (0,())).bind λb=>match b with
 |.inl _=>((loop (σ:=cQ) (ρ:=oT) (λ(e,_)=>bif br (e<a.2.1) then((aw a.2.2.1 e).bind λr=>(loop (σ:=cQ) (ρ:=(bt⊕(cQ⊕oT))) (λ(d,_)=>(aw a.2.2.1 (aQ e)).bind λh=>bif br (d<h) then(bB (α:=bt⊕(cQ⊕(bt⊕(cQ⊕oT)))) ((aw a.2.2.2.1 d).bind λi=>bw (br (i<0)==bq) ((aw a.2.2.2.1 d).bind λj=>bw (br (j>=a.1)==bq) ((aw a.2.2.1 e).bind λk=>bw (br (d>k)==bp) ((aw a.2.2.2.1 d).bind λl=>(aw a.2.2.2.1 (ay (d-1))).bind λm=>bw (br (l<=m)) (Y (.inr (.inr (.inr (.inr (.inr (1,()))))))) (Y (.inl ()))) (Y (.inl ()))) (Y (.inr (.inr (.inr (.inr (.inr (1,())))))))) (Y (.inr (.inr (.inr (.inr (.inr (1,())))))))) λb=>match b with
 |.inl _=>(Y (.inl (aQ d,())))
 |.inr c=>Y c) else Y (.inr (.inl ()))) (r,())).bind λb=>match b with
 |.inl _=>(Y (.inl (aQ e,())))
 |.inr c=>Y c) else Y (.inr (.inl ()))) (0,())).bind λb=>match b with
 |.inl _=>((Ez (a.2.2.2.2.1,())).bind λ(g,_)=>bw (!g) (Y (4,())) (Y (0,())))
 |.inr c=>Y c)
 |.inr c=>Y c)
 |.inr c=>Y c)
 |.inr c=>Y c
def x8:(da×Z×Z×bt)->bu cQ:=λ(a,f,b,_)=>bB (α:=bt⊕cQ) ((r6 (a,())).bind λ(aV,_)=>bw ((aV !=0)==bq) (bw (br (b<0)==bq) (bw (br (b>=a.2.1)) (Y (.inr (0,()))) (Y (.inl ()))) (Y (.inr (0,())))) (Y (.inr (0,())))) λd=>match d with
 |.inl _=>((aw a.2.2.1 b).bind λg=>(loop (σ:=cQ) (ρ:=oT) (λ(c,_)=>(aw a.2.2.1 (aQ b)).bind λh=>bw (br (c<h)) ((aw a.2.2.2.1 c).bind λi=>bw (i==f) ((aw a.2.2.2.2.1 c).bind λj=>Y (.inr (.inr (j,())))) (Y (.inl (aQ c,())))) (Y (.inr (.inl ())))) (g,())).bind λd=>match d with
 |.inl _=>(Y (0,()))
 |.inr e=>Y e)
 |.inr e=>Y e
def Oj:(da×Z×Z×bt)->bu hJ:=λ(a,c,b,_)=>bB (α:=bt⊕hJ) (bw (br (c<0)==bq) (bw (br (c>=a.1)==bq) (bw (br (b<0)==bq) (bw (br (b>=a.2.1)) (Y (.inr (bq,()))) (Y (.inl ()))) (Y (.inr (bq,())))) (Y (.inr (bq,())))) (Y (.inr (bq,())))) λe=>match e with
 |.inl _=>((aw a.2.2.1 b).bind λg=>(loop (σ:=cQ) (ρ:=n1) (λ(d,_)=>(aw a.2.2.1 (aQ b)).bind λh=>bw (br (d<h)) ((aw a.2.2.2.1 d).bind λi=>bw (i==c) (Y (.inr (.inr (bp,())))) (Y (.inl (aQ d,())))) (Y (.inr (.inl ())))) (g,())).bind λe=>match e with
 |.inl _=>(Y (bq,()))
 |.inr f=>Y f)
 |.inr f=>Y f
def Of:(bi×Z×Z×bt)->bu nz:=λ(G,f,N,_)=>(r0 (N,3,())).bind λ(aV,_)=>(xZ (G,f,f,aV,())).bind λ(F,_)=>(loop (σ:=(Z×da×da×da×bt)) (ρ:=(da×da×bt)) (λ(h,r,w,n,_)=>bif br (h<f) then(loop (σ:=(Z×da×da×da×bt)) (ρ:=(da×da×da×bt)) (λ(a,j,g,b,_)=>bif br (a<f) then bB (α:=(da×da×da×bt)) (bif a==h then(AN (1,())).bind λ(A,_)=>(loop (σ:=(Z×da×da×da×nw×bt)) (ρ:=(da×da×da×nw×bt)) (λ(d,m,i,l,k,_)=>bif br (d<f) then bB (α:=(da×da×da×nw×bt)) (bw (d !=a) ((x8 (i,(if d>a then d else a),(if d<a then d else a),())).bind λ(B,_)=>(vA (B,())).bind λ(C,_)=>(Oh (C,())).bind λ(o,_)=>(cN (k.length+([o]).length)).bind λ_=>Y (m,i,l,(k++[o]),())) (Y (m,i,l,k,()))) λ(H,s,x,I,_)=>
 Y (.inl (aQ d,H,s,x,I,())) else Y (.inr (m,i,l,k,()))) (0,j,g,b,[A],())).bind λ(J,t,c,K,_)=>(cN ((c.2.2.2.1).length+([a]).length)).bind λ_=>(Oi (K,())).bind λ(D,_)=>(AP (D,2,())).bind λ(p,_)=>(cN ((c.2.2.2.2.1).length+([p]).length)).bind λ_=>Y (J,t,(c.1,(c.2.1,(c.2.2.1,((c.2.2.2.1++[a]),((c.2.2.2.2.1++[p]),c.2.2.2.2.2))))),()) else(Oj (g,a,h,())).bind λ(E,_)=>bw E ((cN ((b.2.2.2.1).length+([a]).length)).bind λ_=>(x8 (g,a,h,())).bind λ(q,_)=>(cN ((b.2.2.2.2.1).length+([q]).length)).bind λ_=>Y (j,g,(b.1,(b.2.1,(b.2.2.1,((b.2.2.2.1++[a]),((b.2.2.2.2.1++[q]),b.2.2.2.2.2))))),())) (Y (j,g,b,()))) λ(L,u,y,_)=>Y (.inl (aQ a,L,u,y,())) else Y (.inr (j,g,b,()))) (0,r,w,n,())).bind λ(M,v,e,_)=>(cN ((e.2.2.1).length+([ao e.2.2.2.1]).length)).bind λ_=>
 Y (.inl (aQ h,M,v,(e.1,(e.2.1,((e.2.2.1++[ao e.2.2.2.1]),e.2.2.2))),())) else Y (.inr (r,n,()))) (0,((0:Z),((0:Z),([],([],([],()))))),F,(f,(f,([0],(([]:bi),(([]:bi),()))))),())).bind λ(_,z,_)=>Y (z,())
def Eg:n2->bu hA:=λ(m,j,_)=>(loop (σ:=n2) (ρ:=hA) (λ(a,c,_)=>bw (br (c<j)) ((vy (m,ay (700+c),())).bind λ(l,_)=>(eQ bD l 1).bind λn=>(r0 (ay n,aQ c,())).bind λ(i,_)=>((Y (0)).bind λg=>(hj i).bind λh=>(hX g h a.length).map λ_=>(g,h)).bind λb=>(cN (([]:bi).length+((a.take b.2).drop b.1).length)).bind λ_=>(cN (([]++((a.take b.2).drop b.1)).length+([c]).length)).bind λ_=>((hj i).bind λe=>(Y a.length).bind λf=>(hX e f a.length).map λ_=>(e,f)).bind λd=>(cN ((([]++((a.take b.2).drop b.1))++[c]).length+((a.take d.2).drop d.1).length)).bind λ_=>Y (.inl (((([]++((a.take b.2).drop b.1))++[c])++((a.take d.2).drop d.1)),aQ c,()))) (Y (.inr (a,())))) ([],0,())).bind λ(k,_)=>Y (k,())
def EL:n2->bu hJ:=λ(b,c,_)=>(bif ao b !=c then Y (bq,()) else((gg c c).bind λg=>(loop (σ:=(Z×gD×bt)) (ρ:=n1) (λ(a,f,_)=>bif br (a<c) then(bB (α:=(gD×bt)⊕((Z×gD×bt)⊕n1)) (bB (α:=(gD×bt)⊕((gD×bt)⊕((Z×gD×bt)⊕n1))) ((aw b a).bind λl=>bw (br (l<0)==bq) ((aw b a).bind λm=>bw (br (m>=c)==bq) ((aw b a).bind λn=>rd f n λj=>bw j (Y (.inr (.inr (.inr (.inr (bq,())))))) (Y (.inl (f,())))) (Y (.inr (.inr (.inr (.inr (bq,()))))))) (Y (.inr (.inr (.inr (.inr (bq,()))))))) λd=>match d with
 |.inl (h,_)=>((aw b a).bind λk=>wr h k bp λo=>Y (.inl (o,())))
 |.inr e=>Y e) λd=>match d with
 |.inl (i,_)=>(Y (.inl (aQ a,i,())))
 |.inr e=>Y e) else Y (.inr (.inl ()))) (0,bJ g bq,())).bind λd=>match d with
 |.inl _=>(Y (bp,()))
 |.inr e=>Y e))
def EN:(da×bi×bt)->bu cQ:=λ(a,c,_)=>(r6 (a,())).bind λ(b,_)=>(bw (b !=0) (Y (b,())) (bw (a.1 !=a.2.1) (Y (5,())) ((EL (c,a.1,())).bind λ(aV,_)=>bw (!aV) (Y (90,())) (Y (0,())))))
def AT:nz->bu j8:=λ(b,_)=>(r6 (b,())).bind λ(j,_)=>(bw (j !=0) (Y ([],())) ((loop (σ:=oS) (ρ:=j8) (λ(a,e,_)=>bw (br (a<b.2.1)) ((aw b.2.2.1 a).bind λk=>(loop (σ:=oS) (ρ:=j8) (λ(c,d,_)=>(aw b.2.2.1 (aQ a)).bind λl=>bw (br (c<l)) ((aw b.2.2.2.1 c).bind λf=>(aw b.2.2.2.2.1 c).bind λg=>(cN (d.length+([(f,(a,(g,())))]).length)).bind λ_=>Y (.inl (aQ c,(d++[(f,(a,(g,())))]),()))) (Y (.inr (d,())))) (k,e,())).bind λ(h,_)=>Y (.inl (aQ a,h,()))) (Y (.inr (e,())))) (0,[],())).bind λ(i,_)=>Y (i,())))
def ED:zO->bu nz:=λ(c,g,h,_)=>(gg (ay (c*g)) (ay (c*g))).bind λy=>(loop (σ:=(Z×da×da×bi×bt)) (ρ:=(da×da×bi×bt)) (λ(e,o,m,k,_)=>bw (br (e<ao h)) ((aw h e).bind λD=>(aw h e).bind λC=>wr k (ay (ay (D.2.1*c)+C.1)) (aQ e) λE=>Y (.inl (aQ e,o,m,E,()))) (Y (.inr (o,m,k,())))) (0,((0:Z),((0:Z),([],([],([],()))))),(c,(g,([0],(([]:bi),(([]:bi),()))))),bJ y (0:Z),())).bind λ(z,v,r,_)=>(loop (σ:=(Z×da×da×bi×bt)) (ρ:=(da×da×bt)) (λ(i,n,l,s,_)=>bif br (i<g) then(loop (σ:=(Z×da×da×bi×bt)) (ρ:=(da×da×bi×bt)) (λ(d,j,a,f,_)=>bif br (d<c) then bB (α:=(da×da×bi×bt)) (rd f (ay (ay (i*c)+d)) λp=>bif br (p>0) then(cN ((a.2.2.2.1).length+([d]).length)).bind λ_=>(aw h (ay (p-1))).bind λq=>
 (cN ((a.2.2.2.2.1).length+([q.2.2.1]).length)).bind λ_=>Y (j,(a.1,(a.2.1,(a.2.2.1,((a.2.2.2.1++[d]),((a.2.2.2.2.1++[q.2.2.1]),a.2.2.2.2.2))))),f,()) else Y (j,a,f,())) λ(A,w,t,_)=>Y (.inl (aQ d,A,w,t,())) else Y (.inr (j,a,f,()))) (0,n,l,s,())).bind λ(B,b,u,_)=>(cN ((b.2.2.1).length+([ao b.2.2.2.1]).length)).bind λ_=>Y (.inl (aQ i,B,(b.1,(b.2.1,((b.2.2.1++[ao b.2.2.2.1]),b.2.2.2))),u,())) else Y (.inr (n,l,()))) (0,z,v,r,())).bind λ(_,x,_)=>Y (x,())
def vB:nz->bu (da×Z×bt):=λ(b,_)=>(r6 (b,())).bind λ(aV,_)=>(bw (aV !=0) (Y (((0:Z),((0:Z),(([]:bi),(([]:bi),(([]:bi),()))))),aV,())) ((AT (b,())).bind λ(d,_)=>(loop (σ:=(Z×da×lr×bt)) (ρ:=(da×lr×bt)) (λ(a,e,c,_)=>bw (br (a<ao d)) (bB (α:=(da×lr×bt)) ((aw d a).bind λl=>(aw d a).bind λk=>bw (br (l.1>=k.2.1)) ((aw d a).bind λf=>(cN (c.length+([f]).length)).bind λ_=>Y (e,(c++[f]),())) (Y (e,c,()))) λ(j,g,_)=>Y (.inl (aQ a,j,g,()))) (Y (.inr (e,c,())))) (0,((0:Z),((0:Z),([],([],([],()))))),[],())).bind λ(_,h,_)=>(ED (b.1,b.2.1,h,())).bind λ(i,_)=>Y (i,0,())))
def vC:nz->bu ((bm bi×bt)×Z×bt):=λ(a,_)=>(r6 (a,())).bind λ(g,_)=>(bw (g !=0) (Y ((([]:bm bi),()),g,())) (bw (a.1 !=a.2.1) (Y ((([]:bm bi),()),5,())) ((AW (a.1,())).bind λ(l,_)=>(AT (a,())).bind λ(aV,_)=>(loop (σ:=(Z×(bm bi×bt)×bm gD×bt)) (ρ:=((bm bi×bt)×bm gD×bt)) (λ(c,h,b,_)=>bw (br (c<ao aV)) ((aw aV c).bind λo=>(be b.length o.1).bind λd=>(aw aV c).bind λn=>((a5 b d λi=>Y i).bind λj=>be j.length n.2.1).bind λf=>(a5 b d λe=>(a5 e f λ_=>Y (e.set f bp)).map λp=>b.set d p).bind λq=>Y (.inl (aQ c,h,q,()))) (Y (.inr (h,b,())))) (0,([],()),l,())).bind λ(_,m,_)=>(AU (m,())).bind λ(k,_)=>Y (k,0,()))))
def EK:(da×bi×Z×Z×bt)->bu gr:=λ(d,c,e,f,_)=>(aw c e).bind λa=>(aw c f).bind λb=>(x8 (d,(if b>a then b else a),(if b<a then b else a),())).bind λ(g,_)=>(vA (g,())).bind λ(h,_)=>Y (h,())
def EJ:ny->bu gr:=λ(a,b,_)=>(vA (a,())).bind λ(c,_)=>(vA (b,())).bind λ(aV,_)=>(IP (c,aV,())).bind λ(d,_)=>Y (d,())
def Od:hA->bu hJ:=λ(a,_)=>(gg (ao a) (ao a)).bind λg=>(loop (σ:=(Z×gD×bt)) (ρ:=n1) (λ(e,f,_)=>bif br (e<ao a) then(bB (α:=(gD×bt)⊕((Z×gD×bt)⊕n1)) ((aw a e).bind λd=>bB (α:=(gD×bt)⊕((gD×bt)⊕((Z×gD×bt)⊕n1))) (bw (br (d<0)==bq) (bw (br (d>=ao a)==bq) (rd f d λj=>bw j (Y (.inr (.inr (.inr (.inr (bq,())))))) (Y (.inl (f,())))) (Y (.inr (.inr (.inr (.inr (bq,()))))))) (Y (.inr (.inr (.inr (.inr (bq,()))))))) λb=>match b with
 |.inl (i,_)=>(wr i d bp λk=>Y (.inl (k,())))
 |.inr c=>Y c) λb=>match b with
 |.inl (h,_)=>(Y (.inl (aQ e,h,())))
 |.inr c=>Y c) else Y (.inr (.inl ()))) (0,bJ g bq,())).bind λb=>match b with
 |.inl _=>(Y (bp,()))
 |.inr c=>Y c
def EI:ny->bu (s9×bt):=λ(b,a,_)=>(gg (ay (b*a)) (ay (b*a))).bind λc=>Y ((b,(a,(bJ c (bq,((bq,([],())),((0:Z),()))),()))),())
def Ab:(da×bi×bt)->bu MW:=λ(j,m,_)=>(tC (j,m,())).bind λ(b,f,_)=>(bw (f !=0) (Y (((0:Z),((0:Z),(([]:nw),()))),f,())) (b.bind λp=>bw (br (p.1>64)) (Y (((0:Z),((0:Z),(([]:nw),()))),6,())) (b.bind λq=>b.bind λr=>b.bind λs=>(loop (σ:=CQ) (ρ:=CR) (λ(c,h,e,_)=>bw (br (c<s.1)) (b.bind λt=>(loop (σ:=CQ) (ρ:=CR) (λ(d,i,a,_)=>bw (br (d<t.1)) ((vE (b,d,c,())).bind λ(n,_)=>(vl (n,())).bind λ(g,_)=>(cN ((a.2.2.1).length+([g]).length)).bind λ_=>Y (.inl (aQ d,i,(a.1,(a.2.1,((a.2.2.1++[g]),a.2.2.2))),()))) (Y (.inr (i,a,())))) (0,h,e,())).bind λ(o,k,_)=>Y (.inl (aQ c,o,k,()))) (Y (.inr (h,e,())))) (0,((0:Z),((0:Z),([],()))),(q.1,(r.1,(([]:nw),()))),())).bind λ(_,l,_)=>Y (l,0,()))))
def EM:(da×bi×bt)->bu MW:=λ(a,g,_)=>(EN (a,g,())).bind λ(h,_)=>(bif h !=0 then Y (((0:Z),((0:Z),(([]:nw),()))),h,()) else bif br (a.1>64) then Y (((0:Z),((0:Z),(([]:nw),()))),6,()) else(EI (a.1,a.1,())).bind λ(n,_)=>(loop (σ:=CQ) (ρ:=CR) (λ(d,i,e,_)=>bw (br (d<a.1)) ((loop (σ:=CQ) (ρ:=CR) (λ(c,j,b,_)=>bw (br (c<a.1)) ((EK (a,g,c,d,())).bind λ(m,_)=>(be (b.2.2.1).length (ay (ay (d*a.1)+c))).bind λf=>((((a5 b.2.2.1 f λ_=>Y ((b.2.2.1).set f m)).map λp=>(p,b.2.2.2)).map λq=>(b.2.1,q)).map λr=>(b.1,r)).bind λs=>Y (.inl (aQ c,j,s,()))) (Y (.inr (j,b,())))) (0,i,e,())).bind λ(o,k,_)=>Y (.inl (aQ d,o,k,()))) (Y (.inr (i,e,())))) (0,((0:Z),((0:Z),([],()))),n,())).bind λ(_,l,_)=>
 Y (l,0,()))
def xY:(da×bi×bi×bt)->bu (jS×bt):=λ(O,eq,fp,_)=>(vB (O,())).bind λ(aV,_,_)=>(vC (aV,())).bind λ(fl,_,_)=>(tB (fl,eq,())).bind λ(fn,_,_)=>(AZ (fn,())).bind λ(h,_,_)=>(loop (σ:=(Z×jS×bm gD×bt)) (ρ:=kB) (λ(b,y,s,_)=>bif br (b<ao h) then bB (α:=kB) (bB (α:=kB) (bB (α:=(bz×jS×bm gD×bt)) (bw ((b==0)==bq) ((vy (fp,ay (900+b),())).bind λ(ex,_)=>(eQ bD ex 7).bind λf2=>(jy f2 3).bind λf3=>Y (br (f3>0),y,s,())) (Y (bp,y,s,()))) λ(fr,z,t,_)=>bif fr then(cN (z.length+([(b,(aQ b,(([]:bi),((-1:Z),()))))]).length)).bind λ_=>(gg (ao h) (ao h)).bind λN=>(cN (t.length+([bJ N bq]).length)).bind λ_=>Y ((z++[(b,(aQ b,(([]:bi),((-1:Z),()))))]),(t++[bJ N bq]),()) else
 Y (z,t,())) λ(m,co,_)=>(be m.length (ay (ao m-1))).bind λG=>(a5 m G λB=>Y (m.set G (B.1,(aQ b,B.2.2)))).bind λgo=>(loop (σ:=(Z×jS×bm gD×bt)) (ρ:=kB) (λ(x,L,l,_)=>(aw h b).bind λf4=>bw (br (x<ao f4)) ((be l.length (ay (ao m-1))).bind λw=>(aw h b).bind λf5=>(aw f5 x).bind λf6=>((a5 l w λT=>Y T).bind λU=>be U.length f6).bind λH=>(a5 l w λC=>(a5 C H λ_=>Y (C.set H bp)).map λgs=>l.set w gs).bind λgt=>Y (.inl (aQ x,L,gt,()))) (Y (.inr (L,l,())))) (0,go,co,())).bind λ(ek,cs,_)=>Y (ek,cs,())) λ(el,cv,_)=>Y (.inl (aQ b,el,cv,())) else Y (.inr (y,s,()))) (0,[],[],())).bind λ(em,c1,_)=>(loop (σ:=(Z×jS×bm gD×bt)) (ρ:=(jS×bt)) (λ(a,n,c2,_)=>bif br (a<ao n) then(be n.length a).bind λd0=>
 (a5 n d0 λV=>Y V.1).bind λf7=>(loop (σ:=(Z×jS×bm gD×bt)) (ρ:=kB) (λ(c,d,f,_)=>bif br (c<ao h) then bB (α:=kB) ((be f.length a).bind λI=>((a5 f I λad=>Y ad).bind λam=>be am.length c).bind λd1=>(a5 f I λan=>a5 an d1 λap=>Y ap).bind λf8=>bif !f8 then Y (d,f,()) else(be d.length a).bind λJ=>(a5 d J λav=>Y av.2.2.1).bind λfz=>(cN (fz.length+([c]).length)).bind λ_=>(be d.length a).bind λp=>bif bH J p&&bp then(a5 d p λa0=>Y a0.2.2.1).bind λfT=>(a5 d p λr=>Y (d.set p (r.1,(r.2.1,((fT++[c]),r.2.2.2))))).bind λi=>bB (α:=kB) (bB (α:=(bz×jS×bm gD×bt)) ((be i.length a).bind λd2=>(a5 i d2 λa3=>Y a3.2.1).bind λf9=>bif br (c>=f9)==bp then(be i.length a).bind λd3=>(a5 i d3 λa4=>Y a4.2.2.2.1).bind λgc=>
 Y (br (gc<0),i,f,()) else Y (bq,i,f,())) λ(fs,M,D,_)=>bw fs ((loop (σ:=(Z×jS×bm gD×bt)) (ρ:=kB) (λ(j,e,u,_)=>bw (br (j<ao e)) (bB (α:=kB) (bB (α:=(bz×jS×bm gD×bt)) ((be e.length j).bind λd4=>(a5 e d4 λbl=>Y bl.1).bind λge=>bw (br (c>=ge)==bp) ((be e.length j).bind λd5=>(a5 e d5 λbs=>Y bs.2.1).bind λgf=>Y (br (c<gf),e,u,())) (Y (bq,e,u,()))) λ(ft,q,E,_)=>bw ft ((be q.length a).bind λK=>(a5 q K λo=>Y (q.set K (o.1,(o.2.1,(o.2.2.1,(j,o.2.2.2.2)))))).bind λhc=>Y (hc,E,())) (Y (q,E,()))) λ(en,dg,_)=>Y (.inl (aQ j,en,dg,()))) (Y (.inr (e,u,())))) (aQ a,M,D,())).bind λ(d6,bx,_)=>Y (d6,bx,())) (Y (M,D,()))) λ(g,k,_)=>(be g.length a).bind λdl=>
 (a5 g dl λP=>Y P.2.1).bind λf0=>bw (br (c>=f0)) ((be g.length a).bind λds=>(a5 g ds λQ=>Y Q.2.2.2.1).bind λf1=>(be k.length f1).bind λv=>((a5 k v λR=>Y R).bind λS=>be S.length c).bind λF=>(a5 k v λA=>(a5 A F λ_=>Y (A.set F bp)).map λgi=>k.set v gi).bind λgl=>Y (g,gl,())) (Y (g,k,())) else bo) λ(d7,ce,_)=>Y (.inl (aQ c,d7,ce,())) else Y (.inr (d,f,()))) (f7,n,c2,())).bind λ(d8,ci,_)=>Y (.inl (aQ a,d8,ci,())) else Y (.inr (n,()))) (0,em,c1,())).bind λ(d9,_)=>Y (d9,())
def AB:n2->bu cQ:=λ(b,e,_)=>(loop (σ:=cQ) (ρ:=oT) (λ(a,_)=>bw (br (a<ao b)) ((aw b a).bind λf=>bw (e==f) (Y (.inr (.inr (a,())))) (Y (.inl (aQ a,())))) (Y (.inr (.inl ())))) (0,())).bind λc=>match c with
 |.inl _=>(Y ((-1:Z),()))
 |.inr d=>Y d
abbrev aM:Type:=ala
abbrev jQ:Type:=(aM×bt)
abbrev iL:Type:=(bz×jQ)
abbrev e4:Type:=ei
abbrev cS:Type:=(bz×(iL×e4))
abbrev gN:Type:=(bm cS)
abbrev ih:Type:=(bm gN)
abbrev fy:Type:=(aM×(aM×(aM×(aM×(aM×(aM×e4))))))
abbrev u3:Type:=ak6
abbrev c6:Type:=(aM×(Z×(u3×(ih×bt))))
abbrev jR:Type:=(iL×(iL×bt))
abbrev nv:Type:=(Z×(Z×(gN×bt)))
abbrev rO:Type:=eg
abbrev nu:Type:=(Z×(Z×e4))
abbrev kX:Type:=eh
abbrev eL:Type:=(aM×jQ)
abbrev ig:Type:=(bm (bm jR))
abbrev s8:Type:=(Z×(Z×(aM×e4)))
abbrev zN:Type:=(e4⊕(bt⊕(e4⊕(bt⊕kX))))
abbrev rP:Type:=(Z×(Z×(aM×eL)))
abbrev MU:Type:=(Z×fy×aM×fy×bt)
def Ek:(aM×Z×Z×bz×bt)->bu (rP×aM×bm s8×bt):=λ(b,g,e,f,_)=>(r0 (g,6,())).bind λ(a,_)=>(xZ (b,a,a,e,())).bind λ(i,_)=>bB (α:=(rP×rP×bt)) (bw f ((Of (b,a,e,())).bind λ(j,_)=>Y (((0:Z),((0:Z),([],([],([],()))))),j,())) (Y (((0:Z),((0:Z),([],([],([],()))))),i,()))) λ(_,c,_)=>(Eg (b,a,())).bind λ(d,_)=>(xY (c,d,b,())).bind λ(h,_)=>Y (c,d,h,())
def DP:(s8×bm (bu c6)×bt)->bu (aM×Z×bt):=λ(a,j,_)=>(loop (σ:=(Z×aM×bt)) (ρ:=jQ) (λ(h,m,_)=>bw (br (h<ao j)) ((aw j h).bind λi=>i.bind λt=>(loop (σ:=(Z×aM×bt)) (ρ:=jQ) (λ(e,d,_)=>bw (br (e<t.2.1)) (bB (α:=jQ) (i.bind λu=>(aw u.2.2.1 e).bind λr=>bw r (i.bind λs=>(aw s.1 e).bind λn=>(cN (d.length+([n]).length)).bind λ_=>Y ((d++[n]),())) (Y (d,()))) λ(o,_)=>Y (.inl (aQ e,o,()))) (Y (.inr (d,())))) (0,m,())).bind λ(p,_)=>Y (.inl (aQ h,p,()))) (Y (.inr (m,())))) (0,[],())).bind λ(q,_)=>(loop (σ:=(Z×aM×bt)) (ρ:=jQ) (λ(b,f,_)=>bw (br (b<a.2.1)) ((cN (f.length+([b]).length)).bind λ_=>Y (.inl (aQ b,(f++[b]),()))) (Y (.inr (f,())))) (a.1,q,())).bind λ(g,_)=>
 ((hj (ay (a.2.1-a.1))).bind λk=>(Y ((a.2.2.1).length)).bind λl=>(hX k l (a.2.2.1).length).map λ_=>(k,l)).bind λc=>(cN (g.length+(((a.2.2.1).take c.2).drop c.1).length)).bind λ_=>Y ((g++(((a.2.2.1).take c.2).drop c.1)),ao g,())
def DI:(c6×bu c6×bt)->bu (c6×bt):=λ(H,c,_)=>c.bind λr=>(gg (ao r.1) (ao r.1)).bind λD=>c.bind λs=>(loop (σ:=(Z×c6×aM×bt)) (ρ:=(c6×aM×bt)) (λ(f,g,i,_)=>bw (br (f<ao s.1)) (bB (α:=(c6×aM×bt)) ((aw s.1 f).bind λa0=>c.bind λN=>(aw N.2.2.1 f).bind λO=>bw O ((AB (g.1,a0,())).bind λ(E,_)=>wr i f E λa3=>Y (g,a3,())) (Y (g,i,()))) λ(I,t,_)=>Y (.inl (aQ f,I,t,()))) (Y (.inr (g,i,())))) (0,H,bJ D (0:Z),())).bind λ(J,l,_)=>(loop (σ:=(Z×c6×aM×bt)) (ρ:=(c6×bt)) (λ(d,q,m,_)=>bif br (d<ao l) then(loop (σ:=(Z×c6×aM×bt)) (ρ:=(c6×aM×bt)) (λ(e,k,h,_)=>bif br (e<ao m) then bB (α:=(c6×aM×bt)) (bB (α:=(bz×c6×aM×bt)) (c.bind λP=>(aw P.2.2.1 d).bind λQ=>bif Q==bp then c.bind λR=>
 (aw R.2.2.1 e).bind λS=>Y (S,k,h,()) else Y (bq,k,h,())) λ(G,a,b,_)=>bw G (rd b d λT=>(be (a.2.2.2.1).length T).bind λj=>rd b e λU=>rd b d λV=>(be (a.2.2.2.1).length V).bind λo=>rd b e λad=>((a5 a.2.2.2.1 o λw=>Y w).bind λx=>be x.length ad).bind λC=>(a5 a.2.2.2.1 o λy=>a5 y C λz=>Y z).bind λam=>c.bind λan=>(aw an.2.2.2.1 d).bind λap=>(aw ap e).bind λav=>(Ac (am,av,())).bind λ(F,_)=>((a5 a.2.2.2.1 j λA=>Y A).bind λB=>be B.length U).bind λp=>(((((a5 a.2.2.2.1 j λn=>(a5 n p λ_=>Y (n.set p F)).map λa4=>(a.2.2.2.1).set j a4).map λbl=>(bl,a.2.2.2.2)).map λbs=>(a.2.2.1,bs)).map λbx=>(a.2.1,bx)).map λce=>(a.1,ce)).bind λci=>Y (ci,b,())) (Y (a,b,()))) λ(K,u,_)=>Y (.inl (aQ e,K,u,())) else
 Y (.inr (k,h,()))) (0,q,m,())).bind λ(L,v,_)=>Y (.inl (aQ d,L,v,())) else Y (.inr (q,()))) (0,J,l,())).bind λ(M,_)=>Y (M,())
def DG:(bu (Z×((bm aM×bt)×(bm (bu (bm (Z×cS)×X))×bt)))×s8×bm (bu c6)×bt)->bu (c6×Z×bt):=λ(w,k,j,_)=>(DP (k,j,())).bind λ(aV,B,_)=>(bif br (ao aV>64) then bo else(gg (ao aV) (ao aV)).bind λy=>(gg (ao aV) (ao aV)).bind λz=>(loop (σ:=(Z×c6×bt)) (ρ:=(c6×bt)) (λ(g,b,_)=>bw (br (g<ao aV)) ((gg (ao aV) (ao aV)).bind λx=>(be (b.2.2.1).length g).bind λo=>((((a5 b.2.2.1 o λ_=>Y ((b.2.2.1).set o bp)).map λL=>(L,b.2.2.2)).map λM=>(b.2.1,M)).map λN=>(b.1,N)).bind λc=>(be (c.2.2.2.1).length g).bind λp=>(((((a5 c.2.2.2.1 p λ_=>Y ((c.2.2.2.1).set p (bJ x (bq,((bq,(([]:ala),())),((0:Z),())))))).map λO=>(O,c.2.2.2.2)).map λP=>(c.2.2.1,P)).map λQ=>(c.2.1,Q)).map λR=>(c.1,R)).bind λS=>Y (.inl (aQ g,S,()))) (Y (.inr (b,())))) (0,(aV,(B,(bJ y bq,(bJ z [],())))),())).bind λ(D,_)=>
 (loop (σ:=(Z×c6×bt)) (ρ:=(c6×bt)) (λ(d,r,_)=>bif br (d<ao aV) then(loop (σ:=(Z×c6×bt)) (ρ:=(c6×bt)) (λ(e,f,_)=>bif br (e<ao aV) then bB (α:=(c6×bt)) (rd f.1 d λh=>rd f.1 e λi=>bB (α:=(bz×c6×bt)) (bw (br ((if i<h then i else h)>=k.1)==bp) (Y (br ((if i<h then i else h)<k.2.1),f,())) (Y (bq,f,()))) λ(C,a,_)=>bw C ((be (a.2.2.2.1).length d).bind λl=>rd a.1 d λI=>rd a.1 e λJ=>(vE (w,I,J,())).bind λ(A,_)=>((a5 a.2.2.2.1 l λt=>Y t).bind λu=>be u.length e).bind λq=>(((((a5 a.2.2.2.1 l λn=>(a5 n q λ_=>Y (n.set q A)).map λT=>(a.2.2.2.1).set l T).map λU=>(U,a.2.2.2.2)).map λV=>(a.2.2.1,V)).map λad=>(a.2.1,ad)).map λam=>(a.1,am)).bind λan=>Y (an,())) (Y (a,()))) λ(E,_)=>Y (.inl (aQ e,E,())) else
 Y (.inr (f,()))) (0,r,())).bind λ(F,_)=>Y (.inl (aQ d,F,())) else Y (.inr (r,()))) (0,D,())).bind λ(G,_)=>(loop (σ:=(Z×c6×bt)) (ρ:=(c6×bt)) (λ(m,s,_)=>bw (br (m<ao j)) ((aw j m).bind λK=>(DI (s,K,())).bind λ(v,_)=>Y (.inl (aQ m,v,()))) (Y (.inr (s,())))) (0,G,())).bind λ(H,_)=>Y (H,0,()))
def Is:(cS×bt)->bu ((bz×(iL×(Z×kX)))×bt):=λ(a,_)=>(tr (a.2.1,())).bind λ(b,_)=>Y ((a.2.1.1,(b,(a.2.2.1,(bq,())))),())
def Dm:(cS×Z×bt)->bu e4:=λ(b,c,_)=>(vl (b,())).bind λ(a,_)=>(bw a.1 (Y (9221120237041090560,())) ((pI (a,())).bind λ(aV,_)=>bw (aV==0) (Y (0,())) ((Is (a,())).bind λ(d,_)=>(Ag (d,c,())).bind λ(e,_)=>Y (e,()))))
def tx:(bu c6×Z×Z×bt)->bu e4:=λ(d,a,b,_)=>d.bind λe=>(aw e.2.2.2.1 a).bind λf=>(aw f b).bind λg=>(Dm (g,0,())).bind λ(c,_)=>Y (c,())
def Dn:jQ->bu kX:=λ(b,_)=>(loop (σ:=e4) (ρ:=(bt⊕kX)) (λ(a,_)=>bw (br (a<ao b)) ((aw b a).bind λe=>(Dl (e,())).bind λ(aV,_)=>bw (aV==3) (Y (.inr (.inr (bp,())))) (Y (.inl (aQ a,())))) (Y (.inr (.inl ())))) (0,())).bind λc=>match c with
 |.inl _=>(Y (bq,()))
 |.inr d=>Y d
def xJ:e4->bu e4:=λ(a,_)=>(Dn ([a],())).bind λ(b,_)=>(bw b (Y (9221120237041090560,())) (Y (CT bD a 9223372036854775808,())))
def Ax:(bu c6×Z×bt)->bu (cS×Z×Z×bt):=λ(h,i,_)=>(pH (0,())).bind λ(t,_)=>h.bind λz=>(loop (σ:=(Z×Z×cS×cS×bt)) (ρ:=((Z×cS×cS×bt)⊕(cS×Z×Z×bt))) (λ(b,c,d,a,_)=>bif br (c<ao z.1) then(bB (α:=(Z×cS×cS×bt)⊕((Z×Z×cS×cS×bt)⊕((Z×cS×cS×bt)⊕(cS×Z×Z×bt)))) (h.bind λA=>(aw A.2.2.1 c).bind λy=>bif !y then Y (.inl (b,d,a,())) else(tx (h,c,i,())).bind λ(g,_)=>(pJ (g,())).bind λ(n,_)=>bif !n then Y (.inr (.inr (.inr (a,b,233,())))) else bif c==i then Y (.inl (b,d,a,())) else(xJ (g,())).bind λ(o,_)=>(kZ (o,())).bind λ(p,_)=>(xG (p,a,())).bind λ(q,_,_)=>bB (α:=(bz×cS×cS×bt)) (bw (br (q>0)==bq) (Y (br (b<0),d,a,())) (Y (bp,d,a,()))) λ(w,j,k,_)=>
 bw w ((xJ (g,())).bind λ(r,_)=>(kZ (r,())).bind λ(s,_)=>Y (.inl (c,j,s,()))) (Y (.inl (b,j,k,())))) λe=>match e with
 |.inl (u,x,l,_)=>(Y (.inl (u,aQ c,x,l,())))
 |.inr f=>Y f) else Y (.inr (.inl (b,d,a,())))) ((-1:Z),0,(bq,((bq,(([]:ala),())),((0:Z),()))),t,())).bind λe=>match e with
 |.inl (v,_,m,_)=>(Y (m,v,0,()))
 |.inr f=>Y f
def Au:(bu c6×Z×bt)->bu (cS×bt):=λ(d,a,_)=>(tx (d,a,a,())).bind λ(b,_)=>(xJ (b,())).bind λ(aV,_)=>(kZ (aV,())).bind λ(c,_)=>Y (c,())
def xS:(cS×cS×bt)->bu kX:=λ(a,b,_)=>(pH (64,())).bind λ(c,_)=>(mZ (c,a,())).bind λ(aV,_)=>(pH (41,())).bind λ(d,_)=>(mZ (d,b,())).bind λ(e,_)=>(xG (aV,e,())).bind λ(f,_,_)=>Y (br (f>=0),())
def DJ:(bu c6×bt)->bu (aM×Z×bt):=λ(b,_)=>b.bind λw=>(loop (σ:=e4) (ρ:=(bt⊕(aM×Z×bt))) (λ(a,_)=>bif br (a<w.2.1) then(bB (α:=bt⊕(e4⊕(bt⊕(aM×Z×bt)))) (b.bind λx=>(aw x.2.2.1 a).bind λy=>bif !y then Y (.inl ()) else(Ax (b,a,())).bind λ(f,e,i,_)=>bif i !=0 then Y (.inr (.inr (.inr ([],i,())))) else((Au (b,a,())).bind λ(g,_)=>bB (α:=(cS×cS×bt)⊕(bt⊕(e4⊕(bt⊕(aM×Z×bt))))) (bB (α:=(bz×cS×cS×bt)) ((pI (f,())).bind λ(o,_)=>bw ((o==0)==bq) ((xS (g,f,())).bind λ(p,_)=>Y (p,f,g,())) (Y (bp,f,g,()))) λ(v,l,m,_)=>bw v (Y (.inr (.inr (.inr (.inr ([a],0,())))))) (Y (.inl (l,m,())))) λc=>match c with
 |.inl (h,n,_)=>(b.bind λz=>bw (br (e>=z.2.1)) (Y (.inl ())) ((Ax (b,e,())).bind λ(j,_,k,_)=>bw (k !=0) (Y (.inr (.inr (.inr ([],k,()))))) ((mZ (n,j,())).bind λ(q,_)=>(mZ (h,h,())).bind λ(r,_)=>(xS (q,r,())).bind λ(s,_)=>bw s (Y (.inr (.inr (.inr ([a],0,()))))) ((Au (b,e,())).bind λ(t,_)=>(xS (t,j,())).bind λ(u,_)=>bw u (Y (.inr (.inr (.inr ([e],0,()))))) (Y (.inr (.inr (.inr ([a,e],0,())))))))))
 |.inr d=>Y d)) λc=>match c with
 |.inl _=>(Y (.inl (aQ a,())))
 |.inr d=>Y d) else Y (.inr (.inl ()))) (0,())).bind λc=>match c with
 |.inl _=>(Y ([],0,()))
 |.inr d=>Y d
def Ay:(bu c6×bt)->bu jQ:=λ(c,_)=>c.bind λf=>(loop (σ:=(Z×aM×bt)) (ρ:=jQ) (λ(a,b,_)=>bw (br (a<ao f.1)) (bB (α:=jQ) (c.bind λg=>(aw g.2.2.1 a).bind λh=>bw h ((cN (b.length+([a]).length)).bind λ_=>Y ((b++[a]),())) (Y (b,()))) λ(d,_)=>Y (.inl (aQ a,d,()))) (Y (.inr (b,())))) (0,[],())).bind λ(e,_)=>Y (e,())
def pK:(gN×cS×bt)->bu (gN×bt):=λ(c,e,_)=>(loop (σ:=(Z×gN×bt)) (ρ:=(gN×bt)) (λ(b,a,_)=>bw (br (b<ao c)) ((aw c b).bind λg=>(mZ (g,e,())).bind λ(d,_)=>(cN (a.length+([d]).length)).bind λ_=>Y (.inl (aQ b,(a++[d]),()))) (Y (.inr (a,())))) (0,[],())).bind λ(f,_)=>Y (f,())
def qM:(c6×aM×gN×gN×bt)->bu (c6×bt):=λ(w,b,u,v,_)=>(loop (σ:=(Z×c6×bt)) (ρ:=(c6×bt)) (λ(c,i,_)=>bif br (c<ao b) then(aw b c).bind λk=>(loop (σ:=(Z×c6×bt)) (ρ:=(c6×bt)) (λ(d,a,_)=>bif br (d<ao b) then(aw b d).bind λj=>(be (a.2.2.2.1).length k).bind λe=>(be (a.2.2.2.1).length k).bind λg=>((a5 a.2.2.2.1 g λl=>Y l).bind λm=>be m.length j).bind λr=>(a5 a.2.2.2.1 g λn=>a5 n r λo=>Y o).bind λz=>(aw u c).bind λA=>(aw v d).bind λB=>(mZ (A,B,())).bind λ(s,_)=>(vo (z,s,())).bind λ(t,_)=>((a5 a.2.2.2.1 e λp=>Y p).bind λq=>be q.length j).bind λh=>(((((a5 a.2.2.2.1 e λf=>(a5 f h λ_=>Y (f.set h t)).map λC=>(a.2.2.2.1).set e C).map λD=>(D,a.2.2.2.2)).map λE=>(a.2.2.1,E)).map λF=>(a.2.1,F)).map λG=>(a.1,G)).bind λH=>
 Y (.inl (aQ d,H,())) else Y (.inr (a,()))) (0,i,())).bind λ(x,_)=>Y (.inl (aQ c,x,())) else Y (.inr (i,()))) (0,w,())).bind λ(y,_)=>Y (y,())
def DO:e4->bu (cS×bt):=λ(_,_)=>(pH (0,())).bind λ(a,_)=>Y (a,())
def Iv:(bu c6×aM×bt×cS×bt)->bu (eL×gN×Z×bt):=λ(q,e,_,p,_)=>(loop (σ:=(Z×eL×eL×gN×bt)) (ρ:=((eL×eL×gN×bt)⊕(eL×gN×Z×bt))) (λ(d,g,a,c,_)=>bw (br (d<ao e)) ((aw e d).bind λh=>(DO (h,())).bind λ(n,_)=>(tq (n,p,0,())).bind λ(b,_)=>(pJ (b,())).bind λ(o,_)=>bw (!o) (Y (.inr (.inr (a,[],233,())))) (q.bind λr=>(aw r.1 h).bind λi=>(cN ((a.1).length+([i]).length)).bind λ_=>(cN ((a.2.1).length+([b]).length)).bind λ_=>(kZ (b,())).bind λ(f,_)=>(cN (c.length+([f]).length)).bind λ_=>Y (.inl (aQ d,g,((a.1++[i]),((a.2.1++[b]),a.2.2)),(c++[f]),())))) (Y (.inr (.inl (g,a,c,()))))) (0,([],([],())),([],([],())),[],())).bind λl=>match l with
 |.inl (_,j,k,_)=>(Y (j,k,0,()))
 |.inr m=>Y m
def DN:(Z×bu (bu c6)×eA×bt)->bu (cS×bt):=λ(a,b,c,_)=>b.bind λd=>d.bind λe=>(aw e.2.2.2.1 a).bind λf=>c.bind λg=>(aw f g).bind λh=>Y (h,())
def Iw:(bu c6×aM×(bu (bu c6)×eA×bt)×cS×bt)->bu (eL×gN×Z×bt):=λ(r,e,f,q,_)=>(loop (σ:=(Z×eL×eL×gN×bt)) (ρ:=((eL×eL×gN×bt)⊕(eL×gN×Z×bt))) (λ(d,h,a,c,_)=>bw (br (d<ao e)) ((aw e d).bind λi=>(DN (i,f.1,f.2.1,())).bind λ(o,_)=>(tq (o,q,0,())).bind λ(b,_)=>(pJ (b,())).bind λ(p,_)=>bw (!p) (Y (.inr (.inr (a,[],233,())))) (r.bind λs=>(aw s.1 i).bind λj=>(cN ((a.1).length+([j]).length)).bind λ_=>(cN ((a.2.1).length+([b]).length)).bind λ_=>(kZ (b,())).bind λ(g,_)=>(cN (c.length+([g]).length)).bind λ_=>Y (.inl (aQ d,h,((a.1++[j]),((a.2.1++[b]),a.2.2)),(c++[g]),())))) (Y (.inr (.inl (h,a,c,()))))) (0,([],([],())),([],([],())),[],())).bind λm=>match m with
 |.inl (_,k,l,_)=>(Y (k,l,0,()))
 |.inr n=>Y n
def vt:(gN×bt)->bu (cS×bt):=λ(a,_)=>(aw a 0).bind λd=>(aw a 2).bind λe=>(mZ (d,e,())).bind λ(aV,_)=>(aw a 1).bind λf=>(aw a 1).bind λg=>(mZ (f,g,())).bind λ(b,_)=>(vo (aV,b,())).bind λ(c,_)=>Y (c,())
def vu:(Z×Z×bu aM×bu eL×bt)->bu e4:=λ(c,d,a,b,_)=>a.bind λi=>b.bind λj=>(aw j.1 c).bind λk=>(aw i k).bind λl=>a.bind λm=>b.bind λf=>(aw f.1 d).bind λg=>(aw m g).bind λh=>(vj (l,h,())).bind λ(e,_)=>Y (e,())
def IJ:(aM×Z×Z×(bu aM×bu eL×bt)×bt)->bu jQ:=λ(i,e,h,f,_)=>(loop (σ:=(Z×aM×bt)) (ρ:=jQ) (λ(d,g,_)=>bif br (d<h) then(loop (σ:=(Z×aM×bt)) (ρ:=jQ) (λ(a,b,_)=>bB (α:=jQ⊕((Z×aM×bt)⊕jQ)) (bw (br (a>e)==bp) (rd b a λo=>rd b (ay (a-1)) λp=>(vu (o,p,f.1,f.2.1,())).bind λ(n,_)=>bw (br (n<0)) (Y (.inl (b,()))) (Y (.inr (.inr (b,()))))) (Y (.inr (.inr (b,()))))) λl=>match l with
 |.inl (c,_)=>(rd c (ay (a-1)) λq=>rd c a λr=>wr c a q λs=>wr s (ay (a-1)) r λt=>Y (.inl (ay (a-1),t,())))
 |.inr m=>Y m) (d,g,())).bind λ(j,_)=>Y (.inl (aQ d,j,())) else Y (.inr (g,()))) (aQ e,i,())).bind λ(k,_)=>Y (k,())
def Ec:(aM×Z×Z×Z×(bu aM×bu eL×bt)×bt)->bu jQ:=λ(f,d,e,h,c,_)=>(loop (σ:=(Z×Z×Z×bz×bz×aM×bt)) (ρ:=jQ) (λ(a,b,_,_,_,g,_)=>bw (br (ay (b-a)<=12)) ((IJ (g,a,b,(c.1,c.2.1,()),())).bind λ(i,_)=>Y (.inr (i,()))) bo) (d,e,h,bp,bp,f,())).bind Y
def D9:(aM×(bu aM×bu eL×bt)×bt)->bu jQ:=λ(a,b,_)=>(DT (aL (ao a),())).bind λ(d,_)=>(Ec (a,0,ao a,d,(b.1,b.2.1,()),())).bind λ(c,_)=>Y (c,())
def DR:(bu (bu (Z×((bm aM×bt)×(bm (bu (bm (Z×cS)×X))×bt)))×(aM×(aM×(aM×(bm eL×e4)))))×aM×bt)->bu (fy×bt):=λ(c,i,_)=>(gg (ao i) (ao i)).bind λP=>c.bind λT=>c.bind λU=>c.bind λad=>c.bind λH=>(loop (σ:=MU) (ρ:=(fy×aM×fy×bt)) (λ(f,A,s,d,_)=>bw (br (f<ao H.2.1)) ((aw H.2.1 f).bind λB=>wr s B f λam=>(aw i B).bind λC=>(cN ((d.1).length+([C]).length)).bind λ_=>Y (.inl (aQ f,A,am,((d.1++[C]),d.2),()))) (Y (.inr (A,s,d,())))) (0,([],([],([],([],([],([],((0:Z),()))))))),bJ P (0:Z),(([]:aM),(T.2.2.1,(U.2.2.2.1,([0],(([]:aM),(([]:aM),(ad.2.2.2.2.2.1,()))))))),())).bind λ(Q,M,J,_)=>c.bind λD=>(loop (σ:=MU) (ρ:=(fy×fy×bt)) (λ(j,x,N,q,_)=>bif br (j<ao D.2.2.2.2.1) then(aw D.2.2.2.2.1 j).bind λl=>(gg (ao l.1) (ao l.1)).bind λw=>
 (loop (σ:=(Z×fy×aM×fy×eL×aM×bt)) (ρ:=(fy×aM×fy×eL×aM×bt)) (λ(e,y,t,r,o,m,_)=>bw (br (e<ao (bJ w (0:Z)))) (wr m e e λan=>Y (.inl (aQ e,y,t,r,o,an,()))) (Y (.inr (y,t,r,o,m,())))) (0,x,N,q,l,bJ w (0:Z),())).bind λ(R,u,K,p,I,_)=>(D9 (I,(Y u,Y p,()),())).bind λ(v,_)=>(loop (σ:=(Z×fy×aM×fy×eL×aM×bt)) (ρ:=(fy×aM×fy×bt)) (λ(k,z,h,a,g,n,_)=>bif br (k<ao v) then rd n k λE=>(aw g.1 E).bind λV=>rd h V λF=>(cN ((a.2.2.2.2.1).length+([F]).length)).bind λ_=>(aw g.2.1 E).bind λG=>(cN ((a.2.2.2.2.2.1).length+([G]).length)).bind λ_=>Y (.inl (aQ k,z,h,(a.1,(a.2.1,(a.2.2.1,(a.2.2.2.1,((a.2.2.2.2.1++[F]),((a.2.2.2.2.2.1++[G]),a.2.2.2.2.2.2)))))),g,n,())) else
 Y (.inr (z,h,a,()))) (0,R,u,K,p,v,())).bind λ(S,O,b,_)=>(cN ((b.2.2.2.1).length+([ao b.2.2.2.2.1]).length)).bind λ_=>Y (.inl (aQ j,S,O,(b.1,(b.2.1,(b.2.2.1,((b.2.2.2.1++[ao b.2.2.2.2.1]),b.2.2.2.2)))),())) else Y (.inr (x,q,()))) (0,Q,M,J,())).bind λ(_,L,_)=>Y (L,())
def DE:(s8×bt)->bu kX:=λ(a,_)=>Y (br (ao a.2.2.1>64),())
def D6:(bm s8×bt×bt)->bu e4:=λ(b,_,_)=>(loop (σ:=e4) (ρ:=(bt⊕e4)) (λ(a,_)=>bw (br (a<ao b)) ((aw b a).bind λf=>(DE (f,())).bind λ(e,_)=>bw e (Y (.inr (.inr (a,())))) (Y (.inl (aQ a,())))) (Y (.inr (.inl ())))) (0,())).bind λc=>match c with
 |.inl _=>(Y ((-1:Z),()))
 |.inr d=>Y d
def D4:(bm s8×bt×bt)->bu kX:=λ(b,_,_)=>(D6 (b,(),())).bind λ(a,_)=>Y (br (a>=0),())
def IS:jQ->bu (cS×bt):=λ(a,_)=>(aw a 0).bind λd=>(aw a 2).bind λe=>(EJ (d,e,())).bind λ(aV,_)=>(aw a 1).bind λf=>(aw a 1).bind λg=>(EJ (f,g,())).bind λ(b,_)=>(IR (aV,b,())).bind λ(c,_)=>Y (c,())
def Og:bt->bu (rP×bt):=λ_=>Y ((2,(2,([0,1,1],([1],([4607182418800017408],()))))),())
def Iz:jQ->bu kX:=λ(a,_)=>(gg (ao a) (ao a)).bind λg=>(loop (σ:=(Z×u3×bt)) (ρ:=(bt⊕kX)) (λ(e,f,_)=>bif br (e<ao a) then(bB (α:=(u3×bt)⊕((Z×u3×bt)⊕(bt⊕kX))) ((aw a e).bind λd=>bB (α:=(u3×bt)⊕((u3×bt)⊕((Z×u3×bt)⊕(bt⊕kX)))) (bw (br (d<0)==bq) (bw (br (d>=ao a)==bq) (rd f d λj=>bw j (Y (.inr (.inr (.inr (.inr (bq,())))))) (Y (.inl (f,())))) (Y (.inr (.inr (.inr (.inr (bq,()))))))) (Y (.inr (.inr (.inr (.inr (bq,()))))))) λb=>match b with
 |.inl (i,_)=>(wr i d bp λk=>Y (.inl (k,())))
 |.inr c=>Y c) λb=>match b with
 |.inl (h,_)=>(Y (.inl (aQ e,h,())))
 |.inr c=>Y c) else Y (.inr (.inl ()))) (0,bJ g bq,())).bind λb=>match b with
 |.inl _=>(Y (bp,()))
 |.inr c=>Y c
def Az:(fy×bt)->bu (aM×bz×bt):=λ(b,_)=>(loop (σ:=(Z×Z×Z×aM×bt)) (ρ:=((Z×Z×aM×bt)⊕(aM×bz×bt))) (λ(a,h,g,e,_)=>bif br (g<ao b.2.1) then(bB (α:=(Z×Z×aM×bt)⊕((Z×Z×Z×aM×bt)⊕((Z×Z×aM×bt)⊕(aM×bz×bt)))) ((aw b.2.1 g).bind λf=>bB (α:=jQ⊕((Z×Z×aM×bt)⊕((Z×Z×Z×aM×bt)⊕((Z×Z×aM×bt)⊕(aM×bz×bt))))) (bB (α:=(bz×aM×bt)) (bw ((f !=1)==bp) (bw ((f !=2)==bq) (Y (br (a>=ao b.1),e,())) (Y (bp,e,()))) (Y (br (a>=ao b.1),e,()))) λ(q,o,_)=>bw q (Y (.inr (.inr (.inr (.inr ([],bq,())))))) (Y (.inl (o,())))) λc=>match c with
 |.inl (i,_)=>((cN (i.length+([a]).length)).bind λ_=>Y (.inl (ay (a+f),ay (h+ay (ay (2*f)-1)),(i++[a]),())))
 |.inr d=>Y d) λc=>match c with
 |.inl (k,m,p,_)=>(Y (.inl (k,m,aQ g,p,())))
 |.inr d=>Y d) else Y (.inr (.inl (a,h,e,())))) (0,0,0,[],())).bind λc=>match c with
 |.inl (l,n,j,_)=>(bw ((l==ao b.1)==bp) (Y (j,(n==ao b.2.2.1),())) (Y (j,bq,())))
 |.inr d=>Y d
def DH:(fy×aM×bt)->bu kX:=λ(a,j,_)=>bB (α:=bt⊕kX) ((aw a.2.2.2.1 0).bind λt=>bw ((t !=0)==bq) ((aw a.2.2.2.1 (ao a.1)).bind λu=>bw (u !=ao a.2.2.2.2.1) (Y (.inr (bq,()))) (Y (.inl ()))) (Y (.inr (bq,())))) λb=>match b with
 |.inl _=>((loop (σ:=e4) (ρ:=(bt⊕kX)) (λ(f,_)=>bif br (f<ao j) then((aw j f).bind λi=>(aw a.2.1 f).bind λm=>(loop (σ:=e4) (ρ:=(bt⊕(e4⊕(bt⊕kX)))) (λ(d,_)=>bif br (d<=ay (ay (i+m)-1)) then(bB (α:=bt⊕zN) (bB (α:=bt⊕(bt⊕zN)) ((aw a.2.2.2.1 d).bind λv=>(aw a.2.2.2.1 (aQ d)).bind λp=>bw (br (v>p)==bq) ((aw a.2.2.2.1 (aQ d)).bind λq=>bw (br (q>ao a.2.2.2.2.1)) (Y (.inr (.inr (.inr (.inr (.inr (.inr (bq,())))))))) (Y (.inl ()))) (Y (.inr (.inr (.inr (.inr (.inr (.inr (bq,()))))))))) λb=>match b with
 |.inl _=>((aw a.2.2.2.1 d).bind λr=>(aw a.2.2.2.1 (aQ d)).bind λs=>((hj r).bind λk=>(hj s).bind λl=>(hX k l (a.2.2.2.2.1).length).map λ_=>(k,l)).bind λe=>(loop (σ:=rO) (ρ:=(bt⊕(bt⊕zN))) (λ(n,g,_)=>bif br (g<ao (((a.2.2.2.2.1).take e.2).drop e.1)) then(bB (α:=e4⊕(rO⊕(bt⊕(bt⊕zN)))) ((aw (((a.2.2.2.2.1).take e.2).drop e.1) g).bind λh=>bB (α:=bt⊕(e4⊕(rO⊕(bt⊕(bt⊕zN))))) (bw (br (h<=n)==bq) (bw (br (h>=ao a.1)) (Y (.inr (.inr (.inr (.inr (.inr (.inr (.inr (.inr (.inr (bq,()))))))))))) (Y (.inl ()))) (Y (.inr (.inr (.inr (.inr (.inr (.inr (.inr (.inr (.inr (bq,())))))))))))) λb=>match b with
 |.inl _=>(Y (.inl (h,())))
 |.inr c=>Y c) λb=>match b with
 |.inl (o,_)=>(Y (.inl (o,aQ g,())))
 |.inr c=>Y c) else Y (.inr (.inl ()))) (ay (ay (i+m)-1),0,())).bind λb=>match b with
 |.inl _=>(Y (.inl ()))
 |.inr c=>Y c)
 |.inr c=>Y c) λb=>match b with
 |.inl _=>(Y (.inl (aQ d,())))
 |.inr c=>Y c) else Y (.inr (.inl ()))) (i,())).bind λb=>match b with
 |.inl _=>(Y (.inl (aQ f,())))
 |.inr c=>Y c) else Y (.inr (.inl ()))) (0,())).bind λb=>match b with
 |.inl _=>(Y (bp,()))
 |.inr c=>Y c)
 |.inr c=>Y c
def xR:(fy×bt)->bu (ih×bt):=λ(c,_)=>(loop (σ:=(Z×Z×ih×bt)) (ρ:=(ih×bt)) (λ(k,d,f,_)=>bw (br (d<ao c.2.1)) ((aw c.2.1 d).bind λn=>(loop (σ:=(Z×Z×ih×gN×bt)) (ρ:=(Z×ih×gN×bt)) (λ(a,j,g,b,_)=>bw (br (j<ay (ay (2*n)-1))) ((aw c.2.2.1 a).bind λo=>(kZ (o,())).bind λ(i,_)=>(cN (b.length+([i]).length)).bind λ_=>Y (.inl (aQ a,aQ j,g,(b++[i]),()))) (Y (.inr (a,g,b,())))) (k,0,f,[],())).bind λ(l,h,e,_)=>(cN (h.length+([e]).length)).bind λ_=>Y (.inl (l,aQ d,(h++[e]),()))) (Y (.inr (f,())))) (0,0,[],())).bind λ(m,_)=>Y (m,())
def vr:(fy×bt)->bu e4:=λ(a,_)=>bB (α:=bt⊕e4) (bw (br (ao a.1>200)) (Y (.inr (6,()))) ((Iz (a.1,())).bind λ(n,_)=>bw (!n) (Y (.inr (90,()))) (bw ((ao a.2.2.2.1 !=aQ (ao a.1))==bq) (bw (ao a.2.2.2.2.1 !=ao a.2.2.2.2.2.1) (Y (.inr (2,()))) (Y (.inl ()))) (Y (.inr (2,())))))) λb=>match b with
 |.inl _=>((Az (a,())).bind λ(q,aV,_)=>bB (α:=bt⊕e4) (bw ((!aV)==bq) (bw (br (a.2.2.2.2.2.2.1<0)==bq) ((DH (a,q,())).bind λ(r,_)=>bw (!r) (Y (.inr (240,()))) (Y (.inl ()))) (Y (.inr (240,())))) (Y (.inr (240,())))) λb=>match b with
 |.inl _=>((loop (σ:=(Z×bm aM×bt)) (ρ:=(bt⊕e4)) (λ(g,j,_)=>bif br (g<ao ([a.2.2.2.2.2.1,a.2.2.1])) then(rd j g λk=>(loop (σ:=(Z×bm aM×bt)) (ρ:=((bm aM×bt)⊕((Z×bm aM×bt)⊕(bt⊕e4)))) (λ(d,i,_)=>bw (br (d<ao k)) ((aw k d).bind λu=>(pJ (u,())).bind λ(m,_)=>bw (!m) (Y (.inr (.inr (.inr (.inr (4,())))))) (Y (.inl (aQ d,i,())))) (Y (.inr (.inl (i,()))))) (0,j,())).bind λb=>match b with
 |.inl (s,_)=>(Y (.inl (aQ g,s,())))
 |.inr c=>Y c) else Y (.inr (.inl ()))) (0,[a.2.2.2.2.2.1,a.2.2.1],())).bind λb=>match b with
 |.inl _=>((xR (a,())).bind λ(h,_)=>(loop (σ:=(Z×ih×bt)) (ρ:=(bt⊕e4)) (λ(e,f,_)=>bif br (e<ao h) then(bB (α:=(ih×bt)⊕((Z×ih×bt)⊕(bt⊕e4))) (rd f e λl=>bw ((ao l==3)==bp) ((vt (l,())).bind λ(o,_)=>(pI (o,())).bind λ(p,_)=>bw (p==0) (Y (.inr (.inr (.inr (4,()))))) (Y (.inl (f,())))) (Y (.inl (f,())))) λb=>match b with
 |.inl (t,_)=>(Y (.inl (aQ e,t,())))
 |.inr c=>Y c) else Y (.inr (.inl ()))) (0,h,())).bind λb=>match b with
 |.inl _=>(Y (0,()))
 |.inr c=>Y c)
 |.inr c=>Y c)
 |.inr c=>Y c)
 |.inr c=>Y c
def At:(fy×bt)->bu (nu×Z×bt):=λ(j,_)=>(vr (j,())).bind λ(l,_)=>(bif l !=0 then Y (((0:Z),((0:Z),((0:Z),()))),l,()) else(xR (j,())).bind λ(m,_)=>(loop (σ:=(Z×nu×nu×ih×bt)) (ρ:=(nu×nu×bt)) (λ(h,c,b,d,_)=>bif br (h<ao m) then bB (α:=(nu×nu×ih×bt)) (rd d h λi=>(aw i 0).bind λv=>(pI (v,())).bind λ(k,_)=>bB (α:=(Z×nu×nu×ih×bt)⊕(nu×nu×ih×bt)) (bw (ao i==3) ((vt (i,())).bind λ(r,_)=>(pI (r,())).bind λ(s,_)=>bw (br (s<0)) (Y (.inr (c,(aQ b.1,(b.2.1,(ay (b.2.2.1+1),b.2.2.2))),d,()))) (Y (.inl (2,c,b,d,())))) (Y (.inl (1,c,b,d,())))) λp=>match p with
 |.inl (e,f,a,g,_)=>(bw (br (k<0)) (Y (f,(ay (a.1+e),a.2),g,())) (bw (br (k>0)) (Y (f,(a.1,(a.2.1,(ay (a.2.2.1+e),a.2.2.2))),g,())) (Y (f,(a.1,(ay (a.2.1+e),a.2.2)),g,()))))
 |.inr q=>Y q) λ(t,n,u,_)=>Y (.inl (aQ h,t,n,u,())) else Y (.inr (c,b,()))) (0,((0:Z),((0:Z),((0:Z),()))),((0:Z),((0:Z),((0:Z),()))),m,())).bind λ(_,o,_)=>Y (o,0,()))
def Et:(cS×bt)->bu (iL×bz×bt):=λ(b,_)=>(m1 (b,())).bind λ(a,_)=>(bw a.1 (Y ((bq,(([]:aM),())),bq,())) ((nB (a.2.1,a.2.2.1,())).bind λ(c,_)=>Y (c,bp,())))
def AE:(ih×bt)->bu (bm (bm iL)×bt):=λ(a,_)=>(loop (σ:=rO) (ρ:=e4) (λ(h,b,_)=>bw (br (b<ao a)) ((loop (σ:=rO) (ρ:=e4) (λ(e,d,_)=>(aw a b).bind λu=>bw (br (d<ao u)) (bB (α:=e4) ((aw a b).bind λv=>(aw v d).bind λw=>(AO (w,())).bind λ(s,_)=>bw (s !=0) ((aw a b).bind λx=>(aw x d).bind λy=>(m1 (y,())).bind λ(l,_)=>Y ((if l.2.2.1<e then l.2.2.1 else e),())) (Y (e,()))) λ(o,_)=>Y (.inl (o,aQ d,()))) (Y (.inr (e,())))) (h,0,())).bind λ(p,_)=>Y (.inl (p,aQ b,()))) (Y (.inr (h,())))) (0,0,())).bind λ(q,_)=>(loop (σ:=(Z×bm (bm iL)×bt)) (ρ:=(bm (bm iL)×bt)) (λ(c,i,_)=>bif br (c<ao a) then(loop (σ:=(Z×bm (bm iL)×bm iL×bt)) (ρ:=(bm (bm iL)×bm iL×bt)) (λ(f,j,g,_)=>
 (aw a c).bind λz=>bw (br (f<ao z)) ((aw a c).bind λA=>(aw A f).bind λB=>(Eu (B,ay (0-q),())).bind λ(t,_)=>(Et (t,())).bind λ(m,_,_)=>(cN (g.length+([m]).length)).bind λ_=>Y (.inl (aQ f,j,(g++[m]),()))) (Y (.inr (j,g,())))) (0,i,[],())).bind λ(k,n,_)=>(cN (k.length+([n]).length)).bind λ_=>Y (.inl (aQ c,(k++[n]),())) else Y (.inr (i,()))) (0,[],())).bind λ(r,_)=>Y (r,())
def EB:(bm (bm iL)×bt)->bu (ig×bt):=λ(c,_)=>(loop (σ:=(Z×ig×bt)) (ρ:=(ig×bt)) (λ(a,f,_)=>bw (br (a<ao c)) ((loop (σ:=(Z×ig×bm jR×bt)) (ρ:=(ig×bm jR×bt)) (λ(b,g,d,_)=>(aw c a).bind λn=>bw (br (b<ao n)) ((aw c a).bind λl=>(aw l b).bind λm=>(pM (m,())).bind λ(h,_)=>(r2 (1,())).bind λ(i,_)=>(cN (d.length+([(h,(i,()))]).length)).bind λ_=>Y (.inl (aQ b,g,(d++[(h,(i,()))]),()))) (Y (.inr (g,d,())))) (0,f,[],())).bind λ(e,j,_)=>(cN (e.length+([j]).length)).bind λ_=>Y (.inl (aQ a,(e++[j]),()))) (Y (.inr (f,())))) (0,[],())).bind λ(k,_)=>Y (k,())
def AS:(jR×bt)->bu kX:=λ(b,_)=>(ls (b.1,())).bind λ(a,_)=>Y ((a==0),())
def EC:(ig×aM×bt)->bu rO:=λ(g,a,_)=>(loop (σ:=e4) (ρ:=(bt⊕rO)) (λ(b,_)=>bw (br (b<ao a)) ((aw a b).bind λq=>(aw g q).bind λr=>(aw a b).bind λs=>(aw r s).bind λt=>(AS (t,())).bind λ(i,_)=>bw (!i) ((aw a b).bind λu=>(aw a b).bind λj=>Y (.inr (.inr (u,j,())))) (Y (.inl (aQ b,())))) (Y (.inr (.inl ())))) (0,())).bind λd=>match d with
 |.inl _=>((loop (σ:=e4) (ρ:=(bt⊕rO)) (λ(c,_)=>bif br (c<ao a) then((loop (σ:=e4) (ρ:=(bt⊕(e4⊕(bt⊕rO)))) (λ(f,_)=>bw (br (f<c)) ((aw a c).bind λk=>(aw g k).bind λl=>(aw a f).bind λm=>(aw l m).bind λn=>(AS (n,())).bind λ(h,_)=>bw (!h) ((aw a c).bind λo=>(aw a f).bind λp=>Y (.inr (.inr (.inr (.inr (o,p,())))))) (Y (.inl (aQ f,())))) (Y (.inr (.inl ())))) (0,())).bind λd=>match d with
 |.inl _=>(Y (.inl (aQ c,())))
 |.inr e=>Y e) else Y (.inr (.inl ()))) (0,())).bind λd=>match d with
 |.inl _=>(Y ((-1:Z),(-1:Z),()))
 |.inr e=>Y e)
 |.inr e=>Y e
def Em:(iL×iL×bt)->bu (iL×bt):=λ(d,e,_)=>(r1 (d,())).bind λ(g,_)=>(r1 (e,())).bind λ(aV,_)=>(loop (σ:=(iL×iL×iL×bt)) (ρ:=(iL×iL×bt)) (λ(b,c,a,_)=>(ls (a,())).bind λ(h,_)=>bw (h !=0) ((vz (c,a,())).bind λ(_,f,_)=>Y (.inl (b,a,f,()))) (Y (.inr (b,c,())))) ((bq,([],())),g,aV,())).bind λ(_,i,_)=>Y (i,())
def AJ:(iL×iL×bt)->bu (iL×bz×bt):=λ(a,b,_)=>(vz (a,b,())).bind λ(c,aV,_)=>(ls (aV,())).bind λ(d,_)=>(bw (d !=0) (Y ((bq,(([]:aM),())),bq,())) (Y (c,bp,())))
def AR:(iL×iL×bt)->bu (jR×bt):=λ(c,a,_)=>(Em (c,a,())).bind λ(d,_)=>bB (α:=(jR×iL×bt)) ((ls (a,())).bind λ(aV,_)=>bw (br (aV<0)) ((x1 (d,())).bind λ(f,_)=>Y (((bq,([],())),((bq,([],())),())),f,())) (Y (((bq,([],())),((bq,([],())),())),d,()))) λ(_,b,_)=>(AJ (c,b,())).bind λ(g,_,_)=>(AJ (a,b,())).bind λ(e,_,_)=>Y ((g,(e,())),())
def tA:(jR×jR×jR×jR×bt)->bu (jR×bt):=λ(b,d,e,c,_)=>(pL (d.1,e.1,())).bind λ(k,_)=>(pL (k,c.2.1,())).bind λ(l,_)=>(pL (d.2.1,e.2.1,())).bind λ(m,_)=>(pL (m,c.1,())).bind λ(n,_)=>(AR (l,n,())).bind λ(a,_)=>(pL (b.1,a.2.1,())).bind λ(f,_)=>(pL (a.1,b.2.1,())).bind λ(g,_)=>(x2 (f,g,())).bind λ(h,_)=>(pL (b.2.1,a.2.1,())).bind λ(i,_)=>(AR (h,i,())).bind λ(j,_)=>Y (j,())
def EA:(bm (bm iL)×bt)->bu ea:=λ(R,_)=>(EB (R,())).bind λ(gc,_)=>(loop (σ:=(Z×ig×aM×bt)) (ρ:=(ig×aM×bt)) (λ(p,C,w,_)=>bw (br (p<ao R)) ((cN (w.length+([p]).length)).bind λ_=>Y (.inl (aQ p,C,(w++[p]),()))) (Y (.inr (C,w,())))) (0,gc,[],())).bind λ(an,f3,_)=>(loop (σ:=(Z×Z×ig×aM×bt)) (ρ:=(Z×Z×aM×bt)) (λ(i,j,D,g,_)=>bif br (ao g>0) then(EC (D,g,())).bind λ(b,d,_)=>bif br (b<0) then Y (.inr (i,j,g,())) else(loop (σ:=(Z×ig×aM×aM×bt)) (ρ:=(ig×aM×bt)) (λ(f,s,h,y,_)=>bif br (f<ao h) then bB (α:=(ig×aM×aM×bt)) (bB (α:=(bz×ig×aM×aM×bt)) (rd h f λhv=>bw ((hv !=b)==bp) (rd h f λhw=>Y ((hw !=d),s,h,y,())) (Y (bq,s,h,y,()))) λ(hc,E,x,z,_)=>
 bw hc (rd x f λU=>(cN (z.length+([U]).length)).bind λ_=>Y (E,x,(z++[U]),())) (Y (E,x,z,()))) λ(ap,f4,gs,_)=>Y (.inl (aQ f,ap,f4,gs,())) else Y (.inr (s,y,()))) (0,D,g,[],())).bind λ(c,A,_)=>bB (α:=(Z×Z×ig×aM×bt)) (bw (b==d) ((be c.length b).bind λN=>((a5 c N λd3=>Y d3).bind λd4=>be d4.length b).bind λfz=>(a5 c N λd5=>a5 d5 fz λd6=>Y d6.1).bind λib=>(ls (ib,())).bind λ(ge,_)=>bw (br (ge<0)) (Y (aQ i,j,c,A,())) (Y (i,aQ j,c,A,()))) (Y (aQ i,aQ j,c,A,()))) λ(f6,f8,o,gt,_)=>(be o.length b).bind λO=>((a5 o O λd7=>Y d7).bind λd8=>be d8.length d).bind λfT=>(a5 o O λd9=>a5 d9 fT λek=>Y ek).bind λic=>(loop (σ:=(Z×ig×aM×jR×bt)) (ρ:=(ig×aM×bt)) (λ(q,F,B,a4,_)=>
 bif br (q<ao B) then(loop (σ:=(Z×ig×aM×jR×bt)) (ρ:=(ig×aM×jR×bt)) (λ(t,a,k,e,_)=>bif br (t<=q) then bB (α:=(ig×aM×jR×bt)) (rd k q λl=>rd k t λm=>(be a.length l).bind λP=>((a5 a P λel=>Y el).bind λem=>be em.length m).bind λf0=>(a5 a P λen=>a5 en f0 λeq=>Y eq).bind λid=>(be a.length l).bind λQ=>((a5 a Q λex=>Y ex).bind λfl=>be fl.length b).bind λf1=>(a5 a Q λfn=>a5 fn f1 λfp=>Y fp).bind λii=>(be a.length d).bind λI=>((a5 a I λbl=>Y bl).bind λbs=>be bs.length m).bind λfr=>(a5 a I λbx=>a5 bx fr λce=>Y ce).bind λhi=>(tA (id,ii,hi,e,())).bind λ(S,_)=>bB (α:=(ig×aM×jR×jR×bt)) (bif b !=d then(be a.length l).bind λJ=>((a5 a J λci=>Y ci).bind λco=>be co.length d).bind λfs=>
 (a5 a J λcs=>a5 cs fs λcv=>Y cv).bind λhr=>(be a.length b).bind λK=>((a5 a K λc1=>Y c1).bind λc2=>be c2.length m).bind λft=>(a5 a K λdg=>a5 dg ft λdl=>Y dl).bind λhs=>(tA (S,hr,hs,e,())).bind λ(f9,_)=>Y (a,k,e,f9,()) else Y (a,k,e,S,())) λ(n,gf,av,T,_)=>(be n.length l).bind λu=>((a5 n u λds=>Y ds).bind λd0=>be d0.length m).bind λL=>(a5 n u λG=>(a5 G L λ_=>Y (G.set L T)).map λio=>n.set u io).bind λr=>(be r.length m).bind λv=>((a5 r v λd1=>Y d1).bind λd2=>be d2.length l).bind λM=>(a5 r v λH=>(a5 H M λ_=>Y (H.set M T)).map λis=>r.set v is).bind λix=>Y (ix,gf,av,())) λ(V,gi,a0,_)=>Y (.inl (aQ t,V,gi,a0,())) else
 Y (.inr (a,k,e,()))) (0,F,B,a4,())).bind λ(ad,gl,a3,_)=>Y (.inl (aQ q,ad,gl,a3,())) else Y (.inr (F,B,()))) (0,o,gt,ic,())).bind λ(am,go,_)=>Y (.inl (f6,f8,am,go,())) else Y (.inr (i,j,g,()))) (0,0,an,f3,())).bind λ(f5,f7,f2,_)=>Y (f5,ao f2,f7,())
def xT:(fy×Z×bt)->bu (bu (bm (Z×cS)×X)×bt):=λ(b,c,_)=>(pH (1,())).bind λ(i,_)=>(uc (Y ([],0)) c i).bind λg=>(aw b.2.2.2.1 c).bind λk=>(loop (σ:=(Z×bu (bm (Z×cS)×X)×bt)) (ρ:=(bu (bm (Z×cS)×X)×bt)) (λ(a,d,_)=>(aw b.2.2.2.1 (aQ c)).bind λl=>bw (br (a<l)) ((aw b.2.2.2.2.1 a).bind λm=>(aw b.2.2.2.2.2.1 a).bind λj=>(kZ (j,())).bind λ(h,_)=>(uc d m h).bind λf=>Y (.inl (aQ a,f,()))) (Y (.inr (d,())))) (k,g,())).bind λ(e,_)=>Y (e,())
def Ef:e4->bu jQ:=λ(c,_)=>(loop (σ:=(Z×aM×bt)) (ρ:=jQ) (λ(a,b,_)=>bw (br (a<c)) ((cN (b.length+([a]).length)).bind λ_=>Y (.inl (aQ a,(b++[a]),()))) (Y (.inr (b,())))) (0,[],())).bind λ(d,_)=>Y (d,())
def DM:(c6×Z×Z×bt)->bu (c6×bm eL×Z×bt):=λ(a,j,k,_)=>(Ay (Y a,())).bind λ(b,_)=>(kZ (k,())).bind λ(c,_)=>(pI (c,())).bind λ(l,_)=>(bw (l==0) ((pH (1,())).bind λ(m,_)=>(Iv (Y a,b,(),m,())).bind λ(n,d,e,_)=>bw (e !=0) (Y (a,[],e,())) ((pK (d,c,())).bind λ(o,_)=>(qM (a,b,o,d,())).bind λ(h,_)=>Y (h,[n],0,()))) ((Iw (Y a,b,(Y (Y a),Y j,()),c,())).bind λ(p,f,g,_)=>bw (g !=0) (Y (a,[],g,())) ((pK (f,c,())).bind λ(q,_)=>(qM (a,b,q,f,())).bind λ(i,_)=>Y (i,[p],0,()))))
def Aw:(Z×Z×Z×cS×cS×bu (bu c6)×bt)->bu (cS×bt):=λ(a,c,d,h,i,b,_)=>b.bind λo=>o.bind λp=>(aw p.2.2.2.1 a).bind λq=>(aw q c).bind λj=>(mZ (j,h,())).bind λ(e,_)=>b.bind λk=>k.bind λl=>(aw l.2.2.2.1 a).bind λm=>(aw m d).bind λn=>(mZ (n,i,())).bind λ(f,_)=>(vo (e,f,())).bind λ(g,_)=>Y (g,())
def DK:(Z×bu (bu (bu c6)×bt)×eA×eA×bu gN×bt)->bu (cS×bt):=λ(b,c,d,e,a,_)=>c.bind λj=>d.bind λk=>e.bind λl=>a.bind λm=>(aw m 2).bind λg=>a.bind λh=>(aw h 1).bind λi=>(Aw (b,k,l,g,i,j.1,())).bind λ(f,_)=>Y (f,())
def Ix:(bu c6×aM×(bu (bu (bu c6)×bt)×eA×eA×bu gN×bt)×cS×bt)->bu (eL×gN×Z×bt):=λ(r,f,b,q,_)=>(loop (σ:=(Z×eL×eL×gN×bt)) (ρ:=((eL×eL×gN×bt)⊕(eL×gN×Z×bt))) (λ(e,h,a,d,_)=>bw (br (e<ao f)) ((aw f e).bind λi=>(DK (i,b.1,b.2.1,b.2.2.1,b.2.2.2.1,())).bind λ(o,_)=>(tq (o,q,0,())).bind λ(c,_)=>(pJ (c,())).bind λ(p,_)=>bw (!p) (Y (.inr (.inr (a,[],233,())))) (r.bind λs=>(aw s.1 i).bind λj=>(cN ((a.1).length+([j]).length)).bind λ_=>(cN ((a.2.1).length+([c]).length)).bind λ_=>(kZ (c,())).bind λ(g,_)=>(cN (d.length+([g]).length)).bind λ_=>Y (.inl (aQ e,h,((a.1++[j]),((a.2.1++[c]),a.2.2)),(d++[g]),())))) (Y (.inr (.inl (h,a,d,()))))) (0,([],([],())),([],([],())),[],())).bind λm=>match m with
 |.inl (_,k,l,_)=>(Y (k,l,0,()))
 |.inr n=>Y n
def DL:(Z×bu (bu (bu c6)×bt)×eA×eA×bu gN×bt)->bu (cS×bt):=λ(b,c,d,e,a,_)=>c.bind λj=>d.bind λk=>e.bind λl=>a.bind λm=>(aw m 0).bind λg=>a.bind λh=>(aw h 1).bind λi=>(Aw (b,k,l,g,i,j.1,())).bind λ(f,_)=>Y (f,())
def Iy:(bu c6×aM×(bu (bu (bu c6)×bt)×eA×eA×bu gN×bt)×cS×bt)->bu (eL×gN×Z×bt):=λ(r,f,b,q,_)=>(loop (σ:=(Z×eL×eL×gN×bt)) (ρ:=((eL×eL×gN×bt)⊕(eL×gN×Z×bt))) (λ(e,h,a,d,_)=>bw (br (e<ao f)) ((aw f e).bind λi=>(DL (i,b.1,b.2.1,b.2.2.1,b.2.2.2.1,())).bind λ(o,_)=>(tq (o,q,0,())).bind λ(c,_)=>(pJ (c,())).bind λ(p,_)=>bw (!p) (Y (.inr (.inr (a,[],233,())))) (r.bind λs=>(aw s.1 i).bind λj=>(cN ((a.1).length+([j]).length)).bind λ_=>(cN ((a.2.1).length+([c]).length)).bind λ_=>(kZ (c,())).bind λ(g,_)=>(cN (d.length+([g]).length)).bind λ_=>Y (.inl (aQ e,h,((a.1++[j]),((a.2.1++[c]),a.2.2)),(d++[g]),())))) (Y (.inr (.inl (h,a,d,()))))) (0,([],([],())),([],([],())),[],())).bind λm=>match m with
 |.inl (_,k,l,_)=>(Y (k,l,0,()))
 |.inr n=>Y n
def Av:(c6×Z×Z×aM×bt)->bu (c6×bm eL×Z×bt):=λ(a,i,m,h,_)=>(Ay (Y a,())).bind λ(e,_)=>(aw h 0).bind λx=>(kZ (x,())).bind λ(b,_)=>(aw h 1).bind λy=>(kZ (y,())).bind λ(c,_)=>(aw h 2).bind λz=>(kZ (z,())).bind λ(d,_)=>(vt ([b,c,d],())).bind λ(j,_)=>(Ix (Y a,e,(Y (Y (Y a),()),Y i,Y m,Y [b,c,d],()),j,())).bind λ(r,f,k,_)=>(bif k !=0 then Y (a,[],k,()) else(Iy (Y a,e,(Y (Y (Y a),()),Y m,Y i,Y [b,c,d],()),j,())).bind λ(s,g,l,_)=>bif l !=0 then Y (a,[],l,()) else(aw [b,c,d] 0).bind λA=>(pK (f,A,())).bind λ(t,_)=>(qM (a,e,t,f,())).bind λ(n,_)=>(aw [b,c,d] 1).bind λB=>(pK (f,B,())).bind λ(u,_)=>
 (qM (n,e,u,g,())).bind λ(o,_)=>(aw [b,c,d] 1).bind λC=>(pK (g,C,())).bind λ(v,_)=>(qM (o,e,v,f,())).bind λ(p,_)=>(aw [b,c,d] 2).bind λD=>(pK (g,D,())).bind λ(w,_)=>(qM (p,e,w,g,())).bind λ(q,_)=>Y (q,[r,s],0,()))
def DQ:((bu (Z×((bm aM×bt)×(bm (bu (bm (Z×cS)×X))×bt)))×(aM×(aM×(aM×(bm eL×e4)))))×c6×aM×bt)->bu ((bu (Z×((bm aM×bt)×(bm (bu (bm (Z×cS)×X))×bt)))×(aM×(aM×(aM×(bm eL×e4)))))×c6×Z×bt):=λ(C,D,a,_)=>(loop (σ:=(Z×(bu (Z×((bm aM×bt)×(bm (bu (bm (Z×cS)×X))×bt)))×(aM×(aM×(aM×(bm eL×e4)))))×c6×aM×bt)) (ρ:=((bu (Z×((bm aM×bt)×(bm (bu (bm (Z×cS)×X))×bt)))×(aM×(aM×(aM×(bm eL×e4)))))×c6×aM×bt)) (λ(d,o,r,l,_)=>bif br (d<ao a) then(loop (σ:=(Z×(bu (Z×((bm aM×bt)×(bm (bu (bm (Z×cS)×X))×bt)))×(aM×(aM×(aM×(bm eL×e4)))))×c6×aM×bt)) (ρ:=((bu (Z×((bm aM×bt)×(bm (bu (bm (Z×cS)×X))×bt)))×(aM×(aM×(aM×(bm eL×e4)))))×c6×aM×bt)) (λ(i,p,j,h,_)=>bif br (i<aQ d) then(aw a d).bind λF=>
 (aw a i).bind λG=>(tx (Y j,F,G,())).bind λ(n,_)=>(cN (h.length+([n]).length)).bind λ_=>Y (.inl (aQ i,p,j,(h++[n]),())) else Y (.inr (p,j,h,()))) (0,o,r,l,())).bind λ(g,e,u,_)=>(aw a d).bind λH=>(be (e.2.2.1).length H).bind λm=>((((a5 e.2.2.1 m λ_=>Y ((e.2.2.1).set m bq)).map λN=>(N,e.2.2.2)).map λO=>(e.2.1,O)).map λP=>(e.1,P)).bind λt=>(aw a d).bind λI=>rd t.1 I λs=>(cN ((g.2.1).length+([s]).length)).bind λ_=>Y (.inl (aQ d,(g.1,((g.2.1++[s]),g.2.2)),t,u,())) else Y (.inr (o,r,l,()))) (0,C,D,[],())).bind λ(b,q,f,_)=>(cN ((b.2.2.1).length+([ao a]).length)).bind λ_=>(cN ((b.2.2.2.1).length+f.length)).bind λ_=>bB (α:=(Z×bm eL×(bu (Z×((bm aM×bt)×(bm (bu (bm (Z×cS)×X))×bt)))×(aM×(aM×(aM×(bm eL×e4)))))×c6×bt)) (bif ao a==1 then
 (aw a 0).bind λJ=>rd f 0 λK=>(DM (q,J,K,())).bind λ(w,y,z,_)=>Y (z,y,(b.1,(b.2.1,((b.2.2.1++[ao a]),((b.2.2.2.1++f),b.2.2.2.2)))),w,()) else(aw a 0).bind λL=>(aw a 1).bind λM=>(Av (q,L,M,f,())).bind λ(x,A,B,_)=>Y (B,A,(b.1,(b.2.1,((b.2.2.1++[ao a]),((b.2.2.2.1++f),b.2.2.2.2)))),x,())) λ(v,k,c,E,_)=>(cN ((c.2.2.2.2.1).length+k.length)).bind λ_=>Y ((c.1,(c.2.1,(c.2.2.1,(c.2.2.2.1,((c.2.2.2.2.1++k),c.2.2.2.2.2))))),E,v,())
def DS:((bu (Z×((bm aM×bt)×(bm (bu (bm (Z×cS)×X))×bt)))×(aM×(aM×(aM×(bm eL×e4)))))×c6×bt)->bu ((bu (Z×((bm aM×bt)×(bm (bu (bm (Z×cS)×X))×bt)))×(aM×(aM×(aM×(bm eL×e4)))))×c6×Z×bt):=λ(n,s,_)=>(loop (σ:=((bu (Z×((bm aM×bt)×(bm (bu (bm (Z×cS)×X))×bt)))×(aM×(aM×(aM×(bm eL×e4)))))×c6×bt)) (ρ:=(((bu (Z×((bm aM×bt)×(bm (bu (bm (Z×cS)×X))×bt)))×(aM×(aM×(aM×(bm eL×e4)))))×c6×bt)⊕((bu (Z×((bm aM×bt)×(bm (bu (bm (Z×cS)×X))×bt)))×(aM×(aM×(aM×(bm eL×e4)))))×c6×Z×bt))) (λ(d,c,_)=>(DJ (Y c,())).bind λ(h,i,_)=>bw (i !=0) (Y (.inr (.inr (d,c,i,())))) (bw (ao h==0) (Y (.inr (.inl (d,c,())))) ((DQ (d,c,h,())).bind λ(f,g,j,_)=>bw (j !=0) (Y (.inr (.inr (f,g,j,())))) (Y (.inl (f,g,())))))) (n,s,())).bind λl=>match l with
 |.inl (o,k,_)=>((loop (σ:=(Z×(bu (Z×((bm aM×bt)×(bm (bu (bm (Z×cS)×X))×bt)))×(aM×(aM×(aM×(bm eL×e4)))))×c6×bt)) (ρ:=((bu (Z×((bm aM×bt)×(bm (bu (bm (Z×cS)×X))×bt)))×(aM×(aM×(aM×(bm eL×e4)))))×c6×bt)) (λ(e,a,b,_)=>bw (br (e<k.2.1)) (bB (α:=((bu (Z×((bm aM×bt)×(bm (bu (bm (Z×cS)×X))×bt)))×(aM×(aM×(aM×(bm eL×e4)))))×c6×bt)) (rd b.2.2.1 e λu=>bw u (Y ((a.1,(a.2.1,(a.2.2.1,(a.2.2.2.1,(a.2.2.2.2.1,(aQ a.2.2.2.2.2.1,a.2.2.2.2.2.2)))))),b,())) (Y (a,b,()))) λ(p,r,_)=>Y (.inl (aQ e,p,r,()))) (Y (.inr (a,b,())))) (0,o,k,())).bind λ(q,t,_)=>Y (q,t,0,()))
 |.inr m=>Y m
def xQ:(rP×aM×bm s8×bt)->bu (fy×Z×bt):=λ(x,o,b,_)=>(tC (x,o,())).bind λ(i,p,_)=>(bif p !=0 then Y ((([]:aM),(([]:aM),(([]:aM),(([]:aM),(([]:aM),(([]:aM),((0:Z),()))))))),p,()) else i.bind λM=>(vD (M.2.1,b,())).bind λ(q,_)=>bif q !=0 then Y ((([]:aM),(([]:aM),(([]:aM),(([]:aM),(([]:aM),(([]:aM),((0:Z),()))))))),q,()) else(D4 (b,(),())).bind λ(E,_)=>bif E then Y ((([]:aM),(([]:aM),(([]:aM),(([]:aM),(([]:aM),(([]:aM),((0:Z),()))))))),6,()) else((gg (ao b) (ao b)).bind λD=>(loop (σ:=(Z×fy×(bu (Z×((bm aM×bt)×(bm (bu (bm (Z×cS)×X))×bt)))×(aM×(aM×(aM×(bm eL×e4)))))×bm (bm (bu c6))×bt)) (ρ:=((fy×(bu (Z×((bm aM×bt)×(bm (bu (bm (Z×cS)×X))×bt)))×(aM×(aM×(aM×(bm eL×e4)))))×bt)⊕(fy×Z×bt))) (λ(d,k,j,e,_)=>
 bif br (d<ao b) then(bB (α:=(fy×(bu (Z×((bm aM×bt)×(bm (bu (bm (Z×cS)×X))×bt)))×(aM×(aM×(aM×(bm eL×e4)))))×bm (bm (bu c6))×bt)⊕((Z×fy×(bu (Z×((bm aM×bt)×(bm (bu (bm (Z×cS)×X))×bt)))×(aM×(aM×(aM×(bm eL×e4)))))×bm (bm (bu c6))×bt)⊕((fy×(bu (Z×((bm aM×bt)×(bm (bu (bm (Z×cS)×X))×bt)))×(aM×(aM×(aM×(bm eL×e4)))))×bt)⊕(fy×Z×bt)))) ((aw b d).bind λl=>rd e d λw=>(DG (i,l,w,())).bind λ(r,s,_)=>bB (α:=(Z×fy×(bu (Z×((bm aM×bt)×(bm (bu (bm (Z×cS)×X))×bt)))×(aM×(aM×(aM×(bm eL×e4)))))×bm (bm (bu c6))×s8×c6×bt)) (bw (s==0) ((DS (j,r,())).bind λ(B,C,F,_)=>Y (F,k,B,e,l,C,())) (Y (s,k,j,e,l,r,()))) λ(m,u,t,a,f,v,_)=>bif m !=0 then
 Y (.inr (.inr (.inr ((([]:aM),(([]:aM),(([]:aM),(([]:aM),(([]:aM),(([]:aM),((0:Z),()))))))),m,())))) else bw (br (f.2.2.2.1>=0)) ((be a.length f.2.2.2.1).bind λn=>(a5 a n λz=>Y z).bind λK=>(cN (K.length+([Y v]).length)).bind λ_=>(be a.length f.2.2.2.1).bind λc=>bw (bH n c&&bp) ((a5 a c λA=>Y A).bind λL=>(a5 a c λ_=>Y (a.set c (L++[Y v]))).bind λN=>Y (.inl (u,t,N,()))) bo) (Y (.inl (u,t,a,())))) λg=>match g with
 |.inl (J,H,y,_)=>(Y (.inl (aQ d,J,H,y,())))
 |.inr h=>Y h) else Y (.inr (.inl (k,j,())))) (0,([],([],([],([],([],([],((0:Z),()))))))),(i,(([]:aM),(([]:aM),(([]:aM),(([]:bm eL),((0:Z),())))))),bJ D [],())).bind λg=>match g with
 |.inl (_,I,_)=>((DR (Y I,o,())).bind λ(G,_)=>Y (G,0,()))
 |.inr h=>Y h))
def AG:bt->bu kX:=λ_=>(Og ()).bind λ(b,_)=>(xQ (b,[0,1],[(0,(2,([0,1],((-1:Z),()))))],())).bind λ(a,c,_)=>(At (a,())).bind λ(aV,d,_)=>(bw ((c==0)==bp) (bw ((d==0)==bp) ((Ei (a.2.1,[2],())).bind λ(e,_)=>bw (e==bp) (Y (((aV.1==1)&&((aV.2.1==(0:Z))&&((aV.2.2.1==1)&&bp))),())) (Y (bq,()))) (Y (bq,()))) (Y (bq,())))
def tw:(bu (bm (Z×cS)×X)×bu (bm (Z×cS)×X)×cS×eA×ih×bt)->bu (ih×bt):=λ(g,h,l,e,o,_)=>e.bind λA=>(loop (σ:=(Z×ih×bt)) (ρ:=(ih×bt)) (λ(c,k,_)=>bif br (c<A) then e.bind λB=>(loop (σ:=(Z×ih×bt)) (ρ:=(ih×bt)) (λ(a,f,_)=>bif br (a<B) then bB (α:=(ih×bt)) (bB (α:=(bz×ih×cS×cS×bt)) (bw ((gO (α:=cS) g c).isSome==bp) (Y ((gO (α:=cS) h a).isSome,f,((gO (α:=cS) g c).getD (bq,((bq,(([]:ala),())),((0:Z),())))),((gO (α:=cS) h a).getD (bq,((bq,(([]:ala),())),((0:Z),())))),())) (Y (bq,f,((gO (α:=cS) g c).getD (bq,((bq,(([]:ala),())),((0:Z),())))),((gO (α:=cS) h a).getD (bq,((bq,(([]:ala),())),((0:Z),())))),()))) λ(q,b,u,v,_)=>bif q then e.bind λy=>e.bind λz=>(be b.length (ay (ay (a*z)+c))).bind λi=>(mZ (u,l,())).bind λ(p,_)=>
 (mZ (p,v,())).bind λ(j,_)=>(a5 b i λm=>Y m).bind λw=>(cN (w.length+([j]).length)).bind λ_=>(be b.length (ay (ay (a*y)+c))).bind λd=>bw (bH i d&&bp) ((a5 b d λn=>Y n).bind λx=>(a5 b d λ_=>Y (b.set d (x++[j]))).bind λC=>Y (C,())) bo else Y (b,())) λ(r,_)=>Y (.inl (aQ a,r,())) else Y (.inr (f,()))) (0,k,())).bind λ(s,_)=>Y (.inl (aQ c,s,())) else Y (.inr (k,()))) (0,o,())).bind λ(t,_)=>Y (t,())
def As:(fy×bt)->bu (nv×Z×bt):=λ(a,_)=>(vr (a,())).bind λ(n,_)=>(bif n !=0 then Y (((0:Z),((0:Z),(([]:gN),()))),n,()) else bif br (ao a.1>64) then Y (((0:Z),((0:Z),(([]:gN),()))),6,()) else(gg (ay (ao a.1*ao a.1)) (ay (ao a.1*ao a.1))).bind λy=>(Az (a,())).bind λ(o,_,_)=>(xR (a,())).bind λ(p,_)=>(loop (σ:=(Z×nv×Z×ih×ih×bt)) (ρ:=(nv×Z×ih×bt)) (λ(d,i,b,t,j,_)=>bif br (d<ao p) then bB (α:=(nv×Z×ih×ih×bt)) (rd j d λe=>(aw o d).bind λF=>(xT (a,F,())).bind λ(f,_)=>(aw e 0).bind λG=>(tw (f,f,G,Y b,t,())).bind λ(k,_)=>bif ao e==3 then(aw o d).bind λH=>(xT (a,aQ H,())).bind λ(g,_)=>(aw e 1).bind λI=>(tw (f,g,I,Y b,k,())).bind λ(v,_)=>(aw e 1).bind λJ=>
 (tw (g,f,J,Y b,v,())).bind λ(w,_)=>(aw e 2).bind λK=>(tw (g,g,K,Y b,w,())).bind λ(x,_)=>Y (i,b,x,j,()) else Y (i,b,k,j,())) λ(B,z,E,C,_)=>Y (.inl (aQ d,B,z,E,C,())) else Y (.inr (i,b,t,()))) (0,((0:Z),((0:Z),([],()))),ao a.1,bJ y [],p,())).bind λ(D,l,r,_)=>(loop (σ:=(Z×nv×ih×nv×bt)) (ρ:=(nv×nv×bt)) (λ(h,q,s,c,_)=>bw (br (h<ao r)) (rd s h λu=>(Dk (u,())).bind λ(m,_)=>(cN ((c.2.2.1).length+([m]).length)).bind λ_=>Y (.inl (aQ h,q,s,(c.1,(c.2.1,((c.2.2.1++[m]),c.2.2.2))),()))) (Y (.inr (q,c,())))) (0,D,r,(l,(l,(([]:gN),()))),())).bind λ(_,A,_)=>Y (A,0,()))
def DF:(rP×fy×bt)->bu (cS×Z×bt):=λ(j,c,_)=>(vr (c,())).bind λ(h,_)=>(bif h !=0 then Y ((bq,((bq,(([]:ala),())),((0:Z),()))),h,()) else(Ab (j,c.1,())).bind λ(aV,i,_)=>bif i !=0 then Y ((bq,((bq,(([]:ala),())),((0:Z),()))),i,()) else(As (c,())).bind λ(q,_,_)=>(pH (0,())).bind λ(r,_)=>(loop (σ:=(Z×cS×nv×nv×cS×bt)) (ρ:=(cS×cS×bt)) (λ(a,f,b,e,d,_)=>bw (br (a<ao aV.2.2.1)) (bB (α:=(cS×nv×nv×cS×bt)) ((aw b.2.2.1 a).bind λt=>(aw e.2.2.1 a).bind λu=>(vo (t,u,())).bind λ(o,_)=>(Df (o,())).bind λ(g,_)=>(xG (g,d,())).bind λ(p,_,_)=>bw (br (p>0)) (Y (f,b,e,g,())) (Y (f,b,e,d,()))) λ(s,k,n,l,_)=>Y (.inl (aQ a,s,k,n,l,()))) (Y (.inr (f,d,())))) (0,(bq,((bq,(([]:ala),())),((0:Z),()))),aV,q,r,())).bind λ(_,m,_)=>
 Y (m,0,()))
def IM:(aM×Z×bt)->bu kX:=λ(H,n,_)=>(r0 (n,5,())).bind λ(q,_)=>(Ek (H,q,0,bq,())).bind λ(e,r,s,_)=>(xQ (e,r,s,())).bind λ(k,t,_)=>(bif t !=0 then Y (bq,()) else((DF (e,k,())).bind λ(u,v,_)=>(At (k,())).bind λ(w,x,_)=>bB (α:=(rP×cS×nu×bt)⊕kX) (bw ((v !=0)==bq) (bw (x !=0) (Y (.inr (bq,()))) (Y (.inl (e,u,w,())))) (Y (.inr (bq,())))) λo=>match o with
 |.inl (g,J,m,_)=>((Ef (g.1,())).bind λ(y,_)=>(EM (g,y,())).bind λ(z,_,_)=>(loop (σ:=(Z×cS×nu×nv×ih×bt)) (ρ:=(cS×nu×ih×bt)) (λ(c,l,h,a,f,_)=>bw (br (c<a.1)) (((hj (ay (c*a.1))).bind λi=>(hj (ay (aQ c*a.1))).bind λj=>(hX i j (a.2.2.1).length).map λ_=>(i,j)).bind λb=>(cN (f.length+([(((a.2.2.1).take b.2).drop b.1)]).length)).bind λ_=>Y (.inl (aQ c,l,h,a,(f++[(((a.2.2.1).take b.2).drop b.1)]),()))) (Y (.inr (l,h,f,())))) (0,J,m,z,[],())).bind λ(K,d,I,_)=>(AE (I,())).bind λ(A,_)=>(EA (A,())).bind λ(B,C,D,_)=>(AO (K,())).bind λ(E,_)=>bif (E !=0)==bq then bw (((d.1==B)&&((d.2.1==C)&&((d.2.2.1==D)&&bp)))==bp) ((AG ()).bind λ(F,_)=>Y (F,())) (Y (bq,())) else(AG ()).bind λ(G,_)=>
 Y (G,()))
 |.inr p=>Y p))
end Go.jN
section
namespace Go.Proofs
open Go.RowKit Go.Shelf Go.Sort
attribute [local go_sem] Oper.semAt_some
def Tryz.ZG:Go.Shelf.Ren:=⟨λ|20=>295|n=>n,λ|22=>23|3=>3|4=>4|0=>0|n=>n,λ|n=>n⟩
def Tryz.P7:Lays2.n20 cm Tryz.ZG where
 mixed:=by kernel_rfl
 f20:=Tryz.func295.trans (b3 Y (by kernel_rfl))
 t0:=Tryz.underlying0
 a0:=Tryz.isAgg0
 z0:=Tryz.sizeOf0
 v0:=Tryz.zeroValue0
 t3:=Tryz.underlying3
 a3:=Tryz.isAgg3
 z3:=Tryz.sizeOf3
 v3:=Tryz.zeroValue3
 t4:=Tryz.underlying4
 a4:=Tryz.isAgg4
 z4:=Tryz.sizeOf4
 v4:=Tryz.zeroValue4
 t22:=aqf
 a22:=Tryz.isAgg23
 z22:=Tryz.sizeOf23
 v22:=Tryz.zeroValue23
 i3:=by kernel_rfl
namespace MO
def ni {a:Type} (b:X->a) (c:X):bm a:=(bI c).map b
def Uk {c:Type} (a:X->c) (b:X):ni a (b+1)=ni a b++[a b]:=by simp[ni,jq]
def ahk {c:Type} (b:X->c) (a:X):(ni b a).length=a:=by simp[ni]
def ahj (a:ala):ni (λc=>a[c]?.getD 0) a.length=a:=by
 apply anF
 ·simp[ni]
 intro e d b;simp[ni,b]
set_option maxRecDepth 100000 in
set_option maxHeartbeats 2000000 in
def aht (j:amj) (m:X) (A:j.fn 317) (K:j.round=bo) (T:1<=m) (v q n h k b x:X) (g:ala) (U:b*8<=140737488351232) (F:h<n) (J r:ala->bC->Prop) (E:∀e o c,J e c->e.length<b->YieldAt j (m-1) cm v #[.int .i64 o] c λi f=>
  (i=.returned (.bool bp)/\J (e++[o]) f/\Below n c f)\/(i=.returned (.bool bq)/\r (e++[o]) f))
 (c:bC) (Q:c.cell? ⟨q,0,bo⟩=Y (.slice (Y ⟨h,k,bo⟩) b x)) (G:∀d,d<b->c.cell? ⟨h,k+d,bo⟩=Y (.int .i64 (g[d]?.getD 0))) (z:J [] c):
 al6 j m cm 317 #[.func (.yield v) #[] #[],.pointer (Y ⟨q,0,bo⟩)] c λi f=>(∃L,i=.returned L)/\((∃w,w=ni (λd=>g[d]?.getD 0) b/\J w f)\/(∃e,(∃a,a<=b/\e=ni (λd=>g[d]?.getD 0) a)/\r e f)):=by
 refine am2 apl bn A ?_ K;simp only[aqg,uV,iH,qs,amy,amz,wX,wY,xa,w8,hx,kT]
 gi_wp2
 gi_loopw [7] (λl wr=>∃a:X,a<=b/\l=.int .i64 a/\J (ni (λd=>g[d]?.getD 0) a) wr/\Below n c wr) (λl _=>b-(intOf l).toNat)
 case atStart=>exact⟨0,eJ _,bn,z,anG _ _⟩
 case round=>
  obtain⟨a,S,rfl,s,u⟩:=hrel;have H:a<b->wr.cell? ⟨h,k+a,bo⟩=Y (.int .i64 (g[a]?.getD 0)):=λy=>(u.cell (p:=⟨h,k+a,bo⟩) F).trans (G a y);by_cases t:a<b
  ·obtain⟨P,ad,N,O,V,D⟩:=E _ (g[a]?.getD 0) wr s (by rw[ahk];exact t);have R:=H t
   gi_wp2
   refine D.mono ?_;rintro i M (⟨rfl,B,I⟩|⟨rfl,C⟩)
   ·gi_wp2
    go_roundw
    case rel=>exact⟨a+1,aa,ac,by rw[Uk];exact B,u.trans I⟩
    case measure=>simp[intOf];omega
   gi_wp2
   refine bodyPost_ret (results_none bn _ _ _) rfl ?_;exact⟨⟨_,bn⟩,.inr ⟨_,⟨a+1,aa,(Uk _ _).symm⟩,C⟩⟩
  obtain rfl:a=b:=by omega
  gi_wp2
  go_end0
  exact⟨⟨_,bn⟩,.inl ⟨_,bn,s⟩⟩
def ahl (a:ala) {b:X} (d:b<=a.length):ni (λf=>a[f]?.getD 0) b=a.take b:=by
 apply anF
 ·simp[ni,d]
 intro e c g;have:e<a.length:=(by simp[ni] at c;omega);simp[ni,this]
def qk (i:X) (g:bC) (f:Value) (a:ala):Prop:=
 (∃h c,f=.slice h 0 c/\a=[])\/∃b e c,f=.slice (Y ⟨b,e,bo⟩) a.length c/\b<i/\∀d,d<a.length->g.cell? ⟨b,e+d,bo⟩=Y (.int .i64 (a[d]?.getD 0))
def qk.below {b:X} {c d:bC} (l:Below b c d) {i:Value} {j:ala}:qk b c i j->qk b d i j
 |.inl a=>.inl a
 |.inr ⟨e,h,k,a,f,m⟩=>.inr ⟨e,h,k,a,f,λg n=>(l.cell (p:=⟨e,h+g,bo⟩) f).trans (m g n)⟩
set_option maxRecDepth 100000 in
set_option maxHeartbeats 1000000 in
def ahu (a:amj) (n:X) (i:a.fn 317) (k:a.round=bo) (m c:X) (e:bu Addr) (f:X) (J:ala->bC->Prop) (b:bC) (p:b.cell? ⟨c,0,bo⟩=Y (.slice e 0 f)) (h:J [] b):al6 a n cm 317 #[.func (.yield m) #[] #[],.pointer (Y ⟨c,0,bo⟩)] b λg d=>(∃o,g=.returned o)/\J [] d:=by
 refine am2 apl bn i ?_ k;simp only[aqg,uV,iH,qs,amy,amz,wX,wY,xa,w8,hx,kT]
 gi_wp2
 gi_loopw [7] (λl wr=>l=.int .i64 0/\J [] wr) (λ_ _=>0)
 case atStart=>exact⟨bn,h⟩
 case round=>
  obtain⟨rfl,j⟩:=hrel
  gi_wp2
  go_end0
  exact⟨⟨_,bn⟩,j⟩
set_option maxHeartbeats 1000000 in
def ahv (a:amj) (i:X) (g:a.fn 297) (h:a.round=bo) (c:bu Addr) (e d:X) (b:bC):al6 a i cm 297 #[.slice c e d] b λf j=>f=.returned (.func (.func 317) #[] #[.pointer (Y ⟨b.heap.size,0,bo⟩)])/\j=b.alloc (.cells #[.slice c e d] 23):=by
 refine am2 Tryz.func297 bn g ?_ h;simp only[Tryz.ntmps297,uV,iH,qs,amy,amz,wX,wY,xa,w8,hx,kT]
 gi_wp2
 go_ret
 exact⟨bn,bn⟩
def ahw (c:amj) (g:X) (l:c.fn 317) (o:c.round=bo) (G:1<=g) (b h:X) (s:Value) (a:ala) (I:a.length*8<=140737488351232) (e:bC) (z:b<e.heap.size) (H:h<=e.heap.size) (D:e.cell? ⟨b,0,bo⟩=Y s) (A:qk h e s a):SeqStopsK c g cm 317 #[.pointer (Y ⟨b,0,bo⟩)] (λL:Z=>#[aln .i64 L]) (Below h) (λt=>t=a) (λr=>r<+:a) a.length e:=λq J u j m _ _ B k=>by
 have n:=(m.cell (p:=⟨b,0,bo⟩) z).trans D;rcases A.below (m.mono H) with⟨w,i,rfl,rfl⟩|⟨x,K,i,rfl,C,E⟩
 ·exact(ahu c g l o q b w i J j n k).mono λy v ⟨f,d⟩=>⟨f,.inl ⟨_,bn,d⟩⟩
 refine(aht c g l o G q b h x K a.length i a I C J u B j n E k).mono ?_;rintro y v ⟨f,⟨t,rfl,d⟩|⟨r,⟨M,F,rfl⟩,d⟩⟩
 ·exact⟨f,.inl ⟨_,ahj a,d⟩⟩
 exact⟨f,.inr ⟨_,by rw[ahl a F];exact List.take_prefix _ _,d⟩⟩
def Y8:(cm.info? 3).map (λa=>(a.zero,a.size,a.bytes))=Y (Y (.int .i64 0),1,8):=by kernel_rfl
set_option maxRecDepth 100000 in
set_option maxHeartbeats 2000000 in
def VW (g:amj) (m:X) (E:g.fn 331) (u:g.fn 317) (q:g.round=bo) (a4:3<=m) (e:X) (r:Value) (f:ala) (M:f.length*8<=140737488351232) (a:bC) (F:e<a.heap.size) (o:a.cell? ⟨e,0,bo⟩=Y r) (H:qk a.heap.size a r f):al6 g m cm 331 #[.slice bo 0 0,.func (.func 317) #[] #[.pointer (Y ⟨e,0,bo⟩)]] a λB t=>∃b,B=.returned b/\t.ownsRow a.heap.size 3 1 b f.length (f.map (aln .i64))/\(b=.slice bo 0 0↔f=[])/\Below a.heap.size a t:=by
 have D:1<=m:=aa;obtain⟨S,J,P,Q,R⟩:=info_parts Y8;refine callsIn_of_wp_marks Tryz.func331 bn E ?_ q;simp only[Tryz.ntmps331,uV,iH,qs,amy,amz,wX,wY,xa,w8,hx,kT]
 gi_wp2
 have A:=aqh a 23 (.slice bo 0 0);have n:Below a.heap.size a (a.alloc (.cells #[.slice bo 0 0] 23)):=(anG _ a).alloc (bc _) _;refine wpIn_rangeFunc_ownG q D (gf:=317) (lb:=#[.pointer (Y ⟨e,0,bo⟩)]) rfl u (enters_of apl (by kernel_rfl) rfl) (ahw g (m-1) u q aa e a.heap.size r f M _ (by simp;omega) ac ((n.cell (p:=⟨e,0,bo⟩) F).trans o) (H.below n)) belowK_t (belowK_b ac) (anG _ _) (λ_=>rfl) (λc d=>(∃b,Boxed d a.heap.size 23 b/\d.ownsRow a.heap.size 3 1 b c.length (c.map (aln .i64))/\(b=.slice bo 0 0↔c=[]))/\Below a.heap.size a d) (λ_ _ _=>b4) (OwnFrom.and (Own.from (holdsRow_own a.heap.size a.heap.size 23 3 1 (λc=>c.length) (λc=>c.map (aln .i64)) (λc b=>b=.slice bo 0 0↔c=[])) _) (ownFrom_below (bc _) ac)) (λ_ _ _ _ _ N _ _=>N) ⟨⟨_,A,World.ownsRow_nil _ _ _ _,ac⟩,n⟩ (λj=>{tmps:=#[.slice bo 0 0,.func (.func 317) #[] #[.pointer (Y ⟨e,0,bo⟩)],.pointer (Y ⟨a.heap.size,0,bo⟩),bV,.slice bo 0 0,.int .i64 j,.func (.func 317) #[] #[.pointer (Y ⟨e,0,bo⟩)],.int .i64 j,bV,bV,bV,bV,bV],defers:=[]}) ?assign ?body ?done ?stop
 case assign=>
  intro T j d U i
  gi_wp2
  exact i
 case body=>
  rintro T c j d ⟨⟨b,l,k,x⟩,h⟩ a3;have o:=l.cell;have a0:f.length<=maxLen:=(by simp only[maxLen];omega);have an:f.length*8<=140737488355328:=by omega
  gi_wp2_with (gi_at_builtin;refine wpListIn_append_own _ rfl _ _ 23 bn a.heap.size 3 S (.int .i64 0) 1 8 aqf J P Q R bn ab _ _ _ rfl (k.alloc _) ⟨d.heap.size,0,bo⟩ 1 1 [.int .i64 j] rfl rfl (cell_one_new _ _ _) (by simp[alx]) aa aa (by have:=h.size;simp;omega) ?_;intro bl bs y I _;obtain⟨am,ad,rfl⟩:=ownsRow_succ y;obtain⟨z,O,L,K,v⟩:=l.appended ab k h.size (bc _) y I;have ap:=z.cell;have av:=z.frozen)
  exact⟨K.from _,v,⟨_,O,by simpa using L,ac⟩,h.trans v⟩
 case done=>
  rintro s bx d G rfl ⟨⟨b,l,k,x⟩,h⟩ i;have o:=l.cell
  gi_wp2
  refine⟨ac,.inl ⟨_,_,bn,run_takeDeferred i,?_⟩⟩;exact⟨_,results_tmp bn _ _ _,b,bn,ownsRow_putObj k _ i bn,x,h.trans (belowK_b (w:=a) (bc _) d s _ _ (by simp at G;omega) i bn rfl)⟩
 case stop=>
  rintro s V c d _ _ C _;exact C.elim
set_option maxHeartbeats 1000000 in
def WQ (b:amj) (f:X) (m:b.fn 315) (k:b.fn 331) (l:b.fn 317) (j:b.round=bo) (v:4<=f) (e:X) (g:Value) (c:ala) (s:c.length*8<=140737488351232) (a:bC) (n:e<a.heap.size) (q:a.cell? ⟨e,0,bo⟩=Y g) (o:qk a.heap.size a g c):al6 b f cm 315 #[.func (.func 317) #[] #[.pointer (Y ⟨e,0,bo⟩)]] a λi h=>∃d,i=.returned d/\h.ownsRow a.heap.size 3 1 d c.length (c.map (aln .i64))/\(d=.slice bo 0 0↔c=[])/\Below a.heap.size a h:=by
 have u:1<=f:=aa;refine am2 Tryz.func315 bn m ?_ j;simp only[Tryz.ntmps315,uV,iH,qs,amy,amz,wX,wY,xa,w8,hx,kT]
 gi_wp2_with (gi_at_call 331;refine(VW b (f-1) k l j aa e g c s _ n q o).mono ?_;rintro i w ⟨d,rfl,t,r,p⟩)
 go_ret
 exact⟨d,bn,t,r,p⟩
open Go.jN
theorem afq {M:eH->X->Prop} {f:bC} {k:X} {j:Value} {b:ala} (s:f.ownsRow k 3 1 j b.length (b.map (aln .i64))):∃d,aW M f (.osl (.int .i64)) [j] b d/\d.Nodup/\∀h∈d,k<=h/\h<f.heap.size:=by
 rcases s.2 with⟨rfl,t⟩|⟨e,l,i,rfl,w,q,u,A,v,m⟩
 ·obtain rfl:=rC t;exact⟨[],⟨bo,0,bn,.inl ⟨bn,bn,bn,bn⟩⟩,ac,ac⟩
 rw[amU] at v m;have o:∀a,a<l->f.cell? ⟨e,a,bo⟩=Y (i[a]?.getD bV)/\f.frozen? ⟨e,a,bo⟩=bq:=λa c=>(by constructor<;>simp[amr,an5,q,(aa:a<i.size)]);refine⟨[e],⟨Y ⟨e,0,bo⟩,l,bn,.inr ⟨e,0,bJ b.length [],bn,ac,ac,u,λa _ c=>?_,λg z d r p=>?_⟩⟩,ac,λh n=>?_⟩
 ·obtain⟨ax,y⟩:=o a (by simpa[alC] using c);exact⟨by rw[ax];rfl,y⟩
 ·have x:g<b.length:=(h0.1 r).1;obtain rfl:d=[]:=by
   rw[List.getElem?_replicate] at p;split at p<;>simp_all
  refine⟨[.int .i64 z],bn,λa j c=>?_,bn,bn⟩;cases a with
  |succ a=>simp at c
  |zero=>
   simp only[rE,eZ] at c;subst c;simp only[alC,amU,mm,ml];rw[(o g aa).1];have:(i.toList.take b.length)[g]?=(b.map (aln .i64))[g]?:=(by rw[m]);rw[rF x,Cr,j3,r] at this;rw[this];rfl
 simp only[gq] at n;subst n;exact⟨w,(sL.1 q).1⟩
def YW {o:eH->X->Prop} {n:bC} {i:Value} {a:ala} {k:ak9} (g:aW o n (.osl (.int .i64)) [i] a k):(∃j b,i=.slice j 0 b/\a=[])\/∃c e b,i=.slice (Y ⟨c,e,bo⟩) a.length b/\a.length<=b/\Holds (aln .i64) n c e a.toArray/\k=[c]:=by
 obtain⟨j,b,m,g⟩:=g;simp only[ia,cc] at m;subst m;rcases g with⟨rfl,rfl,rfl,rfl⟩|⟨c,e,f,rfl,rfl,A,s,t,l⟩
 ·exact .inl ⟨bo,0,bn,bn⟩
 right;have u:f.flatten=[]:=by
  rw[List.flatten_eq_nil_iff];intro C x;obtain⟨h,B,rfl⟩:=g8.1 x;obtain⟨r,_,_,y⟩:=l h (a[h]'(by omega)) f[h] ac ac
  exact y.1
 refine⟨c,e,b,bn,s,λd v=>?_,by rw[u]⟩;have w:d<a.length:=(by simpa using v);obtain⟨r,z,p,_,q⟩:=l d a[d] (f[d]'(by omega)) ac ac
 subst q;have ax:=p 0 _ rfl;simp only[alC,amU,ml] at ax;exact⟨by rw[ax];simp[w],(t (e+d) aa (by simp only[alC];omega)).2⟩
def HD (E:fM) (c:ala->ep):Prop:=∀b a,c b=Y a->sN E 316 [.m ⟨.osl (.int .i64),b⟩ a] []
set_option maxRecDepth 100000 in
set_option maxHeartbeats 2000000 in
def agr (i:amj) (h:∀e,i.fn e) (z:i.round=bo) (N:∀(an:X) (e:FuncId) (v:ew) (c:bC) (t:Ending->bC->Prop),Calls cm e v c t->al6 i an cm e v c t) {E:fM} (H:E.P=cm) {B:ala->ep} (ad:HD E B) (k:X) (a4:5<=k) (m:X) (r:Value) (l s:ala) (am:B l=Y s) (U:l.length*8<=140737488351232) (c:bC) (I:lM E (λb=>b<c.heap.size) c) (G:m<c.heap.size) (L:c.cell? ⟨m,0,bo⟩=Y r) (J:qk c.heap.size c r l):al6 i k cm 296 #[.func (.func 317) #[] #[.pointer (Y ⟨m,0,bo⟩)]] c λp u=>∃g e C,p=.returned g/\aW C u (.osl (.int .i64)) [g] s e/\(∀b∈e,c.heap.size<=b)/\Below c.heap.size c u:=by
 have a3:1<=k:=aa;have bl:=h 315;have bs:=h 316;refine am2 Tryz.func296 bn (h _) ?_ z;simp only[Tryz.ntmps296,uV,iH,qs,amy,amz,wX,wY,xa,w8,hx,kT]
 gi_wp2_with (first
  |(
   gi_at_call 315;refine(WQ i (k-1) (h _) (h _) (h _) z aa m r l U _ G L J).mono ?_;rintro p D ⟨g,rfl,A,S,d⟩
   obtain⟨e,T,R,o⟩:=afq (M:=bf (λ_=>b4) (λ_=>b4)) A;have n:=ad l s am D (λb=>b<c.heap.size) (λ_=>b4) [g] [e] (λb a=>by rcases a with a|a;exact jE a d.size;exact a.elim) ⟨⟨[g],bn,T⟩,trivial⟩ (by simpa using R) (λb d=>⟨Nat.not_lt.2 (o b (by simpa using d)).1,λa=>a,(o b (by simpa using d)).2⟩) True.intro (I.mono (λ_ a=>a) λb a=>d.block b a);rw[H] at n;have n:=N (k-1) _ _ _ _ n;clear A S)
  |(gi_at_call 316;refine n.mono ?_;rintro p av ⟨ap,w,bx,cC,rfl,f⟩))
 have O:∃j,w=[j]:=by
  have:=f.args
  match w,this with
  |[j],_=>exact⟨j,bn⟩
  |[],a=>exact a.elim
  |_::_::_,a=>exact a.2.elim
 obtain⟨j,rfl⟩:=O;obtain⟨a0,al,y⟩:=f.args.1;have Q:=y.len;obtain⟨F,rfl⟩:=qr.1 Q;have al:g=F:=al;subst al;have V:cC=[]:=by
  have:=f.res
  match cC,this with
  |[],_=>rfl
  |_::_,a=>exact a.elim
 subst V
 go_ret
 refine⟨g,j,_,bn,y,λb K=>?_,?_⟩
 ·have:=(f.Nz b (by simp[K])).2.2.2;rcases this with a|a
  ·exact cO d.size a
  exact(o b (by simpa using a)).1
 exact⟨f.os.trans d.os,f.tape.trans d.tape,f.output.trans d.output,cO d.size f.size,λq x=>(f.heap q (jE x d.size) (λa=>by have:=(o q (by simpa using a)).1;omega)).trans (d.block q x)⟩
def WX {j:eH->X->Prop} {b:bC} {B:X} {i:Value} {e:ala} {h:ak9} (n:aW j b (.osl (.int .i64)) [i] e h) (m:∀c∈h,B<=c) (r:e.length<=1000000):Calls cm 295 #[i] b (λf g=>∃d a,f=.returned (.slice d (al5 e).length a)/\Below B b g):=by
 rcases YW n with⟨d,a,rfl,rfl⟩|⟨c,p,a,rfl,l,k,rfl⟩
 ·refine(Any.slices_Compact_int_empty Tryz.P7 d a b).mono ?_;rintro f g ⟨rfl,rfl⟩;exact⟨d,a,bn,anG _ _⟩
 refine(Any.slices_Compact_int Tryz.P7 c p a e b k aa l).mono ?_;rintro f g ⟨rfl,s,rfl⟩;refine⟨_,a,bn,bn,bn,bn,by simp[putRow,mapBlock,aqi],λo q=>?_⟩;have:=m c ac;simp[putRow,mapBlock,aqi,Array.getElem?_modify,(aa:c≠o)]
set_option maxRecDepth 100000 in
set_option maxHeartbeats 2000000 in
def ag1 (g:amj) (i:∀k,g.fn k) (p:g.round=bo) (t:∀(S:X) (k:FuncId) (r:ew) (a:bC) (q:Ending->bC->Prop),Calls cm k r a q->al6 g S cm k r a q) {E:fM} (F:E.P=cm) {x:ala->ep} (O:HD E x) (j:X) (av:7<=j) (c:bu Addr) (b e:X) (f m:ala) (R:x f=Y m) (N:f.length=b) (bl:f.length<=1000000) (Q:m.length<=1000000) (a:bC) (G:lM E (λd=>d<a.heap.size) a) (H:qk a.heap.size a (.slice c b e) f):al6 g j cm 259 #[.slice c b e] a λh z=>h=.returned (.bool (br ((al5 m).length<f.length)))/\Below a.heap.size a z:=by
 have ap:1<=j:=aa;have a0:=i 297;have a3:=i 296;have a4:=i 295;generalize M:(al5 m).length=an;refine am2 Tryz.func259 bn (i _) ?_ p;simp only[Tryz.ntmps259,uV,iH,qs,amy,amz,wX,wY,xa,w8,hx,kT];have C:=aqh a 23 (.slice c b e);have n:Below a.heap.size a (a.alloc (.cells #[.slice c b e] 23)):=(anG _ a).alloc (bc _) _;have I:qk (a.alloc (.cells #[.slice c b e] 23)).heap.size (a.alloc (.cells #[.slice c b e] 23)) (.slice c b e) f:=by
  rcases H.below n with l|⟨d,T,D,h,o,L⟩
  ·exact .inl l
  exact .inr ⟨d,T,D,h,by simp;omega,L⟩
 have w:=agr g i p t F O (j-1) aa a.heap.size (.slice c b e) f m R aa _ (G.mono (λd (l:d<a.heap.size)=>jE l n.size) λd l=>n.block d l) ac C.cell I
 gi_wp2_with (first
  |(gi_at_call 297;refine(ahv g (j-1) (i _) p c b e a).mono ?_;rintro h bx ⟨rfl,rfl⟩)
  |(gi_at_call 296;refine w.mono ?_;rintro h y ⟨bs,k,U,rfl,v,u,o⟩;have s:=t (j-1) _ _ _ _ (WX (B:=a.heap.size) v (λd J=>by have:=u d J;simp at this;omega) Q);rw[M] at s;have A:Below a.heap.size a y:=n.trans (o.mono ac);clear v u o w)
  |(gi_at_call 295;refine s.mono ?_;rintro h V ⟨ad,am,rfl,K⟩))
 go_ret
 exact⟨by rw[N];rfl,A.trans K⟩
def agY (c:ala->ep):jM:=⟨259,[.v (.a8 .c9 (.int .i64))],[.bool],λa=>(Ch c a.1).map λb=>(b,())⟩
def agZ {E:fM} (q:E.P=cm) {sort:ala->ep} (K:HD E sort):aC E (agY sort):=by
 refine⟨λg f=>by rw[q];exact Tryz.call259 g f,?_⟩;rintro⟨d,_⟩ b c;have w:(Ch sort d).map (λb=>(b,()))=Y b:=c;obtain⟨B,e,rfl⟩:=fO.1 w;clear c w;unfold Ch at e;cases l:b2 d.length 1000000 with
 |false=>rw[l] at e;cases e
 |true=>
 rw[l] at e;obtain⟨s,M,e⟩:=eV.1 e;cases m:b2 s.length 1000000 with
 |false=>rw[m] at e;cases e
 |true=>
 rw[m] at e;have c:br ((al5 s).length<d.length)=B:=gC e;subst c;have l:=g1 l;have m:=g1 m;rintro f t A g k u h an am _hself;have h:mY (zo t A f) [.v ⟨.a8 .c9 (.int .i64),d⟩] g k:=h;obtain⟨p,j,rfl,rfl⟩:∃p j,g=[p]/\k=[j]:=by
  cases g with
  |nil=>exact h.elim
  |cons p g=>
   cases k with
   |nil=>exact h.elim
   |cons j k=>
    have a:=h.2;cases g with
    |nil=>cases k with
     |nil=>exact⟨p,j,bn,bn⟩
     |cons=>exact a.elim
    |cons=>exact a.elim
 obtain⟨⟨rfl,S,rfl,J⟩,_⟩:=h;obtain⟨_,o,i,rfl,ad,ap,I⟩:=J;have G:qk f.heap.size f (.slice o d.length i) d:=by
  rcases I with a|⟨b,O,rfl,H,L⟩
  ·exact .inl ⟨o,i,by rw[show d=[] from a];rfl,a⟩
  refine .inr ⟨b,O,i,bn,u b H,λy x=>?_⟩;obtain⟨U,T,C,_,D⟩:=L y d[y] (by simp[x]);subst D;have z:=C 0 _ rfl;simp only[alC,amU,ml] at z;rw[z];simp[x]
 intro F;have a:=ag1 Fence.wide (λ_=>trivial) rfl (λN j R f Q a=>(callsIn_wide (n:=N)).2 a) q K 10 aa o d.length i d s M bn l m f (F.mono (λb a=>u b (.inl a)) λ_ _=>rfl) G;have a:=callsIn_wide.1 a;show Calls E.P 259 #[.slice o d.length i] f _;rw[q];refine a.mono ?_;rintro V av ⟨rfl,c⟩;refine⟨t,[[]],[[]],[.bool _],bn,⟨⟨bn,trivial⟩,⟨⟨[.bool _],bn,bn,bn⟩,trivial⟩,ac,ac,λ_ a=>a,λ_ a=>.inl a,c.size,c.os,c.tape,c.output,λb r=>.of_heap (c.block b r),λb r _=>c.block b r⟩⟩
end MO
end Go.Proofs
end
namespace Go.jN
variable{a:X}{b:ala}{c:Type}{d:Z}{e:Value}{f:bm hE}{g:bm ah}{h:bC}{i:bm alc}{j:eH->X->Prop}{k:Func}{l:X->Prop}
section
open Go.Proofs
open Tryz
abbrev gk:ah:=(.int .u32)
abbrev fX:ah:=(.a8 .bj gk)
abbrev cX:ah:=(.st (.pr .bool (.pr fX .nil)))
abbrev aB:ah:=(.int .i64)
abbrev cV:ah:=(.st (.pr .bool (.pr cX (.pr aB .nil))))
abbrev g9:ah:=(.osl aB)
abbrev dc:ah:=(.int .u64)
abbrev xj:ah:=(.st (.pr aB (.pr aB (.pr g9 (.pr g9 (.pr (.osl dc) .nil))))))
abbrev ha:ah:=(.a8 .bj aB)
abbrev fg:ah:=(.a8 .c9 aB)
abbrev lq:ah:=(.a8 .c9 dc)
abbrev j7:ah:=(.st (.pr aB (.pr aB (.pr fg (.pr fg (.pr lq .nil))))))
abbrev rN:ah:=(.st (.pr fg (.pr fg (.pr lq (.pr fg (.pr fg (.pr lq (.pr aB .nil))))))))
abbrev pB:ah:=(.st (.pr (.a8 .bj ha) .nil))
abbrev xm:ah:=(.st (.pr aB (.pr pB (.pr (.a8 .bj (.fj .bj cV)) .nil))))
abbrev mW:ah:=(.st (.pr ha (.pr (.a8 .bj dc) .nil)))
abbrev CN:ah:=(.st (.pr (.ptr .bj xm) (.pr g9 (.pr g9 (.pr (.osl dc) (.pr (.osl mW) (.pr aB .nil)))))))
abbrev CO:ah:=(.st (.pr ha (.pr ha (.pr (.a8 .bj dc) (.pr ha (.pr ha (.pr (.a8 .bj dc) (.pr aB .nil))))))))
abbrev s6:ah:=(.osl cV)
abbrev qC:ah:=(.osl s6)
abbrev xi:ah:=(.pr qC .nil)
abbrev pz:ah:=(.st (.pr aB (.pr aB (.pr s6 .nil))))
abbrev MP:ah:=(.st (.pr g9 (.pr g9 (.pr (.osl dc) (.pr g9 (.pr g9 (.pr (.osl dc) (.pr aB .nil))))))))
abbrev oR:ah:=(.st (.pr aB (.pr aB (.pr dc .nil))))
abbrev zM:ah:=(.osl .bool)
abbrev s5:ah:=(.optr (.st (.pr g9 (.pr aB (.pr zM xi)))))
abbrev pA:ah:=(.st (.pr aB (.pr aB (.pr fg (.pr aB .nil)))))
abbrev kW:ah:=(.ptr .c9 (.st (.pr fg (.pr aB (.pr (.a8 .c9 .bool) (.pr (.a8 .c9 (.a8 .c9 cV)) .nil))))))
abbrev MQ:ah:=(.st (.pr g9 (.pr (.osl dc) (.pr ha (.pr (.osl (.osl dc)) .nil)))))
abbrev HE:ah:=(.st (.pr g9 (.pr ha (.pr (.a8 .bj dc) (.pr g9 (.pr g9 (.pr (.osl dc) (.pr aB .nil))))))))
abbrev u2:ah:=(.st (.pr aB (.pr aB (.pr ha (.pr ha (.pr (.a8 .bj dc) .nil))))))
abbrev Vl:ah:=(.optr (.st (.pr ha (.pr aB xi))))
abbrev mn:ah:=(.st (.pr (.a8 .c9 fg) .nil))
abbrev mq:ah:=(.st (.pr cX (.pr cX .nil)))
abbrev CI:ah:=(.st (.pr aB (.pr aB (.pr aB .nil))))
abbrev HF:ah:=(.osl (.st (.pr aB (.pr aB (.pr g9 (.pr aB .nil))))))
abbrev Vm:ah:=(.optr (.st (.pr g9 (.pr aB xi))))
abbrev HG:ah:=(.st (.pr fg (.pr aB (.pr (.a8 .c9 (.a8 .c9 cV)) .nil))))
abbrev xk:ah:=(.osl zM)
abbrev xl:ah:=(.st (.pr g9 (.pr (.osl dc) .nil)))
abbrev nZ:ah:=(.a8 .bj cV)
abbrev lU:ah:=(.osl gk)
abbrev HH:ah:=(.st (.pr ha (.pr (.a8 .bj dc) (.pr ha (.pr (.a8 .bj (.a8 .bj dc)) .nil)))))
abbrev Vn:ah:=(.optr cV)
abbrev rM:ah:=(.st (.pr .bool (.pr cX (.pr aB (.pr .bool .nil)))))
abbrev HI:ah:=(.st (.pr aB (.pr aB (.pr nZ .nil))))
abbrev CJ:ah:=(.ptr .bj (.st (.pr ha (.pr aB (.pr (.a8 .bj .bool) (.pr (.a8 .bj nZ) .nil))))))
abbrev Vo:ah:=(.optr xj)
abbrev Vp:ah:=(.ptr .bj cX)
abbrev CK:ah:=(.st (.pr (.osl ha) .nil))
abbrev Vq:ah:=(.optr cX)
abbrev MR:ah:=(.a8 .bj (.st (.pr aB (.pr aB (.pr ha (.pr aB .nil))))))
abbrev Vr:ah:=(.ptr .bj cV)
abbrev qB:ah:=(.osl oR)
abbrev Vs:ah:=(.optr (.st (.pr aB (.pr pB (.pr (.osl (.mp cV)) .nil)))))
abbrev HJ:ah:=(.st (.pr ha (.pr aB (.pr (.a8 .bj nZ) .nil))))
abbrev Vt:ah:=(.st (.pr aB (.pr aB (.pr (.a8 .c9 cV) .nil))))
abbrev s7:ah:=(.optr pz)
abbrev HK:ah:=(.optr (.st (.pr xk (.pr zM .nil))))
abbrev MS:ah:=(.osl (.osl mq))
abbrev Vu:ah:=(.ptr .bj j7)
abbrev Vv:ah:=(.st (.pr fg (.pr lq (.pr fg (.pr (.a8 .c9 lq) .nil)))))
abbrev nt:ah:=(.a8 .c9 pA)
abbrev Vw:ah:=(.optr MP)
abbrev Vx:ah:=(.optr CI)
abbrev CL:ah:=(.ptr .bj mn)
abbrev Vy:ah:=(.optr MQ)
abbrev MT:ah:=(.ptr .bj rN)
abbrev CM:ah:=(.osl nZ)
def tt:bm (X×ah):=[(3,aB),(4,.bool),(5,(.int .u8)),(9,.str),(22,(.a8 .bj dc)),(23,ha),(24,(.a8 .bj dc)),(26,u2),(27,MR),(31,CO),(41,dc),(42,dc),(46,CI),(50,nZ),(52,HI),(55,(.a8 .bj nZ)),(56,fX),(58,cX),(60,cV),(63,(.a8 .bj (.a8 .bj cX))),(85,(.a8 .bj ha)),(87,pB),(88,(.a8 .bj (.fj .bj cV))),(90,xm),(93,(.st (.pr aB (.pr aB (.pr ha (.pr aB .nil)))))),(96,(.a8 .bj mW)),(98,(.st (.pr (.ptr .bj xm) (.pr ha (.pr ha (.pr (.a8 .bj dc) (.pr (.a8 .bj mW) (.pr aB .nil)))))))),(99,(.a8 .bj (.a8 .bj CJ))),(100,CJ),(103,(.a8 .bj CJ)),(107,(.a8 .bj HJ)),(108,(.a8 .bj HH)),(110,HJ),(114,(.a8 .bj (.a8 .bj dc))),(116,HH),(127,(.a8 .bj (.a8 .bj .bool))),(129,dc),(130,(.a8 .bj .bool)),(142,(.a8 .bj (.a8 .bj mq))),(148,mq),(149,(.a8 .bj mq)),(152,(.a8 .bj cX)),(158,gk),(163,(.fj .bj cV)),(182,(.st (.pr ha (.pr aB (.pr (.a8 .bj .bool) (.pr (.a8 .bj nZ) .nil)))))),(191,mW),(202,(.a8 .bj oR)),(205,oR),(234,(.a8 .bj (.a8 .bj .bool))),(259,(.st (.pr (.a8 .bj (.a8 .bj .bool)) (.pr (.a8 .bj .bool) .nil)))),(288,(.fn 0 .nil)),(321,rM),(323,dc)]
def Uc:∀a b,aq tt a=Y b->fx cm b a:=Ud (by kernel_rfl)
def E:fM:={P:=cm,tt:=tt,ok:=Uc,mix:=by kernel_rfl,glob:=[⟨0,301,.u8,qI⟩],gok:=YJ Uc (S:=5) (by kernel_rfl) (by kernel_rfl),eqs:=[46],eqok:=OX (by kernel_rfl)}
def L8:bm ah:=[g9,Vn,lU,cV,cX,Vo,Vq,.bool,s6,Vl,dc,Vp,xk,qB,Vr,s5,s7,Vm,qC,Vw,Vx,zM,Vy,Vu,HF,MS,xj,CM,fX,(.optr CO),(.optr CK),(.optr xl),(.optr HE),CO,MT,u2,CL,(.optr CN),pz,(.optr pB),(.osl dc),pB,ha,(.optr u2),CI,xl,(.optr HI),HI,Vs,(.ptr .bj pA),(.optr g9),(.osl HH),MR,(.optr mq),HK,(.optr j7),nZ,(.osl HJ),(.optr qC),(.osl ha),(.optr ha),(.st (.pr g9 (.pr aB xi))),(.ptr .bj HG),(.osl (.a8 .bj cX)),(.ptr .bj mq),mq,CK,(.mp cV),(.ptr .bj rM),mW,(.osl (.osl CJ)),(.st (.pr ha (.pr aB xi))),MQ,(.osl lq),(.ptr .bj Vt),oR,(.optr dc),(.optr pA),(.ptr .bj aB),(.optr mW),HE,(.optr HG),MP,(.osl cX),(.osl mq),gk,(.a8 .bj oR),(.ptr .bj oR),(.optr aB),aB,pA,rM,(.ptr .bj .nil),(.osl mW),(.a8 .bj mW),(.ptr .bj Vv),(.a8 .bj nZ),(.a8 .bj (.a8 .bj .bool)),(.st (.pr aB (.pr aB (.pr g9 (.pr aB .nil))))),(.a8 .bj ha),(.ptr .bj xm),(.osl (.mp cV)),(.ptr .bj nt),(.st (.pr g9 (.pr aB (.pr zM xi)))),CN,HG,(.osl (.osl dc)),(.a8 .bj dc)]
def aJ {h:hH f->bu (jn f (l5 g))} (i:zL E) (c:X) (e:E.P.funcs[a]?=Y k) (d:(k.body.isSome&&b2 f.length k.ntmps)=bp:=by kernel_rfl) (l:(k.name=="runtime.NumGoroutine")=bq:=by kernel_rfl) (j:∀b,Bi ⟨E.tt,i.1,(Lm L8 c).2.1,k.ntmps,km 0 f++ow (j2 0 f),[],(Lm L8 c).2.2,j2 0 f,[],[],E.glob,E.eqs⟩ ((Lm L8 c).1.ex (k.body.getD .skip)) (k.body.getD .skip) f k.results.toList g b=h b:=by intro b;kernel_rfl):aC E ⟨a,f,g,h⟩:=
 aC.q i _ e (Wx e l (by have:=d;simp only[cF] at this;exact this.1)) _ _ d j
def yJ:aC E ⟨16,[.v aB,.v aB],[aB],r0⟩:=aJ aG 0x60d func16
def KY:aC E ⟨55,[.v lq,.v aB],[dc],vy⟩:=aJ (aj yJ aG) 0x7a1e9b060d func55
def KX:aC E ⟨28,[.v dc],[.bool],x7⟩:=aJ aG 0xd func28
def wq:aC E ⟨229,[.v fX],[lU],m0⟩:=aJ aG 0x2082c821ab266d7f4b3435b0c101a28f318a51a6c0d func229
def uo:aC E ⟨227,[.v .bool,.v fX],[cX],mx⟩:=aJ (aj wq aG) 0x1830070321200d func227
def BK:aC E ⟨156,[.v aB],[cX],r2⟩:=aJ (aj uo aG) 0xf8130f0123de5733a6c0d func156
def yI:aC E ⟨155,[.v cX],[cX],pM⟩:=aJ (aj uo aG) 0x10558600d func155
def BO:aC E ⟨77,[],[cV],r4⟩:=aJ aG 0x608 func77
def vX (a:Z):gZ:=⟨E.tt,[],[],14,[0]++(km 0 [.v gk]++ow (j2 0 [.v gk])),[(0,.val gk a)]++[],[],j2 0 [.v gk],[],[],E.glob,E.eqs⟩
noncomputable def tU:Code:=Tryz.f237.body.getD .skip
def vY:bT Oper:=(wD 3 tU).getD #[]
def JT:mO:=.two .none (.leaf) (.two .none (.two .none (.leaf) (.leaf)) (.leaf))
def FH:mO:=.keep [0] (.two .none (.leaf) (.two .none JT (.two .none (.leaf) (.leaf))))
def yu (a:Z):aR:=⟨[(4,.val .bool (a==0)),(3,.val gk a),(2,.val aB 0),(0,.val gk a)],[]⟩
def JS (a:Z):b5->aR->bu (jn [.v gk] (l5 [.int .i64])):=Pc E.tt [.v gk] [.tmp 2] [.int .i64] (a,())
def Zy:tU=.seq (GL tU) (.seq (GL (Tq tU)) (.seq (.region 3 vY bq) .ret)):=by kernel_rfl
def ZB:vY.size=10:=by kernel_rfl
def Zz (a:Z) (b:b5->aR->bu c) (d:aR->bu c):hW (vX a) .leaf (GL tU) ⟨[(0,.val gk a)],[]⟩ c (B7 (λe=>hW (vX a) JT (GL (Tq tU)) e c (B7 d b)) b)=bif a==0 then b .ret ⟨(2,.val aB 32)::(yu a).g,[]⟩ else d (yu a):=by kernel_rfl
def Zv (a:Z) (b:aR->bu c):lA (vX a) vY [0,1,2,3,4] (yu a) b=b ⟨(9,.val gk (cd.wrap (e0 cd a (cd.wrap (0-a))*125613361)))::(8,.val gk (e0 cd a (cd.wrap (0-a))))::(7,.val gk (cd.wrap (0-a)))::(6,.val gk a)::(5,.val gk a)::(yu a).g,[]⟩:=by kernel_rfl
def Zw (a c d b:Z):lA (vX a) vY [5,6,7,8,9] ⟨(9,.val gk b)::(8,.val gk c)::(7,.val gk d)::(6,.val gk a)::(5,.val gk a)::(yu a).g,[]⟩ (JS a .ret)=(eQ cd b 27).bind λe=>(aw qI e).bind λf=>Y (bK.wrap f,()):=by kernel_rfl
def ZC (a:Z):JS a .ret ⟨(2,.val aB 32)::(yu a).g,[]⟩=Y ((32:Z),()):=by kernel_rfl
def ZA (a:Z) (d:hH [.v gk]) (f g:cq) (b:b5->aR->bu c) (h:d=(a,())):hW ⟨E.tt,[],[],14,km 0 [.v gk]++ow (j2 0 [.v gk]),[],[],j2 0 [.v gk],[],[],E.glob,E.eqs⟩ FH (.seq f (.seq g (.seq (.region 3 vY bq) .ret))) ⟨n3 0 [.v gk] d,n4 0 [.v gk] d⟩ c b=hW (vX a) .leaf f ⟨[(0,.val gk a)],[]⟩ c (B7 (λe=>hW (vX a) JT g e c (B7 (λe=>lA (vX a) vY (bI vY.size) e (b .ret)) b)) b):=by subst h;rfl
def Zx (b:hH [.v gk]):Bi ⟨E.tt,[],[],14,km 0 [.v gk]++ow (j2 0 [.v gk]),[],[],j2 0 [.v gk],[],[],E.glob,E.eqs⟩ FH tU [.v gk] [.tmp 2] [.int .i64] b=xV b:=by obtain⟨a,⟨⟩⟩:=b;show hW _ FH tU _ _ (JS a)=_;rw[Zy,ZA a _ _ _ _ rfl,Zz,ZB,show bI 10=[0,1,2,3,4]++[5,6,7,8,9] from rfl,JE,Zv,Zw,ZC];exact Eq.refl (bif a==(0:Z) then Y ((32:Z),()) else(eQ cd (cd.wrap (e0 cd a (cd.wrap (0-a))*125613361)) 27).bind λc=>(aw qI c).bind λd=>Y (bK.wrap d,()))
def UP:jM:=⟨237,[.v gk],[aB],xV⟩
def RD:aC E UP:=
 aC.of (fn:=Tryz.f237) (rs:=[.tmp 2]) [] [] [] FH func237 (by kernel_rfl) (by kernel_rfl) (by kernel_rfl) call237 T3 (by intro a;exact Zx a)
def Rh:aC E ⟨160,[.v cX],[aB],r3⟩:=aJ (aj RD (aj wq aG)) 0xfff03f421b60061aa16f0a6c0d func160
def BL:aC E ⟨161,[.v cX],[cX],r1⟩:=aJ (aj uo aG) 0x10558600d func161
def RC:aC E ⟨233,[.v fX,.v aB],[lU],x3⟩:=aJ aG 0x53d01391bde7118d0ac7d3ef9214db060d func233
def KT:aC E ⟨234,[.v fX,.v aB],[lU,.bool],x4⟩:=aJ aG 0xae324cae5979e8e0fe3c42bc0032316c0fa33799a98d35177a6226ce541ba6f9a5312616247cec1866b350374658d682429b060d func234
def Rk:aC E ⟨165,[.v cX],[cX],x1⟩:=aJ (aj uo aG) 0x10558600d func165
def acc:aC E ⟨230,[.v fX,.v fX],[lU],Eo⟩:=aJ aG 0x41f880420be0ec3b4b01fad20a17d5a9cdab20ad391bde7118d0ac7d3ef9214db060d func230
def RB:aC E ⟨231,[.v fX,.v fX],[aB],AK⟩:=aJ aG 0x620a429b060d func231
def acd:aC E ⟨232,[.v fX,.v fX],[lU],AL⟩:=aJ aG 0x2bfb002c07ff882a23ead4e6d590569c77118d0ac7d3ef9214db060d func232
def F4:aC E ⟨153,[.v cX,.v cX],[cX],qN⟩:=aJ (aj acd (aj RB (aj acc (aj wq (aj uo aG))))) 0x87eec45f48a50c4d35ea5dbd0327ba273d8d7d9851599a1b93c028393a4a49226da742b0e4b5741c7d1a4425335b38ac9ddf6ec6d73aa14fbcfefe8f838d623e950613abe741d88d1c5709c0f41a3bd5b492627075fd81041753060d func153
def KM:aC E ⟨159,[.v cX,.v cX],[cX],x2⟩:=aJ (aj Rk (aj F4 aG)) 0x5e73c6ad8004bcf2b753060d func159
def F5:aC E ⟨154,[.v cX,.v aB],[cX],nB⟩:=aJ (aj KT (aj RC (aj uo (aj KM (aj BK (aj yI aG)))))) 0x657a928fb28058de5154418953bd06329486eca3a7945218b305d21ce9d76312700b99aa9feb8968fe29e0c2b7cc5630429aa70f4b3f0612bdd729b060d func154
def Ri:aC E ⟨162,[.v cX,.v aB],[cX],x6⟩:=aJ (aj F5 aG) 0x12a206e95ad94ccb18d26e4798ccc8a34c0d func162
def KU:aC E ⟨238,[.v gk],[aB],xU⟩:=aJ aG 0x2b42385dc039ada07d3 func238
def Rj:aC E ⟨163,[.v cX],[aB],AH⟩:=aJ (aj KU (aj wq aG)) 0x1870070758600d func163
def yL:aC E ⟨78,[.v cX,.v aB],[cV],oa⟩:=aJ (aj BO (aj Rj (aj Ri (aj BL (aj Rh (aj yI aG)))))) 0x963e283b401bc6a47f500e722ae4a11b67b635a8a6db6db060d func78
def RX:aC E ⟨96,[.v aB],[cV],AN⟩:=aJ (aj yL (aj BK aG)) 0x18a00d func96
def ws:aC E ⟨74,[.v cV],[cV],m1⟩:=aJ (aj yL (aj BO aG)) 0xc570600d func74
def p0:aC E ⟨72,[.v cX],[aB],ls⟩:=aJ (aj yI aG) 0xd func72
def RG:aC E ⟨251,[.v .bool,.v dc],[dc],r5⟩:=aJ aG 0x60d func251
def ach:aC E ⟨248,[.v .bool,.v aB],[dc],AQ⟩:=aJ (aj RG aG) 0x8a2dc93060d func248
def acI:aC E ⟨288,[.v cX,.v aB],[.bool],AI⟩:=aJ (aj KT (aj wq aG)) 0x2990006591f2c01c2d628060d func288
def acJ:aC E ⟨289,[.v .bool,.v aB,.v .bool,.v aB],[.bool],Ev⟩:=aJ aG 0xe2860d func289
def aci:aC E ⟨249,[.v .bool,.v cX,.v aB,.v .bool,.v aB],[cX],Es⟩:=aJ (aj p0 (aj acJ (aj acI (aj Ri (aj Rh (aj BK (aj F4 aG))))))) 0x4841b1f4c951b3668961efe0046ea6adac908c330f1e6893f358452583050a227323b3c816a80161d792bca935c86b039431f0d9047b5c98b2fe17e6a536c48e2860d func249
def ack:aC E ⟨250,[.v cX],[aB,.bool],En⟩:=aJ (aj yI aG) 0x6ce369aa2348940f9bc72429b6c0d func250
def abI:aC E ⟨181,[.v .bool,.v cX,.v aB,.v .bool,.v aB],[dc],Ey⟩:=aJ (aj RG (aj ack (aj aci (aj ach (aj Rj (aj F5 aG)))))) 0x2cd3add023f828516648d1039f3c84d19dcc4db6c48e2860d func181
def RZ:aC E ⟨99,[.v cV,.v aB],[dc],AP⟩:=aJ (aj ws (aj p0 (aj abI (aj BL aG)))) 0x19da5495bdf3e1e25d606f1bd81ea02760dd565cb46a6db060d func99
def ab8:aC E ⟨221,[.v aB,.v aB],[dc],Ew⟩:=aJ (aj RZ (aj RX aG)) 0x60d func221
def aby:aC E ⟨144,[.v dc],[dc],IL⟩:=aJ (aj ab8 aG) 0xd func144
def ady:aC E ⟨58,[.v dc,.v aB],[dc],x0⟩:=aJ (aj KX (aj yJ (aj aby aG))) 0x60d func58
def Rl:aC E ⟨17,[.v lq,.v aB,.v aB,.v aB],[xj],xZ⟩:=aJ (aj ady (aj KY aG)) 0x10e057a81411e7be866cc52f25d6df74f79002f7e5810665d9a801364afb04dd9cca493b5616526035f285796a5e2d5d30229a9e74e8f8805c46276d4157b88b6ecd9611b5df63da49a48cfe5f9be76f12429b0e2860d func17
def ab4:aC E ⟨217,[.v lq],[.bool],Ez⟩:=aJ (aj KX aG) 0x30a5214c0d func217
def BJ:aC E ⟨133,[.v j7],[aB],r6⟩:=aJ (aj ab4 aG) 0xdd7ff49089a231007afee5752252d7622a0dbbe989d68087900b4c0d func133
def RY:aC E ⟨98,[.v j7,.v aB,.v aB],[dc],x8⟩:=aJ (aj BJ aG) 0x137fa01285e44d1e0174c2860d func98
def adH:aC E ⟨79,[.v dc],[.bool],Ex⟩:=aJ aG 0xd func79
def RN:aC E ⟨27,[.v dc],[cV],vA⟩:=aJ (aj adH (aj yL (aj BO (aj KX aG)))) 0xb408ac93c00cf40f9bcce9b6c0d func27
def adQ:aC E ⟨97,[.v cV],[cV],Oh⟩:=aJ (aj yL (aj ws (aj BL aG))) 0x2771e6eff1011974c90a38b2ee992d3a3536c0d func97
def adB:aC E ⟨69,[.v (.a8 .c9 cV)],[cV],Oi⟩:=aJ (aj yL (aj BO (aj ws (aj p0 (aj F5 (aj F4 aG)))))) 0x5ef36a8170566dd971c5e3f17348993db00bc7a6c1a048eb9c9a982f70aca57b3c95080ddcf836d5d93ab4ffc6fdddffa3e1d10ac5f809b17b674cba0738ba3964f7a46ce9335ed7b7e9b677c332649519e81694b3490a6c0d func69
def aa8:aC E ⟨100,[.v j7,.v aB,.v aB],[.bool],Oj⟩:=aJ aG 0x137fa01285e44d1e0174c2860d func100
def adk:aC E ⟨38,[.v lq,.v aB,.v aB],[xj],Of⟩:=aJ (aj RZ (aj RY (aj adQ (aj RX (aj adB (aj RN (aj Rl (aj yJ (aj aa8 aG))))))))) 0x4ce372c987b2f21ede14ce3467d7e176e19fa372f70820edf0023def0574b749658b4e7610a3217b2c22e8f0feaeaf4690e3b9222f2b490685f125798480478fc44e135908c9f143ab2e1efe1e7e0f395aab11a0adf7fae26f9c541f0655c62508e256a0ac2b87a96df92c35b418f15c81d04cf731d7922bb4d986501359c5f77abda0409b650eef740c43a0158921afa52653b55c830b515e8c62ac37611b5ded3b6255c8cfcdf6be770e1d5ca48536c2860d func38
def abH:aC E ⟨18,[.v lq,.v aB],[ha],Eg⟩:=aJ (aj KY (aj yJ aG)) 0x234ec7fd89867c4437f42bce11987e021f92218c37bd4e5bee93d36ad1574e1189dd0058e85a1536b71dbe925704be32809846be9bf06b27a6e88228e95f2d642f65464c965222429b060d func18
def Rd:aC E ⟨134,[.v j7],[qB],AT⟩:=aJ (aj BJ aG) 0xfef023d260ad6452e7260cf4f48a8d7162a9b99f4bacd37e17178bb3f493cb5e0eaea4879c5f018bbb47e69cbd7bc50fe8bb0c11d96cd7f708e754d2990578536c0d func134
def abt:aC E ⟨135,[.v aB,.v aB,.v (.a8 .c9 oR)],[xj],ED⟩:=aJ aG 0x371ff193cf3fc0cfa1ec98b307b3cbf2d6fa702fc971a6f1f888186cacebc9f94f755502e7a86885ecf97108422cf8c7ae7e63cea7efbf91c939942949dd4fea69c14e5839cdd4a34be939203e47f66450564cd6d2e720d4b74ab61df1649acbb487a9e98b15c332d335c5ac269e43b625815c8c0cdf6be770e1d5ca48536c2860d func135
def adt:aC E ⟨51,[.v j7],[u2,aB],vB⟩:=aJ (aj abt (aj Rd (aj BJ aG))) 0xf150cdfe5fe3a923bcd72fea59a722058eaacb1254ce4166d1c772db8cc8e784be87ac5ecd2272bc29b6c0d func51
def Re:aC E ⟨136,[.v aB],[xk],AW⟩:=aJ aG 0xdfc82467e0d9fb84722a694c90a6c0d func136
def Rf:aC E ⟨137,[.v (.a8 .c9 (.a8 .c9 .bool))],[CK],AU⟩:=aJ aG 0x2fa291a1920f6ec8c280bc232e3965453e53d6c324c10abd6cc97b98d778430dac0269ceedd3dd9d281659a5cdefa49bf489d1800774521ac312d619e7e33cb5c33230451508a1e694b3490a6c0d func137
def adu:aC E ⟨52,[.v j7],[pB,aB],vC⟩:=aJ (aj Rf (aj Re (aj Rd (aj BJ aG)))) 0x6cf78da74f226906f4ea204e6f85ca6b4eb16595fcf7eb4861a59d716cb636ae5b71991c9091d0f58bd9a451e14db6c0d func52
def ab3:aC E ⟨212,[.v fg],[.bool],Eh⟩:=aJ aG 0x30a5214c0d func212
def Rx:aC E ⟨214,[.v fg,.v aB],[.bool],AF⟩:=aJ aG 0xc414853060d func214
def KL:aC E ⟨138,[.v mn],[aB],x9⟩:=aJ (aj Rx (aj ab3 aG)) 0x21b3ec802cac4b24b608f396b0c3542a578536c0d func138
def abu:aC E ⟨139,[.v fg,.v aB],[.bool],Ej⟩:=aJ aG 0xd89480d660c5e9f759579d61bf8532f9214db060d func139
def ab5:aC E ⟨218,[.v fg,.v aB],[.bool],EE⟩:=aJ aG 0x4f6b0c414853060d func218
def ab6:aC E ⟨219,[.v fg],[.bool],EF⟩:=aJ (aj Rx aG) 0x30a5214c0d func219
def Ry:aC E ⟨220,[.v mn],[xk],AV⟩:=aJ aG 0xb703efaaa9936cfb20a10e668944cb1d7bbc4ba8b9a6bd8625b2d4652391b40b242a578536c0d func220
def abv:aC E ⟨140,[.v mn,.v fg],[pB,aB],EG⟩:=aJ (aj Ry (aj ab6 (aj ab5 (aj KL (aj Rf (aj Re aG)))))) 0x1c6a8d6b90b7d9b4a14910fa08291137b6378284e37216ceb0a252989437ace3f34a19308f1a6ddc4598817dd8fbd12093b2d9732d5d489452393323a36e1c3648bbc29b6db060d func140
def adv:aC E ⟨53,[.v mn,.v fg],[pB,aB],tB⟩:=aJ (aj abv (aj abu (aj KL aG))) 0x1bc2423828060d func53
def abw:aC E ⟨141,[.v mn],[HK],EH⟩:=aJ (aj Ry aG) 0x4ca507872a7daa731a2232cab0fd68412cdb299cf06a9b3733afa94e51321d3ffc580b32e81d4c0d func141
def Rg:aC E ⟨142,[.v (.ptr .c9 (.st (.pr (.a8 .c9 (.a8 .c9 .bool)) (.pr (.a8 .c9 .bool) .nil)))),.v aB],[g9],AY⟩:=aJ aG 0x37b000383e5fe082858959575560c7711810a65f2429b060d func142
def abx:aC E ⟨143,[.m HK,.v aB],[],AX⟩:=aJ (aj Rg aG) 0x10b27fa69338092a4b941ed211787e1ab7e378c6572663404371af2155fa3e0af9c3200e80ea256f3568ed84a33a765ade3c24123285034082439e14c1d func143
def adw:aC E ⟨54,[.v mn],[(.osl ha),aB],AZ⟩:=aJ (aj abx (aj Rg (aj abw (aj KL aG)))) 0xfc11063dcb87bbaa7f1b023ddd77232fd2750a42b1937c82bc29b6c0d func54
def abr:aC E ⟨13,[.v j7,.v fg,.v lq],[HF],xY⟩:=aJ (aj KY (aj adw (aj adv (aj adu (aj adt aG))))) 0xb84d09814cb6d4647c12a16f58aadc57e142c0551a3acf0dcb222d39d5c4a9ba193d41e123cf43ce0f83692017bbfb59a59df8fdcb84f68a1d765e310b27c1368e60c868da2d735c6a4c7c7b8a9c4b64aee2f9dbe0b39efeee53de6b7d1c218e2585fc3332690c08f0961b323db7a2d5d8eccb14da8df8e11887ef90e36a0d9979908fa5799a09dc2faf449786faf32dc30ff0c2d34f28886c0f1104c5b0480a2e56620f2b6ac48e5ad31eea72125e4bc29b6db6c2860d func13
def aa7:aC E ⟨10,[.v lq,.v aB,.v aB,.v .bool],[u2,ha,HF],Ek⟩:=aJ (aj adk (aj abH (aj Rl (aj yJ (aj abr aG))))) 0x40e4afd9160b85a364550d5b20bb82e4a853de9658b0c052530022493fbcfc98b7149c40c6e4d6e9f902fa8a5f4ce17862936c38a0d func10
def abJ:aC E ⟨182,[.v aB,.v aB,.v aB],[.bool],D0⟩:=aJ aG 0x2860d func182
def Rw:aC E ⟨211,[.v aB],[.bool],tn⟩:=aJ aG 0xd func211
def KR:aC E ⟨200,[.v aB,.v aB],[.bool],vk⟩:=aJ (aj Rw aG) 0x60d func200
def acm:aC E ⟨252,[.v fg],[.bool],D7⟩:=aJ (aj KR aG) 0x30a5214c0d func252
def abK:aC E ⟨183,[.v j7],[.bool],DY⟩:=aJ (aj acm aG) 0xc4e38401d66b93f29e80930b3bf78f127d54e40fbd6eac4b248cdff8c5060d1e00b4c0d func183
def KP:aC E ⟨194,[.v dc],[aB,dc],xK⟩:=aJ aG 0xd func194
def wm:aC E ⟨147,[.v dc],[.bool],pJ⟩:=aJ (aj KP aG) 0xd func147
def abM:aC E ⟨185,[.v dc],[.bool],IB⟩:=aJ (aj wm aG) 0xd func185
def acn:aC E ⟨253,[.v lq,.c 185 []],[aB],ID⟩:=aJ (aj abM aG) 0x3195177853060d func253
def abL:aC E ⟨184,[.v lq,.c 185 []],[.bool],D1⟩:=aJ (aj acn aG) 0x60d func184
def F3:aC E ⟨101,[.v j7],[aB],tz⟩:=aJ (aj abK (aj abJ (aj abL aG))) 0x67b600800a7b34c0d func101
def aa9:aC E ⟨102,[.v fg,.v aB],[g9,.bool],ER⟩:=aJ aG 0x24ba7e56d00a13fd1c6e649549b74dff84c188d32f8afd54b1020cf3dcc1d7726fed04fe9ab949db0f0a6db060d func102
def Rp:aC E ⟨186,[.v j7],[qB],xW⟩:=aJ aG 0xffa42fc666439e93c588aef5307a40487df8decb96c7d388140c83212c38c63dac169e0af80c5dda3f34e5ebde287f45d879e23ce5ba6bfb8473aac94c8b4af0a6c0d func186
def acK:aC E ⟨290,[.v (.a8 .c9 oR)],[qB],IC⟩:=aJ aG 0x68a00d func290
def KK:aC E ⟨122,[.v aB,.v aB],[aB],vj⟩:=aJ (aj Rw aG) 0x60d func122
def acM:aC E ⟨293,[.v fg],[aB],Dd⟩:=aJ aG 0x632a2d9d6f0a6c0d func293
def RR:aC E ⟨292,[.v oR,.v oR],[aB],xX⟩:=aJ (aj acM (aj KK aG)) 0x44484baca6d40def2b0df6a0133753060d func292
def ac6:aC E ⟨329,[.m qB,.v aB,.v aB,.c 292 []],[],AD⟩:=aJ (aj RR aG) 0x1fdca31dde7cb0d8bf34bc3c1d304081ba01abde156dcc56a12968308e8d4d148233fc240beae1c265119b1fcee01a7912ec06fb61d06a528c369ed21e670c0613412180c2c38a1d func329
def ac7:aC E ⟨330,[.m qB,.v aB,.v aB,.v aB,.c 292 []],[],Ee⟩:=aJ (aj RR aG) 0x618d4d1092b124cd52f05993a6e2203a40c66b8b14bd9add5ea5af44781cf15546dae1a825886c2242b82dc7ebc6c7ab7ca64629fd4829c93800280de8bcc5ca1238a1d func330
def acW:aC E ⟨314,[.m qB,.v aB,.c 292 []],[],IK⟩:=aJ (aj ac7 (aj ac6 aG)) 0x37989f703c821cbbc5f48089b3c0428d79ba2d5bd4a208b73ed8741a93cb0db19d4a09848e70d93620914769b0a1d func314
def acL:aC E ⟨291,[.m qB,.c 292 []],[],II⟩:=aJ (aj acW aG) 0x1d func291
def aco:aC E ⟨254,[.v (.a8 .c9 oR)],[qB],DZ⟩:=aJ (aj acK (aj acL aG)) 0x0 func254
def abN:aC E ⟨187,[.v aB,.v aB,.v (.a8 .c9 oR)],[xj],DX⟩:=aJ (aj aco aG) 0x959d45da31ed7102809b9a0142053dc3f335aaee3b3355322320a652b1454f9e264022e136aa17af72e9088f5dbbd5332351d063bfd0f6d35eac33b7abac4c38a38504bc0fac0b2f6f07869dc2f816bcd5c9b5f959c9031e7f90692baab0b010c0f72fb6bd57bf8332d723fb3cbf7683cee3680f113a5618198a33039496922ae51ed9585e0a97f9af0bc7eee3ea155817ed8e712dcef21db00ae4745efb5f3faaceae5276f0a6c2860d func187
def aba:aC E ⟨103,[.v j7],[u2,aB],DW⟩:=aJ (aj abN (aj Rp (aj F3 aG))) 0x1df4337f97f3c33500e9d4b34e440b6203aab2c6b1d5349e5d368e3b96dc664743c784be87e89adecd2632bc29b6c0d func103
def Rq:aC E ⟨188,[.v aB],[xk],Aj⟩:=aJ aG 0xc169ba8367ee11c8ab853234f0a6c0d func188
def abO:aC E ⟨189,[.v j7],[qB],DV⟩:=aJ (aj Rp (aj F3 aG)) 0x345b8600d func189
def Rs:aC E ⟨190,[.m xk,.v aB,.v aB],[],Am⟩:=aJ aG 0x1b90811b875b96fba90abaafbe04f9b237bf78113530a1d func190
def acp:aC E ⟨255,[.v (.a8 .c9 (.a8 .c9 .bool)),.v aB],[g9],Dr⟩:=aJ aG 0x948004acb192e60c7711810d05f24c1bc29b060d func255
def Rt:aC E ⟨191,[.v (.a8 .c9 (.a8 .c9 .bool))],[CK],Al⟩:=aJ (aj acp aG) 0x19b0646c8aac2424bc2bfce5b728325d2f1d7610c5e59c1ac58db9c2ae34926b4bfe5b98679f8cf2d70cc8c114542287c452cd240f0a6c0d func191
def abb:aC E ⟨104,[.v j7],[pB,aB],Ai⟩:=aJ (aj Rt (aj Rs (aj abO (aj Rq (aj F3 aG))))) 0x1cf822550ff7d77877ce66f6c1b636ae5b7199653012123a1e02ab737b34a9bc29b6c0d func104
def abS:aC E ⟨197,[.v fg,.v aB],[.bool],Ds⟩:=aJ aG 0x13f44846cbb9863e60a39d3c29b060d func197
def abV:aC E ⟨201,[.v aB],[.bool],Eb⟩:=aJ aG 0xd func201
def KJ:aC E ⟨113,[.v fg,.v aB],[aB,.bool],vw⟩:=aJ (aj abV (aj KR aG)) 0x1098cc9b28a3b4db060d func113
def Ru:aC E ⟨198,[.v mn,.v aB,.v aB],[.bool],xL⟩:=aJ (aj KJ aG) 0x8e0e02860d func198
def Ra:aC E ⟨107,[.v mn],[aB],Ah⟩:=aJ (aj Ru (aj abS aG)) 0x4bd4d424fd40bed2a076cf69658e6c3a9308c83eeb40b7f36760e07f7730cdd4d51aa578536c0d func107
def acs:aC E ⟨258,[.v mn,.v aB],[.bool],Dv⟩:=aJ aG 0x23828060d func258
def acF:aC E ⟨280,[.v dc],[aB],Oe⟩:=aJ aG 0x209746502b745dc039f07d3 func280
def Rv:aC E ⟨210,[.v dc],[aB],DT⟩:=aJ (aj acF aG) 0xd func210
def adb:aC E ⟨336,[.m g9,.v aB,.v aB],[],Ea⟩:=aJ (aj KR aG) 0x38a4b03519c13a64e224dcdca5ab1d58671f6a6e5efc15ef57660e8f36506b24e15fd6d5d47412c43611215352028144b5ef00d873e014130d9eb4879003018400466030b0a1d func336
def ac8:aC E ⟨332,[.m g9,.v aB,.v aB,.v aB],[],Ed⟩:=aJ (aj adb aG) 0xa037a2f317458008e9a7451b130b0185b func332
def acX:aC E ⟨316,[.m g9],[],AC⟩:=aJ (aj ac8 (aj Rv aG)) 0x0 func316
def UQ:jM:=⟨259,[.v fg],[.bool],Du⟩
def act:aC E UQ:=MO.agZ bn (sort:=λd=>(AC (d,())).map λa=>a.1) (λe f b=>by obtain⟨a,c,rfl⟩:=fO.1 b;exact acX.2 (e,()) a c)
def acr:aC E ⟨257,[.v aB,.v CL],[.bool],It⟩:=aJ (aj acs aG) 0x60d func257
def acN:aC E ⟨294,[.v fg,.c 257 [CL]],[aB],IG⟩:=aJ (aj acr aG) 0x3195177853060d func294
def acq:aC E ⟨256,[.v fg,.c 257 [CL]],[.bool],D5⟩:=aJ (aj acN aG) 0x60d func256
def abP:aC E ⟨192,[.v mn,.v fg],[aB],Dq⟩:=aJ (aj act (aj Ra (aj acq aG))) 0x23828060d func192
def abQ:aC E ⟨193,[.v mn,.v fg],[pB],Dt⟩:=aJ (aj Ru (aj Rt (aj Rs (aj Rq aG)))) 0x18715cf7c5789cb2c9b69bf02e37c46b3d0ab0d91a67ec23bf03771115205fd4aab44e10616d60f396e96c6d5d46e452392123a37717b64961143c29b060d func193
def abc:aC E ⟨105,[.v mn,.v fg],[pB,aB],Ak⟩:=aJ (aj abQ (aj abP aG)) 0x1bc2423828060d func105
def mD:aC E ⟨226,[.v fX],[fX],iZ⟩:=aJ aG 0x1a28f318a51a6c0d func226
def uq:aC E ⟨239,[.v .bool,.v fX],[cX],mw⟩:=aJ (aj mD aG) 0x21200d func239
def F6:aC E ⟨168,[.v aB],[cX],vq⟩:=aJ (aj uq aG) 0xdf530f0123de5733a6c0d func168
def abR:aC E ⟨195,[.v dc],[.bool],Do⟩:=aJ aG 0xd func195
def Gb:aC E ⟨240,[.v fX],[lU],vx⟩:=aJ aG 0x10a00d func240
def KQ:aC E ⟨196,[.v cX],[cX],tv⟩:=aJ (aj Gb (aj uq aG)) 0x13eff81bf3c519fa4e0f047e9e9ffe2c0dd4c0d func196
def F8:aC E ⟨177,[],[cV],xH⟩:=aJ aG 0x608 func177
def ab9:aC E ⟨222,[.v cX],[cX],Dz⟩:=aJ (aj Gb (aj uq aG)) 0x2e8f139fdf62eff0bf10f98af03cb94add4c0d func222
def yH:aC E ⟨149,[.v cX],[aB],qL⟩:=aJ (aj mD aG) 0x58600d func149
def Rz:aC E ⟨223,[.v cX],[aB],Ao⟩:=aJ (aj RD aG) 0x18db00319516d1e14c0d func223
def acG:aC E ⟨282,[.v fX],[aB],Ar⟩:=aJ (aj KU aG) 0xd func282
def Ga:aC E ⟨224,[.v cX],[aB],tu⟩:=aJ (aj acG (aj mD aG)) 0x58600d func224
def RP:aC E ⟨286,[.v fX,.v aB],[fX],xP⟩:=aJ (aj mD aG) 0x25561a988284004635c91aca8599e2f0a6db060d func286
def acV:aC E ⟨313,[.v gk],[.bool],Iu⟩:=aJ aG 0xd func313
def ac5:aC E ⟨328,[.v fX,.c 313 []],[aB],IH⟩:=aJ (aj acV aG) 0x3195177853060d func328
def acU:aC E ⟨312,[.v fX,.c 313 []],[.bool],AA⟩:=aJ (aj ac5 aG) 0x60d func312
def RQ:aC E ⟨287,[.v fX,.v aB],[fX,.bool],Aq⟩:=aJ (aj mD (aj acU aG)) 0xbbe80961156045d82d18e7622afa3a37fab0b3f09b34a95aa7f65628436c8eb47c82b9eb684db060d func287
def KW:aC E ⟨245,[.v fX,.v fX],[fX],xO⟩:=aJ (aj mD aG) 0xdb4c17e506b0084181cf87f15780fd690b822cf56a736a694e64aef79d79b0e0d1f4400542702a07d3 func245
def RF:aC E ⟨247,[.v cX,.v aB],[cX,aB],rZ⟩:=aJ (aj RQ (aj RP (aj KW (aj uq (aj mD aG))))) 0x2c0d40b7824f6784d8b1f0638b6aed0c267a5d26b10ad4f50c1e4140483ac0dd20c78ab926cc6453060d func247
def RA:aC E ⟨225,[.v cX,.v aB],[cX],Af⟩:=aJ (aj RF aG) 0x12a206e95ad94ccb18d26e4798ccc8a34c0d func225
def wo:aC E ⟨148,[.v cV],[cV,.bool],oY⟩:=aJ (aj RA (aj Ga (aj Rz (aj ab9 (aj F8 (aj yH aG)))))) 0x1326d3dddf3a6b7574272efdf39dec77aaf10f35f74536fe341c5335c93633cc66684b4db6c0d func148
def BM:aC E ⟨167,[.v cX,.v aB],[cV],tp⟩:=aJ (aj wo aG) 0x196325628060d func167
def pZ:aC E ⟨106,[.v dc],[cV],kZ⟩:=aJ (aj KQ (aj abR (aj KP (aj F6 (aj BM aG))))) 0x4b1eed0378d36dc666172033de6f513426c0d func106
def RV:aC E ⟨39,[.v j7,.v fg],[(.ptr .bj xm),aB],tC⟩:=aJ (aj pZ (aj abc (aj abb (aj aba (aj aa9 (aj F3 aG)))))) 0x5018ebc57ea0905347e1dabe17afcc003ed06288a63946180f7ee1f5c9b4cbb46d42b47ca54170347b73464365fea0eba37415b76f300aa73978eec5622fcfde5343ed275965c844335fe446172956de91f65cb8a27fd6f0273e4889c47fcd3fc925964538d48400b05bd924b4e5415880f4eb014fae491d978b4fb45d4b0aba88dd274cdd4b44d0b55f578d602ddfa21edc28a626132d9ede1c31fd9acfec65d79dbfe4a5d606f1be309200dd565cb46a6db6db060d func39
def acO:aC E ⟨299,[.v dc,.v dc],[dc,dc],DU⟩:=aJ aG 0x60d func299
def acu:aC E ⟨260,[.v dc,.v dc],[dc,dc],IA⟩:=aJ (aj acO aG) 0x60d func260
def abT:aC E ⟨199,[.v fg,.v aB],[g9],D8⟩:=aJ (aj acu aG) 0x4f1df1c7b43d69ee5cbeb6acff078e0b6c79603b14c9a2997259069be51e39053060d func199
def abd:aC E ⟨108,[.v nt,.v aB],[g9,.bool],EO⟩:=aJ (aj abT aG) 0x8c6b0a4915c00bd6692471aa627386d879118613a822be88c5866006e60ebb93013c46523febc29b060d func108
def abf:aC E ⟨110,[.v pA,.v aB],[.bool],EQ⟩:=aJ aG 0x29886fc0076f4bdfe95654edcc34053e6b0a1e14db060d func110
def abh:aC E ⟨112,[.v nt,.v fg,.v pA],[.bool],EP⟩:=aJ (aj KJ aG) 0x313b180181daa81aac5eb8bc29b6c2860d func112
def abe:aC E ⟨109,[.v pA,.v (.ptr .c9 aB)],[.bool],IT⟩:=aJ (aj abf aG) 0x57828060d func109
def abi:aC E ⟨114,[.v nt,.c 109 [(.ptr .c9 aB)]],[aB],IE⟩:=aJ (aj abe aG) 0x3195177853060d func114
def adm:aC E ⟨41,[.v nt,.c 109 [(.ptr .c9 aB)]],[.bool],D2⟩:=aJ (aj abi aG) 0x60d func41
def abg:aC E ⟨111,[.v pA,.v (.ptr .bj nt),.v (.ptr .c9 ha)],[.bool],IU⟩:=aJ (aj abh aG) 0x15e0e02860d func111
def abj:aC E ⟨114,[.v nt,.c 111 [(.ptr .bj nt),(.ptr .c9 ha)]],[aB],IF⟩:=aJ (aj abg aG) 0x3195177853060d func114
def adn:aC E ⟨41,[.v nt,.c 111 [(.ptr .bj nt),(.ptr .c9 ha)]],[.bool],D3⟩:=aJ (aj abj aG) 0x60d func41
def adl:aC E ⟨40,[.v mn,.v nt],[aB],vD⟩:=aJ (aj KJ (aj abd (aj Ra (aj adn (aj adm aG))))) 0x18150ea83acfc35258f27581a39e74c5d1369b7838268caf65751e1fd1a083817c0984d9ac0bda67784ece531e9c3d2cdb68776d62592527f0e85fd0587d05d021347c83152d55954536db060d func40
def abl:aC E ⟨115,[.v pA,.v (.a8 .c9 kW)],[g9,aB],DP⟩:=aJ aG 0x6fc9e5f6e37f070ceaf6e7f98519f8018dcd9410b424c3745a1cc734aace3ce5b983aee4604f5994948b43c29b060d func115
def Rc:aC E ⟨116,[.v (.ptr .c9 (.st (.pr aB (.pr mn (.pr (.a8 .c9 (.fj .c9 cV)) .nil))))),.v aB,.v aB],[cV],vE⟩:=aJ aG 0x19a02860d func116
def abW:aC E ⟨202,[.v fg,.v aB],[aB],AB⟩:=aJ aG 0x3195177853060d func202
def KO:aC E ⟨172,[.v cV,.v cV],[cV,cV,.bool],xI⟩:=aJ (aj wo aG) 0x16dfd661c5ccb66bde98b8a9221192db268d4db060d func172
def BN:aC E ⟨180,[.v cX,.v aB],[cX],oX⟩:=aJ (aj RF aG) 0x848060d func180
def Rn:aC E ⟨173,[.v cV,.v cV],[cX,cX,aB],Ae⟩:=aJ (aj BN aG) 0x9093705ab462aadc7bbb83df416ea3999ba9b060d func173
def acT:aC E ⟨311,[.v gk],[.bool],De⟩:=aJ aG 0xd func311
def acH:aC E ⟨284,[.v gk,.v gk],[aB],Dc⟩:=aJ (aj acT aG) 0x60d func284
def KV:aC E ⟨241,[.v fX,.v fX],[aB],xM⟩:=aJ (aj acH (aj KK aG)) 0x620a429b060d func241
def RE:aC E ⟨246,[.v fX,.v fX],[fX],xN⟩:=aJ (aj mD aG) 0x913b594e402c0809a80b1171f56a736b342e69c77118d0dc7d3ef92c25e14db060d func246
def F9:aC E ⟨179,[.v cX,.v cX],[cX],ts⟩:=aJ (aj RE (aj KW (aj KV (aj uq (aj mD aG))))) 0x398267c5e5cb421c0bf15ec412370d6777027b00ff919578eb969b060d func179
def Rm:aC E ⟨170,[.v cV,.v cV],[cV],Ac⟩:=aJ (aj F9 (aj F8 (aj Rn (aj KO (aj BM aG))))) 0x21e434648060d func170
def abm:aC E ⟨117,[.m s5,.v kW],[],DI⟩:=aJ (aj abW (aj Rm aG)) 0x4d7eb7f7388a0e93d703f0f116e0d1ca88071de5398f98e789e7b619828025835f549337c3d2b21f3062a44aacb349de825ddc5800acc277de6dac0e127e483ada7b8e7ebc41feabe5600fa57752de1e93180e54aff3e888d164af718ffc3bbc7e83d634c2a36dea5612b34904e3c02256e87fd5be3fa3d944d6a8e9003feae5ec8ef5cc154e4ca4246038d0fd2c6093b61e14c1d func117
def adq:aC E ⟨43,[.v (.ptr .c9 (.st (.pr aB (.pr mn (.pr (.a8 .c9 (.fj .c9 cV)) .nil))))),.v pA,.v (.a8 .c9 kW)],[s5,aB],DG⟩:=aJ (aj abm (aj Rc (aj abl aG))) 0x79006c4a046b69142cf4fcfd2c095d0c411aff892803a8c831265f9cdf6f83a8c271127dd76b6ea4e1d5f411ebaf3515246d2f593130c451b113bbcd932e301e093c0987fc92005beca2b4328551ca1cba4c9f02122774d5d1e4b75954bb2b0648659be252c7745276b646b749c3ad22a4ae89b9cb78324ca13dc8377d85df53cd56c04492c64f64a4c4e7055a10bcc24f6321c66a40764cb4cd9b6847dd7f3c2950194a4a312761443e7a1f750295ac96edb79a0436c50afaa0438e8f9c9eb17551c278591d7cff4adb627b34bad079d86a39429046b7f389a52a0a3756dfd776285f33ef3ca4da4f46f88c874a6da31e860073087cc0eca1a3070c6b1d28fe13b2d59a1382001406f45e62e536c2860d func43
def yM:aC E ⟨83,[.v aB],[cV],pH⟩:=aJ (aj F6 (aj BM aG)) 0x18a00d func83
def KN:aC E ⟨166,[.v cV],[cV],vl⟩:=aJ (aj wo aG) 0x18a00d func166
def yK:aC E ⟨61,[.v cV],[aB],pI⟩:=aJ (aj yH (aj wo aG)) 0xd func61
def F7:aC E ⟨169,[.v cX],[cX],tr⟩:=aJ (aj Gb (aj uq aG)) 0x14d10558600d func169
def acR:aC E ⟨302,[.v cV],[rM],Is⟩:=aJ (aj F7 aG) 0xacaa17150fde9cdd00cdd4c0d func302
def acZ:aC E ⟨319,[.v rM],[aB],Di⟩:=aJ (aj Ga aG) 0x28e0600d func319
def ade:aC E ⟨344,[.v cX,.v cX],[cX],DA⟩:=aJ (aj F9 aG) 0x425628060d func344
def Ro:aC E ⟨174,[.v cX,.v cX],[aB],An⟩:=aJ (aj KV (aj mD (aj yH aG))) 0xb1d628060d func174
def ac9:aC E ⟨333,[.v rM,.v aB],[cX,aB,.bool],Ad⟩:=aJ (aj ade (aj RA (aj Ga (aj BN (aj Ro (aj F6 (aj yH aG))))))) 0x1c18518eef2bd6b077e5b23133f662829d83973b2b940fafa2c53c00f0fdbddf7b7bff50820b4cea6db060d func333
def ac1:aC E ⟨321,[.v rM,.v aB,.v aB],[cX],Dj⟩:=aJ (aj ac9 (aj Rz (aj KQ (aj BN (aj F9 (aj F6 (aj yH aG))))))) 0x516e67d9c03d4be4b593b527a8a141cf3ec73874347881059210e08bec0ff815cc2e4256ca7579f26ae4cb26c2860d func321
def ac0:aC E ⟨320,[.v cX],[aB,.bool],Dx⟩:=aJ (aj mD aG) 0xa7c641ad7f1d2d071bccbdff54d885b951b13e8897972bc29b6c0d func320
def RT:aC E ⟨322,[.v dc,.v .bool],[dc],vp⟩:=aJ aG 0x60d func322
def ac2:aC E ⟨323,[.v .bool,.v aB],[dc],Dp⟩:=aJ (aj RT aG) 0x8a2dc93060d func323
def RS:aC E ⟨301,[.v rM,.v aB],[dc],Ag⟩:=aJ (aj ac2 (aj RT (aj ac1 (aj ac0 (aj acZ (aj F7 aG)))))) 0x1ea87807b3e04826db060d func301
def acv:aC E ⟨262,[.v cV,.v aB],[dc],Dm⟩:=aJ (aj yK (aj acR (aj RS (aj KN aG)))) 0x60d func262
def KS:aC E ⟨206,[.v kW,.v aB,.v aB],[dc],tx⟩:=aJ (aj acv aG) 0x2860d func206
def acY:aC E ⟨318,[.v dc],[aB],Dl⟩:=aJ (aj KP aG) 0x107f69059a6c0d func318
def acQ:aC E ⟨300,[.v lq],[.bool],Dn⟩:=aJ (aj acY aG) 0x316513c5e14c0d func300
def RI:aC E ⟨261,[.v dc],[dc],xJ⟩:=aJ (aj acQ aG) 0xd func261
def K2:aC E ⟨86,[.v cV,.v cV],[aB,.bool],xG⟩:=aJ (aj Ro (aj Rn (aj KO aG))) 0x444878060d func86
def abX:aC E ⟨203,[.v kW,.v aB],[cV,aB,aB],Ax⟩:=aJ (aj K2 (aj yM (aj RI (aj KS (aj wm (aj pZ aG)))))) 0x588fc0c7e46989ff34ea4ff874136a293cca76335cc91c70abeda2e0d06c6e658ea48ba045260ed1b7d1c9ab649c3c29b060d func203
def abY:aC E ⟨204,[.v kW,.v aB],[cV],Au⟩:=aJ (aj RI (aj KS (aj pZ aG))) 0x648060d func204
def acg:aC E ⟨244,[.v fX,.v fX],[fX],DD⟩:=aJ (aj mD aG) 0x2fc9a11e020c623fde3ecd3f4be637e9993a2a0976f654c3424c58967aaca694e303fe3afed168f9093060d func244
def abG:aC E ⟨178,[.v cX,.v cX],[cX],Dy⟩:=aJ (aj acg (aj uq (aj mD aG))) 0x38bc3f495bb3d89730d0333753060d func178
def wu:aC E ⟨90,[.v cV,.v cV],[cV],mZ⟩:=aJ (aj abG (aj F8 (aj KO (aj BM aG)))) 0x1319ea9cf458ab1896b6ab26818f4fdfafcf5929aad2401baacb968d4db060d func90
def abZ:aC E ⟨205,[.v cV,.v cV],[.bool],xS⟩:=aJ (aj wu (aj K2 (aj yM aG))) 0xe1dc28060d func205
def abn:aC E ⟨118,[.v kW],[g9,aB],DJ⟩:=aJ (aj wu (aj yK (aj abZ (aj abY (aj abX aG))))) 0x95245812a0a3df38ebf57b4ecb1a4babfe744d44e861e3a90899d7d2f6ef9cda1db9a3f8a9e0152b992392b3730cb94b1e14c0d func118
def RJ:aC E ⟨263,[.v kW],[g9],Ay⟩:=aJ aG 0x5e8002f94f0ae607ee1180abe5323af0a6c0d func263
def adg:aC E ⟨350,[.v fX,.v gk],[fX,gk],DC⟩:=aJ (aj mD aG) 0x10230b9c413d9c26b918d3b27d6f29214db060d func350
def RU:aC E ⟨326,[.v gk],[aB],vv⟩:=aJ (aj KU aG) 0xd func326
def US:jM:=⟨351,[.w gk,.v fX],[gk],Ap⟩
def adh:aC E US:=
 .q aG (.k [1] (.n (.n (.t .none (.d [.b [0],.a,.b [0],.b [0],.a,.a,.b [0],.a,.a,.b [0],.b [0],.a,.a,.a]) (.n (.t .none (.o (.k [5] (.p ⟨[(0,.w 0),(7,.v dc),(8,.v dc)],[(0,lU)]⟩ (.x 0 ⟨[(0,.w 0),(7,.v dc)],[(0,lU)]⟩) (.t (.wS [7,8] ⟨[(0,.w 0)],[(0,lU)]⟩) (.t .none (.d [.a,.a,.a,.a,.a,.a,.a,.a,.a,.a,.a,.a,.a,.b [0],.a,.a,.b [0],.b [0],.a,.a,.a,.a]) .l) .l)))) (.n (.t .none (.n (.o (.k [5,7,84,85] (.p ⟨[(0,.w 0),(9,.v dc),(10,.v dc),Ck 86],[(0,lU)]⟩ (.x 2 ⟨[(0,.w 0),(9,.v dc),(10,.v dc)],[(0,lU)]⟩) .l)))) (.n (.n (.n (.n (.t .none (.n (.o (.k [5,7,140,141] (.p ⟨[(0,.w 0),(9,.v dc),Ck 142],[(0,lU)]⟩ (.x 4 ⟨[(0,.w 0),(9,.v dc)],[(0,lU)]⟩) .l)))) .l))))))))))))) func351 call351
def adf:aC E ⟨345,[.v fX,.v fX],[fX,fX],DB⟩:=aJ (aj adh (aj adg (aj RU (aj RQ (aj RP (aj KV (aj Gb (aj mD aG)))))))) 0x18aeeeedfec8ea0182e7212c918b4d25c414f669368a4637e66e53e6c922f3a78536db6db060d func345
def ada:aC E ⟨334,[.v cX,.v cX],[cX,cX,aB],Dw⟩:=aJ (aj adf (aj RE (aj KW (aj uq (aj mD aG))))) 0xf788e0cb21542043b401bc9747f2c0e722a5ad9592864d80a9ce054cf7b632a826db060d func334
def ac3:aC E ⟨324,[.v cV,.v cV,.v aB],[rM],Dh⟩:=aJ (aj ada (aj Ga (aj BN (aj F7 (aj yH aG))))) 0x2d553b25a474298294e1aa7de92eec6701da11a33e060d970ef81ccfc0ebba803338937a0666ea6c2860d func324
def Gc:aC E ⟨303,[.v cV,.v cV,.v aB],[dc],tq⟩:=aJ (aj yK (aj ac3 (aj RS (aj KN aG)))) 0x57bd99e6dacfaac797f32a792d67b8db2a141d202d2ede8d4c2860d func303
def RL:aC E ⟨268,[.v (.a8 .c9 cV),.v cV],[s6],pK⟩:=aJ (aj wu aG) 0x3a4a66f7e0931dc46c42f97c8e735bc29b060d func268
def abF:aC E ⟨171,[.v cV],[cV],Dg⟩:=aJ (aj KQ (aj wo aG)) 0x93c00cf192331ba6c0d func171
def Gd:aC E ⟨85,[.v cV,.v cV],[cV],vo⟩:=aJ (aj abF (aj Rm aG)) 0x47b452bee004bcf2b753060d func85
def RK:aC E ⟨267,[.m s5,.v fg,.v (.a8 .c9 cV),.v (.a8 .c9 cV)],[],qM⟩:=aJ (aj wu (aj Gd aG)) 0x1df4ec24225ed6d23853449b6ba86f6015a49eb3cc6a16100ebbb3039beafd16394c3c0e945c8fc0bf9d0fb12faad8742398030ddda31ed7b4d0f46d0c0613c13980c36cd2c38a1d func267
def acx:aC E ⟨265,[.v aB],[cV],DO⟩:=aJ (aj yM aG) 0x18a00d func265
def acy:aC E ⟨266,[.v kW,.v fg,.c 265 [],.v cV],[xl,s6,aB],Iv⟩:=aJ (aj Gc (aj acx (aj wm (aj pZ aG)))) 0x110edc05890329cfb891e901349a2b11286e4e1da761e9463519443f16cd2e312022052e81deec4c21f6d3b9d8d628dc0976d2a9bbb4e1eb89ab0af6c30ead0ac6a803630b4c2b01821dc12a599684c3c2b15bad91576eace834e39cc72dd0b848be79179ab611a49992c2ea285d33dd1205e24d51dde14db0e2860d aom
def acw:aC E ⟨264,[.v aB,.v (.ptr .bj kW),.v (.ptr .bj aB)],[cV],DN⟩:=aJ aG 0x32efc6f7e0f204cdd4c2860d func264
def acz:aC E ⟨266,[.v kW,.v fg,.c 264 [(.ptr .bj kW),(.ptr .bj aB)],.v cV],[xl,s6,aB],Iw⟩:=aJ (aj Gc (aj wm (aj pZ (aj acw aG)))) 0x110edc05890329cfb891e901349a2b11286e4e1da761e9463519443f16cd2e312022052e81deec4c21f6d3b9d8d628dc0976d2a9bbb4e1eb89ab0af6c30ead0ac6a803630b4c2b01821dc12a599684c3c2b15bad91576eace834e39cc72dd0b848be79179ab611a49992c2ea285d33dd1205e24d51dde14db0e2860d aom
def ab0:aC E ⟨207,[.m s5,.v aB,.v dc],[(.osl mW),aB],DM⟩:=aJ (aj yM (aj yK (aj RL (aj RK (aj RJ (aj pZ (aj acz (aj acy aG)))))))) 0x8a17e9f13b5ca7b18d7c88dcc46098fd8c3d0a5ca71f7e35ebc60e0916a764cff978abe49c9a29612ec91cb5b47a3f7847c6a35999ce961406ada1da9b0a1d func207
def K1:aC E ⟨62,[.v (.a8 .c9 cV)],[cV],vt⟩:=aJ (aj wu (aj Gd aG)) 0x5ec6547812c55d1cccdd4c0d func62
def RM:aC E ⟨269,[.v aB,.v aB,.v aB,.v cV,.v cV,.v (.ptr .bj kW)],[cV],Aw⟩:=aJ (aj wu (aj Gd aG)) 0x1758e808151921459c5a34a403333337531648e2860d func269
def acC:aC E ⟨270,[.v aB,.v (.ptr .bj (.fn 269 (.pr (.ptr .bj kW) .nil))),.v (.ptr .bj aB),.v (.ptr .bj aB),.v (.ptr .c9 nZ)],[cV],DK⟩:=aJ (aj RM aG) 0x137b461f07c441ccdd4c48e2860d func270
def acA:aC E ⟨266,[.v kW,.v fg,.c 270 [(.ptr .bj (.fn 269 (.pr (.ptr .bj kW) .nil))),(.ptr .bj aB),(.ptr .bj aB),(.ptr .c9 nZ)],.v cV],[xl,s6,aB],Ix⟩:=aJ (aj Gc (aj wm (aj pZ (aj acC aG)))) 0x110edc05890329cfb891e901349a2b11286e4e1da761e9463519443f16cd2e312022052e81deec4c21f6d3b9d8d628dc0976d2a9bbb4e1eb89ab0af6c30ead0ac6a803630b4c2b01821dc12a599684c3c2b15bad91576eace834e39cc72dd0b848be79179ab611a49992c2ea285d33dd1205e24d51dde14db0e2860d aom
def acD:aC E ⟨271,[.v aB,.v (.ptr .bj (.fn 269 (.pr (.ptr .bj kW) .nil))),.v (.ptr .bj aB),.v (.ptr .bj aB),.v (.ptr .c9 nZ)],[cV],DL⟩:=aJ (aj RM aG) 0x137b461f07c441ccdd4c48e2860d func271
def acB:aC E ⟨266,[.v kW,.v fg,.c 271 [(.ptr .bj (.fn 269 (.pr (.ptr .bj kW) .nil))),(.ptr .bj aB),(.ptr .bj aB),(.ptr .c9 nZ)],.v cV],[xl,s6,aB],Iy⟩:=aJ (aj Gc (aj wm (aj pZ (aj acD aG)))) 0x110edc05890329cfb891e901349a2b11286e4e1da761e9463519443f16cd2e312022052e81deec4c21f6d3b9d8d628dc0976d2a9bbb4e1eb89ab0af6c30ead0ac6a803630b4c2b01821dc12a599684c3c2b15bad91576eace834e39cc72dd0b848be79179ab611a49992c2ea285d33dd1205e24d51dde14db0e2860d aom
def ab1:aC E ⟨208,[.m s5,.v aB,.v aB,.v lq],[(.osl mW),aB],Av⟩:=aJ (aj K1 (aj RL (aj RK (aj RJ (aj pZ (aj acB (aj acA aG))))))) 0x220f838017cabcc38d878864832136ef3705b21222f92856b512d000ac6106dd11d7fd766c0ee7cdd1327c41821491f59bcb4d64e439477f40f33e7f9836363caab8dc72c67b37f903bbd26805f5ced22f4be8a5de809fd2db119dd3276eb914db624487400f6a296a30d4d13e4f43eff5f9c67dbfbaa2f4af39744c7fc7fe6ed2de915ec27b66e93b65d573b6a9d0794e3676424f1cee3b8566c3e45666ea6c38a1d func208
def abo:aC E ⟨119,[.m (.optr CN),.m s5,.v fg],[aB],DQ⟩:=aJ (aj ab1 (aj ab0 (aj KS aG))) 0x171e5c0d980f51515dfe713bf7bf1998ef583f32159c176172d22ac1c32788fffdecc426808b436db260497d926041bf98c4a80fa01fec211753fdf0aabfa8a69f79cb72448212a619dde991fa5577ac0fdfaa074cc49092bd5c7cfc90a5bff7b9eb418aa8505b5f1fe26481e08e7fb4e56b0bc20f7ce47190fa6dffd26f600515e958bac3d88dac24daebef5c721c25c32a62774a4d804f42e2a2f5291949fdc68d36d942cc33cac69f7622513414d7a452c323f1974748640655bdca2b4516da4356b826ff2b1476bb37c940347b4b3f26b68e74894c355e06c9045feda2aa6a9abf2c8ac32e03fc4c07e34ea4e3a75e8897f0708e30132137ca2d87fb4c742f65f1da0d561896e673f1676d63850054424626a5cd247681d66ac6c1252f0a6c2d func119
def adr:aC E ⟨44,[.m (.optr CN),.m s5],[aB],DS⟩:=aJ (aj abo (aj abn aG)) 0x163fc65b80ff711c9112fdf745fa6cc48f05b0ff526cab8d6482a8d9a3c7cca2139475a43b6b1c24a2126b491da061b048d3 func44
def abq:aC E ⟨121,[.v aB,.v aB,.v (.ptr .c9 fg),.v (.ptr .c9 mW)],[aB],vu⟩:=aJ (aj KK aG) 0xe2860d func121
def acE:aC E ⟨272,[.m g9,.v aB,.v aB,.c 121 [(.ptr .c9 fg),(.ptr .c9 mW)]],[],IJ⟩:=aJ (aj abq aG) 0x1fdca31dde7cb0d8bf34bc3c1d304081ba01abde156dcc56a12968308e8d4d148233fc240beae1c265119b1fcee00a0512ebfc0361cf80528c369ed21e400c0610012180c2c38a1d func272
def ab2:aC E ⟨209,[.m g9,.v aB,.v aB,.v aB,.c 121 [(.ptr .c9 fg),(.ptr .c9 mW)]],[],Ec⟩:=aJ (aj acE aG) 0x280de8bcc5d160023ae9d546c4c2c0616c4d func209
def abp:aC E ⟨120,[.m g9,.c 121 [(.ptr .c9 fg),(.ptr .c9 mW)]],[],D9⟩:=aJ (aj Rv (aj ab2 aG)) 0x1d func120
def ads:aC E ⟨45,[.v (.ptr .bj (.st (.pr (.ptr .bj xm) (.pr ha (.pr ha (.pr (.a8 .bj dc) (.pr (.a8 .bj mW) (.pr aB .nil)))))))),.v fg],[HE],DR⟩:=aJ (aj abp aG) 0x3762376f90e937bf32923b94339d468b45194bf042a6aeca05cb89bb7c97cd05c5c313825edf5c520f44146c996c0adc28cf289677f0dbf2c40a90f48ca0b26f2dda8d320e78181d004631001629b6d22ed9555bd5285a128b6fdd9008a6d7a8aeae178af1497a0a4f3de68d38a5e89276376da3803c6dd1f04123c57ca9f2bbac6ecf2bc22b839735be1e947febc823c6611e57409605c1d08d38e7250e960e829aaa5a950ffbd9448d5bb50806be1d68ab82a4ee0203ccbc94040ba624502865cb2608b5f5a5de5a9da44f79cc5b819e982928b8ded8f98ab1bee883a5a7ca1b0faea441d079e739b17af895fc886812c2b5815132107f3871b458be6862e42bf42a3ebf326fa3f72a76d1848a4860d3fd36a7b8d08063c94eaaf00489cb9e461ae33c99104ae30fa09759129a12140dd5ff3e986df9613916cc559ba9b060d func45
def adp:aC E ⟨42,[.v pA],[.bool],DE⟩:=aJ aG 0x15e0600d func42
def abk:aC E ⟨114,[.v nt,.c 42 []],[aB],D6⟩:=aJ (aj adp aG) 0x3195177853060d func114
def ado:aC E ⟨41,[.v nt,.c 42 []],[.bool],D4⟩:=aJ (aj abk aG) 0x60d func41
def Rb:aC E ⟨11,[.v j7,.v fg,.v nt],[CO,aB],xQ⟩:=aJ (aj ads (aj adr (aj adq (aj adl (aj RV (aj ado aG)))))) 0x677b18c73febb7e95d3b3a249372fb147b80513e233de7947242663d62a9d1511677f54dd058830338ddf58631ab0e77fa81abeee61e96ff9fef94e969ce4734237e9a022aad77438a3798c955b70b7ad012710abc894d2d57d83ef20a4a736b399e524c1df77790bfd5214e2da6eacf9db5712774b5cd062716dba0c4f3b2303f0760772262bf96e2542fa40aeda6599088d058345ee658f9e21dda457264054b1da8a0b49c7d5448172907759c57a78536db6c2860d func11
def adz:aC E ⟨63,[.v fg,.v aB],[.bool],EL⟩:=aJ aG 0xd89480d660c5e9f759579d61bf8532f9214db060d func63
def adO:aC E ⟨94,[.v j7,.v fg],[aB],EN⟩:=aJ (aj adz (aj BJ aG)) 0x2e28060d func94
def adP:aC E ⟨95,[.v j7,.v fg,.v aB,.v aB],[cV],EK⟩:=aJ (aj RY (aj RN aG)) 0x346e480e2860d func95
def RH:aC E ⟨26,[.v cV],[aB],AO⟩:=aJ (aj ws (aj p0 aG)) 0xd func26
def aca:aC E ⟨228,[.v fX,.v fX],[lU],Er⟩:=aJ aG 0x991f1c4b5d2359af0aa155ed3d69cd6217c51417e037f3380b4cead114a2c312d69c77118d0a65f2429b060d func228
def abC:aC E ⟨152,[.v cX,.v cX],[cX],pL⟩:=aJ (aj wq (aj aca (aj uo aG))) 0xe288c107e707dad256ecf62607a8de5b2b231883fd56f8c90554506d1a3ed3dbbe84c73753060d func152
def ac4:aC E ⟨327,[.m lU,.v fX,.v aB,.v dc],[.bool],AM⟩:=aJ aG 0xf0a0adeb50e6ebf2ad86f23894c490c05e54378a0ea15fd25fdc59f62befaf164192b53d914ea3ec848c6fcc1d07e5ff17f3048ebc29b6c38a1d func327
def acS:aC E ⟨310,[.v fX,.v fX],[lU,fX],Ep⟩:=aJ (aj ac4 (aj RU (aj KT (aj RC (aj RB (aj wq aG)))))) 0x8018533076f68138afa4468455caba646cb0ef5eb57135662362eb2973e27ddf662dc5ad777b9f30707300b87b4fc6760442541cfdcc841408b7aa4b0073435a117078a8d19db7a041ff764ab4512376632f717034e2f76916e989ab7f9572c12fd09144376ae61f132820e232fbfd66ce941ce999e183ebce750674382ea6db060d func310
def RO:aC E ⟨283,[.v cX,.v cX],[cX,cX],vz⟩:=aJ (aj p0 (aj acS (aj uo (aj BL (aj KM (aj BK (aj yI (aj F4 aG)))))))) 0x30e09c6ce10f7629603d184fa07b598bb7eea1a2f7a71ee86ac9b72798e75c9567854fcc6cbe5057531e509956c92d833ce44cdb0cfcaeb9c2fe9f56e5ac9a0fe103d84f58ba6de0d646b9dc503b1eda889846cd2c3ca4648bc569171ac7ba4ba5a353060d func283
def acj:aC E ⟨25,[.v fg,.v fg],[.bool],Ei⟩:=aJ aG 0x620a429b060d func25
def adx:aC E ⟨57,[],[u2],Og⟩:=aJ aG 0x1922242481f808 func57
def abz:aC E ⟨145,[.v fg],[.bool],Iz⟩:=aJ aG 0x6ba8406adebe0e457cfca803730dfab114c8ffaf0a6c0d func145
def RW:aC E ⟨91,[.v rN],[g9,.bool],Az⟩:=aJ aG 0xc302d214835e59c33ecf5c889fdad5548253bbaa9e0008a59765fa168b78f7c6be4461eb658c806f73051e642149806e533302c922fe578536c0d func91
def abA:aC E ⟨146,[.v rN,.v fg],[.bool],DH⟩:=aJ aG 0xc64b41340b9ba1fa37e849f6b4d70853c93229cdd3c1682924e1bf1d173eab756259241effc1a8258147968f010a29b060d func146
def K0:aC E ⟨60,[.v rN],[CM],xR⟩:=aJ (aj pZ aG) 0xfa856eb86fb21de77a857001e286685c0e87254506c5130ed865cb76cff709115622d2991ff2578536c0d func60
def KZ:aC E ⟨59,[.v rN],[aB],vr⟩:=aJ (aj RW (aj K1 (aj yK (aj K0 (aj wm (aj abA (aj abz aG))))))) 0x628d0a0687afe1cf0c1d85dabb9570da4ab526cca7e92e48a0c96ff0de32fb7937b054bc8304f41a6c650aeee14c948776881bbe89f0904e1825ad7931391e9259175c244eb4043c805a6c0d func59
def Rr:aC E ⟨19,[.v rN],[CI,aB],At⟩:=aJ (aj K1 (aj yK (aj K0 (aj KZ aG)))) 0x2aba805712e59fcc08b81856eaab863ff361f2eea02073e38eea9a6a2ebad14b6e33244aae45c3fa536f6693878536c0d func19
def abB:aC E ⟨15,[],[.bool],AG⟩:=aJ (aj adx (aj acj (aj Rr (aj Rb aG)))) 0x84c21c1c17818 func15
def adA:aC E ⟨67,[.v aB,.v aB],[pz],EI⟩:=aJ aG 0x8542b848060d func67
def adG:aC E ⟨76,[.v cV,.v aB],[cV],Eu⟩:=aJ (aj yL (aj BO (aj ws (aj p0 aG)))) 0x1fcc805c6eef5b8eece3cf67d22f9aa40148a6e0c78a66b836c6798cd09b060d func76
def adF:aC E ⟨75,[.v cV],[cX,.bool],Et⟩:=aJ (aj ws (aj F5 aG)) 0x20a00d func75
def acb:aC E ⟨23,[.v (.a8 .c9 (.a8 .c9 cV))],[(.osl (.a8 .bj cX))],AE⟩:=aJ (aj adG (aj adF (aj ws (aj RH aG)))) 0x1f38e6e2223596d27f4e3a1111ad2bce7a85d582d9cdfa815821141655c4a91138389816c5947fd78cdb240cdb5a1490f117cd823b2d6798c695290a6c0d func23
def adC:aC E ⟨70,[.v (.a8 .c9 (.a8 .c9 cX))],[MS],EB⟩:=aJ (aj BK (aj yI aG)) 0x5f11910fe05f59406bfc0bebc40b33fff5751fc60022486b0c4b743fb8485aa694c90a6c0d func70
def abD:aC E ⟨157,[.v mq],[.bool],AS⟩:=aJ (aj p0 aG) 0x24e0600d func157
def adD:aC E ⟨71,[.v (.a8 .c9 (.a8 .c9 mq)),.v fg],[aB,aB],EC⟩:=aJ (aj abD aG) 0x356816368a4c4b3238ad00c4d4853060d func71
def ace:aC E ⟨235,[.v cX,.v cX],[cX],Em⟩:=aJ (aj p0 (aj RO (aj BL aG))) 0x1d333010f3b8aabb8a4ae10dfa1e05fd377e04b0f43926648cbe937219c25d84796b4220374af97e19f88c6c663583812b753060d func235
def acf:aC E ⟨236,[.v cX,.v cX],[cX,.bool],AJ⟩:=aJ (aj p0 (aj RO aG)) 0x8790d212b1d628060d func236
def abE:aC E ⟨158,[.v cX,.v cX],[mq],AR⟩:=aJ (aj p0 (aj acf (aj ace (aj Rk aG)))) 0x199b27642e34702b04f01285368d9ed8caa09b060d func158
def adE:aC E ⟨73,[.v mq,.v mq,.v mq,.v mq],[mq],tA⟩:=aJ (aj KM (aj abE (aj abC aG))) 0x852a28119403e248c6057e063ca91af3b652249d58c44c12fe0f35fc9dc3ebed481b3bd1f4d6b531eaf99e4a5d903a033337530e2860d func73
def ab7:aC E ⟨22,[.v (.a8 .c9 (.a8 .c9 cX))],[aB,aB,aB],EA⟩:=aJ (aj adE (aj p0 (aj adD (aj adC aG)))) 0x6976b190d50df4cb974629f1fed84ddbdd7f69ebc48a35443d7f30e59b6283eca6a07258d51cf2f4dff2abbea5d35963a4ef49c605b8692f0f9e4be313b38d8f3f0cdf86fc509960197cf2faf870ed872a6afe7ca4aa4e25e322fe30e09becc911ea0a3b34aed95ceab441525124b7e052471c5c3d447aa2865aacc1cba16f410dac7a0587de8699e65d4bd65d232d4a2cddf7746e39c2646e0f19466f12062e6cde48f0f9becdde12999618fe48fd6c91ca9bb9c55faad43ea7e35caae975f3f4214078fda60d2ac60c38098885a5fe7161af562f69f96e83aae23c3de8e22c7ed50da6a0968c3424cac76ad6a3bb28e8f01ec709f32b07a80500a425388c0d570b870df22da3c29b6c0d func22
def adI:aC E ⟨82,[.v j7,.v fg],[pz,aB],Ab⟩:=aJ (aj RV (aj KN (aj Rc aG))) 0xe249ee171d44ef370222a0934e40058285dad3b84d67a45a39f5b6ca49c35f3bb6605542d573ad2097206fefecfb904ec33036ab402216dfeec5855616e2c982d8af04d0af341fc5798d2b1906df3012f8a2f68525e65c68909d32178bac661e6861dc2a81def2cb09f6946c23a58ef9566ea6db060d func82
def adM:aC E ⟨92,[.v rN,.v aB],[(.mp cV)],xT⟩:=aJ (aj yM (aj pZ aG)) 0x332a2c8413172ee1b2e8ac2652ceb8b5d9bb1dc4677a42997c843c29b060d func92
def adN:aC E ⟨93,[.v (.a8 .c9 cV)],[cV],Dk⟩:=aJ (aj BN (aj F9 (aj F8 (aj BM (aj wo aG))))) 0x5bff80774efbf19ff433df497ecfbb67efa8e6faf899326ef246bf13897c2de08f337ea1f5ef478579c75592d3623c0711d75923f4db3be199330a8cfacb4a59a4a4678536c0d func93
def adK:aC E ⟨89,[.v (.fj .c9 cV),.v (.fj .c9 cV),.v cV,.v (.ptr .c9 aB),.m (.optr qC)],[],tw⟩:=aJ (aj wu aG) 0x69ded764bb9e957df7542232c227cae0de1bb032c87bd3b29d736b8601968a5ef282754abe668deae3fae037921aac98dfb2d13027aa428cc4fb4b7325db0013bf2955bc53bc89f45aa0df4be7e2bd4ee85ba8b2f69a1e89728d98c21ee127b21874fa5b0e2860d func89
def UR:jM:=⟨34,[.v rN],[pz,aB],As⟩
def adc:aC E UR:=
 .q (aj adN (aj adM (aj RW (aj K0 (aj KZ (aj adK aG)))))) (.k [0] (.n (.n (.n (.n (.n (.n (.n (.t .none (.n (.o (.k [1,8,41] (.p ⟨[mG 2,mG 5,mG 6,(7,.s (.di 89 [(.ref 5 []),(.ref 6 [])])),mG 40,Ck 42],[(2,s7),(5,(.optr aB)),(6,(.optr qC)),(40,CM)]⟩ (.x 0 ⟨[mG 2,mG 5,mG 6],[(2,s7),(5,(.optr aB)),(6,(.optr qC))]⟩) (.n (.n (.t (.x [42] ⟨[mG 2,mG 5,mG 6,(7,.s (.di 89 [(.ref 5 []),(.ref 6 [])])),mG 40],[(2,s7),(5,(.optr aB)),(6,(.optr qC)),(40,CM)]⟩) (.o (.n (.t .none (.d [.a,.a,.a,.a,.a,.c [1666] [1664],.c [1666] [1664,1665]]) (.n (.n (.t .none (.t .none (.d [.a,.a,.a,.a,.a,.a,.c [2210] [2208],.c [2210] [2208,2209]]) .l) .l)))))) .l))))))) (.n (.t .none (.n (.o (.k [96] (.p ⟨[mG 2,mG 14,(95,.s (.ref 6 [.deref])),Ck 97],[(2,s7),(6,(.optr qC)),(14,s7)]⟩ (.x 2 ⟨[mG 2,mG 14],[(2,s7),(14,s7)]⟩) (.n (.n (.t .none (.o (.n (.d [.b [450,464],.b [464],.b [192],.b [192],.c [3362] [3360],.c [3392,3362,464,466] [3392,451],.b [450,464],.c [3392,464,466] [448,3392,3393]]))) .l))))))) .l))))))))))) func34 call34 [(1,MT),(2,pz),(21,pz),(5,aB),(28,pz),(32,qC),(6,qC),(8,ha),(12,(.fj .bj cV)),(13,(.fj .bj cV)),(14,pz),(94,pz)] [(8,37000),(12,52),(13,69)]
def adJ:aC E ⟨84,[.v cV],[cV],Df⟩:=aJ (aj F7 (aj wo aG)) 0x93c00cf192331ba6c0d func84
def acP:aC E ⟨30,[.v j7,.v rN],[cV,aB],DF⟩:=aJ (aj K2 (aj Gd (aj adJ (aj yM (aj adI (aj KZ (aj adc aG))))))) 0xcaf688eeeba1443cabca601a0290a245b7031871f1f9fb3a1e44542c1d32a9cdc24b72236e5847ac708198817c5c93b639c4725dfbc0bf74afb7b55c833de48eb9987a9291148c414e29c9c52d1b62caa0bdbab64829b3c29b6db060d func30
def adi:aC E ⟨36,[.v j7,.v fg],[pz,aB],EM⟩:=aJ (aj adP (aj adO (aj adA aG))) 0x2f1f47888af5e261328a69dd708c31ed426bf07301fba8cd70e0d4af9af313b8d36ee3dd89eec7de89049d96d49d8a44a291e1a41b70e1b245a878536db060d func36
def adj:aC E ⟨37,[.v aB],[g9],Ef⟩:=aJ aG 0x1fb84602a694c90a6c0d func37
def w3:jM:=⟨9,[.v lq,.v aB],[.bool],IM⟩
def adL:aC E w3:=aJ (aj adj (aj adi (aj acP (aj RH (aj acb (aj ab7 (aj Rr (aj yJ (aj abB (aj Rb (aj aa7 aG))))))))))) 0x32f2f1f3ff215f714870eb072511b92e22e446df8a656418120f53a384345b9c5693887c0df337c7aea9dbd3cbbdb7ef7d0d1906e24e432e04449dc4a3e871272a9746269084ca95e43d1dfc9cfb5f8d1b6fe752e19ca8ff3fcea5f8a195d98df7909aeb3fc4925d3e1e963fcbe90c8fcdf09b6db060d func9
end
def aY (a:X):Z:=4294967296^a
def ag:ala->Z
 |[]=>0
 |x::a=>x+4294967296*ag a
def aT (b:ala):Prop:=∀a∈b,0<=a/\a<4294967296
def aT.nil:aT []:=λ_ a=>by cases a
theorem aT.cons:aT (d::b)↔(0<=d/\d<4294967296)/\aT b:=by
 constructor
 ·exactλe=>⟨e d (jd ..),λc a=>e c (gx _ a)⟩
 rintro⟨f,g⟩ c a;rcases fF.1 a with rfl|a
 ·exact f
 exact g c a
def aT.append {d:ala}:aT (b++d)↔aT b/\aT d:=by
 constructor
 ·exactλe=>⟨λc a=>e c (lT _ a),λc a=>e c (ln _ a)⟩
 rintro⟨f,g⟩ c a;rcases g0.1 a with a|a
 ·exact f c a
 exact g c a
def aT.snoc (a:aT b) (c:0<=d) (e:d<4294967296):aT (b++[d]):=
 aT.append.2 ⟨a,aT.cons.2 ⟨⟨c,e⟩,aT.nil⟩⟩
def aT.take {a:ala} (b:aT a) (d:X):aT (a.take d):=λe c=>b e (rG c)
def aT.drop {a:ala} (b:aT a) (d:X):aT (a.drop d):=λe c=>b e (List.mem_of_mem_drop c)
theorem aT.mb (a:X):aT (bJ a (0:Z)):=λc b=>by grind
def aT.set {c:ala} (d:aT c) {e:X} {b:Z} (g:0<=b) (h:b<4294967296):aT (c.set e b):=λf a=>by
 rcases List.mem_or_eq_of_mem_set a with a|rfl
 ·exact d f a
 omega
def aT.get (a:aT b) {n:X} (c:n<b.length):0<=b[n]/\b[n]<4294967296:=a _ (cL c)
theorem fZ (a:X):0<aY a:=lm ab
theorem h9 (a:X):aY (a+1)=4294967296*aY a:=by unfold aY;omega
theorem uL (a b:X):aY (a+b)=aY a*aY b:=mf ..
theorem zq:aY 0=1:=rfl
theorem mK (a b:ala):ag (a++b)=ag a+aY a.length*ag b:=by
 induction a with
 |nil=>simp[ag,zq]
 |cons d a c=>
  grind [apm,h9,ag]
theorem rr (a:ala) (b:Z):ag (a++[b])=ag a+aY a.length*b:=by grind [mK,ag]
theorem fe {l:ala} (a:aT l):0<=ag l:=by
 induction l with
 |nil=>exact am3 _
 |cons c l b=>
  grind [aT.cons,ag]
theorem hm (a:aT b):ag b<aY b.length:=by
 induction b with
 |nil=>decide
 |cons d b c=>
  grind [apm,h9,aT.cons,ag]
theorem iS (c:a<b.length):ag (b.take (a+1))=ag (b.take a)+aY a*b[a]:=by grind [rr,alD,amA,ali,bX]
theorem pj (b:ala) (a:X) (c:a<=b.length):ag b=ag (b.take a)+aY a*ag (b.drop a):=by grind [mK,alD,amA,anA]
theorem nj (c:a<b.length):ag (b.drop a)=b[a]+4294967296*ag (b.drop (a+1)):=by rw[Hp c];rfl
theorem qd (a:X):ag (bJ a (0:Z))=0:=by
 induction a with
 |zero=>rfl
 |succ a b=>grind [ag]
theorem nk (d:a<b.length) (c:Z):ag (b.set a c)=ag b+aY a*(c-b[a]):=by
 induction b generalizing a with
 |nil=>grind
 |cons f b e=>
  grind [zq,h9,ag]
def vN:X->X->ala
 |0,_=>[]
 |f+1,a=>if a=0 then[] else((a %4294967296:X):Z)::vN f (a/4294967296)
def eX (a:X):ala:=vN (Nat.log2 a+1) a
def fc (b:ala):Prop:=∀a,b.getLast?=Y a->a≠0
theorem XC:∀{a n:X},n<2^a->aT (vN a n)/\ag (vN a n)=n/\fc (vN a n):=by
 intro a
 induction a with
 |zero=>
  intro n b;obtain rfl:n=0:=aa;exact⟨aT.nil,bn,λc b=>by cases b⟩
 |succ a i=>
  intro n b;unfold vN;split
  ·rename_i g;subst g;exact⟨aT.nil,bn,λc b=>by cases b⟩
  rename_i k;obtain⟨h,j,d⟩:=i (n:=n/4294967296) aa;refine⟨aT.cons.2 ⟨⟨aa,aa⟩,h⟩,?_,?_⟩
  ·grind [ag]
  intro c f;cases e:vN a (n/4294967296) with
  |nil=>
   grind [List.getLast?_singleton,amu,ag]
  |cons m l=>
   rw[e,List.getLast?_cons_cons] at f;rw[e] at d;exact d c f
def I5 (a:X):aT (eX a)/\ag (eX a)=a/\fc (eX a):=XC Nat.lt_log2_self
theorem nC (a:X):aT (eX a):=(I5 a).1
theorem tF (a:X):ag (eX a)=a:=(I5 a).2.1
def ye (a:X):fc (eX a):=(I5 a).2.2
theorem fc.tail (a:fc (d::b)):fc b:=λe c=>by
 cases b with
 |nil=>cases c
 |cons f b=>exact a e (by grind)
theorem fc.zero (e:aT b) (c:fc b) (d:ag b=0):b=[]:=by
 induction b with
 |nil=>rfl
 |cons h b g=>
  obtain⟨⟨i,j⟩,a⟩:=aT.cons.1 e;have k:=fe a;simp only[ag] at d;have f:h=0:=aa;have:=g a c.tail aa;subst this;subst f;exact absurd rfl (c 0 bn)
theorem fc.uniq:∀{a b:ala},aT a->aT b->fc a->fc b->ag a=ag b->a=b
 |[],b,_,e,_,g,c=>(fc.zero e g (by rw[<-c];rfl)).symm
 |a,[],d,_,f,_,c=>fc.zero d f (by rw[c];rfl)
 |x::a,j::b,d,e,f,g,c=>by obtain⟨⟨k,l⟩,h⟩:=aT.cons.1 d;obtain⟨⟨m,n⟩,i⟩:=aT.cons.1 e;simp only[ag] at c;have o:x=j:=aa;have:=fc.uniq h i f.tail g.tail aa;grind
def XF (c:aT b) (d:fc b) (e:ag b=a):b=eX a:=
 fc.uniq c (nC a) d (ye a) (by rw[e,tF])
def fc.eq (a:aT b) (c:fc b):b=eX (ag b).toNat:=
 XF a c (by have:=fe a;omega)
theorem fc.low (c:aT b) (f:fc b) (a:b≠[]):aY (b.length-1)<=ag b:=by have d:=List.dropLast_concat_getLast a;have i:=f (b.getLast a) (List.getLast?_eq_some_getLast a);have j:=c _ (List.getLast_mem a);rw[<-d,rr];have k:=fe (l:=b.dropLast) (λh g=>c h (List.dropLast_subset _ g));have e:1<=b.getLast a:=aa;have m:=jO e (fw (fZ b.dropLast.length));grind
theorem aeu {c:X} (e:a<c):aY a<aY c:=by obtain⟨b,rfl⟩:∃b,c=a+(b+1):=⟨c-a-1,aa⟩;rw[uL,h9];have f:=fZ b;have d:=fZ a;have g:1*aY a<(4294967296*aY b)*aY a:=sS aa d;grind
theorem p2 {m n:X} (b:m<=n):aY m<=aY n:=by
 rcases cU m n with a|a
 ·exact fw (aeu a)
 grind
theorem r9 {n k:X} (d:(n:Z)<aY k):(eX n).length<=k:=by
 by_cases c:eX n=[]
 ·grind
 have a:=fc.low (nC n) (ye n) c;rw[tF] at a;rcases cU k (eX n).length with b|b
 ·have:=p2 (m:=k) (n:=(eX n).length-1) aa;omega
 omega
theorem OR (a:X):(a:Z)<aY (eX a).length:=by have:=hm (nC a);grind [tF]
def I6:eX 0=[]:=rfl
theorem XE:eX a=[]↔a=0:=by
 constructor
 ·grind [tF,ag]
 rintro rfl;rfl
def iR (a:ala):ala:=eX (ag a).toNat
theorem T9 (f:aT b) (j:a<=b.length) (h:∀c,a<=c->(i:c<b.length)->b[c]=0) (g:fc (b.take a)):b.take a=iR b:=by have d:ag b=ag (b.take a):=(by have e:b.drop a=bJ (b.length-a) 0:=(by refine anF ac λc d e=>?_;grind);grind [pj,qd]);rw[iR,d];exact fc.eq (f.take a) g
def L5 (a:ala):aT (iR a):=nC _
def T8 (a:ala):fc (iR a):=ye _
theorem L6 (a:aT b):ag (iR b)=ag b:=by have:=fe a;grind [tF,iR]
theorem T7 (a:aT b):(iR b).length<=b.length:=by have c:=hm a;have:=fe a;exact r9 aa
def YF {b d:bm c} (g:b.length=d.length) (f:∀a,a<b.length->b[a]?=d[a]?):b=d:=by
 apply ie;intro a;rcases cU a b.length with e|e
 ·exact f a e
 rw[oH e,oH aa]
def UZ (a c:ala) (o:a.length<4611686018427387904):Ei (a,c,())=Y (a==c,()):=by
 rw[<-ae.eq_iff];unfold Ei;simp only[ae.fm,ae.fd,ae.af];refine⟨λd=>?_,λd=>?_⟩
 ·simp at d;have:a≠c:=λf=>d (by rw[f]);simp[this]
 simp at d;have m:a.length=c.length:=aa;refine ae.for (i0:=0) a.length (λe _=>∀b,b<e->a[b]?=c[b]?) rfl ac (eJ _) ?_ ?_
 ·intro e n _ k g;simp only[ae.fm,ae.fd,ae.af,ae.k2];refine⟨λ_=>⟨k,aa,λl=>?_,λj=>?_⟩,λh=>?_⟩
  ·simp at l;have:a≠c:=λf=>l (by simp[f]);simp[this]
  ·refine⟨jo aa,λb p=>?_⟩;rcases cU b e with i|i
   ·exact g b i
   obtain rfl:b=e:=aa;simp at j;rw[cE k,cE aa,j]
  simp at h;omega
 intro n g;simp only[ae.fm,ae.fd,ae.af];refine⟨λh=>by simp at h,λ_=>?_⟩;simp[YF m g]
theorem uD {b:bm c} (d:a<b.length):b.take a++[b[a]]=b.take (a+1):=by rw[jP,cE d];rfl
theorem BR:b.Pairwise (· < ·)↔∀d,(e:d+1<b.length)->b[d]<b[d+1]:=by
 constructor
 ·intro e d k;exact(iz.1 e) d (d+1) aa k aa
 intro e;rw[iz];have m:∀c a (f:a<b.length) (g:a+c+1<b.length),b[a]<b[a+c+1]:=by
  intro c
  induction c with
  |zero=>intro a f g;exact e a g
  |succ c l=>
   intro a f g;have i:=l a f aa;have j:=e (a+c+1) aa;exact Int.lt_trans i j
 intro a h f g n;obtain⟨c,rfl⟩:∃c,h=a+c+1:=⟨h-a-1,aa⟩;exact m c a f g
def UF (b:ala) (r:b.length<4611686018427387904):Eh (b,())=Y (br (b.Pairwise (· < ·)),()):=by
 rw[<-ae.eq_iff];unfold Eh;simp only[ae.fd];by_cases k:b.length=0
 ·have:b=[]:=List.length_eq_zero_iff.1 k;subst this;refine ae.loop (λo=>o=(1,())) (λ_=>0) rfl ?_;rintro _ rfl;simp[ae.af]
 refine ae.for (i0:=1) b.length (λc _=>∀a,(j:a+1<b.length)->a+1<c->b[a]<b[a+1]) rfl (λa _ j=>by omega) aa ?_ ?_
 ·rintro c _ p l e;simp only[ae.fm,ae.fd,ae.af,ae.k2];have i:bK.wrap ((c:Z)-1)=((c-1:X):Z):=(by rw[wrap64 aa aa];omega);rw[i];refine⟨λ_=>⟨l,?_⟩,λf=>?_⟩
  ·rw[ae.k2];refine⟨aa,?_⟩;refine⟨λm=>?_,λh=>⟨jo aa,λa d q=>?_⟩⟩
   ·have:¬b.Pairwise (· < ·):=λn=>by
     have:=BR.1 n (c-1) aa;simp only[(aa:c-1+1=c)] at this;simp at m;omega
    simp[this]
   rcases cU (a+1) c with g|g
   ·exact e a d g
   obtain rfl:c=a+1:=aa;simp at h;exact h
  simp at f;omega
 intro s e;simp only[ae.fm,ae.fd,ae.af];refine⟨λf=>by simp at f,λ_=>?_⟩;have:b.Pairwise (· < ·):=BR.2 (λa d=>e a d d);simp[this]
theorem h7 (b:bm c) (a:X):aw b (a:Z)=b[a]?:=by unfold aw;simp
end Go.jN
end
