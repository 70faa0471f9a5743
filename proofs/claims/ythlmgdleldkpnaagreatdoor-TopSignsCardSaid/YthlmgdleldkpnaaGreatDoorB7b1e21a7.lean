/-
  Parts of the proof: Pm133, Pm60, Pm110, Pm134, Pm135, Pm136, Pm138, Pm140, Th8, Th9, Th10, Th11, Th12, Th13, Th14, Th15, Pm142, Pm143, Pm144, Pm145, Pm146, Pm147, Pm148, Pm149, Pm150, Pm151: the framework (Fw), pure forms (Dn), plain laws (Pl, Th), calls of functions (Ok).
-/
import Derived.KernelRfl
import Derived.Test.YthlmgdleldkpnaaGreatDoorB9de7e84b

set_option linter.all false
set_option maxHeartbeats 1000000
open _root_ renaming Nat->X,Int->Z,List->bp,rfl->bq,if_neg->b6,Option->bv,cond_false->bQ,cond_true->bI,if_pos->cc,Bool->bD,reduceIte->cm,or_false->an1,forall_eq_or_imp->apJ,forall_eq->apK,and_true->cf,and_self->amL,and_false->anc,false_and->ane,decide_eq_true->amA,decide_eq_false->amT,decide_eq_decide->amD,congrArg->b9,Unit->bz,not_not_intro->anb
open Option renaming some->Y,none->br,bind_some->bT
open Rat renaming mul_comm->ar8,intCast_add->aqR,mul_assoc->asa,intCast_mul->aqS,intCast_sub->asb,intCast_lt_intCast->aqQ,intCast_inj->aqP,add_nonneg->aqV,mul_le_mul_of_nonneg_left->asd,mul_le_mul_of_nonneg_right->ase,mul_pos->aqW
open List renaming range->bK,mem_cons_of_mem->an2,flatMap_cons->ar9,length_append->amX,mem_cons_self->aop,getElem?_eq_getElem->bZ,getElem_mem->ca,take_zero->aoP,take_length->amy,length_map->cb,length_singleton->aoW,filter_append_perm->aqJ,length_range->aoV,mem_iff_getElem->ani,getD_eq_getElem?_getD->aoY,mem_filter->apD,getElem?_map->asf,drop->apr,replicate->bM,prefix_refl->asg,sum_cons->aqO,mem_map->apE
open Bool renaming true->bt,false->bu,and_true->aoF
open Go.j5.bd renaming kG->anI,zero->apG,rng->ank
open Iff renaming rfl->aou
open Go.j5.ah renaming bs->bC,aO->bJ,ai->bA,steps->bS,eq_iff->bR,ite->anH
open Nat renaming div_add_mod'->aqT,div_lt_of_lt_mul->apH,pos_of_ne_zero->aqU,mod_lt->anT,reduceLT->cy,reduceAdd->amC,reduceMod->apI,reduceEqDiff->anv,sub_zero->aob,reduceSub->anD,le_trans->cC,div_le_self->aoR,mul_le_mul_right->aqz,le_refl->cj,add_comm->anO,add_assoc->apz,mul_le_mul_left->apm,two_pow_pos->anY,beq_refl->an9
open Decidable renaming decide->bw
open Int renaming neg_neg->apk,natCast_mul->anP,ediv_le_self->aoQ,le_refl->anE,natAbs_neg->aps,pow_zero->aqX,mul_one->aoO,eq_ofNat_of_zero_le->cD,add_zero->aoN,natCast_add->aqF
open Option.some renaming inj->am0
open Go.IntKind renaming i64->bN
noncomputable section
namespace Go.j5
variable{a f:X->X->Rat}{b d:X}{c:X->Rat}{e:Z}{g:X->X->Z}{h:amv}{i k:bp (Rat×(X->Rat))}{j:Rat}
section
def cF (a:amp):Rat:=((a.getD 0:Z):Rat)
def mW (a:X×X->Rat):amw->Rat
 |[]=>0
 |x::b=>a x+mW a b
theorem TJ {b c:X×X->Rat}:∀{a:amw},(∀x∈a,b x=c x)->mW b a=mW c a
 |[],_=>rfl
 |x::a,d=>by rw[mW,mW,d x ac,TJ λe f=>d e ae]
theorem TL {b:X×X->Rat}:∀{a:amw},(∀x∈a,b x=0)->mW b a=0
 |[],_=>rfl
 |x::a,c=>by rw[mW,c x ac,TL λd e=>c d ae];grind
theorem TK {c d:X×X->Rat} {b:X×X} {g:Rat}:∀{a:amw},a.Nodup->b∈a->(∀y,y≠b->c y=d y)->c b=d b+g->mW c a=mW d a+g
 |[],_,i,_,_=>by grind
 |y::a,f,i,e,j=>by
  rw[kS] at f;rw[mW,mW];by_cases h:y=b
  ·grind [TJ]
  rw[e y h,TK f.2 ae e j];grind
theorem QW {n:X} (a:b<n):d∈sL n b↔b<=d+1/\d<n/\d<=b+1:=by grind [sL]
theorem KU {n:X} {a:X×X}:a∈nT n b↔a.1<b/\a.2∈sL n a.1:=by unfold nT;grind
theorem SH (n:X):∀m,(nT n m).Nodup
 |0=>List.nodup_nil
 |m+1=>by rw[SG];have b:(sL n m).Nodup:=(by grind [List.nodup_range',sL]);refine jR.2 ⟨SH n m,n6.2 (b.imp λa g=>a ae),?_⟩;intro i f j c d;obtain⟨h,e,rfl⟩:=eT.1 c;simp_all [rY,KU,absurd]
theorem Cp {g:amw} (i:g.Nodup) {E:X->X->amp} (j:(b,d)∈g) (n:E b d=Y 0) (c:amp) (e f:X->Rat):mW (λa=>e a.1*cF (iU E b d c a.1 a.2)*f a.2) g=mW (λa=>e a.1*cF (E a.1 a.2)*f a.2) g+e b*cF c*f d:=by
 refine TK i j (λa k=>?_) ?_
 ·show e a.1*cF (iU E b d c a.1 a.2)*f a.2=e a.1*cF (E a.1 a.2)*f a.2;have:iU E b d c a.1 a.2=E a.1 a.2:=aw λh=>k (Prod.ext h.1 h.2);grind
 show e b*cF (iU E b d c b d)*f d=e b*cF (E b d)*f d+e b*cF c*f d;have l:iU E b d c b d=c:=ay ⟨bq,bq⟩;have m:cF (Y 0)=0:=rfl;grind
def gg (e:Z->Rat) (b c:X->Rat):bp aN->X->Rat
 |[],_=>0
 |q::ps,a=>(if q.a7.length=2 then e (q.d.getD 0 0)*(b a*c a)+e (q.d.getD 1 0)*(b (a+1)*c a+b a*c (a+1))+e (q.d.getD 2 0)*(b (a+1)*c (a+1)) else e (q.d.getD 0 0)*(b a*c a))+gg e b c ps (a+q.a7.length)
theorem Il (b:Z->Rat) (c d:X->Rat) (e:aN):∀(ps:bp aN) (a:X),gg b c d (ps++[e]) a=gg b c d ps a+gg b c d [e] (a+(ps.flatMap aN.a7).length)
 |[],a=>by show gg b c d [e] a=0+gg b c d [e] (a+0);grind
 |p::ps,a=>by show _+gg b c d (ps++[e]) (a+p.a7.length)=(_+gg b c d ps (a+p.a7.length))+_;rw[Il b c d e ps,oS,hM,rW];grind
theorem Im (a:Z->Rat) (c d:X->Rat):∀(ps:bp aN) (b:X),gg a c d ps b=gg a d c ps b
 |[],_=>rfl
 |q::ps,b=>by rw[gg,gg,Im a c d ps];grind
theorem NW (b:Z->Rat) (a:Rat) (e f d:X->Rat):∀(ps:bp aN) (c:X),gg b (λg=>a*e g+f g) d ps c=a*gg b e d ps c+gg b f d ps c
 |[],_=>by show(0:Rat)=a*0+0;grind
 |q::ps,c=>by rw[gg,gg,gg,NW b a e f d ps];grind
theorem NX (a:Z->Rat) (c:X->Rat):∀(ps:bp aN) (b:X),gg a (λ_=>0) c ps b=0
 |[],_=>rfl
 |q::ps,b=>by rw[gg,NX a c ps];grind
def Ik (a:Z->Rat) (d:X->Rat) (c:X->X->Rat) (e:X->Rat) (ps:bp aN) (b:X):∀f:amu,gg a (λg=>hU (λi=>d i*c i g) f) e ps b=hU (λi=>d i*gg a (c i) e ps b) f
 |[]=>NX a e ps b
 |i::f=>by show gg a (λg=>d i*c i g+hU (λi=>d i*c i g) f) e ps b=d i*gg a (c i) e ps b+hU (λi=>d i*gg a (c i) e ps b) f;rw[NW,Ik a d c e ps b f]
theorem NY (c:Z->Rat) (b a:Rat) (f g:X->Rat):∀(ps:bp aN) (d:X),gg (λh=>b*c h) (λe=>a*f e) (λe=>a*g e) ps d=b*(a*a)*gg c f g ps d
 |[],_=>by show(0:Rat)=b*(a*a)*0;grind
 |q::ps,d=>by rw[gg,gg,NY c b a f g ps];grind
theorem afN {e:Z->Rat} {C:X->X->Rat} {ps:bp aN} {c:amu} (h:∀b∈c,∀g∈c,a b g=gg e (C b) (C g) ps 0) (d:X->Rat):sK a c d=gg e (λf=>hU (λb=>d b*C b f) c) (λf=>hU (λb=>d b*C b f) c) ps 0:=by unfold sK;rw[Ik e d C _ ps 0 c];refine Co λb i=>?_;congr 1;rw[Im,Ik e d C _ ps 0 c];grind [ar8,Im,Co]
theorem KE (a b:X->Rat):∀n,lf a b n=hU (λc=>b c*a c) (bK n)
 |0=>rfl
 |n+1=>by rw[lf,KE a b n,kj,agP];grind [hU]
theorem SW (c:Z->Rat) (b:X->Rat):∀(ps:bp aN) (a:X),(∀q∈ps,(q.a7.length=1/\∃e,q.d=[e])\/(q.a7.length=2/\∃e f g,q.d=[e,f,g]))->za b (ps.map λq=>q.a7.length) (ps.flatMap λq=>q.d.map c) a=gg c b b ps a
 |[],_,_=>rfl
 |q::ps,a,j=>by
  have k:=λa=>SW c b ps a λq l=>j q (gH _ l);rw[hA,oS,gg];rcases j q (jQ ..) with⟨h,e,i⟩|⟨h,e,f,g,i⟩
  ·rw[h,i,aw ab,<-k];show c e*(b a*b a)+_=c e*(b a*b a)+_;rfl
  rw[h,i,ay bq,<-k];show(c e*(b a*b a)+2*c f*(b a*b (a+1))+c g*(b (a+1)*b (a+1)))+_=(c e*(b a*b a)+c f*(b (a+1)*b a+b a*b (a+1))+c g*(b (a+1)*b (a+1)))+_;congr 1;grind
def zW (b:Z->Rat) (f:aN):Prop:=
 (f.a7.length=1/\∃a,f.d=[a])\/(f.a7.length=2/\∃a c e,f.d=[a,c,e]/\(b a*b e-b c*b c<0↔iF (jz [a,c,e])<0)/\b a*b e-b c*b c≠0/\(¬iF (jz [a,c,e])<0->iF (aV a)≠0))
theorem zW.two {g:Z->Rat} {a:aN} (f:zW g a):(a.a7.length=1/\∃b,a.d=[b])\/(a.a7.length=2/\∃b c e,a.d=[b,c,e]):=by
 rcases f with f|⟨h,b,c,e,i,_⟩
 ·grind
 grind
def MZ {g:Z->Rat} {n:X}:∀(ps:bp aN) (a:X),(∀q∈ps,zW g q)->a+(ps.flatMap aN.a7).length=n->u0 n (ps.map λq=>q.a7.length) (ps.flatMap λq=>q.d.map g) a
 |[],a,_,b=>by obtain rfl:a=n:=b;exact .nil
 |q::ps,a,h,b=>by
  rw[oS,hM] at b;have c:=MZ (g:=g) (n:=n) ps (a+q.a7.length) (λq b=>h q (gH _ b)) aa;rw[hA,oS];rcases h q (jQ ..) with⟨e,i,f⟩|⟨e,i,k,l,f,_,j,_⟩
  ·rw[e] at c|-;rw[f];exact .one c
  rw[e] at c|-;rw[f];exact .two j c
theorem Mj {g:Z->Rat} (i:∀c,(0<g c↔0<iF (aV c))/\(g c<0↔iF (aV c)<0)):∀(ps:bp aN),(∀q∈ps,zW g q)->((nW (ps.map λq=>q.a7.length) (ps.flatMap λq=>q.d.map g)).1:Z)=(e1 ps).2.2/\((nW (ps.map λq=>q.a7.length) (ps.flatMap λq=>q.d.map g)).2:Z)=(e1 ps).1/\(e1 ps).1+(e1 ps).2.1+(e1 ps).2.2=((ps.flatMap aN.a7).length:Z)
 |[],_=>⟨bq,bq,bq⟩
 |q::ps,j=>by
  obtain⟨i1,u,v⟩:=Mj i ps λq p=>j q (an2 _ p);have k:e1 (q::ps)=((jZ q).1+(e1 ps).1,(jZ q).2.1+(e1 ps).2.1,(jZ q).2.2+(e1 ps).2.2):=rfl;rw[k,List.map_cons,ar9,ar9,amX];dsimp only;rcases j q (aop ..) with⟨f,a,h⟩|⟨f,a,b,e,h,r,s,t⟩
  ·obtain⟨n,o⟩:=i a;rw[f,h];have l:jZ q=if iF (aV a)<0 then(1,0,0) else if iF (aV a)>0 then(0,0,1) else(0,1,0):=by
    simp_all [aw,absurd,jZ]
   have m:nW (1::ps.map λq=>q.a7.length) ([a].map g++ps.flatMap λq=>q.d.map g)=(let q:=nW (ps.map λq=>q.a7.length) (ps.flatMap λq=>q.d.map g);if 0<g a then(q.1+1,q.2) else if g a<0 then(q.1,q.2+1) else q):=rfl;grind
  obtain⟨n,o⟩:=i a;rw[f,h];have l:jZ q=if iF (jz [a,b,e])<0 then(1,0,1) else if iF (aV a)<0 then(2,0,0) else if iF (aV a)>0 then(0,0,2) else(0,1,0):=by unfold jZ;grind
  have m:nW (2::ps.map λq=>q.a7.length) ([a,b,e].map g++ps.flatMap λq=>q.d.map g)=(let q:=nW (ps.map λq=>q.a7.length) (ps.flatMap λq=>q.d.map g);if g a*g e-g b*g b<0 then(q.1+1,q.2+1) else if 0<g a then(q.1+2,q.2) else(q.1,q.2+2)):=rfl;grind
section
variable {n:X} {ps:bp aN}
theorem M1 (e:hP n ps):∀m,m<=ps.length->∀a b,(eR ps m<=a\/eR ps m<=b)->m2 ps m a b=Y 0
 |0=>λ_ a b _=>rfl
 |m+1=>by
  intro h a b f;have c:m<ps.length:=aa;have g:=wl c;have i:=(e.ig c).1;have j:=M1 e m aa a b aa;rw[m2,bZ c];dsimp only;by_cases d:ps[m].a7.length=2
  ·rw[ay d];unfold iU;grind
  rw[aw d];unfold iU;grind
theorem M0 (j:hP n ps) (k l:X->Rat):∀m,m<=ps.length->mW (λb=>k b.1*cF (m2 ps m b.1 b.2)*l b.2) (nT n n)=gg (λr=>cF (aV r)) k l (ps.take m) 0
 |0,_=>by refine TL λb _=>?_;show k b.1*cF (Y 0)*l b.2=0;have v:cF (Y 0)=0:=rfl;grind
 |m+1,x=>by
  have c:m<ps.length:=aa;have u:=M0 j k l m aa;have w:=j.BG c;have y:=(j.ig c).1;have p:=M1 j m aa;have g:∀e f,e<n->f<n->e<=f+1->f<=e+1->(e,f)∈nT n n:=λe f o c s t=>KU.2 ⟨o,(QW o).2 ⟨s,c,t⟩⟩;have h:=SH n n;rw[nY c,Il,<-u,l3,show((ps.take m).flatMap aN.a7).length=eR ps m from rfl];have q:m2 ps (m+1)=if ps[m].a7.length=2 then iU (iU (iU (iU (m2 ps m) (eR ps m) (eR ps m) (aV (ps[m].d.getD 0 0))) (eR ps m+1) (eR ps m) (aV (ps[m].d.getD 1 0))) (eR ps m) (eR ps m+1) (aV (ps[m].d.getD 1 0))) (eR ps m+1) (eR ps m+1) (aV (ps[m].d.getD 2 0))
   else iU (m2 ps m) (eR ps m) (eR ps m) (aV (ps[m].d.getD 0 0)):=by
   rw[m2,cH c]
  rw[q,gg,gg];generalize eR ps m=a at*;by_cases i:ps[m].a7.length=2
  ·rw[ay i,ay i];rw[Cp h (g (a+1) (a+1) aa aa aa aa) (by simp_all [aw,iU]),Cp h (g a (a+1) aa aa aa aa) (by simp_all [aw,iU]),Cp h (g (a+1) a aa aa aa aa) (by simp_all [aw,iU]),Cp h (g a a aa aa aa aa) (p _ _ aa)];grind
  rw[aw i,aw i];rw[Cp h (g a a aa aa aa aa) (p _ _ aa)];grind
end
end
def abp (g:e≠0) (a:X):cO (e*2^a)=cO e/\eD (e*2^a)=eD e+a:=by
 have f:cV (e*2^a).natAbs=cV e.natAbs+a:=(by rw[jr,CF aa]);constructor
 ·have b:=oy (e*2^a);have c:=oy e;rw[f,oA,<-ju] at b;have d:=(HD (SN a)).1 b;exact(HD (SN (cV e.natAbs))).1 (d.trans c.symm)
 unfold eD;omega
abbrev ad8:Z:=4607182418800017408
section
def Pq (d:∀c∈h,bo c≠2047) (b:X):bo (h.getD b 0)≠2047:=by
 rcases c6 b h.length with a|a
 ·rw[k1 a];exact d _ (cT a)
 rw[ji,rS a];show bo 0≠2047;decide
def LI {D:X} (a:D=65536):jD 1=Y (1*2^D)/\aV ad8=Y (1*2^D):=⟨BB (n:=1) ab a,by rw[a];exact v1⟩
def bd.ff {D c:X} {l:ev} (e:∀a∈l,bd D c d b a):l6 l=bt/\gx (D-c) (j1 l)/\(j1 l).natAbs<=l.length*(b*2^(D+d)):=by
 induction l with
 |nil=>exact⟨bq,gx.zero _,by simp[j1]⟩
 |cons a l j=>
  obtain⟨i1,i,o⟩:=j λa h=>e a (gH _ h);obtain⟨k,rfl,g,n⟩:=e a (jQ ..);refine⟨by simp[l6,i1],g.add i,?_⟩;show(k+j1 l).natAbs<=(l.length+1)*(b*2^(D+d));generalize b*2^(D+d)=f at*;rw[la,iL];generalize l.length*f=m at*;omega
theorem Ul {T:X×X->amp} {f:X×X->Rat} {s:Rat}:∀{l:amw},(∀x∈l,cF (T x)*s=f x)->((j1 (l.map T):Z):Rat)*s=mW f l
 |[],_=>by show((0:Z):Rat)*s=0;rw[show((0:Z):Rat)=0 from rfl];grind
 |x::l,a=>by have d:=Ul (T:=T) (f:=f) (s:=s) (l:=l) λe c=>a e (gH _ c);have b:=a x (jQ ..);show(((T x).getD 0+j1 (l.map T):Z):Rat)*s=f x+mW f l;rw[aqR,<-d,<-b];unfold cF;grind
def Ct (a:amp):(0<iF a↔0<a.getD 0)/\(iF a<0↔a.getD 0<0):=by
 unfold iF gE;split
 ·omega
 split<;>omega
def XC {D:X} (a:D=65536) {f g:Z} (p:bo f≠2047) (i:bo e≠2047) (q:bo g≠2047):∃j c b d:Z,jz [f,e,g]=Y j/\aV f=Y c/\aV e=Y b/\aV g=Y d/\j*2^D=c*d-b*b:=by
 obtain⟨s,c,d,u,ar,l,m,n⟩:=(anI a p).mul a (anI a q) ab ab ab;obtain⟨t,b,k,v,h,f2,o,f4⟩:=(anI a i).mul a (anI a i) ab ab ab;obtain rfl:b=k:=gn (h.symm.trans f2);have r:=(bd.add a ab s t.neg ab).2;refine⟨u-v,c,b,d,?_,ar,h,l,?_⟩
 ·show cZ (cK (aV f) (aV g)) (dk (cK (aV e) (aV e)))=_;rw[r,m,o];rfl
 rw[Int.sub_mul,n,f4]
theorem afZ {a b:Rat} (e:0<j) (g:a*(j*j)=b*(j*j)):a=b:=by
 have c:=kU e e;have f:(a-b)*(j*j)=0:=ae;rcases tm.1 f with d|d
 ·grind
 rw[d] at c;exact absurd c ab
theorem af0 (a:0<j):j/j=1:=by grind
theorem af1 (a:Rat):0/a=0:=by grind
theorem S4 (b a:Rat):b/a=1/a*b:=by grind
theorem af2 {b a:Rat} (d:0<a) (c:0<j):b=1/a*(1/j*(1/j))*(b*a*(j*j)):=by grind
def LY (a:X):(0:Rat)<(((2:Z)^a:Z):Rat):=zX.2 (l0 ab)
section
variable {n D:X} {ps:bp aN} {F:fA}
def C4 (a:D=65536) (c:h2 n ps F) {i:X} (k:b<n):bd D 1074 1024 1 (fI ps i b):=by
 unfold fI;by_cases d:i=b
 ·rw[ay d,(LI a).1,<-(LI a).2];exact anI a ab
 rw[b6 d];obtain⟨m,o,e,l,rfl⟩:=c.ok.eO k;obtain⟨f,h,g⟩:=c.ok.xR e l;rw[g];dsimp only;split
 ·rename_i j;exact anI a ((c.ok.e7 _ (cT e)).fin f h _ j)
 exact apG
def Vn (b:D=65536) (a:X):fI ps a a=Y (1*2^D):=by unfold fI;rw[ay bq];exact(LI b).1
def Vo (a:h2 n ps F) (m:b<d) (h:d<n):fI ps b d=Y 0:=by unfold fI;rw[b6 aa];obtain⟨k,o,c,i,rfl⟩:=a.ok.eO h;obtain⟨j,l,e⟩:=a.ok.xR c i;rw[e];dsimp only;rw[b6];intro g;have f:=(a.ok.after c g).1;rw[a.ok.idx (aa:b<n)] at f;omega
def CI {E:X->X->amp} {e:amp} (f:∀a c,bd D 1074 1024 1 (E a c)) (g:bd D 1074 1024 1 e):∀a c,bd D 1074 1024 1 (iU E b d e a c):=λa c=>by
 unfold iU;split
 ·exact g
 exact f a c
def CV (c:D=65536) (b:h2 n ps F):∀m f g,bd D 1074 1024 1 (m2 ps m f g)
 |0=>λf g=>apG
 |m+1=>by
  rw[m2];by_cases i:m<ps.length
  ·rw[bZ i];dsimp only;have j:=(b.ok.k _ (ca i)).Bg;have a:∀e,bd D 1074 1024 1 (aV (ps[m].d.getD e 0)):=λe=>anI c (Pq j e);by_cases h:ps[m].a7.length=2
   ·rw[ay h];exact CI (CI (CI (CI (CV c b m) (a 0)) (a 1)) (a 1)) (a 2)
   rw[aw h];exact CI (CV c b m) (a 0)
  rw[rS aa];exact CV c b m
theorem LR (c:D=65536) (s:j=(((2:Z)^D:Z):Rat)) (g:h2 n ps F) (R:n<=5) (P:b<n) (Q:d<n):∃f:Z,np ps n b d=Y f/\gx (D-3222) f/\f.natAbs<=15*2^(D+3072)/\(f:Rat)*(j*j)=gg (λB=>cF (aV B)) (λk=>cF (fI ps b k)) (λm=>cF (fI ps d m)) ps 0:=by
 have t:∀a∈nT n n,bd D 3222 3072 1 (Cb ps n b d a)/\cF (Cb ps n b d a)*(j*j)=cF (fI ps b a.1)*cF (m2 ps ps.length a.1 a.2)*cF (fI ps d a.2):=λa e=>(by obtain⟨u,h⟩:=KU.1 e;have h:=((QW u).1 h).2.1;obtain⟨I,p,q,o,ar,y,z,A⟩:=(C4 c g (i:=b) u).mul c (CV c g ps.length a.1 a.2) ab ab ab;obtain⟨J,x,r,w,C,f2,E,f4⟩:=I.mul c (C4 c g (i:=d) h) ab ab ab;refine⟨J,?_⟩;obtain rfl:o=x:=gn (z.symm.trans C);have K:(o:Rat)*j=(p:Rat)*(q:Rat):=(by rw[s,<-o0,<-o0,A]);have L:(w:Rat)*j=(o:Rat)*(r:Rat):=(by rw[s,<-o0,<-o0,f4]);show cF (cK (cK (fI ps b a.1) (m2 ps ps.length a.1 a.2)) (fI ps d a.2))*(j*j)=_;rw[E,ar,y,f2];show(w:Rat)*(j*j)=(p:Rat)*(q:Rat)*(r:Rat);rw[<-K,<-asa,L];grind);have H:(nT n n).length<=15:=eE (SF n n) aa;obtain⟨M,N,v⟩:=bd.ff (l:=(nT n n).map (Cb ps n b d)) λO G=>(by obtain⟨a,e,rfl⟩:=eT.1 G;exact(t a e).1);rw[eL] at v;have cS:(j1 ((nT n n).map (Cb ps n b d))).natAbs<=15*2^(D+3072):=eE v (by rw[iL];exact hW _ H);refine⟨_,?_,N,cS,?_⟩
 ·unfold np sW;rw[ay M];unfold nb;rw[ay (ank c ab ab cS)]
 rw[Ul λa e=>(t a e).2];exact(M0 g.ok (λk=>cF (fI ps b k)) (λm=>cF (fI ps d m)) ps.length (bf _)).trans (by rw[ik])
theorem h2.SL (M:D=65536) (z:h2 n ps F) {q:Z} (Q:0<q):∀H∈ps,zW (λL=>jY ((aV L).getD 0,q)) H:=by
 intro H C;obtain⟨V,P,rfl⟩:=hN.1 C;obtain⟨d,g,ad⟩:=z.ok.ig P;have A:=z.ok.k _ C;rcases d with d|d
 ·rw[d] at g;obtain⟨h,O⟩:=qB.1 g;exact .inl ⟨d,h,O⟩
 rw[d] at g;obtain⟨h,t,u,y⟩:=My g;have l:=A.Bg;obtain⟨am,an,E,G⟩:=A.two d (by rw[d];exact g);rw[y] at E G l;obtain⟨e,i,f,j,v,w,d3,x,J⟩:=XC M (l h ac) (l t ac) (l u ac);have B:(0:Rat)<(q:Rat):=Rat.intCast_pos.2 Q;have o:=LY D;generalize N:(((2:Z)^D:Z):Rat)=m at*;have K:(e:Rat)*m=(i:Rat)*(j:Rat)-(f:Rat)*(f:Rat):=(by rw[<-N,<-aqS,<-aqS,<-aqS,<-asb,J]);have r:(jY (i,q)*jY (j,q)-jY (f,q)*jY (f,q))*((q:Rat)*(q:Rat))=(e:Rat)*m:=(by rw[K];unfold jY;dsimp only;have:=S3 (aa:q≠0);grind);have R:e≠0:=λc=>E (by rw[v,c];rfl);have S:=S3 R;have p:(e:Rat)*m≠0:=by
  intro c;rcases tm.1 c with c|c
  ·exact S c
  rw[c] at o;exact absurd o ab
 have T:=(Cu r p).1 (kU B B);have U:=(Cu (s:=(e:Rat)) rfl p).1 o;have I:(e:Rat)<0↔e<0:=(by have:=aqQ (a:=e) (b:=0);simpa using this);refine .inr ⟨d,h,t,u,y,?_,?_,G⟩
 ·dsimp only;rw[v,w,d3,x];show jY (i,q)*jY (j,q)-jY (f,q)*jY (f,q)<0↔_;rw[T.2,<-U.2,I,(Ct (Y e)).2];exact aou
 dsimp only;rw[w,d3,x];show jY (i,q)*jY (j,q)-jY (f,q)*jY (f,q)≠0;intro c;rw[c] at r;exact p (by rw[<-r];grind)
end
def YB {A:X->X->amp} (g:∀m o,da (A m o)) {e:ez} {a:bp eS} {n:X} (d:jg e a) (c:e.length=n) (k:n<=12) (l:fX h n):ue A h a=(uE,233,())\/∃ps f,ue A h a=(wd h ps ((f:X):Z),0,())/\h2 n ps (wd h ps ((f:X):Z)):=by
 cases b:kt A a a.length with
 |none=>exact .inl (by unfold ue;rw[b])
 |some r=>
  obtain⟨j,ps⟩:=r;obtain⟨i1,i⟩:=Bq g d c (bf _) b;obtain⟨p,q⟩:=Pu g d c (bf _) b;have:hP n ps:=⟨i.all d c,i.e7,p,q⟩;exact .inr ⟨ps,pc j,by unfold ue;rw[b],this.YD k l _⟩
end
section
abbrev zS:=bv (bp (Z×gG)×X)
theorem bd.ok {A e:X} {a:amp} (g:A=65536) (j:e<=60000) (i:d<1048576) (f:bd A b e d a):da a:=λk c=>by obtain⟨l,b,_,h⟩:=f;rw[b] at c;cases c;exact ank g j i h
def rV (n:X) (Xa:X->amp) (x:zS):Prop:=∀a,a<n->gW x (a:Z)=Y (aE (Xa a))\/(gW x (a:Z)=br/\Xa a=Y 0)
section
variable {n A:X} {ps:bp aN} {F:fA}
def QM (m:h2 n ps F) (z:b<n):∃x,x4 (F,(b:Z),())=Y (x,())/\rV n (λa=>fI ps a b) x:=by
 obtain⟨t,i,d,f⟩:=m.WZ z;have H:=f.le;have G:=m.sG;suffices w:ah (x4 (F,(b:Z),())) λs=>rV n (λa=>fI ps a b) s.1 by obtain⟨⟨x,_⟩,v,q⟩:=w;exact⟨x,v,q⟩
 unfold x4;refine bC (vY ab ab) ?_;dsimp only;refine bC (y:=Y (kK [] (b:Z) (aE (jD 1)),1)) rfl ?_;refine bC f.TG ?_;refine bJ (P:=λs=>rV n (λa=>fI ps a b) s.1) ?_ (by rintro⟨x,_⟩ q;exact bA.2 q);refine bS d.length (λc C=>∃h r,C=(((i+c:X):Z),Y (h,r),())/\∀a,a<n->gk h (a:Z)=if a=b then Y (aE (jD 1)) else if(ps.flatMap aN.a7).getD a 0∈d.take c then Y (aE (aV (t.2 ((ps.flatMap aN.a7).getD a 0)))) else br) ⟨_,_,bq,λa k=>?_⟩ ?_ ?_
 ·rw[F9];by_cases e:a=b
  ·rw[ay aa,ay e]
  rw[aw aa,aw e,aoP,aw ac];rfl
 ·rintro c _ o ⟨h,r,rfl,p⟩;obtain⟨D,E⟩:=f.jb c o;obtain⟨I,J,B,aY,K⟩:=f.row d[c] ((f.mem _).1 (ca o));dsimp only;rw[show aT (b:Z)=((b+1:X):Z) from bk aa];refine bC f.s1 ?_;rw[a5 (aJ (aa:((i+c:X):Z)<((i+d.length:X):Z)))];refine bC D (bC E (bC (oz aY) ?_));dsimp only;rw[show aT ((i+c:X):Z)=((i+c+1:X):Z) from bk aa];refine bC (y:=Y (kK h ((ps.flatMap aN.a7).idxOf d[c]:Z) (aE (aV (t.2 d[c]))),_)) rfl ?_;refine bA.2 ⟨_,_,bq,λa k=>?_⟩;rw[F9,p a k];by_cases e:a=(ps.flatMap aN.a7).idxOf d[c]
  ·have ar:=m.ok.getD B;rw[<-e] at ar;have A:d[c]∈d.take (c+1):=by
    rw[nY o];exact kB _ (gI.2 bq)
   rw[ay aa,aw aa,ar,ay A]
  rw[aw aa];by_cases g:a=b
  ·rw[ay g,ay g]
  rw[aw g,aw g];have u:(ps.flatMap aN.a7).getD a 0∈d.take (c+1)↔(ps.flatMap aN.a7).getD a 0∈d.take c:=(by rw[nY o,hl,gI];refine⟨λj=>j.elim (λb=>b) λb=>absurd ?_ e,.inl⟩;rw[<-b,m.ok.idx k]);by_cases l:(ps.flatMap aN.a7).getD a 0∈d.take c
  ·rw[ay l,ay (u.2 l)]
  rw[aw l,aw (λj=>l (u.1 j))]
 rintro _ ⟨h,r,rfl,p⟩;dsimp only;rw[show aT (b:Z)=((b+1:X):Z) from bk aa];refine bC f.s1 ?_;rw[a2 (aG (aa:¬((i+d.length:X):Z)<((i+d.length:X):Z)))];refine bA.2 λa k=>?_;show gk h (a:Z)=Y (aE (fI ps a b))\/(gk h (a:Z)=br/\fI ps a b=Y 0);rw[p a k,amy];unfold fI;by_cases e:a=b
 ·rw[ay e,ay e];exact .inl bq
 rw[b6 e,b6 e,f.cs];dsimp only;by_cases g:(ps.flatMap aN.a7).getD a 0∈d
 ·rw[ay g,ay ((f.mem _).1 g)];exact .inl bq
 rw[aw g,aw (λj=>g ((f.mem _).2 j))];exact .inr ⟨bq,bq⟩
end
section
variable {n:X} {x y:zS} {d:amp} {Xa Ya:X->amp} {T:X->ev}
def iH (n:X) (x y:zS) (d:amp) (Xa Ya:X->amp) (T:X->ev) (b c a:X):ev:=
 if(a %n<b\/(a %n=b/\a/n<c))/\((gW x ((a %n:X):Z)).isSome&&(gW y ((a/n:X):Z)).isSome)=bt then T a++[cK (cK (Xa (a %n)) d) (Ya (a/n))] else T a
def ahO (b c a:X):(iH n x y d Xa Ya T b c a).length<=(T a).length+1:=by
 unfold iH;split
 ·rw[hM,oV];omega
 omega
def aen (C:n<=5) (M:rV n Xa x) (N:rV n Ya y) (J:da d) (H:∀b,b<n->da (Xa b)) (I:∀b,b<n->da (Ya b)) (G:∀a,a<n*n->(T a).length<=1000):tN (x,y,aE d,Y (n:Z),aA (n*n) (λa=>(T a).map aE),())=Y (aA (n*n) (λa=>(iH n x y d Xa Ya T n 0 a).map aE),()):=by
 have am:=zq C;refine bR.1 ?_;unfold tN;dsimp only;rw[bT];refine bJ (P:=λs=>s=(aA (n*n) (λa=>(iH n x y d Xa Ya T n 0 a).map aE),())) ?_ (by rintro _ rfl;exact bA.2 bq);refine bS n (λb t=>t=((b:Z),aA (n*n) (λa=>(iH n x y d Xa Ya T b 0 a).map aE),())) ?_ ?_ ?_
 ·have:(λa=>(iH n x y d Xa Ya T 0 0 a).map aE)=λa=>(T a).map aE:=by
   funext a;unfold iH;rw[aw (λo=>o.1.elim (pI _) λf=>pI _ f.2)]
  rw[this];rfl
 ·rintro b _ h rfl;dsimp only;rw[a5 (aJ (aa:(b:Z)<(n:Z))),bT,show aT (b:Z)=((b+1:X):Z) from bk aa];refine bJ (P:=λs=>s=(aA (n*n) (λa=>(iH n x y d Xa Ya T (b+1) 0 a).map aE),())) ?_ (by rintro _ rfl;exact bA.2 bq);refine bS n (λc t=>t=((c:Z),aA (n*n) (λa=>(iH n x y d Xa Ya T b c a).map aE),())) rfl ?_ ?_
  ·rintro c _ i rfl;obtain⟨w,z⟩:=Fl (n:=n) (j:=c) h;have k:=Af i h;have U:=G _ k;have S:=ahO (n:=n) (x:=x) (y:=y) (d:=d) (Xa:=Xa) (Ya:=Ya) (T:=T) b c (c*n+b);dsimp only;rw[a5 (aJ (aa:(c:Z)<(n:Z))),show aT (c:Z)=((c+1:X):Z) from bk aa];refine bC (y:=(aA (n*n) (λa=>(iH n x y d Xa Ya T b (c+1) a).map aE),())) ?_ (bA.2 bq);have D:∀a,a<n*n->a≠c*n+b->iH n x y d Xa Ya T b (c+1) a=iH n x y d Xa Ya T b c a:=λa g L=>by
    have ad:0<n:=aa;have K:a/n*n+a %n=a:=aqT a n;unfold iH;have m:(a %n<b\/(a %n=b/\a/n<c+1))↔(a %n<b\/(a %n=b/\a/n<c)):=by
     constructor
     ·rintro(f|⟨l,r⟩)
      ·exact .inl f
      refine .inr ⟨l,Nat.lt_of_le_of_ne (Nat.le_of_lt_succ r) λO=>L ?_⟩;rw[<-K,l,O]
     rintro(f|⟨l,r⟩)
     ·exact .inl f
     exact .inr ⟨l,Nat.lt_succ_of_lt r⟩
    simp only[m]
   have A:iH n x y d Xa Ya T b c (c*n+b)=T (c*n+b):=(by unfold iH;rw[w,z,aw aa]);have B:iH n x y d Xa Ya T b (c+1) (c*n+b)=if((gW x (b:Z)).isSome&&(gW y (c:Z)).isSome)=bt then T (c*n+b)++[cK (cK (Xa b) d) (Ya c)] else T (c*n+b):=by
    unfold iH;rw[w,z];by_cases e:((gW x (b:Z)).isSome&&(gW y (c:Z)).isSome)=bt
    ·rw[ay ⟨.inr ⟨bq,aa⟩,e⟩,ay e]
    rw[aw (λo=>e o.2),aw e]
   refine aq (y:=((gW x (b:Z)).isSome&&(gW y (c:Z)).isSome,aA (n*n) (λa=>(iH n x y d Xa Ya T b c a).map aE),(gW x (b:Z)).getD (bu,(bu,[],()),0,()),(gW y (c:Z)).getD (bu,(bu,[],()),0,()),())) ?_ ?_
   ·cases(gW x (b:Z)).isSome
    ·rfl
    rfl
   dsimp only;cases q:((gW x (b:Z)).isSome&&(gW y (c:Z)).isSome) with
   |false=>
    rw[bQ];have:aA (n*n) (λa=>(iH n x y d Xa Ya T b (c+1) a).map aE)=aA (n*n) (λa=>(iH n x y d Xa Ya T b c a).map aE):=db λa g=>by
     by_cases e:a=c*n+b
     ·rw[e,A,B,q,aw ab]
     rw[D a g e]
    rw[this]
   |true=>
    obtain⟨u,v⟩:=Bool.and_eq_true_iff.1 q;have E:gW x (b:Z)=Y (aE (Xa b)):=(M b h).resolve_right λf=>(by rw[f.1] at u;cases u);have F:gW y (c:Z)=Y (aE (Ya c)):=(N c i).resolve_right λf=>(by rw[f.1] at v;cases v);have p:(aA (n*n) (λa=>(iH n x y d Xa Ya T b c a).map aE))[c*n+b]?=Y ((T (c*n+b)).map aE):=(by rw[gu k,A]);rw[bI,bT,bT,E,F,aiw C i h];refine aq (e4 (by rw[cI];exact k)) (aq (pd (H b h) J) (aq (pd (ox _ _) (I c i)) ?_));dsimp only;refine aq (gP p) ?_;rw[fe (by rw[cb,aoW];omega),bT];refine aq (e4 (by rw[cI];exact k)) ?_;rw[a5 ac];refine aq (gP p) (aq (gP p) ?_);have:(aA (n*n) (λa=>(iH n x y d Xa Ya T b c a).map aE)).set (c*n+b) ((T (c*n+b)).map aE++[aE (cK (cK (Xa b) d) (Ya c))])=aA (n*n) (λa=>(iH n x y d Xa Ya T b (c+1) a).map aE):=by
     rw[hq];refine db λa g=>?_;by_cases e:a=c*n+b
     ·subst e;rw[gw,B,q,ay bq,kA];rfl
     rw[gS _ _ e,D a g e]
    rw[this]
  rintro _ rfl;dsimp only;rw[a2 (aG (aa:¬((n:Z)<(n:Z))))];have:aA (n*n) (λa=>(iH n x y d Xa Ya T b n a).map aE)=aA (n*n) (λa=>(iH n x y d Xa Ya T (b+1) 0 a).map aE):=db λa g=>(by have V:a/n<n:=apH g;have m:(a %n<b\/(a %n=b/\a/n<n))↔(a %n<b+1\/(a %n=b+1/\a/n<0)):=(by generalize a %n=Q;generalize a/n=R at*;omega);unfold iH;simp only[m]);rw[this];exact bA.2 bq
 rintro _ rfl;dsimp only;rw[a2 (aG (aa:¬((n:Z)<(n:Z))))];exact bA.2 bq
end
section
variable {n A:X} {ps:bp aN} {F:fA} {P:Rat}
theorem aeS (h:A=65536) (i:P=(((2:Z)^A:Z):Rat)) {a d b:amp} (q:bd A 1074 1024 1 a) (s:bd A 1074 1024 1 d) (r:bd A 1074 1024 1 b):bd A 3222 3072 1 (cK (cK a d) b)/\cF (cK (cK a d) b)*(P*P)=cF a*cF d*cF b:=by obtain⟨t,e,f,c,ar,l,m,n⟩:=q.mul h s ab ab ab;obtain⟨u,k,g,j,o,f2,p,f4⟩:=t.mul h r ab ab ab;refine⟨u,?_⟩;obtain rfl:c=k:=gn (m.symm.trans o);have v:(c:Rat)*P=(e:Rat)*(f:Rat):=(by rw[i,<-o0,<-o0,n]);have w:(j:Rat)*P=(c:Rat)*(g:Rat):=(by rw[i,<-o0,<-o0,f4]);rw[p,ar,l,f2];show(j:Rat)*(P*P)=(e:Rat)*(f:Rat)*(g:Rat);rw[<-v,<-asa,w];grind
def pO (A:X) (P b:Rat) (c:X) (a:ev):Prop:=a.length<=c/\(∀d∈a,bd A 3222 3072 1 d)/\((j1 a:Z):Rat)*(P*P)=b
theorem pO.next (n:A=65536) (p:P=(((2:Z)^A:Z):Rat)) {e f:ev} {a d c:amp} (m:pO A P j b e) (q:bd A 1074 1024 1 a) (s:bd A 1074 1024 1 d) (r:bd A 1074 1024 1 c) (o:f=e++[cK (cK a d) c]\/(f=e/\(a=Y 0\/c=Y 0))):pO A P (j+cF a*cF d*cF c) (b+1) f:=by
 obtain⟨x,k,h⟩:=m;rcases o with rfl|⟨rfl,u⟩
 ·obtain⟨v,w⟩:=aeS n p q s r;refine⟨by rw[hM,oV];omega,λg t=>?_,?_⟩
  ·rcases hl.1 t with i|i
   ·exact k g i
   rw[gI.1 i];exact v
  rw[Uk];have g:j1 [cK (cK a d) c]=(cK (cK a d) c).getD 0:=(by show _+(0:Z)=_;omega);rw[g,aqR,<-h,<-w];unfold cF;grind
 refine⟨aa,k,?_⟩;have l:cF (Y 0)=0:=rfl;rcases u with rfl|rfl
 ·rw[h,l];grind
 rw[h,l];grind
def ahN {x y:zS} {d:amp} {Xa Ya:X->amp} {T:X->ev} {a:X} (f:a<n) (k:b<n) (l:rV n Xa x) (m:rV n Ya y):iH n x y d Xa Ya T n 0 (b*n+a)=T (b*n+a)++[cK (cK (Xa a) d) (Ya b)]\/(iH n x y d Xa Ya T n 0 (b*n+a)=T (b*n+a)/\(Xa a=Y 0\/Ya b=Y 0)):=by
 obtain⟨g,h⟩:=Fl (n:=n) (j:=b) f;unfold iH;rw[g,h];by_cases e:((gW x (a:Z)).isSome&&(gW y (b:Z)).isSome)=bt
 ·rw[ay ⟨.inl f,e⟩];exact .inl bq
 rw[aw (λi=>e i.2)];refine .inr ⟨bq,?_⟩;rcases l a f with ar|⟨_,ar⟩
 ·rcases m b k with c|⟨_,c⟩
  ·exact absurd (by rw[ar,c];rfl) e
  exact .inr c
 exact .inl ar
theorem pO.len {S:Rat} {T:X->ev} (i:∀d e,d<n->e<n->pO A P (a d e) b (T (e*n+d))) (j:b<=1000):∀c,c<n*n->(T c).length<=1000:=λc g=>by have k:0<n:=aqU λh=>(by rw[h] at g;omega);have f:=i (c %n) (c/n) (anT _ k) (apH g);rw[aqT c n] at f;exact eE f.1 j
def GC (g:A=65536) (r:P=(((2:Z)^A:Z):Rat)) (t:n<=5) {x y:zS} {d:amp} {Xa Ya:X->amp} (p:rV n Xa x) (q:rV n Ya y) (o:bd A 1074 1024 1 d) (l:∀c,c<n->bd A 1074 1024 1 (Xa c)) (m:∀c,c<n->bd A 1074 1024 1 (Ya c)) {T:X->ev} (k:∀c e,c<n->e<n->pO A P (a c e) b (T (e*n+c))) (s:b<=1000):∃j:X->ev,tN (x,y,aE d,Y (n:Z),aA (n*n) (λi=>(T i).map aE),())=Y (aA (n*n) (λi=>(j i).map aE),())/\∀c e,c<n->e<n->pO A P (a c e+cF (Xa c)*cF d*cF (Ya e)) (b+1) (j (e*n+c)):=
 ⟨_,aen t p q (o.ok g ab ab) (λc f=>(l c f).ok g ab ab) (λc f=>(m c f).ok g ab ab) (pO.len (S:=0) k s),λc e f h=>(k c e f h).next g r (l c f) o (m e h) (ahN f h p q)⟩
theorem Z2 (f:h2 n ps F) (o:n<=5):AN (F,())=Y (((n:Z),(n:Z),aA (n*n) (λb=>aE (np ps n (b %n) (b/n))),()),0,()):=by
 obtain⟨A,j⟩:∃A:X,A=65536:=⟨_,bq⟩;obtain⟨P,p⟩:∃P:Rat,P=(((2:Z)^A:Z):Rat):=⟨_,bq⟩;have av:0<P:=(by rw[p];exact LY A);have d6:=zq o;obtain⟨ce,_,_,cS,_⟩:=f.small;unfold AN;refine aq (Ku f) ?_;dsimp only;rw[a2 af,a8,ce,a2 (aG (aa:¬((n:Z)>64))),aix o];refine aq (jq aa) (aq (SA f) ?_);dsimp only;refine aq (Jr f) ?_;dsimp only;refine bR.1 ?_;generalize d7:(((0:Z),((0:Z),(([]:bp gG),()))):oc)=t;refine bJ (P:=λs=>∃T:X->ev,s=(t,(n:Z),aA (n*n) (λb=>(T b).map aE),())/\∀a e,a<n->e<n->pO A P (gg (λg=>cF (aV g)) (λh=>cF (fI ps a h)) (λi=>cF (fI ps e i)) ps 0) (4*ps.length) (T (e*n+a))) ?_ ?_
 ·refine bS ps.length (λc H=>∃T:X->ev,H=((c:Z),t,(n:Z),aA (n*n) (λb=>(T b).map aE),ps.map jn,())/\∀a e,a<n->e<n->pO A P (gg (λg=>cF (aV g)) (λh=>cF (fI ps a h)) (λi=>cF (fI ps e i)) (ps.take c) 0) (4*c) (T (e*n+a))) ?_ ?_ ?_
  ·refine⟨λ_=>[],?_,λa e _ _=>⟨eU _,λd l=>(by cases l),?_⟩⟩
   ·rw[jV];rfl
   show((0:Z):Rat)*(P*P)=0;rw[show((0:Z):Rat)=0 from rfl];grind
  ·rintro c _ m ⟨T,rfl,q⟩;have d5:=f.ok.BG m;obtain⟨C,d9,ek⟩:=f.ok.ig m;have a3:=(f.ok.k _ (cT m)).Bg;have l:∀a,bd A 1074 1024 1 (aV (ps[c].d.getD a 0)):=λa=>anI j (Pq a3 a);have w:∀a,a<ps[c].d.length->az (jn ps[c]) (a:Z)=Y (aE (aV (ps[c].d.getD a 0))):=λa r=>by
    unfold jn;rw[fc (by rw[eL];exact r),pH,k1 r]
   have a4:au (jn ps[c])=(ps[c].d.length:Z):=(by unfold jn;rw[a8,eL]);have M:eR ps c<n:=aa;obtain⟨x,d1,z⟩:=QM f M;have u:∀a,a<n->bd A 1074 1024 1 (fI ps a (eR ps c)):=λa _=>C4 j f M;obtain⟨V,ci,S⟩:=GC j p o z z (l 0) u u q aa;have O:∀a e,gg (λg=>cF (aV g)) (λh=>cF (fI ps a h)) (λi=>cF (fI ps e i)) (ps.take (c+1)) 0=gg (λg=>cF (aV g)) (λh=>cF (fI ps a h)) (λi=>cF (fI ps e i)) (ps.take c) 0+
    gg (λg=>cF (aV g)) (λh=>cF (fI ps a h)) (λi=>cF (fI ps e i)) [ps[c]] (eR ps c):=λa e=>by
    rw[nY m,Il,l3];rfl
   dsimp only;rw[a8,cb,a5 (aJ (aa:(c:Z)<(ps.length:Z))),show aT (c:Z)=((c+1:X):Z) from bk aa];refine bJ (P:=λs=>∃T:X->ev,s=(t,(n:Z),aA (n*n) (λb=>(T b).map aE),ps.map jn,())/\∀a e,a<n->e<n->pO A P (gg (λg=>cF (aV g)) (λh=>cF (fI ps a h)) (λi=>cF (fI ps e i)) (ps.take (c+1)) 0) (4*(c+1)) (T (e*n+a))) ?_ (by
    rintro _ ⟨U,rfl,a0⟩;exact bA.2 ⟨U,bq,a0⟩)
   rw[ky (by rw[cb];exact m),List.getElem_map];refine bC (JK m) (bC d1 ?_);dsimp only;refine bC (w 0 aa) (bC ci ?_);dsimp only;rw[a4,gV];rcases C with C|C
   ·rw[aG (aa:¬((ps[c].d.length:Z)=3)),bQ];refine bA.2 ⟨V,bq,λa e r E=>?_⟩;obtain⟨dl,I,J⟩:=S a e r E;refine⟨aa,I,?_⟩;rw[J,O,gg,aw aa];show _=_+(_+(0:Rat));grind
   have N:eR ps c+1<n:=aa;obtain⟨y,d2,B⟩:=QM f N;have v:∀a,a<n->bd A 1074 1024 1 (fI ps a (eR ps c+1)):=λa _=>C4 j f N;obtain⟨d3,co,cs⟩:=GC j p o z B (l 1) u v S aa;obtain⟨d4,cv,c1⟩:=GC j p o B z (l 1) v u cs aa;obtain⟨ad,c2,dg⟩:=GC j p o B B (l 2) v v c1 aa;rw[aJ (aa:((ps[c].d.length:Z)=3)),bI];refine bC (JK m) ?_;rw[show aT (eR ps c:Z)=((eR ps c+1:X):Z) from bk aa];refine bC d2 ?_;dsimp only;refine bC (w 1 aa) (bC co ?_);dsimp only;refine bC (w 1 aa) (bC cv ?_);dsimp only;refine bC (w 2 aa) (bC c2 ?_);dsimp only;refine bA.2 ⟨ad,bq,λa e r E=>?_⟩;obtain⟨dl,I,J⟩:=dg a e r E;refine⟨aa,I,?_⟩;rw[J,O,gg,cc C];show _=_+(_+(0:Rat));grind
  rintro _ ⟨T,rfl,q⟩;dsimp only;rw[a8,cb,a2 (aG (aa:¬((ps.length:Z)<(ps.length:Z))))];rw[amy] at q;exact bA.2 ⟨T,bq,q⟩
 rintro _ ⟨T,rfl,q⟩;dsimp only;refine bJ (P:=λs=>s=(t,((n:Z),(n:Z),aA (n*n) (λb=>aE (np ps n (b %n) (b/n))),()),())) ?_ (by rintro _ rfl;exact bA.2 bq);refine bS (n*n) (λb H=>H=((b:Z),t,aA (n*n) (λb=>(T b).map aE),((n:Z),(n:Z),aA b (λb=>aE (np ps n (b %n) (b/n))),()),())) rfl ?_ ?_
 ·rintro b _ G rfl;have bl:0<n:=aqU λam=>(by rw[am] at G;omega);have Q:=anT b bl;have R:=apH G;obtain⟨ap,D,L⟩:=q (b %n) (b/n) Q R;rw[aqT b n] at ap D L;obtain⟨K,v1,fy,ds,v4⟩:=LR j p f o Q R;obtain⟨d0,d8,eY⟩:=bd.ff D;have bx:sW (T b)=np ps n (b %n) (b/n):=by
   have ar:j1 (T b)=K:=aqP.1 (afZ av (L.trans v4.symm));have an:gb K:=ank j ab ab ds;unfold sW nb;rw[v1,ay d0,ar,ay an]
  dsimp only;rw[a8,cI,a5 (aJ (aa:(b:Z)<((n*n:X):Z))),show aT (b:Z)=((b+1:X):Z) from bk aa,ky (by rw[cI];exact G),lK];refine bC (XR (λd l=>(D d l).ok j ab ab) aa) ?_;dsimp only;rw[bx,fe (by rw[cI,aoW];omega),bT];refine bA.2 ?_;show _=_;rw[om]
 rintro _ rfl;dsimp only;rw[a8,cI,a2 (aG (aa:¬(((n*n:X):Z)<((n*n:X):Z))))];exact bA.2 bq
end
end
section
section
variable {n A:X} {B:X->X->amp} {Q:X->amp}
def Bi (B:X->X->amp) (Q:X->amp) (n a:X):amp:=z8 (cZ (B (a %n) (a/n)) (dk (Q a)))
def mN (B:X->X->amp) (Q:X->amp) (n:X):X->Z
 |0=>0
 |t+1=>if mN B Q n t<(Bi B Q n t).getD 0 then(Bi B Q n t).getD 0 else mN B Q n t
def Jx (j:A=65536) (i:∀k l,bd A 1074 1024 1 (B k l)) (d:bd A 3222 3072 15 (Q b)):∃a,Bi B Q n b=Y a/\a.natAbs<=16*2^(A+3072)/\a=((B (b %n) (b/n)).getD 0-(Q b).getD 0).natAbs:=by
 have h:bd A 3222 3072 1 (B (b %n) (b/n)):=(i _ _).mono ab ab ab;obtain⟨⟨m,ar,_,e⟩,c⟩:=bd.add j ab h d.neg ab;refine⟨(m.natAbs:Z),?_,e,?_⟩
 ·unfold Bi;rw[ar];rfl
 rw[ar] at c;have f:=gn c;have g:(dk (Q b)).getD 0=-(Q b).getD 0:=(by rw[d.val];rfl);rw[f,g,Int.sub_eq_add_neg]
def K3 (c:A=65536) (b:∀h i,bd A 1074 1024 1 (B h i)) {a:X} (d:∀t,t<a->bd A 3222 3072 15 (Q t)):∀t,t<=a->(mN B Q n t).natAbs<=16*2^(A+3072)
 |0,_=>eU _
 |t+1,f=>by
  obtain⟨j,g,e,_⟩:=Jx (n:=n) c b (d t f);unfold mN;rw[g];split
  ·exact e
  exact K3 c b d t aa
def aek (b:A=65536) (t:n<=5) (g:∀v w,bd A 1074 1024 1 (B v w)) (h:∀a,a<n*n->bd A 3222 3072 15 (Q a)) {c:fA} {j:mE} (p:vO (c,())=Y (0,())) (q:As (j,c.1,())=Y (((n:Z),(n:Z),qd B n,()),0,())) (r:AN (c,())=Y (((n:Z),(n:Z),aA (n*n) (λa=>aE (Q a)),()),0,())):Ed (j,c,())=Y (aE (Y (mN B Q n (n*n))),0,()):=by
 have D:=zq t;unfold Ed;refine aq p ?_;dsimp only;rw[a2 af];refine aq q ?_;dsimp only;rw[a2 af];refine aq r ?_;dsimp only;refine aq (vY ab ab) ?_;dsimp only;rw[ZF];refine bR.1 ?_;generalize E:((bu,((bu,([],())),((0:Z),()))):cY)=i;refine bJ (P:=λz=>z=(i,aE (Y (mN B Q n (n*n))),())) ?_ (by rintro _ rfl;exact bA.2 bq);refine bS (n*n) (λa C=>C=((a:Z),i,((n:Z),(n:Z),qd B n,()),((n:Z),(n:Z),aA (n*n) (λa=>aE (Q a)),()),aE (Y (mN B Q n a)),())) rfl ?_ ?_
 ·rintro a _ e rfl;obtain⟨f,k,u,_⟩:=Jx (n:=n) b g (h a e);have s:=K3 (n:=n) b g h a aa;dsimp only;rw[a5 (aJ (show(a:Z)<au (qd B n) by rw[a8];unfold qd;rw[cI];omega)),bk aa];have ar:az (qd B n) (a:Z)=Y (aE (B (a %n) (a/n))):=(by unfold qd;rw[fc (by rw[cI];exact e),lK]);have m:az (aA (n*n) (λa=>aE (Q a))) (a:Z)=Y (aE (Q a)):=gj (gu e);refine bC (y:=(i,((n:Z),(n:Z),qd B n,()),((n:Z),(n:Z),aA (n*n) (λa=>aE (Q a)),()),aE (Y (mN B Q n (a+1))),())) ?_ (bA.2 bq);refine aq ar (aq m (aq (Bh ((g _ _).ok b ab ab) ((h a e).ok b ab ab)) ?_));dsimp only;refine aq (Xy (pV _ _)) ?_;have l:z8 (cZ (B (a %n) (a/n)) (dk (Q a)))=Y f:=k;rw[l];dsimp only;refine aq (Jp (ank b ab ab u) (ank b ab ab s)) ?_;have o:mN B Q n (a+1)=if mN B Q n a<f then f else mN B Q n a:=by
   rw[mN,k];rfl
  dsimp only;rw[de,o];by_cases d:mN B Q n a<f
  ·rw[ay ((Ov _ _).2 d),ay d]
  rw[aw (λx=>d ((Ov _ _).1 x)),aw d]
 rintro _ rfl;dsimp only;rw[a2 (aG (show¬((n*n:X):Z)<au (qd B n) by rw[a8];unfold qd;rw[cI];omega))];exact bA.2 bq
end
def aeQ {n A:X} {c:bp aN} {d:fA} (j:A=65536) (i:h2 n c d) (k:n<=5) (a:b<n*n):bd A 3222 3072 15 (np c n (b %n) (b/n)):=by have l:0<n:=aqU λf=>(by rw[f] at a;omega);obtain⟨e,ar,g,h,_⟩:=LR j bq i k (anT b l) (apH a);exact⟨e,ar,g,h⟩
end
section
def ags {a f:bD} {e:Z} (j:0<b) (h:eH b e<=900):bo (mU a b e f 0)≠2047:=by
 have c:=CH (neg:=a) (sF:=f) (sE:=0) (e:=e) j;have i:-1074<=eH b e:=(by unfold eH;omega);unfold mU;generalize eH b e=k at*;by_cases g:k<=e
 ·rw[ay g] at c|-;obtain⟨aB,d⟩:=GB (neg:=a) 0 c i h;exact d
 rw[aw g] at c|-;obtain⟨aB,d⟩:=GB (neg:=a) 0 c i h;exact d
def JI:bo 0≠2047:=by decide
def agv (c:aP e.natAbs<=65536+900):bo (qg e 0)≠2047:=by
 unfold qg;by_cases a:e=0
 ·rw[ay a];exact JI
 rw[aw a];have b:0<(cO e).natAbs:=(by have:=k4 a;omega);have d:=Lf a;have f:=sZ (n:=e.natAbs) aa;refine ags b ?_;unfold eH eD;omega
section
variable {A e k:X} {a b d:amp}
def agu (f:A=65536) (b:bd A e k 1 d) (g:k<=890):bo (mT d 0)≠2047:=by obtain⟨h,rfl,c,a⟩:=b;rw[iL] at a;refine agv ?_;have:=kq a;have:aP (2^(A+k))<=A+k+1:=fY.2 (GA _ _ aa);omega
def agt (n:A=65536) (i:bd A e k 1 d) (o:e<=1074) (p:k<=890):bd A e (k+1) 1 (aV (mT d 0))/\(d≠Y 0->aV (mT d 0)≠Y 0):=by
 obtain⟨b,rfl,c,f⟩:=i;by_cases g:b=0
 ·subst g;have:mT (Y 0) 0=0:=rfl;rw[this,B0];exact⟨apG,λa=>absurd rfl a⟩
 rw[iL] at f;have j:aP b.natAbs<=65536+900:=(by have:=kq f;have:aP (2^(A+k))<=A+k+1:=fY.2 (GA _ _ aa);omega);obtain⟨aB,h,l,m,bj,q⟩:=agw 0 g (c.mono aa) j;have ar:aV (mT (Y b) 0)=Y h:=l;rw[ar];refine⟨⟨h,bq,m _ c,?_⟩,λ_ a=>?_⟩
 ·rw[iL,<-rW,vk];omega
 cases a;omega
end
end
section
theorem agQ {a b:amu} (f:a.Perm b):hU c a=hU c b:=by
 induction f with
 |nil=>rfl
 |cons h _ g=>rw[hU,hU,g]
 |swap h i a=>
  simp only[hU];grind
 |trans _ _ d e=>exact d.trans e
def TI (b:X->Rat) (c:X->X):∀a:amu,hU b (a.map c)=hU (λi=>b (c i)) a
 |[]=>rfl
 |i::a=>by rw[hA,hU,hU,TI b c a]
def aee {n:X} (a:fX h n):((bK n).map (hT h)).Perm (bK n):=by
 refine(List.perm_ext_iff_of_nodup (n6.2 (rQ (λ{d j} b g f e=>f (a.inj (gN.1 b) (gN.1 g) e)) rU)) rU).2 λi=>?_;rw[eT,gN];constructor
 ·rintro⟨d,b,rfl⟩;exact(a.get (gN.1 b)).2
 intro c;exact⟨hg h i,gN.2 (a.pos c).1,(a.pos c).2⟩
section
variable {n A:X} {ps:bp aN} {F:fA}
end
def Rj {B:X->X->amp} {Q:X->amp} {n:X}:∀t a,a<t->(Bi B Q n a).getD 0<=mN B Q n t
 |0,a,b=>absurd b (pI _)
 |t+1,a,b=>by
  unfold mN;by_cases c:a=t
  ·subst c;split<;>omega
  have:=Rj (B:=B) (Q:=Q) (n:=n) t a aa;split<;>omega
end
section
section
variable {R:Type} [Add R] [_root_.Sub R] [Mul R]
def cS (a:X->R):R:=a 0+a 1+a 2+a 3
def ba (b c:X->X->R) (d e:X):R:=cS λa=>b d a*c a e
def a9 (b:X->X->R):R:=cS λa=>b a a
def d3 (g h i a b c d e f:R):R:=g*(b*f-c*e)-h*(a*f-c*d)+i*(a*e-b*d)
def fW (a:X->X->R) (b c:X):R:=a b b*a c c-a b c*a c b
def iX (a:X->X->R) (b c d:X):R:=d3 (a b b) (a b c) (a b d) (a c b) (a c c) (a c d) (a d b) (a d c) (a d d)
def e5 (a:X->X->R):R:=fW a 0 1+fW a 0 2+fW a 0 3+fW a 1 2+fW a 1 3+fW a 2 3
def dj (a:X->X->R):R:=iX a 0 1 2+iX a 0 1 3+iX a 0 2 3+iX a 1 2 3
def dh (a:X->X->R):R:=
 a 0 0*d3 (a 1 1) (a 1 2) (a 1 3) (a 2 1) (a 2 2) (a 2 3) (a 3 1) (a 3 2) (a 3 3)
 -a 0 1*d3 (a 1 0) (a 1 2) (a 1 3) (a 2 0) (a 2 2) (a 2 3) (a 3 0) (a 3 2) (a 3 3)
 +a 0 2*d3 (a 1 0) (a 1 1) (a 1 3) (a 2 0) (a 2 1) (a 2 3) (a 3 0) (a 3 1) (a 3 3)
 -a 0 3*d3 (a 1 0) (a 1 1) (a 1 2) (a 2 0) (a 2 1) (a 2 2) (a 3 0) (a 3 1) (a 3 2)
end
theorem yU (a b c:X->X->Rat):ba (ba a b) c=ba a (ba b c):=by funext i d;simp only[ba,cS];grind
theorem Hk (a b:X->X->Rat):a9 (ba a b)=a9 (ba b a):=by simp only[a9,ba,cS];grind
theorem Le (a:X->X->Rat):2*e5 a=a9 a*a9 a-a9 (ba a a):=by simp only[e5,fW,a9,ba,cS];grind
theorem Ru (a:X->X->Rat):6*dj a=a9 a*a9 a*a9 a-3*(a9 a*a9 (ba a a))+2*a9 (ba a (ba a a)):=by simp only[dj,iX,d3,a9,ba,cS];grind
theorem Rv (a:X->X->Rat):24*dh a=a9 a*a9 a*(a9 a*a9 a)-6*(a9 a*a9 a*a9 (ba a a))+3*(a9 (ba a a)*a9 (ba a a))+8*(a9 a*a9 (ba a (ba a a)))-6*a9 (ba a (ba a (ba a a))):=by simp only[dh,d3,a9,ba,cS];generalize a 0 0=b;generalize a 0 1=c;generalize a 0 2=d;generalize a 0 3=e;generalize a 1 0=f;generalize a 1 1=g;generalize a 1 2=h;generalize a 1 3=i;generalize a 2 0=j;generalize a 2 1=k;generalize a 2 2=l;generalize a 2 3=m;generalize a 3 0=n;generalize a 3 1=o;generalize a 3 2=p;generalize a 3 3=q;grind
theorem U6 (a b:X->X->Rat):a9 (ba a b)=a9 (ba b a)/\e5 (ba a b)=e5 (ba b a)/\dj (ba a b)=dj (ba b a)/\dh (ba a b)=dh (ba b a):=by have c:=Hk a b;have d:a9 (ba (ba a b) (ba a b))=a9 (ba (ba b a) (ba b a)):=(by rw[yU a b,Hk a];simp only[yU]);have e:a9 (ba (ba a b) (ba (ba a b) (ba a b)))=a9 (ba (ba b a) (ba (ba b a) (ba b a))):=(by rw[yU a b (ba (ba a b) (ba a b)),Hk a];simp only[yU]);have i:a9 (ba (ba a b) (ba (ba a b) (ba (ba a b) (ba a b))))=a9 (ba (ba b a) (ba (ba b a) (ba (ba b a) (ba b a)))):=(by rw[yU a b (ba (ba a b) (ba (ba a b) (ba a b))),Hk a];simp only[yU]);have f:=Le (ba a b);have j:=Le (ba b a);have g:=Ru (ba a b);have k:=Ru (ba b a);have h:=Rv (ba a b);have l:=Rv (ba b a);rw[c,d] at f;rw[c,d,e] at g;rw[c,d,e,i] at h;refine⟨c,?_,?_,?_⟩<;>grind
def cU (b:X->X->Rat) (c d:X):Rat:=cS λa=>b c a*b d a
def am (e:X->Rat) (b:X->X->Rat) (c d:X):Rat:=cS λa=>e a*(b a c*b a d)
theorem qp (c:X->Rat) (b:X->X->Rat):a9 (am c b)=(cS λa=>c a*cU b a a)/\e5 (am c b)=e5 (λa d=>c a*cU b a d)/\dj (am c b)=dj (λa d=>c a*cU b a d)/\dh (am c b)=dh (λa d=>c a*cU b a d):=by have k:am c b=ba (λe a=>b a e) (λa f=>c a*b a f):=(by funext e f;simp only[am,ba,cS];grind);have g:(λa d=>c a*cU b a d)=ba (λa f=>c a*b a f) (λe a=>b a e):=(by funext a d;simp only[cU,ba,cS];grind);obtain⟨ar,h,i,j⟩:=U6 (λe a=>b a e) (λa f=>c a*b a f);rw[k,g];refine⟨?_,h,i,j⟩;rw[ar,<-g];rfl
end
section
def pJ {a b c:Rat} (f:∀d e:Rat,(d≠0\/e≠0)->0<a*(d*d)+2*b*(d*e)+c*(e*e)):0<a/\0<a*c-b*b:=by have j:=f 1 0 (.inl ab);have h:0<a:=ae;refine⟨h,?_⟩;have g:=f (-b) a (.inr ae);have i:a*(-b*-b)+2*b*(-b*a)+c*(a*a)=a*(a*c-b*b):=ae;rw[i] at g;exact(HT h).1 g
theorem zU {a b c d e f:Rat} (j:∀g h i:Rat,(g≠0\/h≠0\/i≠0)->0<a*(g*g)+d*(h*h)+f*(i*i)+2*(b*(g*h)+c*(g*i)+e*(h*i))):0<d3 a b c b d e c e f:=by obtain⟨_,m⟩:=pJ (a:=a) (b:=b) (c:=d) λg h n=>(by have:=j g h 0 ae;grind);have k:=j (b*e-d*c) (b*c-a*e) (a*d-b*b) (.inr (.inr ae));have l:a*((b*e-d*c)*(b*e-d*c))+d*((b*c-a*e)*(b*c-a*e))+f*((a*d-b*b)*(a*d-b*b))+2*(b*((b*e-d*c)*(b*c-a*e))+c*((b*e-d*c)*(a*d-b*b))+e*((b*c-a*e)*(a*d-b*b)))=(a*d-b*b)*d3 a b c b d e c e f:=(by unfold d3;grind);rw[l] at k;exact(HT m).1 k
def mb (g:X->X->Rat) (b c d a:Rat):Rat:=
 g 0 0*(b*b)+g 1 1*(c*c)+g 2 2*(d*d)+g 3 3*(a*a)+2*(g 0 1*(b*c)+g 0 2*(b*d)+g 0 3*(b*a)+g 1 2*(c*d)+g 1 3*(c*a)+g 2 3*(d*a))
def qH (g:X->X->Rat):Prop:=∀b c d a:Rat,(b≠0\/c≠0\/d≠0\/a≠0)->0<mb g b c d a
section
variable {g:X->X->Rat} (hs:∀i j,g i j=g j i)
include hs
theorem Vs (a:qH g):0<dh g:=by have d:0<d3 (g 0 0) (g 0 1) (g 0 2) (g 0 1) (g 1 1) (g 1 2) (g 0 2) (g 1 2) (g 2 2):=zU λe f h s=>(by have:=a e f h 0 ae;unfold mb at this;grind);have b:=a (-(d3 (g 0 1) (g 0 2) (g 0 3) (g 1 1) (g 1 2) (g 1 3) (g 1 2) (g 2 2) (g 2 3))) (d3 (g 0 0) (g 0 2) (g 0 3) (g 0 1) (g 1 2) (g 1 3) (g 0 2) (g 2 2) (g 2 3)) (-(d3 (g 0 0) (g 0 1) (g 0 3) (g 0 1) (g 1 1) (g 1 3) (g 0 2) (g 1 2) (g 2 3))) (d3 (g 0 0) (g 0 1) (g 0 2) (g 0 1) (g 1 1) (g 1 2) (g 0 2) (g 1 2) (g 2 2)) (.inr (.inr (.inr ae)));have c:mb g (-(d3 (g 0 1) (g 0 2) (g 0 3) (g 1 1) (g 1 2) (g 1 3) (g 1 2) (g 2 2) (g 2 3))) (d3 (g 0 0) (g 0 2) (g 0 3) (g 0 1) (g 1 2) (g 1 3) (g 0 2) (g 2 2) (g 2 3)) (-(d3 (g 0 0) (g 0 1) (g 0 3) (g 0 1) (g 1 1) (g 1 3) (g 0 2) (g 1 2) (g 2 3))) (d3 (g 0 0) (g 0 1) (g 0 2) (g 0 1) (g 1 1) (g 1 2) (g 0 2) (g 1 2) (g 2 2))=d3 (g 0 0) (g 0 1) (g 0 2) (g 0 1) (g 1 1) (g 1 2) (g 0 2) (g 1 2) (g 2 2)*dh g:=(by unfold mb dh;rw[hs 1 0,hs 2 0,hs 3 0,hs 2 1,hs 3 1,hs 3 2];unfold d3;generalize g 0 0=i;generalize g 0 1=j;generalize g 0 2=k;generalize g 0 3=l;generalize g 1 1=m;generalize g 1 2=n;generalize g 1 3=o;generalize g 2 2=p;generalize g 2 3=q;generalize g 3 3=r;grind);rw[c] at b;exact(HT d).1 b
theorem zV (j:qH g):(0<g 0 0/\0<g 1 1/\0<g 2 2/\0<g 3 3)/\(0<fW g 0 1/\0<fW g 0 2/\0<fW g 0 3/\0<fW g 1 2/\0<fW g 1 3/\0<fW g 2 3)/\(0<iX g 0 1 2/\0<iX g 0 1 3/\0<iX g 0 2 3/\0<iX g 1 2 3)/\0<dh g:=by have m:=pJ (a:=g 0 0) (b:=g 0 1) (c:=g 1 1) λh i k=>(by have:=j h i 0 0 ae;unfold mb at this;grind);have p:=pJ (a:=g 0 0) (b:=g 0 2) (c:=g 2 2) λh i k=>(by have:=j h 0 i 0 ae;unfold mb at this;grind);have q:=pJ (a:=g 0 0) (b:=g 0 3) (c:=g 3 3) λh i k=>(by have:=j h 0 0 i ae;unfold mb at this;grind);have n:=pJ (a:=g 1 1) (b:=g 1 2) (c:=g 2 2) λh i k=>(by have:=j 0 h i 0 ae;unfold mb at this;grind);have r:=pJ (a:=g 1 1) (b:=g 1 3) (c:=g 3 3) λh i k=>(by have:=j 0 h 0 i ae;unfold mb at this;grind);have o:=pJ (a:=g 2 2) (b:=g 2 3) (c:=g 3 3) λh i k=>(by have:=j 0 0 h i ae;unfold mb at this;grind);have s:=j 0 0 0 1 ae;have t:=zU (a:=g 0 0) (b:=g 0 1) (c:=g 0 2) (d:=g 1 1) (e:=g 1 2) (f:=g 2 2) λh i l k=>(by have:=j h i l 0 ae;unfold mb at this;grind);have u:=zU (a:=g 0 0) (b:=g 0 1) (c:=g 0 3) (d:=g 1 1) (e:=g 1 3) (f:=g 3 3) λh i l k=>(by have:=j h i 0 l ae;unfold mb at this;grind);have v:=zU (a:=g 0 0) (b:=g 0 2) (c:=g 0 3) (d:=g 2 2) (e:=g 2 3) (f:=g 3 3) λh i l k=>(by have:=j h 0 i l ae;unfold mb at this;grind);have w:=zU (a:=g 1 1) (b:=g 1 2) (c:=g 1 3) (d:=g 2 2) (e:=g 2 3) (f:=g 3 3) λh i l k=>(by have:=j 0 h i l ae;unfold mb at this;grind);unfold fW iX;rw[hs 1 0,hs 2 0,hs 3 0,hs 2 1,hs 3 1,hs 3 2];refine⟨⟨m.1,n.1,o.1,?_⟩,⟨m.2,p.2,q.2,n.2,r.2,o.2⟩,⟨t,u,v,w⟩,Vs hs j⟩;unfold mb at s;grind
end
def mn (b:bp (Rat×Rat)):Rat:=b.foldr (λa c=>a.1*a.2+c) 0
theorem cs:∀b:bp (Rat×Rat),0<=mn (b.map λa=>(a.1,a.1))/\0<=mn (b.map λa=>(a.2,a.2))/\mn b*mn b<=mn (b.map λa=>(a.1,a.1))*mn (b.map λa=>(a.2,a.2))
 |[]=>by refine⟨?_,?_,?_⟩<;>simp[mn]
 |(x,y)::b=>by obtain⟨h,i,k⟩:=cs b;have f:=oG x;have g:=oG y;show 0<=x*x+mn (b.map λa=>(a.1,a.1))/\0<=y*y+mn (b.map λa=>(a.2,a.2))/\(x*y+mn b)*(x*y+mn b)<=(x*x+mn (b.map λa=>(a.1,a.1)))*(y*y+mn (b.map λa=>(a.2,a.2)));generalize mn b=e at*;generalize mn (b.map λa=>(a.1,a.1))=c at*;generalize mn (b.map λa=>(a.2,a.2))=d at*;refine⟨aqV f h,aqV g i,?_⟩;have l:=kT f i;have m:=kT g h;have p:2*(x*y*e)<=x*x*d+y*y*c:=(by apply Rat.not_lt.1;intro j;have n:0<=x*x*d+y*y*c:=aqV l m;have q:(x*x*d+y*y*c)*(x*x*d+y*y*c)<2*(x*y*e)*(2*(x*y*e)):=(by have o:0<2*(x*y*e):=ae;have v1:=Rat.mul_lt_mul_of_pos_right j o;have fy:=asd (tk j) n;grind);have r:=oG (x*x*d-y*y*c);have s:=asd k (kT f g);grind);grind
theorem Ua {d:X->Rat} {v:X->X->Rat} {k:X} (l:0<cU v k k) (p:0<cS λh=>d h*(cU v h h*cU v k k-cU v h k*cU v h k)) (q:a9 (am d v)<=0):e5 (am d v)<0:=by obtain⟨ar,-,-,-⟩:=qp d v;have x:=Le (am d v);obtain⟨f,n⟩:∃f,f=cS λh=>d h*(cU v h k*cU v h k):=⟨_,bq⟩;have y:f<a9 (am d v)*cU v k k:=(by rw[ar,n];unfold cS at p|-;grind);have u:f=cS λc=>cS λe=>am d v c e*(v k c*v k e):=(by rw[n];unfold am cU cS;grind);have s:cU v k k*cU v k k=cS λc=>cS λe=>v k c*v k e*(v k c*v k e):=(by unfold cU cS;grind);have r:a9 (ba (am d v) (am d v))=cS λc=>cS λe=>am d v c e*am d v c e:=(by have j:∀c e,am d v c e=am d v e c:=λc e=>(by unfold am cS;grind);simp only[a9,ba,cS,j 1 0,j 2 0,j 3 0,j 2 1,j 3 1,j 3 2]);obtain⟨-,-,o⟩:=cs [(am d v 0 0,v k 0*v k 0),(am d v 0 1,v k 0*v k 1),(am d v 0 2,v k 0*v k 2),(am d v 0 3,v k 0*v k 3),(am d v 1 0,v k 1*v k 0),(am d v 1 1,v k 1*v k 1),(am d v 1 2,v k 1*v k 2),(am d v 1 3,v k 1*v k 3),(am d v 2 0,v k 2*v k 0),(am d v 2 1,v k 2*v k 1),(am d v 2 2,v k 2*v k 2),(am d v 2 3,v k 2*v k 3),(am d v 3 0,v k 3*v k 0),(am d v 3 1,v k 3*v k 1),(am d v 3 2,v k 3*v k 2),(am d v 3 3,v k 3*v k 3)];have w:f*f<=a9 (ba (am d v) (am d v))*(cU v k k*cU v k k):=(by rw[u,s,r];simp only[mn,hA,tg,List.foldr_cons,List.foldr_nil] at o;unfold cS;grind);generalize a9 (am d v)=g at*;generalize cU v k k=i at*;generalize a9 (ba (am d v) (am d v))=m at*;have z:g*i<=0:=(by have:=ase q (tk l);grind);have A:g*i*(g*i)<f*f:=(by have D:f<0:=ae;have E:=kU (a:=-f) (b:=g*i-f) ae ae;have F:=kT (a:=-(g*i)) (b:=g*i-f) ae ae;grind);have B:0<(m-g*g)*(i*i):=ae;have C:0<m-g*g:=(by apply Rat.not_le.1;intro t;have:=ase t (tk (kU l l));grind);grind
def ap (b:X->X->Rat) (d:X->Rat) (c:X):Rat:=cS λa=>b c a*d a
def di (b c:X->Rat):Rat:=cS λa=>b a*c a
theorem v7 (hs:∀b c,a b c=a c b) (d e:X->Rat):di (ap a d) e=di d (ap a e):=by simp only[di,ap,cS,hs 1 0,hs 2 0,hs 3 0,hs 2 1,hs 3 1,hs 3 2];grind
end
section
theorem W0 (d:∀b e,a b e=a e b) (c:X->Rat):∀b,b<4->ap a (ap a (ap a (ap a c))) b=a9 a*ap a (ap a (ap a c)) b-e5 a*ap a (ap a c) b+dj a*ap a c b-dh a*c b:=by
 have f:=d 1 0;have g:=d 2 0;have i:=d 3 0;have h:=d 2 1;have j:=d 3 1;have k:=d 3 2;intro b v;obtain rfl|rfl|rfl|rfl:b=0\/b=1\/b=2\/b=3:=by omega
 all_goals simp only[ap,a9,e5,dj,dh,fW,iX,d3,cS,f,g,i,h,j,k];generalize a 0 0=l;generalize a 0 1=m;generalize a 0 2=n;generalize a 0 3=o;generalize a 1 1=p;generalize a 1 2=q;generalize a 1 3=r;generalize a 2 2=s;generalize a 2 3=t;generalize a 3 3=u;generalize c 0=w;generalize c 1=x;generalize c 2=y;generalize c 3=z;grind
theorem Jw (a:X->Rat):0<=di a a:=by have b:=oG (a 0);have c:=oG (a 1);have d:=oG (a 2);have e:=oG (a 3);unfold di cS;grind
theorem Jv (e:∃d,d<4/\c d≠0):0<di c c:=by
 have f:=oG (c 0);have h:=oG (c 1);have i:=oG (c 2);have j:=oG (c 3);obtain⟨d,k,m⟩:=e;have l:0<c d*c d:=by
  rcases(by grind:c d<0\/0<c d) with g|g
  ·have:=kU (a:=-c d) (b:=-c d) ae ae;grind
  exact kU g g
 unfold di cS;obtain rfl|rfl|rfl|rfl:d=0\/d=1\/d=2\/d=3:=by omega
 all_goals grind
theorem abe (j:∀b A,a b A=a A b) (q:0<=a9 a) (r:0<=e5 a) (s:0<=dj a) (t:0<dh a) (J:∃b,b<4/\c b≠0) (z:di (λb=>a9 a*ap a (ap a c) b+dj a*c b) (ap a λb=>a9 a*ap a (ap a c) b+dj a*c b)<=0):False:=by
 obtain⟨e,ar⟩:∃e,e=ap a c:=⟨_,bq⟩;obtain⟨d,l⟩:∃d,d=ap a e:=⟨_,bq⟩;obtain⟨f,k⟩:∃f,f=ap a d:=⟨_,bq⟩;obtain⟨h,p⟩:∃h,h=ap a f:=⟨_,bq⟩;have i:=W0 j c;rw[<-ar,<-l,<-k,<-p] at i;rw[<-ar,<-l] at z;have C:di c d=di e e:=(by rw[l,<-v7 j,<-ar]);have D:di c h=di d d:=(by rw[p,<-v7 j,<-ar,k,<-v7 j,<-l]);have L:di d h=di f f:=(by rw[p,<-v7 j,<-k]);have E:=Jv J;have aB:=Jw e;have F:=Jw d;have M:=Jw f;have m:∀b,b<4->ap a (λb=>a9 a*d b+dj a*c b) b=h b+e5 a*d b+dh a*c b:=λb v=>(by have o:ap a (λb=>a9 a*d b+dj a*c b) b=a9 a*f b+dj a*e b:=(by rw[k,ar];unfold ap cS;grind);have:=i b v;grind);have I:di (λb=>a9 a*d b+dj a*c b) (ap a λb=>a9 a*d b+dj a*c b)=a9 a*di d h+a9 a*e5 a*di d d+a9 a*dh a*di c d+dj a*di c h+dj a*e5 a*di c d+dj a*dh a*di c c:=(by have w:=m 0 ab;have o:=m 1 ab;have x:=m 2 ab;have y:=m 3 ab;simp only[di,cS,w,o,x,y];grind);rw[I,C,D,L] at z;have Q:=kT q M;have R:=kT (kT q r) F;have S:=kT (kT q (tk t)) aB;have T:=kT s F;have U:=kT (kT s r) aB;have V:=kT (kT s (tk t)) (tk E);have O:dj a*dh a*di c c=0:=ae;have N:a9 a*dh a*di e e=0:=ae;have G:dj a=0:=by
  rcases tm.1 O with g|g
  ·rcases tm.1 g with g|g
   ·exact g
   grind
  grind
 have u:di c (λb=>h b)=a9 a*di c f-e5 a*di c d+dj a*di c e-dh a*di c c:=(by have w:=i 0 ab;have o:=i 1 ab;have x:=i 2 ab;have y:=i 3 ab;simp only[di,cS,w,o,x,y];grind);have u:di c h=a9 a*di c f-e5 a*di c d+dj a*di c e-dh a*di c c:=u;have K:di c f=di e d:=(by rw[k,<-v7 j,<-ar]);have P:=kU t E;have ad:=kT r aB;have H:a9 a*di e d=0:=by
  rcases tm.1 N with g|g
  ·rcases tm.1 g with g|g
   ·rw[g];grind
   grind
  have n:∀b,b<4->e b=0:=λb v=>by
   by_cases B:e b=0
   ·exact B
   have:=Jv ⟨b,v,B⟩;grind
  have:di e d=0:=(by simp only[di,cS,n 0 ab,n 1 ab,n 2 ab,n 3 ab];grind);rw[this];grind
 rw[D,K,C,G,H] at u;grind
section
variable (d:X->Rat) (g:X->X->Rat)
theorem zC:e5 (λa b=>d a*g a b)=d 0*d 1*fW g 0 1+d 0*d 2*fW g 0 2+d 0*d 3*fW g 0 3+d 1*d 2*fW g 1 2+d 1*d 3*fW g 1 3+d 2*d 3*fW g 2 3:=by unfold e5 fW;grind
theorem CW:dj (λa b=>d a*g a b)=d 0*d 1*d 2*iX g 0 1 2+d 0*d 1*d 3*iX g 0 1 3+d 0*d 2*d 3*iX g 0 2 3+d 1*d 2*d 3*iX g 1 2 3:=by unfold dj iX d3;grind
theorem HB:dh (λa b=>d a*g a b)=d 0*d 1*d 2*d 3*dh g:=by simp only[dh,d3];generalize g 0 0=c;generalize g 0 1=e;generalize g 0 2=f;generalize g 0 3=h;generalize g 1 0=i;generalize g 1 1=j;generalize g 1 2=k;generalize g 1 3=l;generalize g 2 0=m;generalize g 2 1=n;generalize g 2 2=o;generalize g 2 3=p;generalize g 3 0=q;generalize g 3 1=r;generalize g 3 2=s;generalize g 3 3=t;grind
end
end
section
def kz (b a:X):X:=if a<b then a else a+1
def ad (g:X->X->Rat) (a b:X):Rat:=
 (if(a+b) %2=0 then 1 else-1)*d3 (g (kz a 0) (kz b 0)) (g (kz a 0) (kz b 1)) (g (kz a 0) (kz b 2)) (g (kz a 1) (kz b 0)) (g (kz a 1) (kz b 1)) (g (kz a 1) (kz b 2)) (g (kz a 2) (kz b 0)) (g (kz a 2) (kz b 1)) (g (kz a 2) (kz b 2))
section
variable {g:X->X->Rat} (hs:∀i j,g i j=g j i)
include hs
theorem VX:∀a b,a<4->b<4->(cS λc=>ad g a c*g c b)=if a=b then dh g else 0:=by
 intro a b d e;obtain rfl|rfl|rfl|rfl:a=0\/a=1\/a=2\/a=3:=by omega
 all_goals
  obtain rfl|rfl|rfl|rfl:b=0\/b=1\/b=2\/b=3:=by omega
  all_goals simp only[ad,cS,kz,dh,d3,cy,amC,apI,anv,cm,l3,m4];simp only[hs 1 0,hs 2 0,hs 3 0,hs 2 1,hs 3 1,hs 3 2];grind
theorem H7:∀a b,a<4->b<4->ad g a b=ad g b a:=by
 intro a b c d;obtain rfl|rfl|rfl|rfl:a=0\/a=1\/a=2\/a=3:=by omega
 all_goals
  obtain rfl|rfl|rfl|rfl:b=0\/b=1\/b=2\/b=3:=by omega
  all_goals first
   |rfl
   |(simp only[ad,kz,d3,cy,amC,apI,anv,cm,hs 1 0,hs 2 0,hs 3 0,hs 2 1,hs 3 1,hs 3 2];grind)
theorem Kl:fW (ad g) 0 1=dh g*fW g 2 3/\fW (ad g) 0 2=dh g*fW g 1 3/\fW (ad g) 0 3=dh g*fW g 1 2/\fW (ad g) 1 2=dh g*fW g 0 3/\fW (ad g) 1 3=dh g*fW g 0 2/\fW (ad g) 2 3=dh g*fW g 0 1:=by simp only[fW,ad,cS,kz,dh,d3,cy,amC,apI,anv,cm];simp only[hs 1 0,hs 2 0,hs 3 0,hs 2 1,hs 3 1,hs 3 2];generalize g 0 0=a;generalize g 0 1=b;generalize g 0 2=c;generalize g 0 3=d;generalize g 1 1=e;generalize g 1 2=f;generalize g 1 3=h;generalize g 2 2=i;generalize g 2 3=j;generalize g 3 3=k;refine⟨?_,?_,?_,?_,?_,?_⟩<;>grind
theorem VW:ad g 0 0=iX g 1 2 3/\ad g 1 1=iX g 0 2 3/\ad g 2 2=iX g 0 1 3/\ad g 3 3=iX g 0 1 2:=by simp only[iX,ad,kz,cy,amC,apI,anv,cm];refine⟨?_,?_,?_,?_⟩<;>grind
end
theorem jB (c:X->X->Rat) (a b:X):cU c a b=cU c b a:=by unfold cU cS;grind
def Fq (b:X->X->Rat) (d c:X):Rat:=cS λa=>ad (cU b) d a*b a c
theorem Zf (a:X->X->Rat) (i:b<4) (k:d<4):cU (Fq a) b d=dh (cU a)*ad (cU a) d b:=by
 have h:cU (Fq a) b d=cS λc=>ad (cU a) d c*cS λe=>ad (cU a) b e*cU a e c:=(by show(cS λg=>(cS λe=>ad (cU a) b e*a e g)*cS λc=>ad (cU a) d c*a c g)=_;generalize ad (cU a)=l;unfold cU cS;grind);rw[h];have f:=λc (j:c<4)=>VX (jB a) b c i j;rw[cS,f 0 ab,f 1 ab,f 2 ab,f 3 ab];obtain rfl|rfl|rfl|rfl:b=0\/b=1\/b=2\/b=3:=by omega
 all_goals simp only[anv,cm];grind
def iu (a:X->Rat):X->Rat
 |0=>-(a 1*a 2*a 3)
 |1=>-(a 0*a 2*a 3)
 |2=>-(a 0*a 1*a 3)
 |_=>-(a 0*a 1*a 2)
theorem Nv (z:qH (cU a)) (H:c 0*c 1*c 2*c 3<0) {k:X} (f:k<4) (x:0<cS λb=>iu c b*(ad (cU a) b b*ad (cU a) k k-ad (cU a) b k*ad (cU a) b k)) (u:0<=dj (λb g=>c b*cU a b g)):0<e5 (λb g=>c b*cU a b g):=by
 obtain⟨-,-,n,j⟩:=zV (jB a) z;obtain⟨p,q,r,s⟩:=VW (jB a);obtain⟨B,C,D,E,F,G⟩:=Kl (jB a);have w:0<dh (cU a)*dh (cU a):=kU j j;have A:0<ad (cU a) k k:=by
  obtain rfl|rfl|rfl|rfl:k=0\/k=1\/k=2\/k=3:=by omega
  ·rw[p];exact n.2.2.2
  ·rw[q];exact n.2.2.1
  ·rw[r];exact n.2.1
  rw[s];exact n.1
 have e:=λb (h:b<4) k (f:k<4)=>Zf a h f;have l:=λb (h:b<4) k (f:k<4)=>H7 (jB a) b k h f;have o:=Ua (d:=iu c) (v:=Fq a) (k:=k) (by rw[e k f k f];exact kU j A) (by
  have t:=aqW w x;unfold cS at t|-;dsimp only at t|-;rw[e 0 ab 0 ab,e 1 ab 1 ab,e 2 ab 2 ab,e 3 ab 3 ab,e k f k f,e 0 ab k f,e 1 ab k f,e 2 ab k f,e 3 ab k f];rw[l k f 0 ab,l k f 1 ab,l k f 2 ab,l k f 3 ab];grind) (by
  rw[(qp _ _).1];rw[CW] at u;unfold cS;dsimp only;rw[e 0 ab 0 ab,e 1 ab 1 ab,e 2 ab 2 ab,e 3 ab 3 ab,p,q,r,s];have:=Rat.mul_nonneg (Rat.le_of_lt j) u;unfold iu;grind)
 rw[(qp _ _).2.1,zC] at o;rw[zC];have i:∀b g,b<4->g<4->fW (cU (Fq a)) b g=dh (cU a)*dh (cU a)*fW (ad (cU a)) b g:=λb g h m=>(by unfold fW;rw[e b h b h,e g m g m,e b h g m,e g m b h];grind);rw[i 0 1 ab ab,i 0 2 ab ab,i 0 3 ab ab,i 1 2 ab ab,i 1 3 ab ab,i 2 3 ab ab,B,C,D,E,F,G] at o;have y:0<dh (cU a)*dh (cU a)*dh (cU a)*-(c 0*c 1*c 2*c 3):=kU (kU w j) ae;refine(HT y).1 ?_;unfold iu at o;grind
theorem Nz (d:X->Rat) (c:X->X->Rat) (a:X->Rat):di a (ap (am d c) a)=cS λb=>d b*(di (c b) a*di (c b) a):=by unfold di ap am cS;grind
theorem NA (a:X->Rat) (d:X->X->Rat) (b c:X):am a d b c=am a d c b:=by unfold am cS;grind
theorem ws (a b:X->Rat):lf a b 4=di a b:=by unfold di cS;simp only[lf];grind
theorem Rq {v:X->X->Rat} (r:∀f,f<4->f=b\/f=d\/c f<=0) (m:0<=a9 (am c v)) (n:0<=e5 (am c v)) (o:0<=dj (am c v)) (p:0<dh (am c v)):False:=by
 have hs:=NA c v;obtain⟨g,t,k⟩:=yz 4 [λe=>a9 (am c v)*ap (am c v) (ap (am c v) (v b)) e+dj (am c v)*v b e,λe=>a9 (am c v)*ap (am c v) (ap (am c v) (v d)) e+dj (am c v)*v d e] (by show 2<4;decide);have q:∀f,di (λe=>a9 (am c v)*ap (am c v) (ap (am c v) (v f)) e+dj (am c v)*v f e) g=di (v f) λe=>a9 (am c v)*ap (am c v) (ap (am c v) g) e+dj (am c v)*g e:=λf=>(by have ar:di (λe=>a9 (am c v)*ap (am c v) (ap (am c v) (v f)) e+dj (am c v)*v f e) g=a9 (am c v)*di (ap (am c v) (ap (am c v) (v f))) g+dj (am c v)*di (v f) g:=(by unfold di cS;grind);have l:di (v f) (λe=>a9 (am c v)*ap (am c v) (ap (am c v) g) e+dj (am c v)*g e)=a9 (am c v)*di (v f) (ap (am c v) (ap (am c v) g))+dj (am c v)*di (v f) g:=(by unfold di cS;grind);rw[ar,l,v7 hs,v7 hs]);have i:=k _ (jQ ..);have j:=k _ (gH _ (jQ ..));rw[ws,q] at i j;refine abe hs m n o p t ?_;rw[Nz];have h:∀f,f<4->c f*(di (v f) (λe=>a9 (am c v)*ap (am c v) (ap (am c v) g) e+dj (am c v)*g e)*di (v f) λe=>a9 (am c v)*ap (am c v) (ap (am c v) g) e+dj (am c v)*g e)<=0:=λf s=>by
  rcases r f s with rfl|rfl|u
  ·rw[i];grind
  ·rw[j];grind
  have:=kT (a:=-c f) ae (oG (di (v f) λe=>a9 (am c v)*ap (am c v) (ap (am c v) g) e+dj (am c v)*g e));grind
 have w:=h 0 ab;have x:=h 1 ab;have y:=h 2 ab;have z:=h 3 ab;unfold cS;grind
end
theorem aes (y:∀j:X->Rat,(∀e,e<4->di (a e) j=0)->∀e,e<4->j e=0):qH (cU a):=by
 intro j p q o f;obtain⟨h,u⟩:∃h:X->Rat,h=λd=>j*a 0 d+p*a 1 d+q*a 2 d+o*a 3 d:=⟨_,bq⟩;have v:mb (cU a) j p q o=di h h:=(by rw[u];unfold mb cU di cS;grind);rw[v];by_cases t:∃d,d<4/\h d≠0
 ·exact Jv t
 exfalso;have A:∀b,di h b=0:=λb=>by
  have i:∀d,d<4->h d=0:=λd s=>by
   by_cases i:h d=0
   ·exact i
   exact absurd ⟨d,s,i⟩ t
  simp only[di,cS,i 0 ab,i 1 ab,i 2 ab,i 3 ab];grind
 have l:∀b,j*di (a 0) b+p*di (a 1) b+q*di (a 2) b+o*di (a 3) b=0:=λb=>(by rw[<-A b,u];unfold di cS;grind);have k:∀(b:X->Rat) (g:∃e,e<4/\b e≠0),¬(di (a 0) b=0/\di (a 1) b=0/\di (a 2) b=0/\di (a 3) b=0):=λb ⟨e,x,z⟩ ⟨C,D,E,F⟩=>by
  refine z (y b (λn B=>?_) e x);obtain rfl|rfl|rfl|rfl:n=0\/n=1\/n=2\/n=3:=by omega
  all_goals assumption
 have m:∀d r:Rat,d≠0->d*r=0->r=0:=λd r s w=>(tm.1 w).resolve_left s;rcases f with f|f|f|f
 ·obtain⟨b,g,c⟩:=yz 4 [a 1,a 2,a 3] (by show 3<4;decide);simp only[fH,xo,an1,apJ,apK,ws] at c;refine k b g ⟨m j _ f ?_,c.1,c.2.1,c.2.2⟩;have:=l b;grind
 ·obtain⟨b,g,c⟩:=yz 4 [a 0,a 2,a 3] (by show 3<4;decide);simp only[fH,xo,an1,apJ,apK,ws] at c;refine k b g ⟨c.1,m p _ f ?_,c.2.1,c.2.2⟩;have:=l b;grind
 ·obtain⟨b,g,c⟩:=yz 4 [a 0,a 1,a 3] (by show 3<4;decide);simp only[fH,xo,an1,apJ,apK,ws] at c;refine k b g ⟨c.1,c.2.1,m q _ f ?_,c.2.2⟩;have:=l b;grind
 obtain⟨b,g,c⟩:=yz 4 [a 0,a 1,a 2] (by show 3<4;decide);simp only[fH,xo,an1,apJ,apK,ws] at c;refine k b g ⟨c.1,c.2.1,c.2.2,m o _ f ?_⟩;have:=l b;grind
def nt (a:Rat):Z:=if 0<a then 1 else if a<0 then-1 else 0
def hh:amv->X
 |[]=>0
 |s::a=>if s=0 then hh a+1 else 0
def jt:Z->amv->X
 |_,[]=>0
 |t,a::b=>(if a*t<0 then 1 else 0)+jt (if a=0 then t else a) b
def nX (a:Rat):(nt a=1/\0<a)\/(nt a=-1/\a<0)\/(nt a=0/\a=0):=by
 unfold nt;by_cases b:0<a
 ·rw[ay b];exact .inl ⟨bq,b⟩
 rw[aw b];by_cases c:a<0
 ·rw[ay c];exact .inr (.inl ⟨bq,c⟩)
 rw[aw c];exact .inr (.inr ⟨bq,ae⟩)
def mX {x:Rat} (a:0<x):nt x=1:=ay a
def rE {x:Rat} (a:x<0):nt x=-1:=by unfold nt;rw[aw ae,ay a]
def kP {x:Rat} (a:x=0):nt x=0:=by rw[a];decide
def kr (ar a b c:Rat):amv:=[nt c,-nt b,nt a,-nt ar,1]
theorem HC (a:X->Rat) (c:X->X->Rat):a9 (am (λb=>-a b) c)=-a9 (am a c)/\e5 (am (λb=>-a b) c)=e5 (am a c)/\dj (am (λb=>-a b) c)=-dj (am a c)/\dh (am (λb=>-a b) c)=dh (am a c):=by obtain⟨d,e,f,g⟩:=qp a c;obtain⟨h,i,j,k⟩:=qp (λb=>-a b) c;rw[d,e,f,g,h,i,j,k,zC (λb=>-a b),CW (λb=>-a b),HB (λb=>-a b),zC a,CW a,HB a];simp only[cS];refine⟨?_,?_,?_,?_⟩<;>grind
theorem aiS {t:X->Rat} (O:qH (cU a)) (i:∀d,d<4->0<c d):∃j k l m n o p q r s u v w x y:Rat,(0<j/\0<k/\0<l/\0<m)/\(0<n/\0<o/\0<p/\0<q/\0<r/\0<s)/\(0<u/\0<v/\0<w/\0<x)/\0<y/\a9 (am (λd=>t d*c d) a)=t 0*j+t 1*k+t 2*l+t 3*m/\e5 (am (λd=>t d*c d) a)=t 0*t 1*n+t 0*t 2*o+t 0*t 3*p+t 1*t 2*q+t 1*t 3*r+t 2*t 3*s/\dj (am (λd=>t d*c d) a)=t 0*t 1*t 2*x+t 0*t 1*t 3*w+t 0*t 2*t 3*v+t 1*t 2*t 3*u/\dh (am (λd=>t d*c d) a)=t 0*t 1*t 2*t 3*y:=by
 obtain⟨⟨E,F,G,H⟩,⟨I,J,K,L,M,N⟩,⟨T,S,R,Q⟩,P⟩:=zV (jB a) O;have e:=i 0 ab;have f:=i 1 ab;have g:=i 2 ab;have h:=i 3 ab;obtain⟨ar,B,C,D⟩:=qp (λd=>t d*c d) a;rw[ar,B,C,D,zC,CW,HB];have b:=λ{z A:Rat}=>@kU z A;refine⟨_,_,_,_,_,_,_,_,_,_,_,_,_,_,_,⟨b e E,b f F,b g G,b h H⟩,⟨b (b e f) I,b (b e g) J,b (b e h) K,b (b f g) L,b (b f h) M,b (b g h) N⟩,⟨b (b (b f g) h) Q,b (b (b e g) h) R,b (b (b e f) h) S,b (b (b e f) g) T⟩,b (b (b (b e f) g) h) P,?_,?_,?_,?_⟩
 ·unfold cS;grind
 ·grind
 ·grind
 grind
def jK (b c a:X):Rat:=if a<b then 1 else if a<b+c then-1 else 0
theorem Mt {t:X->Rat} (w:qH (cU a)) (u:∀b,b<4->0<c b) {k:X} (s:k<4) (z:∀b,b<4->b≠k->0<=t b) {j:X} (r:j<4) (x:j≠k) (A:0<t j):a9 (am (λb=>t b*c b) a)<=0->e5 (am (λb=>t b*c b) a)<0:=by
 obtain⟨⟨B,C,D,E⟩,⟨i,l,m,n,o,p⟩,-,-⟩:=zV (jB a) w;have q:∀d e,d<4->e<4->d≠e->0<cU a d d*cU a e e-cU a d e*cU a d e:=by
  intro d e F G v;unfold fW at i l m n o p;rw[jB a 1 0] at i;rw[jB a 2 0] at l;rw[jB a 3 0] at m;rw[jB a 2 1] at n;rw[jB a 3 1] at o;rw[jB a 3 2] at p;have M:=jB a 1 0;have N:=jB a 2 0;have P:=jB a 3 0;have O:=jB a 2 1;have Q:=jB a 3 1;have R:=jB a 3 2;obtain rfl|rfl|rfl|rfl:d=0\/d=1\/d=2\/d=3:=by omega
  all_goals
   obtain rfl|rfl|rfl|rfl:e=0\/e=1\/e=2\/e=3:=by omega
   all_goals first|exact absurd rfl v|grind
 have y:0<cU a k k:=by
  obtain rfl|rfl|rfl|rfl:k=0\/k=1\/k=2\/k=3:=by omega
  all_goals assumption
 have f:∀b,b<4->0<=t b*c b*(cU a b b*cU a k k-cU a b k*cU a b k):=λb h=>by
  by_cases g:b=k
  ·rw[g];grind
  exact kT (kT (z b h g) (tk (u b h))) (tk (q b k h s g))
 have H:0<t j*c j*(cU a j j*cU a k k-cU a j k*cU a j k):=aqW (aqW A (u j r)) (q j k r s x);refine Ua y ?_;have I:=f 0 ab;have J:=f 1 ab;have K:=f 2 ab;have L:=f 3 ab;unfold cS;dsimp only;obtain rfl|rfl|rfl|rfl:j=0\/j=1\/j=2\/j=3:=by omega
 all_goals grind
theorem aa0 (c b:X->Rat):(λa=>-(c a*b a))=λa=>-c a*b a:=by funext a;grind
theorem Ub {t:X->Rat} (f:qH (cU a)) (m:∀b,b<4->0<c b) {k:X} (l:k<4) (n:∀b,b<4->b≠k->t b<=0) {j:X} (h:j<4) (i:j≠k) (o:t j<0):0<=a9 (am (λb=>t b*c b) a)->e5 (am (λb=>t b*c b) a)<0:=by obtain⟨ar,d,-,-⟩:=HC (λb=>t b*c b) a;rw[aa0] at ar d;have:=Mt (t:=λb=>-t b) f m l (λb g e=>by have:=n b g e;grind) h i ae;rw[ar,d] at this;intro e;exact this ae
theorem V0 (q:qH (cU a)) (e:∀d,d<4->0<c d):0<=dj (am (λd=>jK 3 1 d*c d) a)->0<e5 (am (λd=>jK 3 1 d*c d) a):=by
 obtain⟨-,⟨t,u,B,v,C,D⟩,-,h⟩:=zV (jB a) q;obtain⟨E,F,i,G,j,l⟩:=Kl (jB a);have g:=λd (w:d<4) p (x:p<4)=>H7 (jB a) d p w x;have m:=e 0 ab;have n:=e 1 ab;have o:=e 2 ab;have f:=e 3 ab;have b:=λ{r s:Rat}=>@kU r s;rw[(qp _ _).2.2.1,(qp _ _).2.1];refine Nv q ?_ (k:=3) ab ?_
 ·have:=b (b (b m n) o) f;simp only[jK,cy,amC,cm];grind
 unfold fW at i j l;rw[g 3 ab 0 ab] at i;rw[g 3 ab 1 ab] at j;rw[g 3 ab 2 ab] at l;have y:=b (b (b n o) f) (b h v);have z:=b (b (b m o) f) (b h u);have A:=b (b (b m n) f) (b h t);unfold fW at y z A;simp only[cS,iu,jK,cy,amC,cm];rw[i,j,l];grind
theorem VZ (r:qH (cU a)) (e:∀b,b<4->0<c b):dj (am (λb=>jK 1 3 b*c b) a)<=0->0<e5 (am (λb=>jK 1 3 b*c b) a):=by
 obtain⟨-,⟨E,F,G,w,x,y⟩,-,l⟩:=zV (jB a) r;obtain⟨f,g,h,I,J,K⟩:=Kl (jB a);have j:=λb (z:b<4) p (A:p<4)=>H7 (jB a) b p z A;have i:=e 0 ab;have m:=e 1 ab;have n:=e 2 ab;have o:=e 3 ab;have d:=λ{s t:Rat}=>@kU s t;obtain⟨-,u,v,-⟩:=HC (λb=>jK 1 3 b*c b) a;intro H;rw[<-u];have q:0<=dj (am (λb=>-(jK 1 3 b*c b)) a):=(by rw[v];grind);rw[(qp _ _).2.2.1] at q;rw[(qp _ _).2.1];refine Nv r ?_ (k:=0) ab ?_ q
 ·have:=d (d (d i m) n) o;simp only[jK,cy,amC,cm];grind
 unfold fW at f g h;rw[j 0 ab 1 ab] at f;rw[j 0 ab 2 ab] at g;rw[j 0 ab 3 ab] at h;have B:=d (d (d i n) o) (d l y);have C:=d (d (d i m) o) (d l x);have D:=d (d (d i m) n) (d l w);unfold fW at B C D;rw[ar8 (ad (cU a) 0 0)] at f g h;simp only[cS,iu,jK,cy,amC,cm];rw[f,g,h];grind
theorem W7 {m:X->Rat} (q:qH (cU f)) (l:∀b,b<4->0<m b) (d g:X) (a3:d+g<=4) (r:a=am (λb=>jK d g b*m b) f):hh (kr (a9 a) (e5 a) (dj a) (dh a))+(d+g)=4/\jt 0 (kr (a9 a) (e5 a) (dj a) (dh a))=d:=by
 obtain⟨I,J,K,L,M,N,O,P,Q,R,S,T,U,V,ad,an,ap,av,a0,ar,C,D,E⟩:=aiS (t:=jK d g) q l;rw[<-r] at ar C D E;obtain⟨rfl,rfl⟩|⟨rfl,rfl⟩|⟨rfl,rfl⟩|⟨rfl,rfl⟩|⟨rfl,rfl⟩|⟨rfl,rfl⟩|⟨rfl,rfl⟩|⟨rfl,rfl⟩|⟨rfl,rfl⟩|⟨rfl,rfl⟩|⟨rfl,rfl⟩|⟨rfl,rfl⟩|⟨rfl,rfl⟩|⟨rfl,rfl⟩|⟨rfl,rfl⟩:(d=0/\g=0)\/(d=1/\g=0)\/(d=0/\g=1)\/(d=2/\g=0)\/(d=1/\g=1)\/(d=0/\g=2)\/(d=3/\g=0)\/(d=2/\g=1)\/(d=1/\g=2)\/(d=0/\g=3)\/(d=4/\g=0)\/(d=3/\g=1)\/(d=2/\g=2)\/(d=1/\g=3)\/(d=0/\g=4):=by omega
 all_goals simp only[jK,cy,amC,cm] at ar C D E
 ·rw[kr,kP (x:=a9 a) ae,kP (x:=e5 a) ae,kP (x:=dj a) ae,kP (x:=dh a) ae];decide
 ·rw[kr,mX (x:=a9 a) ae,kP (x:=e5 a) ae,kP (x:=dj a) ae,kP (x:=dh a) ae];decide
 ·rw[kr,rE (x:=a9 a) ae,kP (x:=e5 a) ae,kP (x:=dj a) ae,kP (x:=dh a) ae];decide
 ·rw[kr,mX (x:=a9 a) ae,mX (x:=e5 a) ae,kP (x:=dj a) ae,kP (x:=dh a) ae];decide
 ·rw[kr,rE (x:=e5 a) ae,kP (x:=dj a) ae,kP (x:=dh a) ae];rcases nX (a9 a) with⟨c,-⟩|⟨c,-⟩|⟨c,-⟩<;>rw[c]<;>decide
 ·rw[kr,rE (x:=a9 a) ae,mX (x:=e5 a) ae,kP (x:=dj a) ae,kP (x:=dh a) ae];decide
 ·rw[kr,mX (x:=a9 a) ae,mX (x:=e5 a) ae,mX (x:=dj a) ae,kP (x:=dh a) ae];decide
 ·have o:=Mt (t:=jK 2 1) q l (k:=2) ab (λb s h=>by
   obtain rfl|rfl|rfl:b=0\/b=1\/b=3:=by omega
   all_goals decide) (j:=0) ab ab ab
  rw[<-r] at o;rw[kr,rE (x:=dj a) ae,kP (x:=dh a) ae];rcases nX (a9 a) with⟨c,h⟩|⟨c,h⟩|⟨c,h⟩<;>rcases nX (e5 a) with⟨e,i⟩|⟨e,i⟩|⟨e,i⟩<;>first|(exfalso;grind)|(rw[c,e];decide)
 ·have o:=Ub (t:=jK 1 2) q l (k:=0) ab (λb s h=>by
   obtain rfl|rfl|rfl:b=1\/b=2\/b=3:=by omega
   all_goals decide) (j:=1) ab ab ab
  rw[<-r] at o;rw[kr,mX (x:=dj a) ae,kP (x:=dh a) ae];rcases nX (a9 a) with⟨c,h⟩|⟨c,h⟩|⟨c,h⟩<;>rcases nX (e5 a) with⟨e,i⟩|⟨e,i⟩|⟨e,i⟩<;>first|(exfalso;grind)|(rw[c,e];decide)
 ·rw[kr,rE (x:=a9 a) ae,mX (x:=e5 a) ae,rE (x:=dj a) ae,kP (x:=dh a) ae];decide
 ·rw[kr,mX (x:=a9 a) ae,mX (x:=e5 a) ae,mX (x:=dj a) ae,mX (x:=dh a) ae];decide
 ·have o:=Mt (t:=jK 3 1) q l (k:=3) ab (λb s h=>by
   obtain rfl|rfl|rfl:b=0\/b=1\/b=2:=by omega
   all_goals decide) (j:=0) ab ab ab
  have u:=V0 q l;rw[<-r] at o u;rw[kr,rE (x:=dh a) ae];rcases nX (a9 a) with⟨c,h⟩|⟨c,h⟩|⟨c,h⟩<;>rcases nX (e5 a) with⟨e,i⟩|⟨e,i⟩|⟨e,i⟩<;>rcases nX (dj a) with⟨n,p⟩|⟨n,p⟩|⟨n,p⟩<;>first|(exfalso;grind)|(rw[c,e,n];decide)
 ·have o:∀b,b<4->b=0\/b=1\/jK 2 2 b*m b<=0:=λb s=>by
   obtain rfl|rfl|rfl|rfl:b=0\/b=1\/b=2\/b=3:=by omega
   ·exact .inl bq
   ·exact .inr (.inl bq)
   all_goals refine .inr (.inr ?_);simp only[jK,cy,amC,cm]
   ·have:=l 2 ab;grind
   have:=l 3 ab;grind
  have u:∀b,b<4->b=2\/b=3\/ -(jK 2 2 b*m b)<=0:=λb s=>by
   obtain rfl|rfl|rfl|rfl:b=0\/b=1\/b=2\/b=3:=by omega
   rotate_left 2
   ·exact .inl bq
   ·exact .inr (.inl bq)
   all_goals refine .inr (.inr ?_);simp only[jK,cy,amC,cm]
   ·have:=l 0 ab;grind
   have:=l 1 ab;grind
  have F:=λw y z A=>Rq (v:=f) o w y z A;have B:=λw y z A=>Rq (v:=f) u w y z A;obtain⟨G,f2,H,f4⟩:=HC (λb=>jK 2 2 b*m b) f;rw[G,f2,H,f4] at B;rw[<-r] at F B;rw[kr,mX (x:=dh a) ae];rcases nX (a9 a) with⟨c,h⟩|⟨c,h⟩|⟨c,h⟩<;>rcases nX (e5 a) with⟨e,i⟩|⟨e,i⟩|⟨e,i⟩<;>rcases nX (dj a) with⟨n,p⟩|⟨n,p⟩|⟨n,p⟩<;>first|(rw[c,e,n];decide)|(exfalso;exact F ae ae ae ae)|(exfalso;exact B ae ae ae ae)
 ·have o:=Ub (t:=jK 1 3) q l (k:=0) ab (λb s h=>by
   obtain rfl|rfl|rfl:b=1\/b=2\/b=3:=by omega
   all_goals decide) (j:=1) ab ab ab
  have u:=VZ q l;rw[<-r] at o u;rw[kr,rE (x:=dh a) ae];rcases nX (a9 a) with⟨c,h⟩|⟨c,h⟩|⟨c,h⟩<;>rcases nX (e5 a) with⟨e,i⟩|⟨e,i⟩|⟨e,i⟩<;>rcases nX (dj a) with⟨n,p⟩|⟨n,p⟩|⟨n,p⟩<;>first|(exfalso;grind)|(rw[c,e,n];decide)
 rw[kr,rE (x:=a9 a) ae,mX (x:=e5 a) ae,rE (x:=dj a) ae,mX (x:=dh a) ae];decide
def gL (c:X) (d:X->X->Rat) (a b:X):Rat:=if a<c/\b<c then d a b else 0
def sO (c:X) (b:X->Rat) (a:X):Rat:=if a<c then b a else 0
theorem O2 (d:b<=4) (a c:X->Rat):di (sO b a) c=lf a c b:=by
 obtain rfl|rfl|rfl|rfl|rfl:b=0\/b=1\/b=2\/b=3\/b=4:=by omega
 all_goals simp only[di,cS,sO,lf,cy,cm];grind
theorem afO (d:b<=4) (c:X->X->Rat) (a:X->Rat):sK c (bK b) a=di a (ap (gL b c) a):=by
 obtain rfl|rfl|rfl|rfl|rfl:b=0\/b=1\/b=2\/b=3\/b=4:=by omega
 all_goals simp only[sK,show bK 0=[] from rfl,show bK 1=[0] from rfl,show bK 2=[0,1] from rfl,show bK 3=[0,1,2] from rfl,show bK 4=[0,1,2,3] from rfl,hU,di,ap,cS,gL,cy,cm,cf,true_and,amL,anc,ane];grind
theorem aeJ (g:∀c d,a c d=a d c) (h:∀c d,c<4->d<4->f c d=f d c) (e:∀i,di i (ap a i)=di i (ap f i)):∀c d,c<4->d<4->a c d=f c d:=by
 have j:=e λb=>if b=0 then 1 else 0
 have n:=e λb=>if b=1 then 1 else 0
 have q:=e λb=>if b=2 then 1 else 0
 have s:=e λb=>if b=3 then 1 else 0
 have k:=e λb=>if b=0 then 1 else if b=1 then 1 else 0
 have l:=e λb=>if b=0 then 1 else if b=2 then 1 else 0
 have m:=e λb=>if b=0 then 1 else if b=3 then 1 else 0
 have o:=e λb=>if b=1 then 1 else if b=2 then 1 else 0
 have p:=e λb=>if b=1 then 1 else if b=3 then 1 else 0
 have r:=e λb=>if b=2 then 1 else if b=3 then 1 else 0
 simp only[di,ap,cS,anv,cm] at j n q s k l m o p r;have t:=g 1 0;have u:=g 2 0;have w:=g 3 0;have v:=g 2 1;have x:=g 3 1;have y:=g 3 2;have z:=h 1 0 ab ab;have A:=h 2 0 ab ab;have C:=h 3 0 ab ab;have B:=h 2 1 ab ab;have D:=h 3 1 ab ab;have E:=h 3 2 ab ab;intro c d F G;obtain rfl|rfl|rfl|rfl:c=0\/c=1\/c=2\/c=3:=by omega
 all_goals
  obtain rfl|rfl|rfl|rfl:d=0\/d=1\/d=2\/d=3:=by omega
  all_goals grind
def U7 (e:∀c d,c<4->d<4->a c d=f c d):a9 a=a9 f/\e5 a=e5 f/\dj a=dj f/\dh a=dh f:=by have b:=λc d (g:c<4) (h:d<4)=>e c d g h;simp only[a9,e5,dj,dh,fW,iX,d3,cS];simp only[b 0 0 ab ab,b 0 1 ab ab,b 0 2 ab ab,b 0 3 ab ab,b 1 0 ab ab,b 1 1 ab ab,b 1 2 ab ab,b 1 3 ab ab,b 2 0 ab ab,b 2 1 ab ab,b 2 2 ab ab,b 2 3 ab ab,b 3 0 ab ab,b 3 1 ab ab,b 3 2 ab ab,b 3 3 ab ab,amL]
theorem afP (e:i.Perm k):iE b c i=iE b c k:=by
 induction e with
 |nil=>rfl
 |cons g _ f=>rw[iE,iE,f]
 |swap g h i=>
  simp only[iE];grind
 |trans _ _ a d=>exact a.trans d
def PP {d:Type} {a e:bp d} {c:d} (f:b<a.length):(a++e).getD b c=a.getD b c:=by rw[ji,ji,qy f]
def J3 {e:Type} {a c:bp e} {d:e} (f:a.length<=b):(a++c).getD b d=c.getD (b-a.length) d:=by rw[ji,ji,qz f]
theorem zb (b:X) (c:X->Rat):∀d a:bp (Rat×(X->Rat)),iE b c (d++a)=iE b c d+iE b c a
 |[],a=>by show _=0+iE b c a;grind
 |r::d,a=>by rw[kR,iE,iE,zb b c d a];grind
def vB (a:X) (b:X->X->Rat):amv:=(kr (a9 (gL a b)) (e5 (gL a b)) (dj (gL a b)) (dh (gL a b))).drop (4-a)
theorem WO (e:b<=4) (a:X->X->Rat):hh (kr (a9 (gL b a)) (e5 (gL b a)) (dj (gL b a)) (dh (gL b a)))=hh (vB b a)+(4-b)/\jt 0 (kr (a9 (gL b a)) (e5 (gL b a)) (dj (gL b a)) (dh (gL b a)))=jt 0 (vB b a):=by
 have c:∀{x:Rat},x=0->nt x=0:=λd=>kP d;unfold vB kr;obtain rfl|rfl|rfl|rfl|rfl:b=0\/b=1\/b=2\/b=3\/b=4:=by omega
 ·rw[c (x:=dh (gL 0 a)) (by simp only[dh,d3,gL,cy,cm,amL,anc,ane];grind),c (x:=dj (gL 0 a)) (by simp only[dj,iX,d3,gL,cy,cm,amL,anc,ane];grind),c (x:=e5 (gL 0 a)) (by simp only[e5,fW,gL,cy,cm,amL,anc,ane];grind),c (x:=a9 (gL 0 a)) (by simp only[a9,cS,gL,cy,cm,amL,anc,ane];grind)];decide
 ·rw[c (x:=dh (gL 1 a)) (by simp only[dh,d3,gL,cy,cm,amL,anc,ane];grind),c (x:=dj (gL 1 a)) (by simp only[dj,iX,d3,gL,cy,cm,amL,anc,ane];grind),c (x:=e5 (gL 1 a)) (by simp only[e5,fW,gL,cy,cm,amL,anc,ane];grind)];simp[hh,jt]
 ·rw[c (x:=dh (gL 2 a)) (by simp only[dh,d3,gL,cy,cm,amL,anc,ane];grind),c (x:=dj (gL 2 a)) (by simp only[dj,iX,d3,gL,cy,cm,amL,anc,ane];grind)];simp[hh,jt]
 ·rw[c (x:=dh (gL 3 a)) (by simp only[dh,d3,gL,cy,cm,amL,anc,ane];grind)];simp[hh,jt]
 simp
theorem XB (D:d<=4) {w:X->X->Rat} (ds:∀a A,a<d->A<d->w a A=w A a) (c1:i.length=d) (cv:∀f,(∀c∈i,lf c.2 f d=0)->∀a,a<d->f a=0) (dl:∀f,iE d f i=sK w (bK d) f):hh (vB d w)+(rr i+rj i)=d/\jt 0 (vB d w)=rr i:=by
 obtain⟨e,H⟩:∃e,e=i.filter λc=>bw (0<c.1):=⟨_,bq⟩;obtain⟨y,F⟩:∃y,y=i.filter λc=>!bw (0<c.1):=⟨_,bq⟩;obtain⟨g,G⟩:∃g,g=y.filter λc=>bw (c.1<0):=⟨_,bq⟩;obtain⟨r,S⟩:∃r,r=y.filter λc=>!bw (c.1<0):=⟨_,bq⟩;have d3:(e++y).Perm i:=(by rw[H,F];exact aqJ _ _);have d4:(g++r).Perm y:=(by rw[G,S];exact aqJ _ _);have K:(e++(g++r)).Perm i:=(d4.append_left e).trans d3;have d7:e.length=rr i:=(by rw[H];rfl);have d6:g.length=rj i:=by
  rw[G,F,zK];unfold rj;congr 1;refine qx λc _=>?_;by_cases h:c.1<0
  ·rw[amA h,amT (ae:¬0<c.1)];rfl
  rw[amT h];rfl
 have d8:e.length+(g.length+r.length)=d:=(by rw[<-c1,<-K.length_eq,amX,amX]);obtain⟨l,u⟩:∃l,l=(e.map λc=>(c.1,sO d c.2))++((g.map λc=>(c.1,sO d c.2))++((r.map λc=>(c.1,sO d c.2))++(bK (4-d)).map λn=>((0:Rat),λo=>if o=d+n then(1:Rat) else 0))):=⟨_,bq⟩;have d2:l.length=4:=(by rw[u];simp only[amX,cb,aoV];omega);obtain⟨j,B⟩:∃j:X->Rat,j=λa=>(l.getD a (0,λ_=>0)).1:=⟨_,bq⟩;obtain⟨v,V⟩:∃v:X->X->Rat,v=λa=>(l.getD a (0,λ_=>0)).2:=⟨_,bq⟩;have dg:∀c∈l,∃a,a<4/\l.getD a (0,λ_=>0)=c:=λc k=>(by obtain⟨a,t,E⟩:=ani.1 k;exact⟨a,aa,by rw[aoY,bZ t,E];rfl⟩);have ce:∀c∈e,0<c.1:=λc k=>(by rw[H] at k;simpa using(apD.1 k).2);have bx:∀c∈g,c.1<0:=λc k=>(by rw[G] at k;simpa using(apD.1 k).2);have av:∀a,a<e.length->0<j a:=λa t=>(by rw[B,u];dsimp only;rw[PP (by rw[cb];exact t),aoY,asf,bZ t];exact ce e[a] (ca t));have an:∀a,e.length<=a->a<e.length+g.length->j a<0:=λa s z=>by
  rw[B,u];dsimp only;rw[J3 (by rw[cb];exact s),cb,PP (by rw[cb];omega),aoY,asf,bZ (aa:a-e.length<g.length)];exact bx (g[a-e.length]'(by omega)) (ca _)
 have tV:∀a,e.length+g.length<=a->j a=0:=λa s=>by
  rw[B,u];dsimp only;rw[J3 (by rw[cb];omega),cb,J3 (by rw[cb];omega),cb];have:∀c∈(r.map λc=>(c.1,sO d c.2))++(bK (4-d)).map λn=>((0:Rat),λo=>if o=d+n then(1:Rat) else 0),c.1=0:=λc k=>by
   rcases hl.1 k with h|h
   ·obtain⟨d5,I,rfl⟩:=eT.1 h;rw[S,F] at I;have:=hV.1 I;have:=hV.1 this.1;simp_all;grind
   obtain⟨d5,I,rfl⟩:=eT.1 h;rfl
  rw[ji];generalize(r.map λc=>(c.1,sO d c.2))++(bK (4-d)).map (λn=>((0:Rat),λo=>if o=d+n then(1:Rat) else 0))=ad at*;rcases c6 (a-e.length-g.length) ad.length with h|h
  ·rw[cH h];exact this _ (cT h)
  rw[rS h];rfl
 have d0:∀f:X->Rat,(∀a,a<4->di (v a) f=0)->∀a,a<4->f a=0:=λf d1=>by
  have s:∀c∈l,di c.2 f=0:=λc k=>(by obtain⟨a,t,E⟩:=dg c k;have:=d1 a t;rw[V] at this;dsimp only at this;rwa[E] at this);have z:=cv f λc k=>by
   rw[<-O2 D];have U:=K.mem_iff.2 k;refine s (c.1,sO d c.2) ?_;rw[u];simp only[hl,eT] at U|-;rcases U with h|h|h
   ·exact .inl ⟨c,h,bq⟩
   ·exact .inr (.inl ⟨c,h,bq⟩)
   exact .inr (.inr (.inl ⟨c,h,bq⟩))
  intro a t;rcases c6 a d with p|p
  ·exact z a p
  have R:=s (0,λo=>if o=d+(a-d) then 1 else 0) (by
   rw[u];refine kB _ (kB _ (kB _ (eT.2 ⟨a-d,gN.2 aa,bq⟩))))
  rw[(aa:d+(a-d)=a)] at R;obtain rfl|rfl|rfl|rfl:a=0\/a=1\/a=2\/a=3:=by omega
  all_goals simp only[di,cS,anv,cm] at R;grind
 have cs:∀f,di f (ap (am j v) f)=di f (ap (gL d w) f):=λf=>by
  rw[Nz,<-afO D,<-dl,<-afP K];have ar:∀q:bp (Rat×(X->Rat)),iE 4 f (q.map λc=>(c.1,sO d c.2))=iE d f q:=λq=>by
   induction q with
   |nil=>rfl
   |cons c q J=>rw[hA,iE,iE,J,ws,O2 D]
  have a0:iE 4 f l=iE d f (e++(g++r)):=by
   rw[u,zb,zb,zb,zb,zb,ar,ar,ar];have:∀q:amu,iE 4 f (q.map λn=>((0:Rat),λo=>if o=d+n then(1:Rat) else 0))=0:=λq=>by
    induction q with
    |nil=>rfl
    |cons n q J=>
     rw[hA,iE,J];grind
   rw[this];grind
  rw[<-a0,B,V];obtain⟨L,M,N,O,rfl⟩:∃L M N O,l=[L,M,N,O]:=by
   match l,d2 with
   |[L,M,N,O],_=>exact⟨_,_,_,_,bq⟩
  simp only[iE,ws,cS,List.getD_cons_zero,List.getD_cons_succ];grind
 have co:=aeJ (NA j v) (λa A _ _=>by
  unfold gL;by_cases p:a<d/\A<d
  ·rw[ay p,ay ⟨p.2,p.1⟩,ds a A p.1 p.2]
  rw[aw p,aw λn=>p ⟨n.2,n.1⟩]) cs
 obtain⟨x,T⟩:∃x:X->Rat,x=λa=>if 0<j a then j a else if j a<0 then-j a else 1:=⟨_,bq⟩
 have c2:∀a,a<4->0<x a:=λa _=>by
  rw[T];dsimp only;split
  ·assumption
  split
  ·grind
  decide
 have C:∀a,a<4->j a=jK e.length g.length a*x a:=λa t=>by
  rw[T];unfold jK;dsimp only;by_cases s:a<e.length
  ·rw[ay s,ay (av a s)];grind
  rw[aw s];by_cases z:a<e.length+g.length
  ·have:=an a aa z;rw[ay z,aw ae,ay this];grind
  rw[aw z,tV a aa];grind
 have ci:am (λa=>jK e.length g.length a*x a) v=am j v:=(by funext o b;simp only[am,cS];rw[<-C 0 ab,<-C 1 ab,<-C 2 ab,<-C 3 ab]);obtain⟨P,Q⟩:=W7 (m:=x) (aes d0) c2 e.length g.length aa ci.symm;obtain⟨a3,f2,a4,f4⟩:=U7 co;rw[a3,f2,a4,f4] at P Q;obtain⟨bl,bs⟩:=WO D w;rw[bl] at P;rw[bs] at Q;exact⟨aa,aa⟩
theorem abh (a:X->X->Z):2*e5 a=a9 a*a9 a-a9 (ba a a):=by simp only[e5,fW,a9,ba,cS];grind
theorem abi (a:X->X->Z):6*dj a=a9 a*a9 a*a9 a-3*(a9 a*a9 (ba a a))+2*a9 (ba a (ba a a)):=by simp only[dj,iX,d3,a9,ba,cS];grind
theorem abj (a:X->X->Z):24*dh a=a9 a*a9 a*(a9 a*a9 a)-6*(a9 a*a9 a*a9 (ba a a))+3*(a9 (ba a a)*a9 (ba a a))+8*(a9 a*a9 (ba a (ba a a)))-6*a9 (ba a (ba a (ba a a))):=by simp only[dh,d3,a9,ba,cS];generalize a 0 0=b;generalize a 0 1=c;generalize a 0 2=d;generalize a 0 3=e;generalize a 1 0=f;generalize a 1 1=g;generalize a 1 2=h;generalize a 1 3=i;generalize a 2 0=j;generalize a 2 1=k;generalize a 2 2=l;generalize a 2 3=m;generalize a 3 0=n;generalize a 3 1=o;generalize a 3 2=p;generalize a 3 3=q;grind
def nu (a:X->Z):X->Z
 |0=>0
 |n+1=>nu a n+a n
def j8 (c:X->X->Z) (d:Z) (a b:X):Z:=if a=b then c a b+d else c a b
def mi (f:X) (b c:X->X->Z) (d e:X):Z:=nu (λa=>b d a*c a e) f
def sY (c:X) (b:X->X->Z):Z:=nu (λa=>b a a) c
def eW (a:X) (b:X->X->Z):X->(X->X->Z)×Z
 |0=>(λ_ _=>0,1)
 |k+1=>(mi a b (j8 (eW a b k).1 (eW a b k).2),-((sY a (mi a b (j8 (eW a b k).1 (eW a b k).2))).tdiv ((k:Z)+1)))
def gv (a:X->X->Z):X->(X->X->Z)×Z
 |0=>(λ_ _=>0,1)
 |k+1=>(ba a (j8 (gv a k).1 (gv a k).2),-((a9 (ba a (j8 (gv a k).1 (gv a k).2))).tdiv ((k:Z)+1)))
def iS (c:X) (d:X->X->Z) (a b:X):Z:=if a<c/\b<c then d a b else 0
def Mr (g:b<=4) {f e:X->Z} (a:∀d,d<b->f d=e d) (c:∀d,b<=d->d<4->e d=0):nu f b=cS e:=by
 obtain rfl|rfl|rfl|rfl|rfl:b=0\/b=1\/b=2\/b=3\/b=4:=by omega
 ·simp only[nu,cS,c 0 ab ab,c 1 ab ab,c 2 ab ab,c 3 ab ab];rfl
 ·simp only[nu,cS,a 0 ab,c 1 ab ab,c 2 ab ab,c 3 ab ab];omega
 ·simp only[nu,cS,a 0 ab,a 1 ab,c 2 ab ab,c 3 ab ab];omega
 ·simp only[nu,cS,a 0 ab,a 1 ab,a 2 ab,c 3 ab ab];omega
 simp only[nu,cS,a 0 ab,a 1 ab,a 2 ab,a 3 ab];omega
def FE {a:X} (h:a<=4) (b:X->X->Z):∀k,(eW a b k).2=(gv (iS a b) k).2/\∀c d,c<a->d<a->(eW a b k).1 c d=(gv (iS a b) k).1 c d
 |0=>⟨bq,λ_ _ _ _=>rfl⟩
 |k+1=>by
  obtain⟨j,l⟩:=FE h b k;have i:∀c d,c<a->d<a->mi a b (j8 (eW a b k).1 (eW a b k).2) c d=ba (iS a b) (j8 (gv (iS a b) k).1 (gv (iS a b) k).2) c d:=λc d e m=>by
   refine Mr h (λf g=>?_) λf g _=>?_
   ·have n:iS a b c f=b c f:=ay (And.intro e g);rw[n];congr 1;unfold j8;rw[j,l f d g m]
   unfold iS;rw[aw aa,n4]
  refine⟨?_,i⟩;show-((sY a (mi a b (j8 (eW a b k).1 (eW a b k).2))).tdiv ((k:Z)+1))=-((a9 (ba (iS a b) (j8 (gv (iS a b) k).1 (gv (iS a b) k).2))).tdiv ((k:Z)+1));congr 2;refine Mr h (λc e=>i c c e e) λc e _=>?_;unfold ba cS iS;dsimp only;rw[b6 aa,b6 aa,b6 aa,b6 aa];omega
theorem Hj (a b:X->X->Z) (c:Z):a9 (ba a (j8 b c))=a9 (ba a b)+c*a9 a:=by simp only[a9,ba,cS,j8,anv,cm];grind
theorem MB (a b c:X->X->Z) (d:Z):a9 (ba b (ba a (j8 c d)))=a9 (ba b (ba a c))+d*a9 (ba b a):=by simp only[a9,ba,cS,j8,anv,cm];grind
theorem yT (a b c:X->X->Z):ba (ba a b) c=ba a (ba b c):=by funext i d;simp only[ba,cS];grind
def Hg {x y:Z} (b:e≠0) (a:x=e*y):x.tdiv e=y:=by rw[a];exact Int.mul_tdiv_cancel_left y b
theorem PD (a:X->X->Z):((gv a 1).2=-a9 a/\(gv a 2).2=e5 a/\(gv a 3).2=-dj a/\(gv a 4).2=dh a)/\a9 (gv a 1).1=1*a9 a/\a9 (gv a 2).1=2*-e5 a/\a9 (gv a 3).1=3*dj a/\a9 (gv a 4).1=4*-dh a:=by have r:=abh a;have s:=abi a;have t:=abj a;have i:(gv a 0).2=1:=rfl;have p:∀b:X->X->Z,a9 (ba b (gv a 0).1)=0:=λb=>(by show a9 (ba b λ_ _=>0)=0;simp only[a9,ba,cS];omega);have d:∀c,(gv a (c+1)).1=ba a (j8 (gv a c).1 (gv a c).2):=λc=>rfl;have e:∀c,(gv a (c+1)).2=-((a9 (gv a (c+1)).1).tdiv ((c:Z)+1)):=λc=>rfl;have j:a9 (gv a 1).1=a9 a:=(by rw[d 0,Hj,p,i];omega);have f:(gv a 1).2=-a9 a:=(by rw[e 0,j,Hg (y:=a9 a) ab ac]);have n:∀b,a9 (ba b (gv a 1).1)=a9 (ba b a):=λb=>(by rw[d 0,MB,i,<-yT,p];omega);have k:a9 (gv a 2).1=a9 (ba a a)-a9 a*a9 a:=(by rw[d 1,Hj,n,f];grind);have g:(gv a 2).2=e5 a:=(by rw[e 1,Hg (x:=a9 (gv a 2).1) (y:=-e5 a) ab (by rw[k];simp only[Int.cast_ofNat_Int];omega)];omega);have o:∀b,a9 (ba b (gv a 2).1)=a9 (ba b (ba a a))-a9 a*a9 (ba b a):=λb=>(by rw[d 1,MB,<-yT,n,f,yT];grind);have l:a9 (gv a 3).1=a9 (ba a (ba a a))-a9 a*a9 (ba a a)+e5 a*a9 a:=(by rw[d 2,Hj,o,g]);have h:(gv a 3).2=-dj a:=(by rw[e 2,Hg (x:=a9 (gv a 3).1) (y:=dj a) ab (by rw[l];grind)]);have m:a9 (gv a 4).1=a9 (ba a (ba a (ba a a)))-a9 a*a9 (ba a (ba a a))+e5 a*a9 (ba a a)-dj a*a9 a:=(by rw[d 3,Hj,d 2,MB,<-yT,o,g,h,yT,yT];grind);have q:(gv a 4).2=dh a:=(by rw[e 3,Hg (x:=a9 (gv a 4).1) (y:=-dh a) ab (by rw[m];grind)];omega);exact⟨⟨f,g,h,q⟩,by rw[j];omega,by rw[k];omega,by rw[l];grind,by rw[m];grind⟩
def YI (a:X->X->Z):(gv a 1).2=-a9 a/\(gv a 2).2=e5 a/\(gv a 3).2=-dj a/\(gv a 4).2=dh a:=(PD a).1
def YJ (e:b<=4) (a:X->X->Z) {k:X} (p:k<4):sY b (eW b a (k+1)).1=((k:Z)+1)*-(eW b a (k+1)).2:=by
 have j:sY b (eW b a (k+1)).1=a9 (gv (iS b a) (k+1)).1:=(by refine Mr e (λc d=>(FE e a (k+1)).2 c c d d) λc d _=>?_;show ba (iS b a) (j8 (gv (iS b a) k).1 (gv (iS b a) k).2) c c=0;unfold ba cS iS;dsimp only;rw[b6 aa,b6 aa,b6 aa,b6 aa];omega);rw[j,(FE e a (k+1)).1];obtain⟨⟨f,g,h,i⟩,l,m,n,o⟩:=PD (iS b a);obtain rfl|rfl|rfl|rfl:k=0\/k=1\/k=2\/k=3:=by omega
 ·rw[l,f,apk];rfl
 ·rw[m,g];rfl
 ·rw[n,h,apk];rfl
 rw[o,i];rfl
section
section
variable {n A:X} {ps:bp aN} {F:fA}
def Z8 (u:A=65536) (l:h2 n ps F) (P:n<=5) {o:X->X->Z} (s:0<e) (T:∀a d,a<n->d<n->o (hT F.1 a) (hT F.1 d)*e=(np ps n a d).getD 0):∃q:bp (Rat×(X->Rat)),q.length=n/\(∀f,(∀w∈q,lf w.2 f n=0)->∀a,a<n->f a=0)/\(∀f,iE n f q=sK (λa d=>(o a d:Rat)) (bK n) f)/\(rr q:Z)=(e1 ps).2.2/\(rj q:Z)=(e1 ps).1/\(e1 ps).1+(e1 ps).2.1+(e1 ps).2.2=(n:Z):=by
 obtain⟨h,v⟩:∃h:Rat,h=(((2:Z)^A:Z):Rat):=⟨_,bq⟩;have z:0<h:=(by rw[v];exact LY A);have S:(0:Rat)<(e:Rat):=zX.2 s;have t:=l.SL u s;have Q:=aee l.or;have x:∀i:X->Rat,hU i (bK n)=hU (λa=>i (hT F.1 a)) (bK n):=λi=>(agQ Q).symm.trans (TI i (hT F.1) _);have L:∀b,b<n->cF (fI ps b b)/h=1:=λb r=>(by rw[Vn u,Int.one_mul];show(((2:Z)^A:Z):Rat)/h=1;rw[<-v];exact af0 z);have K:∀b a,a<b->b<n->cF (fI ps a b)/h=0:=λb a j r=>(by rw[Vo l j r];exact af1 h);have D:∀b f,lf (λk=>cF (fI ps (hg F.1 k) b)/h) f n=hU (λa=>f (hT F.1 a)*(cF (fI ps a b)/h)) (bK n):=λb f=>(by rw[KE,x λk=>f k*(cF (fI ps (hg F.1 k) b)/h)];exact Co λa j=>by rw[l.or.LQ (gN.1 j)]);have N:∀a d,a<n->d<n->((np ps n a d).getD 0:Rat)*(h*h)=gg (λi=>cF (aV i)) (λb=>cF (fI ps a b)) (λe=>cF (fI ps d e)) ps 0:=λa d j m=>(by obtain⟨am,G,_,_,w⟩:=LR u v l P j m;rw[G];exact w);obtain⟨_,I,f2,J,f4,f5⟩:=Z7 (n:=n) (λb k=>cF (fI ps (hg F.1 k) b)/h) (MZ ps 0 t (by rw[l3];exact l.ok.len));obtain⟨V,ad,E⟩:=Mj (g:=λi=>jY ((aV i).getD 0,e)) (λi=>⟨(GM (p:=((aV i).getD 0,e)) s).2.1.trans (Ct _).1.symm,(GM (p:=((aV i).getD 0,e)) s).1.trans (Ct _).2.symm⟩) ps t;rw[l.ok.len] at E;refine⟨_,I.trans (aob n),λf U k B=>?_,λf=>?_,by rw[f4];exact V,by rw[f5];exact ad,E⟩
 ·have M:=aid (c:=λb a=>cF (fI ps a b)/h) L K (λa=>f (hT F.1 a)) (λb r=>by
   rw[KE];exact(D b f).symm.trans (J f U b (eU _) r)) (hg F.1 k) (l.or.pos B).1
  rwa[(l.or.pos B).2] at M
 rw[f2,SW _ _ ps 0 λe R=>(t e R).two];have O:∀a∈bK n,∀d∈bK n,((o (hT F.1 a) (hT F.1 d):Z):Rat)=gg (λi=>jY ((aV i).getD 0,e)) (λb=>cF (fI ps a b)/h) (λb=>cF (fI ps d b)/h) ps 0:=λa j d m=>(by have j:=gN.1 j;have m:=gN.1 m;have H:(λi=>jY ((aV i).getD 0,e))=λi=>(1/(e:Rat))*cF (aV i):=(by funext i;exact S4 _ _);have y:∀a,(λb=>cF (fI ps a b)/h)=λb=>(1/h)*cF (fI ps a b):=λa=>(by funext b;exact S4 _ _);rw[H,y a,y d,NY,<-N a d j m,<-T a d j m,o0];exact af2 S z);have ar:sK (λa d=>((o a d:Z):Rat)) (bK n) f=sK (λa d=>((o (hT F.1 a) (hT F.1 d):Z):Rat)) (bK n) (λa=>f (hT F.1 a)):=(by unfold sK;rw[x];refine Co λa j=>?_;rw[x λd=>((o (hT F.1 a) d:Z):Rat)*f d]);rw[ar,afN (C:=λa b=>cF (fI ps a b)/h) O λa=>f (hT F.1 a)];have:(λb=>hU (λa=>f (hT F.1 a)*(cF (fI ps a b)/h)) (bK n))=λb=>lf (λk=>cF (fI ps (hg F.1 k) b)/h) f n:=(by funext b;exact(D b f).symm);rw[this]
end
def iT (a:Z):Z:=if 0<a then 1 else if a<0 then-1 else 0
def G9 (c:Z):nt (c:Rat)=iT c:=by unfold nt iT;have d:(0:Rat)<(c:Rat)↔0<c:=zX;have e:(c:Rat)<0↔c<0:=(by have:=aqQ (a:=c) (b:=0);simpa using this);simp only[d,e]
def aer (n:X) (c:X->X->Z) (a b:X):gL n (λa b=>(c a b:Rat)) a b=((iS n c a b:Z):Rat):=by unfold gL iS;split<;>simp
def U5 (n:X) (a:X->X->Z):a9 (gL n λb c=>(a b c:Rat))=((a9 (iS n a):Z):Rat)/\e5 (gL n λb c=>(a b c:Rat))=((e5 (iS n a):Z):Rat)/\dj (gL n λb c=>(a b c:Rat))=((dj (iS n a):Z):Rat)/\dh (gL n λb c=>(a b c:Rat))=((dh (iS n a):Z):Rat):=by simp only[a9,e5,dj,dh,fW,iX,d3,cS,aer,aqR,asb,o0,amL]
def TR (a:Z):iT (-a)=-iT a:=by
 unfold iT
 repeat' split
 all_goals omega
def WP {n:X} (q:n<=4) (a:X->X->Z):vB n (λr c=>(a r c:Rat))=(bK (n+1)).map λc=>iT (eW n a (n-c)).2:=by
 obtain⟨ar,h,i,j⟩:=U5 n a;obtain⟨d,e,f,g⟩:=YI (iS n a);have b:=λs=>(FE q a s).1;unfold vB kr;rw[ar,h,i,j,G9,G9,G9,G9];have k:iT (eW n a 0).2=1:=rfl;have l:iT (eW n a 1).2=-iT (a9 (iS n a)):=(by rw[b,d,TR]);have m:iT (eW n a 2).2=iT (e5 (iS n a)):=(by rw[b,e]);have o:iT (eW n a 3).2=-iT (dj (iS n a)):=(by rw[b,f,TR]);have p:iT (eW n a 4).2=iT (dh (iS n a)):=(by rw[b,g]);obtain rfl|rfl|rfl|rfl|rfl:n=0\/n=1\/n=2\/n=3\/n=4:=by omega
 all_goals simp only[bK,List.range.loop,hA,tg,aob,vl,anD,amC,apr,k,l,m,o,p]
section
variable {n A:X} {ps:bp aN} {F:fA}
def Zx (i:A=65536) (h:h2 n ps F) (c:n<=4) (p:0<e) (r:∀b a,b<n->a<n->g (hT F.1 b) (hT F.1 a)*e=(np ps n b a).getD 0) (q:∀b a,b<n->a<n->g b a=g a b):(hh ((bK (n+1)).map λa=>iT (eW n g (n-a)).2):Z)=(e1 ps).2.1/\(jt 0 ((bK (n+1)).map λa=>iT (eW n g (n-a)).2):Z)=(e1 ps).2.2/\(e1 ps).1+(e1 ps).2.1+(e1 ps).2.2=(n:Z):=by obtain⟨t,m,k,o,u,v,s⟩:=Z8 i h aa p r;obtain⟨d,f⟩:=XB c (w:=λb a=>(g b a:Rat)) (λb a j l=>by rw[q b a j l]) m k o;rw[WP c] at d f;exact⟨aa,aa,s⟩
end
end
section
theorem afQ {a:Z} (q:0<a) (A:aP (a*e).natAbs<=1900000) (B:aP a.natAbs<=1900000):D7 (aK (a*e),aK a,())=Y (aK e,0,()):=by
 have p:vN (aK (a*e),aK a,())=Y (aK e,aK 0,0,()):=by
  obtain⟨c,d,j⟩:=h9 (z:=a*e) aa;obtain⟨f,g,v⟩:=h9 (z:=a) aa;unfold vN;dsimp only;refine aq (oH f g aa) ?_;dsimp only;have i:(aK a).2.1≠[]:=λk=>(by have:=wb.1 k;omega);rw[sy,aG i];refine aq (oH c d aa) ?_;dsimp only;refine aq (OX c f d g aa aa i) ?_;rw[i7,i7];dsimp only;have h:((a*e).natAbs:Z)=(a.natAbs:Z)*(e.natAbs:Z):=(by rw[Int.natAbs_mul,anP]);have w:(a.natAbs:Z)=a:=aa;have ar:((a*e).natAbs:Z)/(a.natAbs:Z)=e.natAbs:=(by rw[h,Int.mul_ediv_cancel_left _ aa]);have m:((a*e).natAbs:Z) %(a.natAbs:Z)=0:=(by rw[h,Int.mul_emod_right]);rw[ar,m];have n:fb (0:Z).toNat=[]:=rfl;have u:(fb (e.natAbs:Z).toNat).length<=100000000:=(by have x:(e.natAbs:Z)<=((a*e).natAbs:Z):=(by rw[<-ar];exact aoQ _ aa);exact cC (Hr (l:=(aK (a*e)).2.1) c j (by grind [i7])) ab);refine aq (y:=(fb (e.natAbs:Z).toNat,fb (0:Z).toNat,(bu,([],())),(bu,([],())),())) ?_ ?_
  ·refine aq (y:=(bu,(bu,([],())),(bu,([],())),())) ?_ bq;rw[n];cases(aK (a*e)).1<;>rfl
  dsimp only;refine aq (qV aa u) (aq (qV ab ab) ?_);dsimp only;have r:(aK a).1=bu:=aG aa;have t:(aK (a*e)).1=bw (e<0):=by
   show bw (a*e<0)=bw (e<0);rw[amD];constructor
   ·intro o;by_cases b:e<0
    ·exact b
    have:=nA (aa:0<=a) (aa:0<=e);omega
   intro o;have:=tb q (aa:0< -e);rw[Int.mul_neg] at this;omega
  rw[r,t];have s:(if(!(bw (e<0)==bu))=bt then-(e.natAbs:Z) else(e.natAbs:Z))=e:=by
   by_cases b:e<0
   ·rw[aJ b];show-(e.natAbs:Z)=e;omega
   rw[aG b];show(e.natAbs:Z)=e;omega
  rw[s];rfl
 unfold D7;refine aq p ?_;rfl
def Rr (a:aP e.natAbs<=900000):tM (aK e,())=Y (aK e,()):=by have b:=Pc 100000 (z:=e) aa;rw[Rt (mL e) aa,oI]
section
variable {n B C:X} {a b:X->X->Z}
def h7 (n:X) (a:X->X->Z):bp (bp eQ):=gD n n λb c=>aK (a b c)
theorem ah2 (i:n<=1000) (h:∀b c,b<n->c<n->aP (a b c).natAbs<=900000):DT (h7 n a,[],())=Y (h7 n a,()):=by
 unfold DT;refine bR.1 ?_;dsimp only;refine bJ (P:=λd=>d=(h7 n a,())) ?_ (by rintro _ rfl;exact bA.2 bq);refine bS n (λb e=>e=((b:Z),gD b n (λb c=>aK (a b c)),())) rfl ?_ ?_
 ·rintro b _ f rfl;dsimp only;rw[a8,show(h7 n a).length=n from lw,a5 (aJ (aa:(b:Z)<(n:Z))),bk aa];refine bJ (P:=λd=>d=(gD (b+1) n (λb c=>aK (a b c)),())) ?_ (by rintro _ rfl;exact bA.2 bq);refine bC (sP f) ?_;refine bJ (P:=λd=>d=(gD b n (λb c=>aK (a b c)),aA n (λc=>aK (a b c)),())) ?_ ?_
  ·refine bS n (λc e=>e=((c:Z),gD b n (λb c=>aK (a b c)),aA c (λc=>aK (a b c)),())) rfl ?_ ?_
   ·rintro c _ g rfl;dsimp only;rw[a8,cI,a5 (aJ (aa:(c:Z)<(n:Z))),bk aa];refine bC (gj (gu g)) (bC (Rr (h b c f g)) ?_);grind [om,bA,fe,cI]
   rintro _ rfl;dsimp only;rw[a8,cI,a2 (aG (aa:¬((n:Z)<(n:Z))))];grind [bA]
  rintro _ rfl;dsimp only;refine bC (y:=(gD b n (λb c=>aK (a b c)),aA n (λc=>aK (a b c)),())) ?_ ?_
  ·rw[a8,a2 (aG (by show¬((b:Z)<((0:X):Z));omega))]
  dsimp only;grind [om,bA,fe,lw,gD]
 rintro _ rfl;dsimp only;rw[a8,show(h7 n a).length=n from lw,a2 (aG (aa:¬((n:Z)<(n:Z))))];exact bA.2 bq
def CC (b:∀c,c<n->aP (a 0 c).natAbs<=B):∀t,t<=n->aP (nu (a 0) t).natAbs<=B+t
 |0,_=>eU _
 |t+1,e=>by have d:=CC b t aa;have f:=b t aa;refine eE (kq (zJ _ _)) ?_;exact Is (B+t) d aa
def Rd (h:∀d c,d<n->c<n->aP (a d c).natAbs<=B) (i:∀d c,d<n->c<n->aP (b d c).natAbs<=C) {c:X} (j:d<n) (k:c<n):∀f,f<=n->aP (nu (λe=>a d e*b e c) f).natAbs<=B+C+f:=
 CC (a:=λ_ e=>a d e*b e c) λe g=>by rw[pE];exact vy (h d e j g) (i e c g k)
theorem aeT (s:n<=1000) (r:B+C<=1000000) (k:∀d c,d<n->c<n->aP (a d c).natAbs<=B) (l:∀d c,d<n->c<n->aP (b d c).natAbs<=C):DR (h7 n a,h7 n b,())=Y (h7 n (mi n a b),()):=by
 unfold DR;refine bR.1 ?_;dsimp only;refine bJ (P:=λf=>f=(h7 n (mi n a b),())) ?_ (by rintro _ rfl;exact bA.2 bq);refine bS n (λd g=>g=((d:Z),gD d n (λd c=>aK (mi n a b d c)),())) rfl ?_ ?_
 ·rintro d _ i rfl;dsimp only;rw[a8,show(h7 n a).length=n from lw,a5 (aJ (aa:(d:Z)<(n:Z))),bk aa];refine bC (sP i) ?_;refine bJ (P:=λf=>f=(gD d n (λd c=>aK (mi n a b d c)),aA n (λc=>aK (mi n a b d c)),())) ?_ ?_
  ·refine bS n (λc g=>g=((c:Z),gD d n (λd c=>aK (mi n a b d c)),aA c (λc=>aK (mi n a b d c)),())) rfl ?_ ?_
   ·rintro c _ j rfl;dsimp only;rw[a8,cI,a5 (aJ (aa:(c:Z)<(n:Z))),bk aa];refine bJ (P:=λf=>f=(gD d n (λd c=>aK (mi n a b d c)),aA c (λc=>aK (mi n a b d c)),aK (mi n a b d c),())) ?_ ?_
    ·refine bS n (λe g=>g=((e:Z),gD d n (λd c=>aK (mi n a b d c)),aA c (λc=>aK (mi n a b d c)),aK (nu (λe=>a d e*b e c) e),())) rfl ?_ ?_
     ·rintro e _ h rfl;dsimp only;rw[a5 (aJ (aa:(e:Z)<(n:Z))),bk aa];have m:=k d e i h;have o:=l e c h j;have p:=Rd k l i j e aa;have q:aP (a d e*b e c).natAbs<=B+C:=by
       rw[pE];exact vy m o
      refine bC (gj (gu h)) (bC (sP h) (bC (gj (gu j)) (bC (Rf aa aa) (bC (xF aa aa) ?_))));exact bA.2 bq
     rintro _ rfl;dsimp only;rw[a2 (aG (aa:¬((n:Z)<(n:Z))))];exact bA.2 bq
    rintro _ rfl;grind [om,bA,fe,cI]
   rintro _ rfl;dsimp only;rw[a8,cI,a2 (aG (aa:¬((n:Z)<(n:Z))))];grind [bA]
  rintro _ rfl;grind [om,bA,fe,lw,gD]
 rintro _ rfl;dsimp only;rw[a8,show(h7 n a).length=n from lw,a2 (aG (aa:¬((n:Z)<(n:Z))))];exact bA.2 bq
end
end
section
section
variable {α A:Type} {n i:X}
theorem MN (a:X->α) (d:i<n) (c:α) (b:bp α->bv A):wr (aA n a) (i:Z) c b=b (aA n (eK a i c)):=by simp_all [cI,e4,aM,gP,gu,hq,wr]
def agb (a:X->α) (b:i<n) (c:α->bv A):rd (aA n a) (i:Z) c=c (a i):=by unfold rd;rw[cI,e4 b,aM,gP (gu b),aM]
def qf (a:α):∀n:X,bM n a=aA n λ_=>a
 |0=>rfl
 |n+1=>by rw[List.replicate_succ',om,qf a n]
def ww (a:n<=1000):fR (n:Z) (n:Z)=Y n:=by unfold fR;rw[ay ⟨aa,anE _,by unfold hR;omega⟩,fV]
end
section
variable {n B:X} {a:X->X->Z}
def JM (r:n<=4) (j:∀i b,i<n->b<n->aP (a i b).natAbs<=B):∀k,(∀i b,i<n->b<n->aP ((eW n a k).1 i b).natAbs<=k*(B+20)+1)/\aP ((eW n a k).2).natAbs<=k*(B+20)+1
 |0=>⟨λ_ _ _ _=>eU _,by rw[Nat.zero_mul];exact bf _⟩
 |k+1=>by
  obtain⟨g,m⟩:=JM r j k;rw[la,iL];generalize k*(B+20)=c at*;have o:∀i b,i<n->b<n->aP (j8 (eW n a k).1 (eW n a k).2 i b).natAbs<=c+2:=λi b d e=>by
   unfold j8;split
   ·exact eE (kq (zJ _ _)) (Is (c+1) (g i b d e) m)
   have:=g i b d e;omega
  have h:∀i b,i<n->b<n->aP ((eW n a (k+1)).1 i b).natAbs<=c+B+6:=λi b d e=>(by have:=Rd j o d e n (bf _);show aP (nu (λf=>a i f*j8 (eW n a k).1 (eW n a k).2 f b) n).natAbs<=c+B+6;omega);refine⟨λi b d e=>by have:=h i b d e;omega,?_⟩;have p:=CC (a:=λ_ i=>(eW n a (k+1)).1 i i) (n:=n) (B:=c+B+6) (λf l=>h f f l l) n (bf _);have q:((eW n a (k+1)).2).natAbs<=(sY n (eW n a (k+1)).1).natAbs:=(by show(-((sY n (eW n a (k+1)).1).tdiv ((k:Z)+1))).natAbs<=_;rw[xk,Int.natAbs_tdiv];exact aoR _ _);have s:=kq q;have t:aP (sY n (eW n a (k+1)).1).natAbs<=c+B+6+n:=p;omega
def mR (n:X) (a:X->X->Z) (i b:X):eQ:=if n<b+(i+1) then aK (eW n a (n-b)).2 else aK 0
def aeE {i:X} (e:i<n):eK (mR n a i) (n-(i+1)) (aK (eW n a (i+1)).2)=mR n a (i+1):=by
 funext d;unfold mR;by_cases b:d=n-(i+1)
 ·rw[b,gw,ay aa,(aa:n-(n-(i+1))=i+1)]
 rw[gS _ _ b];by_cases c:n<d+(i+1)
 ·rw[ay c,ay aa]
 rw[aw c,aw aa]
def W2 (C:n<=4) (R:B<=100000) (z:∀i g,i<n->g<n->aP (a i g).natAbs<=B):DP (h7 n a,())=Y (aA (n+1) (λg=>aK (eW n a (n-g)).2),()):=by
 have A:∀l,l<=4->(∀i g,i<n->g<n->aP ((eW n a l).1 i g).natAbs<=400100)/\aP ((eW n a l).2).natAbs<=400100:=λl H=>(by obtain⟨o,G⟩:=JM C z l;have Q:l*(B+20)<=4*(B+20):=aqz _ H;exact⟨λi g p w=>by have:=o i g p w;omega,aa⟩);have I:au (h7 n a)=(n:Z):=(by rw[a8,show(h7 n a).length=n from lw]);unfold DP;refine bR.1 ?_;dsimp only;rw[I,bk aa];refine bC (ww (n:=n+1) aa) ?_;refine bC (yt ab ab) ?_;dsimp only;have N:((bu,(([]:amv),())):eQ)=aK 0:=rfl;rw[N,qf];refine bC (y:=n) (by rw[cI,e4 aa]) ?_;refine bC (y:=aA (n+1) (mR n a 0)) ?_ ?_
 ·rw[gP (gu aa),hq];refine b9 Y (db λg w=>?_);unfold mR;by_cases f:g=n
  ·rw[f,gw,ay aa,vl];rfl
  rw[gS _ _ f,aw aa]
 refine bC (ww (n:=n) aa) ?_;refine bJ (P:=λj=>j=(aA (n+1) (mR n a 0),h7 n (eW n a 0).1,())) ?_ ?_
 ·refine bS n (λi c=>c=((i:Z),aA (n+1) (mR n a 0),aA n (λb=>if b<i then aA n (λ_=>aK 0) else[]),())) ?_ ?_ ?_
  ·rw[qf];rfl
  ·rintro i _ p rfl;dsimp only;rw[qf,a8,cI,a5 (aJ (aa:(i:Z)<(n:Z))),bk aa];refine bC (ww (n:=n) aa) ?_;rw[MN _ p];refine bA.2 ?_;show _=_;rw[qf];congr 3;refine db λb h=>?_;by_cases f:b=i
   ·rw[f,gw,ay aa]
   rw[gS _ _ f];by_cases m:b<i
   ·rw[ay m,ay aa]
   rw[aw m,aw aa]
  rintro _ rfl;dsimp only;rw[qf,a8,cI,a2 (aG (aa:¬((n:Z)<(n:Z))))];refine bA.2 ?_;show _=_;congr 2;exact db λb h=>cc h
 rintro _ rfl;dsimp only;refine bJ (P:=λj=>j=(aA (n+1) (mR n a n),())) ?_ ?_
 ·refine bS n (λi c=>c=(((i+1:X):Z),aA (n+1) (mR n a i),h7 n (eW n a i).1,())) rfl ?_ ?_
  ·rintro i _ p rfl;obtain⟨u,D⟩:=A i aa;obtain⟨v,O⟩:=A (i+1) aa;dsimp only;have M:aD ((n:Z)-((i+1:X):Z))=((n-(i+1):X):Z):=(by rw[cG aa aa];omega);rw[a5 (aJ (aa:((i+1:X):Z)<=(n:Z))),M,bk (n:=n-(i+1)) aa,bk (n:=i+1) aa];refine bJ (P:=λj=>j=(aA (n+1) (mR n a i),h7 n (j8 (eW n a i).1 (eW n a i).2),())) ?_ ?_
   ·refine bS n (λc x=>x=((c:Z),aA (n+1) (mR n a i),gD n n (λb e=>aK (if b=e/\b<c then(eW n a i).1 b e+(eW n a i).2 else(eW n a i).1 b e)),())) ?_ ?_ ?_
    ·show _=_;congr 3;refine Cm λb h e r=>?_;rw[aw aa]
    ·rintro c _ d rfl;dsimp only;rw[a8,show(h7 n (eW n a i).1).length=n from lw,a5 (aJ (aa:(c:Z)<(n:Z))),bk aa];refine bC (GZ d) (bC (GZ d) (bC (wS d d) (bC (Ma d d) ?_)));rw[b6 aa,agb _ (aa:n-(i+1)+1<n+1)];have J:mR n a i (n-(i+1)+1)=aK (eW n a i).2:=by
      unfold mR;rw[ay aa,(aa:n-(n-(i+1)+1)=i)]
     rw[J];have:=u c c d d;refine bC (xF aa aa) (bC (wS d d) (bC (G0 d d _) ?_));refine bA.2 ?_;show _=_;congr 3;refine Cm λb h e r=>?_;unfold iU;by_cases f:b=c/\e=c
     ·rw[ay f,f.1,f.2,ay ⟨bq,aa⟩]
     rw[b6 f];dsimp only;by_cases m:b=e/\b<c
     ·rw[ay m,ay ⟨m.1,aa⟩]
     rw[aw m,aw aa]
    rintro _ rfl;dsimp only;rw[a8,show(h7 n (eW n a i).1).length=n from lw,a2 (aG (aa:¬((n:Z)<(n:Z))))];refine bA.2 ?_;show _=_;congr 2;refine Cm λb h e r=>?_;unfold j8;by_cases f:b=e
    ·rw[ay ⟨f,h⟩,ay f]
    rw[aw (λF=>f F.1),aw f]
   rintro _ rfl;dsimp only;have E:∀b e,b<n->e<n->aP (j8 (eW n a i).1 (eW n a i).2 b e).natAbs<=400101:=λb e h r=>by
    unfold j8;split
    ·exact eE (kq (zJ _ _)) (Is 400100 (u b e h r) D)
    have:=u b e h r;omega
   refine bC (aeT aa (aa:B+400101<=1000000) z E) ?_;dsimp only;have K:mi n a (j8 (eW n a i).1 (eW n a i).2)=(eW n a (i+1)).1:=rfl;rw[K];refine bJ (P:=λj=>j=(aA (n+1) (mR n a i),h7 n (eW n a (i+1)).1,aK (sY n (eW n a (i+1)).1),())) ?_ ?_
   ·refine bS n (λc x=>x=((c:Z),aA (n+1) (mR n a i),h7 n (eW n a (i+1)).1,aK (nu (λb=>(eW n a (i+1)).1 b b) c),())) rfl ?_ ?_
    ·rintro c _ d rfl;dsimp only;rw[a8,show(h7 n (eW n a (i+1)).1).length=n from lw,a5 (aJ (aa:(c:Z)<(n:Z))),bk aa];refine bC (e4 d) (bC (wS d d) (bC (Ma d d) ?_));have o:=CC (a:=λ_ s=>(eW n a (i+1)).1 s s) (n:=n) (B:=400100) (λt q=>v t t q q) c aa;have G:=v c c d d;refine bC (xF (aa:aP (nu (λb=>(eW n a (i+1)).1 b b) c).natAbs<=3000000) aa) ?_;exact bA.2 bq
    rintro _ rfl;dsimp only;rw[a8,show(h7 n (eW n a (i+1)).1).length=n from lw,a2 (aG (aa:¬((n:Z)<(n:Z))))];exact bA.2 bq
   rintro _ rfl;dsimp only;have L:=YJ C a (k:=i) aa;have o:=CC (a:=λ_ s=>(eW n a (i+1)).1 s s) (n:=n) (B:=400100) (λt q=>v t t q q) n (cj _);have o:aP (sY n (eW n a (i+1)).1).natAbs<=400100+n:=o;have ar:((i+1:X):Z)=(i:Z)+1:=aa;rw[L] at o|-;have S:aP ((i:Z)+1).natAbs<=10:=fY.2 aa;rw[ar];refine bC (yt aa aa) (bC (afQ aa aa aa) ?_);refine bC (K9 (jA (by rw[aps];omega))) ?_;rw[apk,MN _ (aa:n-(i+1)<n+1),aeE p];exact bA.2 bq
  rintro _ rfl;dsimp only;rw[a2 (aG (aa:¬(((n+1:X):Z)<=(n:Z))))];exact bA.2 bq
 rintro _ rfl;refine bA.2 ?_;show _=_;congr 1;refine db λg w=>?_;unfold mR;rw[ay aa]
end
end
section
def ag2 (a:Z):gE a=iT a:=by
 unfold gE iT;split
 ·rw[aw aa,aw aa]
 split
 ·rw[aw aa]
 rw[ay aa]
def UV:∀a:amv,(∀b,b<hh a->a[b]?=Y 0)/\hh a<=a.length/\(hh a<a.length->∃s,a[hh a]?=Y s/\s≠0)
 |[]=>⟨λb c=>absurd c (pI _),bf _,λc=>absurd c (rY _)⟩
 |s::a=>by
  obtain⟨e,j,f⟩:=UV a;unfold hh;by_cases d:s=0
  ·rw[ay d];refine⟨λb k=>?_,by rw[iK];omega,λc=>?_⟩
   ·cases b with
    |zero=>rw[d];rfl
    |succ b=>exact e b aa
   rw[iK] at c;obtain⟨i,g,h⟩:=f aa;exact⟨i,g,h⟩
  rw[aw d];exact⟨λb c=>absurd c (pI _),eU _,λ_=>⟨s,bq,d⟩⟩
def UG:∀(t:Z) (a:amv),jt t a<=a.length
 |_,[]=>eU _
 |t,b::a=>by have:=UG (if b=0 then t else b) a;unfold jt;rw[iK];split<;>omega
section
variable {n B:X} {a:X->X->Z}
def aho (l:n<=16):DS (h7 n a,())=Y (0,()):=by
 have b:au (h7 n a)=(n:Z):=(by rw[a8,show(h7 n a).length=n from lw]);have e:Ax (h7 n a,())=Y ((n:Z),()):=by
  unfold Ax;dsimp only;rw[b,gV];by_cases f:n=0
  ·subst f;rfl
  rw[aG aa,a2 af];refine aq (sP (i:=0) aa) ?_;rw[a8,cI]
 have d:EH (h7 n a,((Y (n:Z),()):amp×bz),())=Y ((-1:Z),()):=by
  unfold EH;refine bR.1 ?_;dsimp only;refine bJ (P:=λj=>j=.inl ()) ?_ (by rintro _ rfl;exact bA.2 bq);refine bS n (λc k=>k=((c:Z),())) rfl ?_ ?_
  ·rintro c _ d rfl;dsimp only;rw[b,a5 (aJ (aa:(c:Z)<(n:Z))),bk aa];refine bC (sP d) (bC (y:=(bu,())) ?_ ?_)
   ·unfold IS;show Y ((au (aA n λh=>aK (a c h))!=(n:Z)),())=_;rw[a8,cI,fZ,aJ bq];rfl
   exact bA.2 bq
  rintro _ rfl;dsimp only;rw[b,a2 (aG (aa:¬((n:Z)<(n:Z))))];exact bA.2 bq
 have g:DQ (h7 n a,())=Y (0,()):=by
  unfold DQ;refine aq e ?_;dsimp only;refine aq (y:=(bu,())) ?_ ?_
  ·unfold I4;refine aq d ?_;rfl
  dsimp only;rw[bQ,b,aG (aa:¬(n:Z)>16),a5 af,bQ]
 unfold DS;refine aq g ?_;dsimp only;refine aq (y:=.inl ()) ?_ bq;rw[a5 af];refine aq e ?_;dsimp only;rw[b,fZ,aJ bq,a2 af]
def gZ (n:X) (a:X->X->Z):amv:=(bK (n+1)).map λb=>iT (eW n a (n-b)).2
def Mi:(gZ n a).length=n+1:=by simp[gZ]
def G7 (c:b<=n):(gZ n a)[b]?=Y (iT (eW n a (n-b)).2):=by unfold gZ;rw[jv,zM aa];rfl
def Yq (z:n<=4) (D:B<=100000) (q:∀b d,b<n->d<n->aP (a b d).natAbs<=B) (I:∀b d,b<n->d<n->a b d=a d b):DO (h7 n a,())=Y ((n:Z)-((hh (gZ n a):X):Z)-((jt 0 (gZ n a):X):Z),((hh (gZ n a):X):Z),((jt 0 (gZ n a):X):Z),0,()):=by
 have o:au (h7 n a)=(n:Z):=(by rw[a8,show(h7 n a).length=n from lw]);obtain⟨A,O,C⟩:=UV (gZ n a);rw[Mi] at O C;have U:hh (gZ n a)<=n:=by
  rcases c6 n (hh (gZ n a)) with s|s
  ·have:=A n s;rw[G7 (bf n),vl] at this;exact absurd (gn this) (ab:¬iT 1=0)
  exact s
 have L:=UG 0 (gZ n a);rw[Mi] at L;have E:∀g,g<=4->aP ((eW n a g).2).natAbs<=400100:=λg u=>(by have t:=(JM z q g).2;have Q:g*(B+20)<=4*(B+20):=aqz _ u;omega);have v:∀g,g<=4->oj (aK (eW n a g).2,())=Y (iT (eW n a g).2,()):=λg u=>(by have:=E g u;rw[sU (jA aa),ag2]);unfold DO;refine bR.1 ?_;refine bC (aho aa) ?_;dsimp only;rw[a2 af];refine bJ (P:=λm=>m=.inl (0,0,())) ?_ ?_
 ·refine bS n (λb j=>j=(0,0,(b:Z),())) rfl ?_ ?_
  ·rintro b _ f rfl;dsimp only;rw[o,a5 (aJ (aa:(b:Z)<(n:Z))),bk aa];refine bC (sP f) ?_;refine bJ (P:=λm=>m=.inl (0,0,())) ?_ (by rintro _ rfl;exact bA.2 bq);refine bS n (λd j=>j=(0,0,(d:Z),())) rfl ?_ ?_
   ·rintro d _ k rfl;dsimp only;rw[a8,cI,a5 (aJ (aa:(d:Z)<(n:Z))),bk aa];have p:=q b d f k;have t:=q d b k f;refine bC (gj (gu k)) (bC (sP k) (bC (gj (gu f)) (bC (IG aa aa) ?_)));have F:gh (a b d) (a d b)=0:=by
     unfold gh;rw[I b d f k,aw aa,aw aa]
    dsimp only;rw[F,a2 af];exact bA.2 bq
   rintro _ rfl;dsimp only;rw[a8,cI,a2 (aG (aa:¬((n:Z)<(n:Z))))];exact bA.2 bq
  rintro _ rfl;dsimp only;rw[o,a2 (aG (aa:¬((n:Z)<(n:Z))))];exact bA.2 bq
 rintro _ rfl;dsimp only;refine bC (ah2 aa (λb d f k=>by have:=q b d f k;omega)) ?_;dsimp only;refine bC (W2 z D q) ?_;dsimp only;refine bJ (P:=λm=>m=((hh (gZ n a):Z),())) ?_ ?_
 ·refine bS (hh (gZ n a)) (λb j=>j=((b:Z),())) rfl ?_ ?_
  ·rintro b _ f rfl;dsimp only;have r:=A b f;rw[G7 aa] at r;have r:=am0 r;refine bC (y:=.inl ()) ?_ ?_
   ·rw[o,aJ (aa:(b:Z)<(n:Z)),a5 af];refine aq (gj (gu (aa:b<n+1))) (aq (v (n-b) aa) ?_);dsimp only;rw[r,a5 af]
   dsimp only;rw[bk aa];exact bA.2 bq
  rintro _ rfl;dsimp only;refine bC (y:=.inr (.inr ((hh (gZ n a):Z),()))) ?_ (bA.2 bq);by_cases h:hh (gZ n a)<n
  ·obtain⟨j,p,t⟩:=C aa;rw[G7 aa] at p;have p:=am0 p;rw[o,aJ (aa:((hh (gZ n a):X):Z)<(n:Z)),a5 af];refine aq (gj (gu (aa:hh (gZ n a)<n+1))) (aq (v (n-hh (gZ n a)) aa) ?_);dsimp only;rw[p,gV,aG t,a2 af]
  rw[o,aG (aa:¬((hh (gZ n a):X):Z)<(n:Z)),a2 af]
 rintro _ rfl;dsimp only;refine bJ (P:=λm=>m=((jt 0 (gZ n a):Z),())) ?_ ?_
 ·refine bS (n+1) (λb j=>∃(i:X) (c:Z),j=((i:Z),c,(b:Z),())/\i+jt c ((gZ n a).drop b)=jt 0 (gZ n a)/\-1<=c/\c<=1) ⟨0,0,bq,by rw[nC];omega,ab,ab⟩ ?_ ?_
  ·rintro b _ f ⟨i,c,rfl,l,M,N⟩;have w:=G7 (n:=n) (a:=a) (aa:b<=n);obtain⟨H,w⟩:=iv.1 w;have G:(gZ n a).drop b=iT (eW n a (n-b)).2::(gZ n a).drop (b+1):=(by rw[<-w];exact HJ H);rw[G] at l;have S:-1<=iT (eW n a (n-b)).2/\iT (eW n a (n-b)).2<=1:=by
    unfold iT;split
    ·decide
    split<;>decide
   have J:=v (n-b) aa;dsimp only;rw[a8,cI,a5 (aJ (aa:(b:Z)<((n+1:X):Z))),bk (n:=b) aa];generalize iT (eW n a (n-b)).2=e at*;have K:jt c (e::(gZ n a).drop (b+1))=(if e*c<0 then 1 else 0)+jt (if e=0 then c else e) ((gZ n a).drop (b+1)):=rfl;rw[K] at l;have R:i<=jt 0 (gZ n a):=(by rw[<-l];exact Nat.le_add_right _ _);have T:-1<=e*c/\e*c<=1:=by have:c=-1\/c=0\/c=1:=aa;rcases this with rfl|rfl|rfl<;>omega
   refine bC (y:=((((if e*c<0 then 1 else 0)+i:X):Z),(if e=0 then c else e),())) ?_ ?_
   ·refine aq (gj (gu f)) (aq J ?_);dsimp only;rw[cG (x:=e*c) aa aa];refine aq (y:=((((if e*c<0 then 1 else 0)+i:X):Z),())) ?_ ?_
    ·by_cases h:e*c<0
     ·rw[a5 (aJ h),bk aa,ay h,anO]
     rw[a2 (aG h),aw h,l3]
    dsimp only;rw[fZ];by_cases h:e=0
    ·rw[aJ h,a2 af,ay h]
    rw[aG h,a5 af,aw h]
   refine bA.2 ⟨_,_,bq,by rw[<-l,anO _ i,apz],by dsimp only;split<;>omega,by dsimp only;split<;>omega⟩
  rintro _ ⟨i,c,rfl,l,M,N⟩;rw[List.drop_eq_nil_of_le (by rw[Mi];exact cj _)] at l;dsimp only;rw[a8,cI,a2 (aG (aa:¬(((n+1:X):Z)<((n+1:X):Z))))];refine bA.2 ?_;have:i=jt 0 (gZ n a):=l;rw[this]
 rintro _ rfl;refine bA.2 ?_;show _=_;rw[o,cG (x:=(n:Z)-(hh (gZ n a):Z)) aa aa,cG aa aa]
end
end
section
def XQ {v:Z} (a:gb v) (k:b<=65536) (f:gb (v*2^b)):DM (aE (Y v),(b:Z),())=Y (aE (Y (v*2^b)),()):=by
 have i:=k5 a;have j:=kO a;unfold DM;refine aq (sI (d:=Y v) (λl c=>by cases c;exact a)) ?_;rw[hd];dsimp only;have g:(if(-262144:Z)>(if 262144<(b:Z) then 262144 else(b:Z)) then(-262144:Z) else if 262144<(b:Z) then 262144 else(b:Z))=(b:Z):=(by rw[b6 (aa:¬(262144:Z)<(b:Z)),b6 aa]);have c:eF v=if v=0 then 0 else eD v:=rfl
 rw[g,show(!((Y v).isSome))=bu from rfl,bQ,cG aa aa];refine aq (yO aa aa aa) ?_;have h:gQ (cO v) (eF v+(b:Z))=Y (v*2^b):=by
  by_cases e:v=0
  ·rw[e,n4];rfl
  have:=Md f;rw[c,aw e];show gQ (cO v) (eD v+(b:Z))=_;rw[<-this];exact(aw e).symm
 rw[h]
theorem XF {A:X} (m:A=65536) {a:Z} (b:gb e) (l:e=a*2^A):DH (aE (Y e),())=Y (aK a,bt,()):=by
 unfold DH;refine aq (sI (d:=Y e) (λp f=>by cases f;exact b)) ?_;rw[hd];have j:=k5 b;have k:=kO b;dsimp only;rw[show(!((Y e).isSome))=bu from rfl,bQ];refine aq (Mk aa aa aa) ?_;have n:(2:Z)^A≠0:=ae;have h:rB (cO e) (eF e)=a:=by
  by_cases g:a=0
  ·have c:e=0:=ae;rw[c,g];rfl
  have c:e≠0:=ae;have o:cV e.natAbs=cV a.natAbs+A:=(by grind [jr,CF]);have ar:eF e=((cV a.natAbs:X):Z):=(by unfold eF eD;rw[aw c];omega);rw[ar,pu];have i:cO e*2^cV a.natAbs*2^A=a*2^A:=(by grind [Int.mul_assoc,oA,oy]);grind [Int.mul_eq_mul_right_iff]
 rw[h]
def sQ {c:Type} (n b d:X) (E:X->X->c) (a:X):bp c:=if a<b then aA n (E a) else if a=b then aA d (E a) else[]
section
variable {A E n:X} {v:X->X->Z}
theorem ZI (L:A=65536) (ad:E<=A) (O:n<=1000) (G:∀a b,a<n->b<n->gx (A-E) (v a b)/\gb (v a b*2^E)):∃c:X,c<=E/\(∀a b,a<n->b<n->gx (A-c) (v a b))/\AL (gD n n (λa b=>aE (Y (v a b))),())=Y (gD n n (λa b=>aK (v a b/2^(A-c))),()):=by
 have w:∀a b (c:X),a<n->b<n->c<=E->gb (v a b*2^c):=λa b c d e o=>(by refine eE (kq ?_) (G a b d e).2;simp_all [apm,wK,jr]);have u:∀a b,a<n->b<n->da (Y (v a b)):=λa b d e j s=>(by have:=w a b 0 d e (eU _);grind);suffices N:ah (AL (gD n n (λa b=>aE (Y (v a b))),())) λi=>∃c:X,c<=E/\(∀a b,a<n->b<n->gx (A-c) (v a b))/\i=(gD n n (λa b=>aK (v a b/2^(A-c))),()) by obtain⟨i,K,c,m,t,rfl⟩:=N;exact⟨c,m,t,K⟩
 unfold AL;dsimp only;refine bJ (P:=λi=>∃c:X,c<=E/\i=(-(c:Z),())/\∀a b,a<n->b<n->v a b≠0->-(c:Z)<=eD (v a b)) ?_ ?_
 ·refine bS n (λa p=>∃c:X,c<=E/\p=(-(c:Z),(a:Z),())/\∀g f,g<a->f<n->v g f≠0->-(c:Z)<=eD (v g f)) ⟨0,eU _,bq,λg f q=>absurd q (pI _)⟩ ?_ ?_
  ·rintro a _ d ⟨c,o,rfl,z⟩;dsimp only;rw[a8,lw,a5 (aJ (aa:(a:Z)<(n:Z))),bk aa];refine bC (sP d) ?_;refine bJ (P:=λi=>∃c:X,c<=E/\i=(-(c:Z),())/\∀g f,g<a+1->f<n->v g f≠0->-(c:Z)<=eD (v g f)) ?_ ?_
   ·refine bS n (λb p=>∃c:X,c<=E/\p=(-(c:Z),(b:Z),())/\(∀g f,g<a->f<n->v g f≠0->-(c:Z)<=eD (v g f))/\∀f,f<b->v a f≠0->-(c:Z)<=eD (v a f)) ⟨c,o,bq,z,λf q=>absurd q (pI _)⟩ ?_ ?_
    ·rintro b _ e ⟨r,C,rfl,F,S⟩;obtain⟨M,av⟩:=G a b d e;dsimp only;rw[a8,cI,a5 (aJ (aa:(b:Z)<(n:Z))),bk aa];by_cases x:v a b=0
     ·refine bC (y:=(-(r:Z),())) ?_ (bA.2 ⟨r,C,bq,F,λf D q=>?_⟩)
      ·refine aq (gj (gu e)) (aq (ym (u a b d e)) (aq (nM (u a b d e)) ?_));dsimp only;rw[x,a2 af]
      grind
     have ap:=gx.ex x M;refine bC (y:=(-((max r (-(eD (v a b))).toNat:X):Z),())) ?_ (bA.2 ⟨max r (-(eD (v a b))).toNat,aa,bq,λg f am D q=>by grind,λf D q=>?_⟩)
     ·refine aq (gj (gu e)) (aq (ym (u a b d e)) (aq (nM (u a b d e)) ?_));have T:iF (Y (v a b))≠0:=by
       show gE (v a b)≠0;unfold gE;omega
      dsimp only;rw[fZ,aG T,a5 af];rw[hd];dsimp only;have an:eF (v a b)=eD (v a b):=(by simp_all [b6,eF]);grind
     grind
    rintro _ ⟨r,C,rfl,F,S⟩;dsimp only;rw[a8,cI,a2 (aG (aa:¬((n:Z)<(n:Z))))];grind [bA]
   grind [bA]
  rintro _ ⟨c,o,rfl,z⟩;dsimp only;rw[a8,lw,a2 (aG (aa:¬((n:Z)<(n:Z))))];grind [bA]
 rintro _ ⟨c,o,rfl,z⟩;have Q:aD (0- -(c:Z))=(c:Z):=(by grind [cG]);have B:∀a b,a<n->b<n->gx (A-c) (v a b):=λa b d e=>(by grind [gx.ME,gx.zero,eD]);have I:∀a b,a<n->b<n->v a b*2^c=v a b/2^(A-c)*2^A:=λa b d e=>(by obtain⟨a0,x⟩:=B a b d e;have R:(2:Z)^(A-c)≠0:=(by have:(0:Z)<2^(A-c):=Int.pow_pos ab;omega);rw[x,Int.mul_ediv_cancel _ R,Int.mul_assoc,<-oA,(aa:A-c+c=A)]);have U:∀a b,a<n->b<n->aP (v a b/2^(A-c)).natAbs<=131072:=λa b d e=>(by have m:=w a b c d e o;rw[I a b d e] at m;refine cC (kq ?_) m;rw[jr];exact Nat.le_mul_of_pos_right _ (anY _));obtain⟨h,J⟩:∃h:X->X->Z,h=λa b=>v a b/2^(A-c):=⟨_,bq⟩;dsimp only;rw[a8,lw];refine bC (ww O) ?_;rw[qf];refine bJ (P:=λi=>i=(gD n n (λa b=>aK (h a b)),())) ?_ (by rintro _ rfl;exact bA.2 ⟨c,o,B,by rw[J]⟩);refine bS n (λa p=>p=((a:Z),aA n (sQ n a 0 (λa b=>aK (h a b))),())) ?_ ?_ ?_
 ·show _=_;congr 2;refine db λj s=>?_;unfold sQ;rw[aw (pI _)];split<;>rfl
 ·rintro a _ d rfl;dsimp only;rw[a5 (aJ (aa:(a:Z)<(n:Z))),bk aa];refine bC (sP d) ?_;refine bJ (P:=λi=>i=(aA n (sQ n a n (λa b=>aK (h a b))),())) ?_ ?_
  ·refine bS n (λb p=>p=((b:Z),aA n (sQ n a b (λa b=>aK (h a b))),())) rfl ?_ ?_
   ·rintro b _ e rfl;have m:=w a b c d e o;have t:=w a b 0 d e (Nat.zero_le _);rw[aqX,aoO] at t;have V:=U a b d e;dsimp only;rw[a8,cI,a5 (aJ (aa:(b:Z)<(n:Z))),bk aa,Q,cI];refine bC (gj (gu e)) (bC (XQ t aa m) (bC (XF L m (I a b d e)) (bC (e4 d) (bC (Rr aa) ?_))));have H:sQ n a b (λa b=>aK (h a b)) a=aA b (λb=>aK (h a b)):=by
     unfold sQ;rw[aw (rY _),ay bq]
    refine bC (y:=aA b (λb=>aK (h a b))) (by rw[gP (gu d),H]) ?_;refine bC (fe (by rw[cI];simp;omega)) (bC (e4 d) ?_);rw[a5 (by rw[aoF];exact an9 a)];refine bC (y:=aA b (λb=>aK (h a b))) (by rw[gP (gu d),H]) ?_;refine bC (y:=aA n (sQ n a (b+1) (λa b=>aK (h a b)))) ?_ (bA.2 bq);rw[gP (gu d),hq];refine b9 Y (db λj s=>?_);unfold sQ;by_cases k:j=a
    ·rw[k,gw,aw (rY _),ay bq,om,J]
    rw[gS _ _ k];by_cases l:j<a
    ·rw[ay l,ay l]
    rw[aw l,aw l,aw k,aw k]
   rintro _ rfl;dsimp only;rw[a8,cI,a2 (aG (aa:¬((n:Z)<(n:Z))))];exact bA.2 bq
  rintro _ rfl;refine bA.2 ?_;show _=_;congr 2;refine db λj s=>?_;unfold sQ;by_cases k:j=a
  ·rw[k,aw (rY _),ay bq,ay aa]
  by_cases l:j<a
  ·rw[ay l,ay aa]
  rw[aw l,aw k,aw aa];split<;>rfl
 rintro _ rfl;dsimp only;rw[a2 (aG (aa:¬((n:Z)<(n:Z))))];refine bA.2 ?_;show _=_;congr 1;exact db λj s=>cc s
end
end
section
def Pl (A B:amv) (b:Z) (c:X) {a:X}:∀m,a<=m->hI A B b c a<+:hI A B b c m
 |0,e=>by obtain rfl:a=0:=aa;exact asg _
 |m+1,e=>by
  by_cases d:a=m+1
  ·rw[d];exact asg _
  exact(Pl A B b c m aa).trans (List.prefix_append _ _)
def iG (E:bp c4) (a b:X):amp:=aV (mY E (me (a:Z) (b:Z)) (mf (a:Z) (b:Z)))
theorem ahD {E:bp c4} {d:c4} (i:(E++[d]).Pairwise hj) {r c:X} (g:d.1=(r:Z)) (h:d.2.1=(c:Z)) (j:c<=r):(λa b=>aE (iG (E++[d]) a b))=iU (iU (λa b=>aE (iG E a b)) r c (aE (aV d.2.2.1))) c r (aE (aV d.2.2.1)):=by
 funext a b;unfold iG iU;rw[Ht i,g,h];unfold me mf;by_cases f:a=c/\b=r
 ·rw[ay f,f.1,f.2];by_cases e:(c:Z)<(r:Z)
  ·grind
  grind
 rw[aw f];by_cases e:a=r/\b=c
 ·rw[ay e,e.1,e.2];grind
 rw[aw e,aw];grind
theorem ahF {E:bp c4} {c:c4} (d:(E++[c]).Pairwise hj) (e:c.1<c.2.1):(λa b=>aE (iG (E++[c]) a b))=λa b=>aE (iG E a b):=by funext a b;unfold iG;rw[Ht d,aw];unfold me mf;grind
section
variable {n:X} {st A B:amv}
def ag6 (V:n<=16) (m:g1 n n st A B) (G:j7 n n st A B):D5 (((n:Z),(n:Z),st,A,B,()),0,())=Y (gD n n (λb a=>aE (iG (c5 st A B n) b a)),()):=by
 unfold D5;refine bR.1 ?_;dsimp only;refine bC (ww (n:=n) aa) ?_;refine bJ (P:=λf=>f=(gD n n (λb a=>aE (iG (c5 st A B 0) b a)),())) ?_ ?_
 ·refine bS n (λb q=>q=((b:Z),aA n (λo=>if o<b then aA n (λ_=>tV) else[]),())) ?_ ?_ ?_
  ·rw[qf];rfl
  ·rintro b _ g rfl;dsimp only;rw[qf,a8,cI,a5 (aJ (aa:(b:Z)<(n:Z))),bk aa];refine bC (ww (n:=n) aa) ?_;rw[MN _ g];refine bA.2 ?_;show _=_;rw[qf];congr 2;refine db λo l=>?_;by_cases k:o=b
   ·rw[k,gw,ay aa];rfl
   rw[gS _ _ k];by_cases z:o<b
   ·rw[ay z,ay aa]
   rw[aw z,aw aa]
  rintro _ rfl;dsimp only;rw[qf,a8,cI,a2 (aG (aa:¬((n:Z)<(n:Z))))];refine bA.2 ?_;show _=_;congr 1;refine db λo l=>?_;rw[cc l];refine db λx O=>?_;show tV=aE (aV (mY [] _ _));rw[ain (λo l=>by cases l),B0];rfl
 rintro _ rfl;dsimp only;refine bJ (P:=λf=>f=(gD n n (λb a=>aE (iG (c5 st A B n) b a)),())) ?_ ?_
 ·refine bS n (λa q=>q=((a:Z),gD n n (λi j=>aE (iG (c5 st A B a) i j)),())) rfl ?_ ?_
  ·rintro a _ p rfl;have S:=m.len;obtain⟨d,F⟩:=cD (m.pos a aa);obtain⟨h,v⟩:=cD (m.pos (a+1) aa);have T:h<=A.length:=(by have:=m.sx (a+1) aa;omega);have U:d<=h:=(by have:=m.mono a p;omega);have t:=m.val;have R:=G.hi;dsimp only;rw[a5 (aJ (aa:(a:Z)<(n:Z))),bk aa];refine bC (y:=(d:Z)) (by rw[hF aa,F]) ?_;have J:c5 st A B (a+1)=c5 st A B a++hI A B (a:Z) d (h-d):=by
    show c5 st A B a++hI A B (a:Z) (st.getD a 0).toNat ((st.getD (a+1) 0).toNat-(st.getD a 0).toNat)=_;rw[F,v];rfl
   refine bJ (P:=λf=>f=(gD n n (λi j=>aE (iG (c5 st A B (a+1)) i j)),())) ?_ (by rintro _ rfl;exact bA.2 bq);refine bS (h-d) (λe q=>q=(((d+e:X):Z),gD n n (λi j=>aE (iG (c5 st A B a++hI A B (a:Z) d e) i j)),())) ?_ ?_ ?_
   ·show _=_;rw[show hI A B (a:Z) d 0=[] from rfl,pG];rfl
   ·rintro e _ ad rfl;dsimp only;refine bC (y:=(h:Z)) (by rw[hF aa,v]) ?_;have C:=m.rng a (d+e) p aa aa;have I:=tZ m (a+1) aa;rw[J] at I;have w:(c5 st A B a++hI A B (a:Z) d (e+1)).Pairwise hj:=I.sublist ((Pl A B (a:Z) d _ aa).sublist.append_left _);have l:c5 st A B a++hI A B (a:Z) d (e+1)=(c5 st A B a++hI A B (a:Z) d e)++[(A.getD (d+e) 0,(a:Z),B.getD (d+e) 0,())]:=by
     rw[lC];rfl
    rw[l] at w;have N:0<=A.getD (d+e) 0:=C.1;obtain⟨f,H⟩:=gd N;have s:f<n:=(by have:=C.2;omega);have K:fM (B.getD (d+e) 0):=H5.getD G.hw _;rw[a5 (aJ (aa:((d+e:X):Z)<(h:Z))),bk aa];refine bC (y:=(gD n n (λi j=>aE (iG (c5 st A B a++hI A B (a:Z) d (e+1)) i j)),())) ?_ (bA.2 ?_)
    ·refine aq (y:=(f:Z)) (by rw[hF aa,H]) ?_;by_cases k:a<=f
     ·rw[a5 (aJ (aa:(f:Z)>=(a:Z)))];refine aq (GZ s) (aq (GZ p) ?_);refine aq (hF aa) (aq (oz K) (aq (hF aa) (aq (oz K) ?_)));refine aq (wS s p) (aq (G0 s p _) (aq (wS p s) (aq (G0 p s _) ?_)));rw[l,ahD w (r:=f) (c:=a) H bq k]
     rw[a2 (aG (aa:¬(f:Z)>=(a:Z))),l,ahF w (by show A.getD (d+e) 0<(a:Z);omega)]
    show _=_;rw[(aa:d+e+1=d+(e+1))]
   rintro _ rfl;dsimp only;refine bC (y:=(h:Z)) (by rw[hF aa,v]) ?_;rw[(aa:((d+(h-d):X):Z)=(h:Z)),a2 (aG (aa:¬((h:Z)<(h:Z)))),J];exact bA.2 bq
  rintro _ rfl;dsimp only;rw[a2 (aG (aa:¬((n:Z)<(n:Z))))];exact bA.2 bq
 rintro _ rfl;dsimp only;generalize c5 st A B n=E;refine bJ (P:=λf=>f=(gD n n (λb a=>aE (iG E b a)),())) ?_ (by rintro _ rfl;exact bA.2 bq);refine bS n (λb q=>q=((b:Z),gD n n (λi j=>aE (iG E i j)),())) rfl ?_ ?_
 ·rintro b _ g rfl;dsimp only;rw[a8,lw,a5 (aJ (aa:(b:Z)<(n:Z))),bk aa];refine bC (e4 g) (bC (e4 g) (bC (wS g g) (bC (Ma g g) ?_)));have Q:kb (0,())=Y (aE (Y 0),()):=by
   rw[oz ⟨ab,ab⟩,B0]
  refine bC Q ?_;have D:da (iG E b b):=kL _;refine bC (Bh D (λu t=>by cases t;decide)) ?_;have M:cZ (iG E b b) (dk (Y 0))=iG E b b:=by
   cases L:iG E b b with
   |none=>rfl
   |some u=>
    have t:=D u L;show nb (u+-0)=Y u;unfold nb;rw[Int.neg_zero,aoN,ay t]
  rw[M];refine bC (wS g g) (bC (G0 g g _) (bA.2 ?_));show _=_;congr 2;refine Cm λo l x O=>?_;unfold iU;by_cases k:o=b/\x=b
  ·rw[ay k,k.1,k.2]
  rw[aw k]
 rintro _ rfl;dsimp only;rw[a8,lw,a2 (aG (aa:¬((n:Z)<(n:Z))))];exact bA.2 bq
end
end
def pM (a:Z):Prop:=fM a/\bo a≠2047/\∀b:X,b=65536->bd b 18 11 1 (aV a)
theorem pM.zero:pM 0:=⟨⟨ab,ab⟩,JI,λa b=>by rw[B0];exact apG⟩
def agR (g:gb e):wT (Y (e*2^b)) (-(b:Z))=Y e:=by
 by_cases c:e=0
 ·rw[c,n4];rfl
 have j:(0:Z)<2^b:=l0 ab;have i:e*2^b≠0:=λa=>by
  rcases zI.1 a with a|a
  ·exact c a
  omega
 obtain⟨ar,f⟩:=abp c b;have d:=Md (k:=0) (v:=e) (by rw[aqX,aoO];exact g);show(if e*2^b=0 then Y 0 else gQ (cO (e*2^b)) (eD (e*2^b)+-(b:Z)))=Y e;rw[aw i,ar,f];have h:wT (Y e) ((0:X):Z)=gQ (cO e) (eD e+((0:X):Z)):=aw c;rw[h,aqX,aoO] at d;rw[<-d];congr 1;omega
def agS {z e:Z} (r:-8<=z) (s:z<=8) (ar:-18<=e) (q:e<=6):da (wT (jD z) e)/\∀a:X,a=65536->bd a 18 10 1 (wT (jD z) e):=by
 obtain⟨a,d⟩:∃a:X,a=65536:=⟨_,bq⟩;have i:bd a 18 10 1 (wT (jD z) e):=by
  rw[BB aa d];by_cases j:0<=e
  ·obtain⟨b,rfl⟩:=gd j;have f:(z*2^a*2^b).natAbs<=1*2^(a+10):=by
    rw[ju,<-oA,jr,iL,(aa:a+10=(a+b)+(10-b)),kk 2 (a+b),nG (2^(a+b))];refine hW _ ?_;have:2^4<=2^(10-b):=wK _ _ aa;omega
   have g:gb (z*2^a*2^b):=ank d (k:=10) (c:=1) ab ab f;rw[Md g];refine⟨_,bq,⟨z*2^(b+18),?_⟩,f⟩;rw[ju,ju,<-oA,<-oA,(aa:b+18+(a-18)=a+b)]
  obtain⟨b,t⟩:=gd (aa:0<=-e);have n:e=-(b:Z):=aa;have f:(z*2^(a-b)).natAbs<=1*2^(a+10):=(by rw[jr,iL,(aa:a+10=(a-b)+(b+10)),kk 2 (a-b),nG (2^(a-b))];refine hW _ ?_;have:2^4<=2^(b+10):=wK _ _ aa;omega);have g:gb (z*2^(a-b)):=ank d (k:=10) (c:=1) ab ab f;rw[n,show z*2^a=z*2^(a-b)*2^b by rw[ju,<-oA,(aa:a-b+b=a)],agR g];refine⟨_,bq,⟨z*2^(18-b),?_⟩,f⟩;rw[ju,<-oA,(aa:18-b+(a-18)=a-b)]
 refine⟨λu o=>?_,λp m=>by rw[m,<-d];exact i⟩;obtain⟨v,h,_,l⟩:=i;rw[o] at h;cases h;exact ank d ab ab l
def UF (d:Z):ah (AZ (d,())) λf=>pM f.1:=by
 unfold AZ;refine bC (HQ d 17 ab ab) ?_;obtain⟨q,r⟩:=GG d 17 ab;dsimp only;generalize uM d 17=p at*;refine bJ (P:=λf=>-18<=f.1/\f.1<=6) ?_ ?_
 ·unfold kN jH;rw[cc ab,bT,cc ab,bT,gV,de];refine anH (λo=>?_) (λo=>bA.2 ⟨ab,ab⟩);rw[cc ab,bT,cc ab,bT];refine bA.2 ?_;dsimp only;generalize bN.wrap _=h;have i:=Int.tmod_lt_of_pos h (ab:(0:Z)<13);have g:-13<h.tmod 13:=by
   have:=Int.lt_tmod_of_pos h (ab:(0:Z)<13);omega
  rw[cG aa aa];omega
 rintro⟨n,_⟩ ⟨j,l⟩;dsimp only at j l|-;obtain⟨i,g⟩:=agS (z:=p-8) (e:=n) aa aa j l;rw[cG aa aa];refine bC (agd aa aa) (bC (agF (λs m=>?_) aa aa) (bC (agB i) (bA.2 ?_)))
 ·obtain⟨a,b⟩:∃a:X,a=65536:=⟨_,bq⟩;rw[BB aa b] at m;cases m;refine ank b (k:=10) (c:=1) ab ab ?_;rw[jr,iL,kk,nG (2^a)];exact hW _ aa
 exact⟨GV _ _,agu bq (g _ rfl) ab,λa b=>(agt b (g a b) ab ab).1⟩
section
section
variable {P:Z->Prop} {n:X} {l:bp c4}
def Vt (H:n<=6) (V:l.length<=1000) (N:∀f∈l,0<=f.1/\f.1<(n:Z)/\0<=f.2.1/\f.2.1<(n:Z)) (K:∀f∈l,P f.2.2.1):ah (vU ((n:Z),(n:Z),l,())) λi=>CY P n n i.1:=by
 have ad:n*n<=6*6:=Nat.mul_le_mul H H;have Q:aD ((n:Z)*(n:Z))=((n*n:X):Z):=(by rw[<-anP,cG aa aa]);unfold vU;dsimp only;rw[Q];refine bC (ww (n:=n*n) aa) ?_;refine bJ (P:=λi=>∃e:amv,e.length=n*n/\(∀f∈e,0<=f/\f<=(l.length:Z))/\i=(((0:Z),((0:Z),([],([],([],()))))),((n:Z),((n:Z),([0],(([]:amv),(([]:amv),()))))),e,())) ?_ ?_
 ·refine bS l.length (λc s=>∃e:amv,e.length=n*n/\(∀f∈e,0<=f/\f<=(l.length:Z))/\s=((c:Z),((0:Z),((0:Z),([],([],([],()))))),((n:Z),((n:Z),([0],(([]:amv),(([]:amv),()))))),e,())) ⟨bM (n*n) 0,rT ..,λf h=>by rw[(List.mem_replicate.1 h).2];omega,bq⟩ ?_ ?_
  ·rintro c _ w ⟨e,j,r,rfl⟩;dsimp only;rw[a8,a5 (aJ (aa:(c:Z)<(l.length:Z))),bk aa];obtain⟨u,E,F,T⟩:=N l[c] (ca w);have v:az l (c:Z)=Y l[c]:=gj (bZ w);refine bC v (bC v ?_);obtain⟨t,L⟩:=cD u;obtain⟨q,M⟩:=cD F;have y:=Af (aa:q<n) (aa:t<n);have B:aD (aD ((l[c]).2.1*(n:Z))+(l[c]).1)=((q*n+t:X):Z):=by
    rw[L,M];show aD (aD (((q:X):Z)*(n:Z))+((t:X):Z))=_;rw[<-pF,cG (x:=((q*n:X):Z)) aa aa,<-aqF,cG aa aa]
   rw[B,nw (by rw[j];exact y)];refine bA.2 ⟨_,by rw[zO];exact j,λf h=>?_,bq⟩;rcases List.mem_or_eq_of_mem_set h with o|o
   ·exact r f o
   omega
  rintro _ ⟨e,j,r,rfl⟩;dsimp only;rw[a8,a2 (aG (aa:¬((l.length:Z)<(l.length:Z))))];exact bA.2 ⟨e,j,r,bq⟩
 rintro _ ⟨e,j,r,rfl⟩;dsimp only;refine bJ (P:=λi=>CY P n n i.2.1) ?_ (by rintro⟨t,q,_⟩ o;exact bA.2 o);refine bS n (λd s=>∃g a b,s=((d:Z),((0:Z),((0:Z),([],([],([],()))))),((n:Z),(n:Z),g,a,b,()),e,())/\g1 n d g a b/\(∀m∈b,P m)/\a.length<=d*n) ?_ ?_ ?_
 ·exact⟨[0],[],[],bq,g1.empty n,ac,ac⟩
 ·rintro d _ G ⟨g,a,b,rfl,u,E,F⟩;have U:d*n+n<=6*6:=by
   have:(d+1)*n<=n*n:=hW _ G;rw[la,iL] at this;omega
  dsimp only;rw[a5 (aJ (aa:(d:Z)<(n:Z))),bk aa];refine bJ (P:=λi=>∃a b,i=(((0:Z),((0:Z),([],([],([],()))))),((n:Z),(n:Z),g,a,b,()),e,())/\oY n d n g a b/\(∀m∈b,P m)/\a.length<=d*n+n) ?_ ?_
  ·refine bS n (λc s=>∃a b,s=((c:Z),((0:Z),((0:Z),([],([],([],()))))),((n:Z),(n:Z),g,a,b,()),e,())/\oY n d c g a b/\(∀m∈b,P m)/\a.length<=d*n+c) ?_ ?_ ?_
   ·exact⟨a,b,bq,u.open,E,aa⟩
   ·rintro c _ w ⟨a,b,rfl,A,D,S⟩;have am:b.length=a.length:=by
     obtain⟨C,_,_,o,_⟩:=A;exact o
    have y:=Af G w;have B:aD (aD ((d:Z)*(n:Z))+(c:Z))=((d*n+c:X):Z):=(by rw[<-anP,cG (x:=((d*n:X):Z)) aa aa,<-aqF,cG aa aa]);dsimp only;rw[a5 (aJ (aa:(c:Z)<(n:Z))),bk aa,B];refine bJ (P:=λi=>∃a b,i=(((0:Z),((0:Z),([],([],([],()))))),((n:Z),(n:Z),g,a,b,()),e,())/\oY n d (c+1) g a b/\(∀m∈b,P m)/\a.length<=d*n+(c+1)) ?_ ?_
    ·rw[ky (show d*n+c<e.length by rw[j];exact y),de];obtain⟨an,ap⟩:=r _ (cT (show d*n+c<e.length by rw[j];exact y));generalize e[d*n+c]'_=C at*
     refine anH (λJ=>?_) (λJ=>?_)
     ·obtain⟨z,O⟩:=gd (aa:0<=C-1);have I:z<l.length:=aa;have R:aD (C-1)=(z:Z):=by
       rw[cG aa aa];exact O
      rw[fe (by simp;omega),aM,R];have v:az l (z:Z)=Y l[z]:=gj (cH I);refine bC v ?_;rw[fe (by simp;omega),aM];refine bA.2 ⟨_,_,bq,A.add _,λf h=>?_,by simp;omega⟩;rcases hl.1 h with h|h
      ·exact D f h
      obtain rfl:=gI.1 h;exact K _ (cT I)
     exact bA.2 ⟨_,_,bq,A.skip,D,aa⟩
    rintro _ ⟨a,b,rfl,aB,k,p⟩;exact bA.2 ⟨a,b,bq,aB,k,p⟩
   rintro _ ⟨a,b,rfl,aB,k,p⟩;dsimp only;rw[a2 (aG (aa:¬((n:Z)<(n:Z))))];exact bA.2 ⟨a,b,bq,aB,k,p⟩
  rintro _ ⟨a,b,rfl,aB,k,p⟩;dsimp only;rw[fe (by rw[u.len];simp;omega),bT];refine bA.2 ⟨_,_,_,bq,aB.close,k,by rw[Nat.add_mul,Nat.one_mul];omega⟩
 rintro _ ⟨g,a,b,rfl,aB,k,p⟩;dsimp only;rw[a2 (aG (aa:¬((n:Z)<(n:Z))))];exact bA.2 ⟨g,a,b,bq,aB,k,p⟩
def pC (n:X) (c:X) (b:bp c4):Prop:=b.length<=c/\(∀a∈b,0<=a.1/\a.1<(n:Z)/\0<=a.2.1/\a.2.1<(n:Z))/\∀a∈b,pM a.2.2.1
theorem pC.add {f:bp c4} (j:pC n b f) {c i:Z} (g:0<=e/\e<(n:Z)) (h:0<=c/\c<(n:Z)) (m:pM i):pC n (b+1) (f++[(e,(c,(i,())))]):=by
 obtain⟨o,k,l⟩:=j;refine⟨by simp;omega,λd a=>?_,λd a=>?_⟩
 ·rcases hl.1 a with a|a
  ·exact k d a
  obtain rfl:=gI.1 a;exact⟨g.1,g.2,h.1,h.2⟩
 rcases hl.1 a with a|a
 ·exact l d a
 obtain rfl:=gI.1 a;exact m
theorem pC.mono {a:bp c4} (c:pC n b a) (e:b<=d):pC n d a:=⟨eE c.1 e,c.2⟩
def aaL (l:amv) (b:X):∃c,EV (l,(b:Z),())=Y (c,()):=by
 unfold EV;dsimp only;rw[de];by_cases a:(b:Z)<au l
 ·rw[ay a];rw[a8] at a;exact⟨l.getD b 0,by rw[hF aa];rfl⟩
 rw[aw a];exact⟨_,bq⟩
def VF {l:amv} (I:n<=4) (F:l.length<=40):ah (EW ((n:Z),l,())) λe=>CY pM n n e.1:=by
 unfold EW;dsimp only;refine bJ (P:=λe=>∃a,pC n n a/\e=(((0:Z),((0:Z),([],([],([],()))))),a,())) ?_ ?_
 ·refine bS n (λb m=>∃a,pC n b a/\m=((b:Z),((0:Z),((0:Z),([],([],([],()))))),a,())) ⟨[],⟨bf _,ac,ac⟩,bq⟩ ?_ ?_
  ·rintro b _ w ⟨a,c,rfl⟩;dsimp only;rw[a5 (aJ (aa:(b:Z)<(n:Z))),bk aa];obtain⟨D,B⟩:=aaL l b;refine bC B (bJ (UF _) ?_);rintro⟨C,_⟩ g;dsimp only at g|-;have:=c.1;rw[fe (by simp;omega),bT];exact bA.2 ⟨_,c.add aa aa g,bq⟩
  rintro _ ⟨a,c,rfl⟩;dsimp only;rw[a2 (aG (aa:¬((n:Z)<(n:Z))))];exact bA.2 ⟨a,c,bq⟩
 rintro _ ⟨t,v,rfl⟩;dsimp only;obtain⟨d,h⟩:∃d:X,d=if n=0 then 0 else(l.length-n)/3:=⟨_,bq⟩
 refine bJ (P:=λe=>∃a,pC n 100 a/\e=(((0:Z),((0:Z),([],([],([],()))))),a,())) ?_ ?_
 ·refine bS d (λb m=>∃a,pC n (n+2*b) a/\m=(((n+3*b:X):Z),((0:Z),((0:Z),([],([],([],()))))),a,())) ⟨t,v,bq⟩ ?_ ?_
  ·rintro b _ w ⟨a,c,rfl⟩;have x:n≠0:=by
    intro f;rw[ay f] at h;omega
   rw[b6 x] at h;have H:n+3*b+2<l.length:=aa;have k:aD (((n+3*b:X):Z)+2)=((n+3*b+2:X):Z):=(by rw[cG aa aa];omega);have A:aD (((n+3*b:X):Z)+3)=((n+3*(b+1):X):Z):=(by rw[cG aa aa];omega);dsimp only;rw[k,A,a8,bk (n:=n+3*b) aa];refine bC (y:=.inl (((0:Z),((0:Z),([],([],([],()))))),a,())) ?_ ?_
   ·rw[aJ (aa:((n+3*b+2:X):Z)<(l.length:Z)),a5 af,a5 (aJ (aa:(n:Z)>0))]
   dsimp only;refine bJ (P:=λe=>∃a,pC n (n+2*(b+1)) a/\e=(((0:Z),((0:Z),([],([],([],()))))),a,())) ?_ ?_
   ·have j:∀i,i<l.length->az l (i:Z)=Y (l.getD i 0):=λi z=>hF z;refine bC (j _ aa) (bC (HQ _ _ aa aa) (bC (j _ aa) (bC (HQ _ _ aa aa) (bC (j _ aa) (bJ (UF _) ?_)))));rintro⟨C,_⟩ g;have q:=GG (l.getD (n+3*b) 0) (n:Z) aa;have r:=GG (l.getD (n+3*b+1) 0) (n:Z) aa;have G:=c.1;dsimp only at g|-;generalize uM (l.getD (n+3*b) 0) (n:Z)=o at*;generalize uM (l.getD (n+3*b+1) 0) (n:Z)=s at*;rw[fZ,<-Bool.cond_not,Bool.not_not];by_cases f:o=s
    ·rw[aJ f,bI];exact bA.2 ⟨a,c.mono aa,bq⟩
    rw[aG f,bQ,fe (by simp;omega),aM];refine bA.2 ⟨_,?_,bq⟩;have:=(c.add q r g).add r q g;rw[lC] at this;exact this
   rintro _ ⟨a,c,rfl⟩;exact bA.2 ⟨a,c,bq⟩
  rintro _ ⟨a,c,rfl⟩;have k:aD (((n+3*d:X):Z)+2)=((n+3*d+2:X):Z):=(by have:d<=40:=(by rw[h];split<;>omega);rw[cG aa aa];omega);have E:d<=40:=(by rw[h];split<;>omega);dsimp only;rw[k,a8];refine bC (y:=.inr (.inr (((0:Z),((0:Z),([],([],([],()))))),a,()))) ?_ (bA.2 ⟨a,c.mono aa,bq⟩);by_cases f:n=0
  ·by_cases p:((n+3*d+2:X):Z)<(l.length:Z)
   ·rw[aJ p,a5 af,a2 (aG (aa:¬(n:Z)>0))]
   rw[aG p,a2 af]
  rw[aw f] at h;rw[aG (aa:¬((n+3*d+2:X):Z)<(l.length:Z)),a2 af]
 rintro _ ⟨a,c,rfl⟩;dsimp only;refine bJ (Vt aa (cC c.1 ab) c.2.1 c.2.2) ?_;rintro⟨o,_⟩ u;exact bA.2 u
end
end
section
theorem ahE (E:bp c4) (a b:X):iG E a b=iG E b a:=by unfold iG me mf;grind
section
variable {n A:X} {st D C:amv}
def Zy (l:A=65536) (L:n<=4) (j:g1 n n st D C) (o:j7 n n st D C) (r:∀d∈C,pM d):∃(g:X->X->Z) (t:Z),0<t/\(∀a b,a<n->b<n->iG (c5 st D C n) a b=Y (g a b*t))/\(∀a b,a<n->b<n->g a b=g b a)/\D4 (((n:Z),(n:Z),st,D,C,()),0,())=Y (((n:Z)-((hh (gZ n g):X):Z)-((jt 0 (gZ n g):X):Z),((hh (gZ n g):X):Z),((jt 0 (gZ n g):X):Z),()),0,()):=by
 have J:hZ n n st D C=0:=lF.2 ⟨j,λa e=>by
  have:=(r C[a] (cT e)).2.1;rwa[<-k1 e] at this⟩
 have H:∀a b,pM (mY (c5 st D C n) a b):=λa b=>UD pM.zero (ua j r) _ _;obtain⟨d,i⟩:∃d:X->X->Z,∀a b,iG (c5 st D C n) a b=some (d a b)/\gx (A-18) (d a b)/\(d a b).natAbs<=1*2^(A+11):=
  ⟨λa b=>(iG (c5 st D C n) a b).getD 0,λa b=>by
   obtain⟨Q,u,P⟩:=(H (me (a:Z) (b:Z)) (mf (a:Z) (b:Z))).2.2 A l;have w:iG (c5 st D C n) a b=Y Q:=u;dsimp only;rw[w];exact⟨bq,P⟩⟩
 have ar:gD n n (λa b=>aE (iG (c5 st D C n) a b))=gD n n (λa b=>aE (Y (d a b))):=Cm λa e b h=>(by rw[(i a b).1]);have p:=ag6 aa j o;rw[ar] at p;obtain⟨f,T,F,G⟩:=ZI l (E:=18) (n:=n) aa aa (v:=d) (λa b _ _=>by
  obtain⟨_,x,m⟩:=i a b;refine⟨x,ank l (k:=29) (c:=1) ab ab ?_⟩;rw[jr,iL,(aa:A+29=A+11+18),kk 2 (A+11)];rw[iL] at m;exact hW _ m)
 have M:(0:Z)<2^(A-f):=Int.pow_pos ab;have s:∀a b,a<n->b<n->d a b/2^(A-f)*2^(A-f)=d a b:=λa b e h=>(by obtain⟨U,O⟩:=F a b e h;rw[O,Int.mul_ediv_cancel _ aa]);have N:∀a b,a<n->b<n->aP (d a b/2^(A-f)).natAbs<=100000:=λa b e h=>(by have z:(d a b/2^(A-f)).natAbs<=2^29:=(by refine Nat.le_of_mul_le_mul_right (c:=2^(A-f)) ?_ (anY _);rw[<-jr,s a b e h];refine cC (i a b).2.2 ?_;rw[Nat.one_mul,<-Nat.pow_add];exact wK _ _ aa);have R:=kq z;have S:aP (2^29)<=30:=ab;omega);have q:∀a b,d a b=d b a:=λa b=>am0 (by rw[<-(i a b).1,<-(i b a).1,ahE]);refine⟨λa b=>d a b/2^(A-f),2^(A-f),M,λa b e h=>by rw[(i a b).1,s a b e h],λa b _ _=>by dsimp only;rw[q a b],?_⟩;unfold D4;refine aq (y:=(0,())) ?_ ?_
 ·unfold IU;refine aq o.check ?_;dsimp only;rw[J,a2 af,fZ,aJ bq,a2 af,a2 (aG (aa:¬(n:Z)>16))];refine aq (Qn ⟨ab,ab⟩) ?_;have K:ov 0=0:=ab;dsimp only;rw[K,a5 af,a5 af];refine aq (BC ⟨ab,ab⟩) ?_;have I:bo 0≠2047:=JI;dsimp only;rw[aG I];rfl
 dsimp only;rw[a2 af];refine aq p (aq G (aq (Yq (B:=100000) L (cj _) N (λa b _ _=>by rw[q a b])) ?_));rfl
end
end
def Yb {a:X} (E:bp c4) (c:fX h a) (e:b<a) (f:d<a):kc E h b d=iG E (hT h b) (hT h d):=by unfold kc iG;rw[(y3 c e).1,(y3 c f).1]
def Hd:∀a:amv,(∀x∈a,0<=x)->0<=a.sum
 |[],_=>anE _
 |x::a,b=>by have:=Hd a λd c=>b d (gH _ c);have:=b x (jQ ..);rw[aqO];omega
def XS (a:Z):ET (aE (Y a),(bu,((bu,(([]:amv),())),((0:Z),()))),())=Y (bw (a=0),()):=by
 by_cases c:a=0
 ·subst c;rw[aJ bq]
  kernel_rfl
 rw[aG c,hd];have e:(aK (cO a)).2.1≠[]:=λb=>k4 c (wb.1 b);unfold ET;dsimp only;rw[a5 af];by_cases d:eF a=0
 ·rw[gV,aJ d,a5 af];refine aq (y:=(bu,())) ?_ bq;unfold Jd;dsimp only;cases(aK (cO a)).1 with
  |false=>
   rw[a5 af];refine aq (y:=(bu,())) ?_ bq;unfold Je;dsimp only;rw[a5];rw[fZ,aG]
   ·rfl
   rw[a8,a8];intro b;exact e (qv (by simpa using b))
  |true=>rw[a2 af]
 rw[gV,aG d,a2 af]
def VG (bl:amv) (z:Z) (a4:amv) (an:bl.length<=9223372036854775807):Jm (bl,z,a4,())=Y (bt,()):=by
 obtain⟨v,l⟩:∃v:X,v=65536:=⟨_,bq⟩;have E:yk ()=Y (bt,()):=rfl;unfold Jm;refine bR.1 ?_;dsimp only;rw[a8];by_cases ap:(a4.length:Z)>40
 ·rw[a5 (aJ ap)];exact bC E (bA.2 bq)
 rw[a2 (aG ap)];refine bC (KZ z (n:=5) ab ab) ?_;have f1:=Gg z (n:=5) ab;dsimp only;generalize wA z 5=a at*;refine bJ (VF (aa:a<=4) aa) ?_;rintro⟨fz,_⟩ ad;dsimp only at ad|-;obtain⟨o,m,k,rfl,aB,I,eq⟩:=ad.ex;have r:a<=5:=aa;have H:=CX.small r r aB (λfr d4=>(I fr d4).1) eq;refine bJ (Vr an (n:=a) aa) ?_;rintro⟨f,_⟩ a0;dsimp only at a0|-;have G:=aez a0;refine bJ (Y5 aa H an) ?_;rintro _ ⟨f0,rfl,f3,f4,em⟩;dsimp only;have F:hZ a a o m k=0:=lF.2 ⟨aB,λc s=>by
  have:=(I k[c] (cT s)).2.1;rwa[<-k1 s] at this⟩
 have d2:zp a a o m k f=0:=by
  classical
  unfold zp;rw[aw (anb F),aw (anb bq),ay G]
 have am:=em d2;have D:=Vg (ny.Lh r F) H F G am;have c2:∀f c d,pM (mY (c5 o m k a) (me ((f:amv).getD c 0) (f.getD d 0)) (mf (f.getD c 0) (f.getD d 0))):=λf c d=>UD pM.zero (ua aB I) _ _;have L:∀f c d,bd v 1074 1024 1 (kc (c5 o m k a) f c d):=λf c d=>((c2 f c d).2.2 v l).mono ab ab ab;rcases YB (A:=kc (c5 o m k a) f) (λc d=>kL _) am (yx G) (aa:a<=12) G with K|⟨b,ce,K,e⟩
 ·rw[K] at D;refine bC D ?_;dsimp only;rw[a5 af];exact bC E (bA.2 bq)
 rw[K] at D;refine bC D ?_;generalize wd f b ((ce:X):Z)=i at*;dsimp only;rw[a2 af];have M:∀h,h<a*a->bd v 3222 3072 15 (np b a (h %a) (h/a)):=λh d3=>aeQ l e r d3;have dl:=aek l r (L i.1) M (Ku e) (Vw r H F e.or) (Z2 e r);have f2:=K3 (n:=a) l (L i.1) M (a*a) (cj _);generalize d0:mN (kc (c5 o m k a) i.1) (λh=>np b a (h %a) (h/a)) a (a*a)=S at*;refine bC dl ?_;dsimp only;refine bC (Z3 e) ?_;dsimp only;obtain⟨u,q,d1,d7,d8,c1⟩:=Zy l (aa:a<=4) aB H I;refine bC c1 ?_;dsimp only;have cv:=e.SL l (q:=1) ab;obtain⟨-,-,a3⟩:=Mj (g:=λC=>jY ((aV C).getD 0,1)) (λC=>⟨(GM (p:=((aV C).getD 0,1)) (ab:(0:Z)<1)).2.1.trans (Ct _).1.symm,(GM (p:=((aV C).getD 0,1)) (ab:(0:Z)<1)).1.trans (Ct _).2.symm⟩) b cv;rw[e.ok.len] at a3;have P:∀q∈b,0<=(jZ q).1/\0<=(jZ q).2.1/\0<=(jZ q).2.2:=λq t=>(by obtain⟨fT,dg,rfl⟩:=ani.1 t;obtain⟨fl,_,fn,_,fp,_⟩:=TQ (e.ok.ig dg).1;exact⟨fl,fn,fp⟩);have f5:0<=(e1 b).1:=Hd _ λV w=>(by obtain⟨q,t,rfl⟩:=apE.1 w;exact(P q t).1);have f6:0<=(e1 b).2.1:=Hd _ λV w=>(by obtain⟨q,t,rfl⟩:=apE.1 w;exact(P q t).2.1);have f7:0<=(e1 b).2.2:=Hd _ λV w=>(by obtain⟨q,t,rfl⟩:=apE.1 w;exact(P q t).2.2);have ds:au i.1=(a:Z):=(by rw[a8,e.or.1]);have d6:aD (aD ((e1 b).1+(e1 b).2.1)+(e1 b).2.2)=(a:Z):=(by rw[cG (x:=(e1 b).1+(e1 b).2.1) aa aa,cG aa aa,a3]);generalize R:(((e1 b).1,(e1 b).2.1,(e1 b).2.2,()):Z×Z×Z×bz)=J;have d9:J.1=(e1 b).1:=(by rw[<-R]);have ek:J.2.1=(e1 b).2.1:=(by rw[<-R]);have el:J.2.2.1=(e1 b).2.2:=(by rw[<-R]);refine bC (y:=.inl (aE (Y S),J,((a:Z)-((hh (gZ a u):X):Z)-((jt 0 (gZ a u):X):Z),((hh (gZ a u):X):Z),((jt 0 (gZ a u):X):Z),()),())) ?_ ?_
 ·rw[a5 af,a5 af,a5 af,ds,fZ,aJ bq,a5 af,d6,fZ,aJ bq,a2 af]
 dsimp only;refine bC (XS S) ?_;dsimp only;by_cases O:S=0
 rotate_left
 ·rw[aG O,a2 af];exact bC E (bA.2 bq)
 rw[aJ O,a5 af];have d5:∀c d,c<a->d<a->u (hT i.1 c) (hT i.1 d)*q=(np b a c d).getD 0:=λc d s N=>(by obtain⟨ci,co⟩:=Fl (n:=a) (j:=d) s;have av:=Af N s;obtain⟨ft,fs,_,bx⟩:=Jx (n:=a) (B:=kc (c5 o m k a) i.1) (Q:=λh=>np b a (h %a) (h/a)) l (L i.1) (M _ av);have cs:=Rj (B:=kc (c5 o m k a) i.1) (Q:=λh=>np b a (h %a) (h/a)) (n:=a) (a*a) (d*a+c) av;rw[fs,d0,O,xw] at cs;rw[ci,co] at bx;rw[Yb _ e.or s N,d7 _ _ (y3 e.or s).2 (y3 e.or N).2,xw] at bx;omega);obtain⟨T,U,f8⟩:=Zx l e (aa:a<=4) d1 d5 d8;have T:((hh (gZ a u):X):Z)=(e1 b).2.1:=T;have U:((jt 0 (gZ a u):X):Z)=(e1 b).2.2:=U;rw[T,U,d9,ek,el,(aa:(a:Z)-(e1 b).2.1-(e1 b).2.2=(e1 b).1),a5 ac];exact bC E (bA.2 bq)
end Go.j5
end
