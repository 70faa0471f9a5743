/-
  Parts of the proof: Pm95, Pm89, Pm97, Pm99, Pm100, Pm98, Pm101, Pm102, Pm103, Pm104, Pm105, Pm106, Pm96, Pm107, Pm45, Pm46, Pm47, Pm48, Pm49, Pm108, Pm109, Pm110, Pm114, Pm116: the framework (Fw), pure forms (Dn), plain laws (Pl, Th), calls of functions (Ok).
-/
import Derived.KernelRfl
import Derived.Test.YtnndjinceoekdaaGreatDoorB41e2db03

set_option linter.all false
set_option maxHeartbeats 1000000
open _root_ renaming Nat->X,List->bm,Bool->bA,Option->bv,Int->Z,Unit->bt,congrArg->b3,rfl->bn,cond_false->bP,cond_true->bG,if_pos->ca,decide_eq_true_eq->aip,decide_eq_false->aiy,decide_eq_true->ah3,decide_eq_decide->cx,if_neg->ck,not_not_intro->ah2
open Option renaming some->Y,bind_some->bN,none->bo,bind->bB,map_some->ajI
open Go.jf.a8 renaming c3->b4
open List renaming take_add_one->ct,getElem?_eq_getElem->bS,range->bI,length_range->ai2,nodup_range->al7,mem_range->ai3,take_length->cA,getElem_mem->b7,append_assoc->aiB,take_append_drop->ajw,length_map->cm,mem_flatMap->al8,map_take->al5,take_of_length_le->ch,length_take->aib,length_filter_le->air,range'->ah6,mem_of_mem_take->ank,range'_concat->ak3,Nodup->akc,mem_filter->anl,getElem?_eq_some_iff->aiF,length_append->aiz,length_singleton->akd,takeWhile_append_dropWhile->anm,foldl_cons->ake,dropWhile_sublist->ann,pairwise_cons->ajR,pairwise_iff_getElem->ah1,mem_singleton->ah4,replicate->bJ,getElem?_eq_none->ajE,length_range'->al6,map_const'->alY,map_singleton->anp,map_congr_left->aii,length_set->aj5,length->aia,range_succ->ais,flatMap_cons->akg,flatMap_nil->akh,map_nil->ajb,filter->aj0,mem_iff_getElem->aiS,getD_eq_getElem?_getD->anq,filter_eq_nil_iff->akU,nil_append->alQ
open Go.jf.ae renaming eq_iff->bQ,aM->bE,steps->bO,af->bu,bs->bz,loop->aik
open Decidable renaming decide->br
open Nat renaming le_trans->cz,one_mul->ak2,lt_succ_self->ajm,le_refl->cj,add_assoc->ajv,mul_le_mul->akW,not_lt_zero->akZ,lt_irrefl->ajY,beq->bH,lt_or_ge->cl,succ_ne_zero->ans
open Bool renaming false->bq,true->bp,false_and->alo,and_true->akE,true_and->ajX
open List.Pairwise renaming imp_of_mem->anG,nil->akr
open Int renaming toNat->aiv,ne_of_gt->ano,toNat_natCast->aiA,one_mul->aj4,natAbs_of_nonneg->anr,mul_zero->aj3,eq_ofNat_of_zero_le->cB
open List.Perm renaming refl->akb,append_left->akD
open Option.some renaming inj->aiL,injEq->ajd
open Go.jf.iF renaming of->ajL
open Go.jf.cS renaming h3->akf,ri->aki
open Go.jf.aV renaming run->aiC
open Go.IntKind renaming u64->bC
noncomputable section
namespace Go.jf
variable{a b:X}{c:bm a8}{d k:X->X->bA}{f:bv (Z×((bm aA×bt)×(bm (bv (bm (Z×cV)×X))×bt)))}{g:X->X}{h:ahZ}{i:Type}{j:bm (bm ga)}{l:X->X->ahT}{m:ahY}{n:Z}{o:bm (bv (bm (Z×cV)×X))}{p:X->dd}{q:ew}{r:Z->bv (cV×bt)}
theorem FF (c:X->Z) (f:a<b) (e:Z) (d:ahZ->bv i):wr (aB b c) (a:Z) e d=d (aB b (eB c a e)):=by simp_all [cY,eS,aC,gq,jl,hA,wr]
def xS (c:X->Z) (d:a<b) (e:Z->bv i):rd (aB b c) (a:Z) e=e (c a):=by unfold rd;rw[cY,eS d,aC,gq (jl d),aC]
theorem VT {b:ahY} {B:ahY} (d:m.Nodup) (c:m=b++a::B):m.idxOf a=b.length:=by grind
def QI (a b:X) (e:a<=b):((Y 0).bind λc=>(gv (a:Z)).bind λd=>(g9 c d b).bind λ_=>(nK b).map λ_=>(c,d))=Y (0,a):=by rw[aC,Ew,aC,p4 ⟨c8 _,e⟩];rfl
def QJ (b a:X) (e:b<=a):((gv (b:Z)).bind λc=>(Y a).bind λd=>(g9 c d a).bind λ_=>(nK a).map λ_=>(c,d))=Y (b,a):=by rw[Ew,aC,aC,p4 ⟨e,bc _⟩];rfl
theorem AF (e:∀a∈c,tS m a):c.length<=(c.flatMap a8.cF).length/\(c.flatMap a8.d).length<=3*c.length/\(c.flatMap b4).length=(c.flatMap a8.cF).length:=by
 induction c with
 |nil=>grind
 |cons a c g=>
  obtain⟨h,i,j⟩:=g λf o=>e f (by grind);have b:=e a ac;have k:=b.at1;have l:=b.dl;have n:a.c3.length=a.cF.length:=(by unfold b4;rw[ff,b.len]);grind
theorem Fm (b:a8->bm i) (d:a<c.length):(c.take (a+1)).flatMap b=(c.take a).flatMap b++b c[a]:=by grind [ct,bS]
def Hy (b:a8->bm i) (d:a<c.length):c.flatMap b=(c.take a).flatMap b++(b c[a]++(c.drop (a+1)).flatMap b):=by
 conv=>lhs;rw[<-kp (a+1) c]
 rw[qw,Fm b d,iY]
theorem abS (bx:h.length=a) (fs:a<=100) (E:(c.flatMap a8.cF).Perm (bI a)) (y:∀b∈c,tS (bI a) b) (del:Z):Ds (h,c.map ja,del,())=Y (rf h c del,()):=by
 obtain⟨f5,f6,f7⟩:=AF y;have d3:(c.flatMap a8.cF).length=a:=(by rw[E.length_eq,ai2]);have T:(c.flatMap a8.cF).Nodup:=E.nodup_iff.2 al7;have J:∀e,e∈c.flatMap a8.cF↔e<a:=λe=>(by rw[E.mem_iff,ai3]);have C:al (c.map ja)=(c.length:Z):=(by grind);have L:∀i,(Q:i<c.length)->ao (c.map ja) (i:Z)=Y (ja c[i]):=λi Q=>(by grind [fg,bS]);unfold Ds rf;refine bQ.1 ?_;dsimp only;generalize I:c.flatMap a8.cF=m at*;rw[show al h=(a:Z) by rw[bh,bx],h9 aa,bN];refine bE (P:=λb=>b=(([],([],([],([],([],([],((0:Z),()))))))),aB a (λe=>(m.idxOf e:Z)),(m.map (λe=>h.getD e 0),(c.map (λb=>(b.cF.length:Z)),(c.flatMap (·.d),([0],(([]:aA),(([]:aA),(del,()))))))),())) ?_ ?_
 ·refine bO c.length (λi b=>b=((i:Z),([],([],([],([],([],([],((0:Z),()))))))),aB a (λe=>if e∈(c.take i).flatMap a8.cF then(m.idxOf e:Z) else 0),(((c.take i).flatMap a8.cF).map (λe=>h.getD e 0),((c.take i).map (λb=>(b.cF.length:Z)),((c.take i).flatMap (·.d),([0],(([]:aA),(([]:aA),(del,()))))))),())) ?_ ?_ ?_
  ·grind [jb,c9]
  rotate_left
  ·rintro _ rfl;dsimp only;rw[C,a1 (aI (aa:¬(c.length:Z)<(c.length:Z))),cA];refine bu.2 ?_;have:(aB a λe=>if e∈c.flatMap a8.cF then(m.idxOf e:Z) else 0)=aB a λe=>(m.idxOf e:Z):=c9 λe N=>by
    rw[I,au ((J e).2 N)]
   grind
  rintro i _ q rfl;dsimp only;rw[C,aY (aK (aa:(i:Z)<(c.length:Z))),bk aa];have w:=y _ (b7 q);have co:=Hy a8.cF q;have f1:=Hy a8.d q;rw[I] at co;have n:=L i q;have F:=Fm a8.cF q;have V:=Fm a8.d q;have a4:(c.take (i+1)).map (λb=>(b.cF.length:Z))=(c.take i).map (λb=>(b.cF.length:Z))++[(c[i].cF.length:Z)]:=(by grind [ct,bS]);have f3:(c.take i).length<=c.length:=(by grind);generalize c[i]=b at*;generalize d4:(c.take i).flatMap a8.cF=k at*;have d5:k.length+b.cF.length<=a:=(by grind);refine bE (P:=λs=>s=(([],([],([],([],([],([],((0:Z),()))))))),aB a (λe=>if e∈k++b.cF then(m.idxOf e:Z) else 0),((k++b.cF).map (λe=>h.getD e 0),((c.take i).map (λb=>(b.cF.length:Z)),((c.take i).flatMap (·.d),([0],(([]:aA),(([]:aA),(del,()))))))),())) ?_ ?_
  ·refine bO b.cF.length (λf s=>s=((f:Z),([],([],([],([],([],([],((0:Z),()))))))),aB a (λe=>if e∈k++b.cF.take f then(m.idxOf e:Z) else 0),((k++b.cF.take f).map (λe=>h.getD e 0),((c.take i).map (λb=>(b.cF.length:Z)),((c.take i).flatMap (·.d),([0],(([]:aA),(([]:aA),(del,()))))))),())) ?_ ?_ ?_
   ·simp_all
   ·rintro f _ M rfl;dsimp only;refine bz n ?_;have t:al (ja b).1=(b.cF.length:Z):=(by rw[bh];exact b3 _ (fJ _));rw[t,aY (aK (aa:(f:Z)<(b.cF.length:Z))),bk aa];have K:ao (ja b).1 (f:Z)=Y ((b.cF[f]:X):Z):=mZ M;have ce:b.cF[f]<a:=(J _).1 (by grind);have a3:m.idxOf b.cF[f]=(k++b.cF.take f).length:=by
     refine VT T (B:=b.cF.drop (f+1)++(c.drop (i+1)).flatMap a8.cF) ?_;grind [aiB,ajw,List.drop_eq_getElem_cons]
    refine bz n (bz K ?_);rw[FF _ ce];refine bz n (bz K ?_);refine bz (ho aa) ?_;have fl:(k++b.cF.take f).length<=a:=(by grind);rw[da (by grind),aC];refine bu.2 ?_;have aq:k++b.cF.take (f+1)=(k++b.cF.take f)++[b.cF[f]]:=(by simp_all);have c1:(aB a (eB (λe=>if e∈k++b.cF.take f then(m.idxOf e:Z) else 0) b.cF[f] (al ((k++b.cF.take f).map λe=>h.getD e 0))))=aB a λe=>if e∈k++b.cF.take (f+1) then(m.idxOf e:Z) else 0:=by
     refine c9 λe N=>?_;rw[aq];by_cases H:e=b.cF[f]
     ·subst H;rw[gI,au (lq _ (gd.2 bn)),bh,ff,a3]
     rw[hb _ _ H];have:e∈(k++b.cF.take f)++[b.cF[f]]↔e∈k++b.cF.take f:=(by grind);simp_all
    grind
   rintro _ rfl;dsimp only;refine bz n ?_;have t:al (ja b).1=(b.cF.length:Z):=(by rw[bh];exact b3 _ (fJ _));rw[t,a1 (aI (aa:¬(b.cF.length:Z)<(b.cF.length:Z))),cA];grind [bu]
  rintro _ rfl;dsimp only;have el:((c.take i).flatMap a8.d).length+b.d.length<=3*c.length:=(by grind);refine bz n ?_;rw[da (by grind),bN];refine bz n ?_;rw[da (by show((c.take i).flatMap a8.d).length+b.d.length<=_;omega),bN];refine bu.2 ?_;have t:al (ja b).1=(b.cF.length:Z):=(by rw[bh];exact b3 _ (fJ _));rw[F,V,a4,t];rfl
 rintro _ rfl;dsimp only;generalize em:(λe=>m.idxOf e)=g at*;have am:(λe=>(m.idxOf e:Z))=λe=>(g e:Z):=(by grind);rw[am];have ci:∀b∈c,b.rows.length<=100:=λb w=>(by have:=(y b w).nd.length_le_of_subset (y b w).sub;grind);have U:∀r:bm m6,(∀v∈r,v.1.length<=100)->r.length<=100->(r.flatMap (gA g)).length<=10000/\(r.flatMap (ix g)).length<=10000:=λr c2 dl=>(by grind [DO,cm,rK,ix,gA]);have d9:∀v∈c.flatMap b4,v.1.length<=100:=λv A=>(by obtain⟨b,w,A⟩:=al8.1 A;obtain⟨j,_,rfl⟩:=List.mem_map.1 A;grind);generalize d2:m.map (λe=>h.getD e 0)=z;generalize d6:c.map (λb=>(b.cF.length:Z))=jw;generalize d1:c.flatMap (·.d)=x;refine bE (P:=λb=>b=(([],([],([],([],([],([],((0:Z),()))))))),(z,(jw,(x,(j9 (gA g) (c.flatMap b4),((c.flatMap b4).flatMap (gA g),((c.flatMap b4).flatMap (ix g),(del,()))))))),())) ?_ (by grind [bu]);refine bO c.length (λi b=>b=((i:Z),([],([],([],([],([],([],((0:Z),()))))))),aB a (λe=>(g e:Z)),(z,(jw,(x,(j9 (gA g) ((c.take i).flatMap b4),(((c.take i).flatMap b4).flatMap (gA g),(((c.take i).flatMap b4).flatMap (ix g),(del,()))))))),())) rfl ?_ ?_
 rotate_left
 ·rintro _ rfl;dsimp only;rw[C,a1 (aI (aa:¬(c.length:Z)<(c.length:Z))),cA];grind [bu]
 rintro i _ q rfl;dsimp only;rw[C,aY (aK (aa:(i:Z)<(c.length:Z))),bk aa];have w:=y _ (b7 q);have n:=L i q;have F:=Fm b4 q;have f0:=Hy b4 q;have fz:=ci _ (b7 q);rw[F];generalize c[i]=b at*;generalize ds:(c.take i).flatMap b4=p at*;have d0:p.length+b.c3.length<=100:=(by grind);have ek:∀f,b.c3.take f=(b.l.take f).map λj=>(b.rows,j):=λf=>(by grind [al5,b4]);have d8:b.c3.length=b.l.length:=(by grind [cm,b4]);have ft:=w.len;refine bE (P:=λs=>s=(([],([],([],([],([],([],((0:Z),()))))))),aB a (λe=>(g e:Z)),(z,(jw,(x,(j9 (gA g) (p++b.c3),((p++b.c3).flatMap (gA g),((p++b.c3).flatMap (ix g),(del,()))))))),())) ?_ (by grind [bu]);refine bO b.cF.length (λf s=>s=((f:Z),([],([],([],([],([],([],((0:Z),()))))))),aB a (λe=>(g e:Z)),(z,(jw,(x,(j9 (gA g) (p++b.c3.take f),((p++b.c3.take f).flatMap (gA g),((p++b.c3.take f).flatMap (ix g),(del,()))))))),())) ?_ ?_ ?_
 ·grind
 rotate_left
 ·rintro _ rfl;dsimp only;refine bz n ?_;have t:al (ja b).1=(b.cF.length:Z):=(by rw[bh];exact b3 _ (fJ _));rw[t,a1 (aI (aa:¬(b.cF.length:Z)<(b.cF.length:Z))),ch aa];grind [bu]
 rintro f _ M rfl;dsimp only;refine bz n ?_;have t:al (ja b).1=(b.cF.length:Z):=(by rw[bh];exact b3 _ (fJ _));rw[t,aY (aK (aa:(f:Z)<(b.cF.length:Z))),bk aa];have ex:f<b.l.length:=aa;have bl:p++b.c3.take (f+1)=(p++b.c3.take f)++[(b.rows,b.l[f])]:=(by grind [bS,ct,aiB,b4]);have ap:ao (ja b).2.2.2.1 (f:Z)=Y (b.rows.map b.l[f]):=(by rw[fg];show(b.l.map λj=>b.rows.map j)[f]?=_;grind);rw[bl];have S:∀v∈p++b.c3.take f,v.1.length<=100:=λv A=>(by grind);have R:(p++b.c3.take f).length<=100:=(by grind);obtain⟨cs,cv⟩:=U _ S R;generalize p++b.c3.take f=r at*;generalize b.l[f]=j at*;have O:al (ja b).2.2.1=(b.rows.length:Z):=(by rw[bh];exact b3 _ (fJ _));generalize ad:((z,(jw,(x,(j9 (gA g) r,(r.flatMap (gA g),(r.flatMap (ix g),(del,()))))))):eG)=G;refine bE (P:=λs=>s=(([],([],([],([],([],([],((0:Z),()))))))),aB a (λe=>(g e:Z)),G,gA g (b.rows,j),ix g (b.rows,j),())) ?_ ?_
 ·refine bO b.rows.length (λo s=>s=((o:Z),([],([],([],([],([],([],((0:Z),()))))))),aB a (λe=>(g e:Z)),G,(mG g (b.rows.take o)).map (λe=>(g e:Z)),(mG g (b.rows.take o)).map j,())) rfl ?_ ?_
  rotate_left
  ·rintro _ rfl;dsimp only;refine bz n ?_;rw[O,a1 (aI (aa:¬(b.rows.length:Z)<(b.rows.length:Z))),cA];exact bu.2 bn
  rintro o _ D rfl;dsimp only;refine bz n ?_;rw[O,aY (aK (aa:(o:Z)<(b.rows.length:Z))),bk aa];have av:ao (ja b).2.2.1 (o:Z)=Y ((b.rows[o]:X):Z):=mZ D;have a0:b.rows[o]<a:=ai3.1 (w.sub _ (b7 D));have an:ao (b.rows.map j) (o:Z)=Y (j b.rows[o]):=(by grind [fg,bS]);refine bz n (bz av ?_);rw[xS _ a0];have fT:(mG g (b.rows.take o)).length<=100:=(by grind [rK,aib]);rw[ac9 g D];generalize mG g (b.rows.take o)=u at*;generalize b.rows[o]=e at*;have d7:(u.takeWhile λj=>br (g j<g e)).length<=u.length:=(List.takeWhile_sublist _).length_le;refine bz (abf g u e aa _ _ _ _) ?_;dsimp only;have fn:(u.map λe=>(g e:Z)).length=u.length:=cm _;have fp:(u.map j).length=u.length:=cm _;rw[<-Ni g e u j,<-Ni g e u λe=>(g e:Z)];refine bz (QI _ _ aa) ?_;dsimp only;rw[da (by grind),bN,da (by grind),bN];refine bz (QJ _ _ aa) ?_;dsimp only;rw[da (by grind),bN];refine bz (QI _ _ aa) ?_;dsimp only;rw[da (by grind),bN];refine bz n (bz ap (bz an ?_));rw[da (by grind),bN];refine bz (QJ _ _ aa) ?_;dsimp only;rw[da (by grind),bN];grind [bu]
 rintro _ rfl;subst ad;dsimp only;have eq:(gA g (b.rows,j)).length=b.rows.length:=(by grind [cm,rK,gA]);have f4:(ix g (b.rows,j)).length=b.rows.length:=(by grind [cm,rK,ix]);have f2:(j9 (gA g) r).length=r.length+1:=(by grind [cm,ai2,j9]);rw[da aa,bN,da aa,bN,da (by grind),bN];simp_all [Ly,bh,List.flatMap_append,bu,aq,ix,gA]
structure lp where
 R:ahY
 full:X
 lf:ahV
 M:bm (bm ga)
def lp.enc (a:lp):bv c4:=Y (cE a.R a.full a.lf a.M)
def lp.ok (a:lp):Prop:=a.lf.length=a.R.length/\a.full<=a.R.length/\a.R.length<=100
def kw (b:bm lp):ahY:=b.flatMap λa=>fd a.R a.lf a.full
theorem Ih (b:ahY) (lf:ahV) (a:X):(fd b lf a).length<=a:=by grind [cz,air,cm,fd]
theorem LH {l:bm lp} (b:∀a∈l,a.ok):(kw l).length<=100*l.length:=by
 induction l with
 |nil=>exact bc _
 |cons a l d=>
  have f:=d λc j=>b c (by grind);obtain⟨_,g,h⟩:=b a ac;have i:=Ih a.R a.lf a.full;have e:kw (a::l)=fd a.R a.lf a.full++kw l:=rfl;grind
theorem acq {l:bm lp} (e:∀a∈l,a.ok) (w:l.length<=100) {F L:X} {rows:ahZ} {par:Z} (s:F<=L) (t:L<=1000) (z:L-F<=rows.length) (A:rows.length<=1000):Ct (((F:Z),((L:Z),(rows,(par,())))),l.map lp.enc,())=Y (a5 (kw l++ah6 F (L-F))++rows.drop (L-F),((kw l++ah6 F (L-F)).length:Z),()):=by
 have u:=LH e;unfold Ct;refine bQ.1 ?_;dsimp only;refine bE (P:=λd=>d=(a5 (kw l),())) ?_ ?_
 ·refine bO l.length (λc d=>d=((c:Z),a5 (kw (l.take c)),())) rfl ?_ ?_
  rotate_left
  ·rintro _ rfl;dsimp only;rw[a1 (aI (show¬(l.length:Z)<al (l.map lp.enc) by grind)),cA];grind [bu]
  rintro c _ k rfl;dsimp only;rw[aY (aK (show(c:Z)<al (l.map lp.enc) by grind)),bk aa];have f:=e _ (b7 k);have v:=LH (l:=l.take c) λa f=>e a (ank f);have B:(l.take c).length<=c:=(by grind);have j:kw (l.take (c+1))=kw (l.take c)++fd l[c].R l[c].lf l[c].full:=(by grind [ct,bS,kw]);rw[j];refine bz (y:=l[c].enc) (by grind [fg,bS]) ?_;generalize l[c]=a at*;obtain⟨o,p,q⟩:=f;refine bz (y:=cE a.R a.full a.lf a.M) rfl ?_;refine bE (P:=λd=>d=(a5 (kw (l.take c)++fd a.R a.lf a.full),())) ?_ (by grind [bu]);refine bO a.full (λb d=>d=((b:Z),a5 (kw (l.take c)++fd a.R a.lf b),())) ?_ ?_ ?_
  ·rw[show fd a.R a.lf 0=[] from rfl,mN];rfl
  rotate_left
  ·rintro _ rfl;dsimp only;rw[a1 (aI (show¬(a.full:Z)<(cE a.R a.full a.lf a.M).2.1 from Int.lt_irrefl _))];grind [bu]
  rintro b _ i rfl;dsimp only;rw[aY (aK (show(b:Z)<(cE a.R a.full a.lf a.M).2.1 by show(b:Z)<(a.full:Z);omega)),bk aa];have g:ao (cE a.R a.full a.lf a.M).2.2.1 (b:Z)=Y (a.lf.getD b bq):=(by rw[fg];show a.lf[b]?=_;grind);have h:ao (cE a.R a.full a.lf a.M).1 (b:Z)=Y ((a.R.getD b 0:X):Z):=(by rw[fg];show(a.R.map λ(n:X)=>(n:Z))[b]?=_;grind);have x:=Ih a.R a.lf b;refine bE (P:=λd=>d=(a5 (kw (l.take c)++fd a.R a.lf (b+1)),())) ?_ (by grind [bu]);refine bz (y:=cE a.R a.full a.lf a.M) rfl (bz g ?_);rw[xu];cases r:a.lf.getD b bq with
  |false=>
   rw[bP,ax ab];grind [bu]
  |true=>
   rw[bG,au bn];refine bz (y:=cE a.R a.full a.lf a.M) rfl (bz h ?_);rw[da (by grind [fJ]),aC];refine bu.2 ?_;rw[<-iY,oq (kw (l.take c)++fd a.R a.lf b)];rfl
 rintro _ rfl;dsimp only;refine bE (P:=λd=>d=(a5 (kw l++ah6 F (L-F)),())) ?_ ?_
 ·refine bO (L-F) (λb d=>d=(((F+b:X):Z),a5 (kw l++ah6 F b),())) ?_ ?_ ?_
  ·grind
  ·rintro b _ i rfl;dsimp only;rw[aY (aK (aa:((F+b:X):Z)<(L:Z))),bk aa];rw[da (by grind [fJ]),bN];refine bu.2 ?_;rw[ak3,<-aiB,oq (kw l++ah6 F b),ak2];rfl
  rintro _ rfl;dsimp only;rw[a1 (aI (aa:¬(((F+(L-F):X):Z)<(L:Z))))];grind [bu]
 rintro _ rfl;dsimp only;have m:ay ((L:Z)-(F:Z))=((L-F:X):Z):=(by grind [cL]);rw[m];refine bz (y:=(L-F,rows.length)) ?_ ?_
 ·simp_all [au,bc,Ew,g9]
 dsimp only;rw[cA,da (by grind [fJ]),bN];grind [bh,fJ,bu]
section
def NH (R:ahY) (lf:ahV) (a:X):(fd R lf a).length=(eT lf a).length:=by rw[Ef,ff]
theorem WE (R:ahY) (lf:ahV) (d:a<b) (h:lf.getD a bq=bp):(fd R lf b)[(eT lf a).length]?=Y (R.getD a 0):=by obtain⟨e,c⟩:=Ig R lf (a+1) (b-(a+1));rw[(aa:a+1+(b-(a+1))=b)] at c;simp_all [xu,au,iY,pz,NH,bc,oM]
theorem Ev {R:ahY} (h:R[a]?=Y b):(a5 R)[a]?=Y (b:Z):=by show(R.map λ(c:X)=>(c:Z))[a]?=_;grind
theorem Ji {R:ahY} (i:R.Nodup) (j:R.length<=1000) (h:a∈R):zg (a5 R,(a:Z),())=Y (((R.idxOf a:X):Z),())/\R[R.idxOf a]?=Y a:=by have b:R[R.idxOf a]?=Y a:=(by grind);refine⟨VU (by grind [fJ]) (Ev b) λc k e=>?_,b⟩;have f:c<R.length:=(by grind);have d:=Ev (ba f);rw[d] at e;have g:R[c]=a:=(by grind);grind
section
variable {R:ahY} {full:X} {lf:ahV} {h:X->X->ga}
theorem Wp (A:R.Nodup) (E:R.length<=1000) {c:ahV} {e:aV} (t:iW m a c j e) (ds:∀b∈e.rows,b∈R) {g:X->X->ahT} (cs:∀b d,cP (g b d)):Ck (cE R full lf (fP R λb d=>az (g b d)),Y (cE m a c j),())=Y (cE R full lf (fP R λb d=>if b∈e.rows/\d∈e.rows then az (cK (g b d) (e.s b d)) else az (g b d)),()):=by
 have d7:=t.sm;have ek:=t.ll;have av:=t.rows;have dl:e.rows.Nodup:=(by rw[av];unfold fd;rw[akc,List.pairwise_map];refine(anG ?_ ((al7 (n:=m.length)).sublist List.filter_sublist));intro d4 d5 B C bx a0;exact bx ((t.inj (ai3.1 (anl.1 B).1) (ai3.1 (anl.1 C).1)).1 a0));have F:∀b,b<m.length->c.getD b bq=bp->m.getD b 0∈R:=λb k o=>ds _ (t.mem k o);have M:al (cE m a c j).1=(m.length:Z):=(by rw[bh];exact b3 _ (fJ _));have c1:∀b,b<m.length->ao (cE m a c j).1 (b:Z)=Y ((m.getD b 0:X):Z):=λb k=>(by rw[fg];show(a5 m)[b]?=_;grind [Ev,bS]);have V:∀b,b<m.length->ao (cE m a c j).2.2.1 (b:Z)=Y (c.getD b bq):=λb k=>(by rw[fg];show c[b]?=_;grind);unfold Ck;refine bQ.1 ?_;dsimp only;refine bz (y:=cE m a c j) rfl ?_;rw[M,h9 aa,bN];refine bz (y:=cE m a c j) rfl ?_;generalize O:cE R full lf (fP R λb d=>az (g b d))=z;generalize d8:(λb=>if c.getD b bq=bp then(R.idxOf (m.getD b 0):Z) else 0)=l;refine bE (P:=λp=>p=(z,aB m.length l,())) ?_ ?_
 ·refine bO m.length (λb p=>p=((b:Z),z,aB m.length (λh=>if h<b then l h else 0),())) ?_ ?_ ?_
  ·grind [jb]
  rotate_left
  ·rintro _ rfl;simp_all [c9,au,bu,a1,aI,aB]
  rintro b _ k rfl;dsimp only;rw[M,aY (aK (aa:(b:Z)<(m.length:Z))),bk aa];refine bE (P:=λp=>p=(z,aB m.length (λh=>if h<b+1 then l h else 0),())) ?_ (by grind [bu]);refine bz (c1 b k) (bz (y:=cE m a c j) rfl (bz (V b k) ?_));have an:∀J,J=l b->aB m.length (eB (λh=>if h<b then l h else(0:Z)) b J)=aB m.length λh=>if h<b+1 then l h else 0:=λJ fl=>c9 λh c2=>by
   by_cases g:h=b
   ·simp_all [gI,au]
   rw[hb _ _ g];omega
  cases o:c.getD b bq with
  |true=>
   rw[bG];have bl:z.1=a5 R:=(by rw[<-O];rfl);refine bz (by rw[bl];exact(Ji A E (F b k o)).1) ?_;dsimp only;rw[FF _ k,an _ (by grind)];grind [bu]
  |false=>
   rw[bP];refine bu.2 ?_;have a3:l b=0:=(by grind);have:=an 0 a3.symm;rw[<-this];have:(aB m.length λh=>if h<b then l h else(0:Z))=aB m.length (eB (λh=>if h<b then l h else(0:Z)) b 0):=c9 λh c2=>by
    by_cases g:h=b
    ·simp_all [gI,ax]
    grind [hb]
   grind
 rintro _ rfl;subst O;dsimp only;generalize co:(λb d=>az (cK (g b d) (e.s b d)))=q;generalize cv:(λb d=>az (g b d))=r;have d9:(λb d=>if b∈e.rows/\d∈e.rows then az (cK (g b d) (e.s b d)) else az (g b d))=gM e.rows q r e.rows.length 0:=(by grind [G5]);have ap:e.rows.length=(eT c m.length).length:=(by rw[av,NH]);have T:al (aB m.length l)=(m.length:Z):=(by rw[bh,cY]);have I:∀b,b<m.length->c.getD b bq=bp->∃el:(eT c b).length<e.rows.length,e.rows[(eT c b).length]=m.getD b 0:=λb k o=>(by have d6:=WE m c k o;grind);refine bE (P:=λp=>p=(cE R full lf (fP R (gM e.rows q r e.rows.length 0)),())) ?_ (by grind [bu]);refine bO m.length (λb p=>p=((b:Z),cE R full lf (fP R (gM e.rows q r (eT c b).length 0)),aB m.length l,())) ?_ ?_ ?_
 ·rw[show(eT c 0).length=0 from rfl,G9];rfl
 rotate_left
 ·rintro _ rfl;dsimp only;rw[T,a1 (aI (aa:¬(m.length:Z)<(m.length:Z))),ap];grind [bu]
 rintro b _ k rfl;dsimp only;rw[T,aY (aK (aa:(b:Z)<(m.length:Z))),bk aa];refine bE (P:=λp=>p=(cE R full lf (fP R (gM e.rows q r (eT c (b+1)).length 0)),aB m.length l,())) ?_ (by grind [bu]);refine bO m.length (λd p=>p=((d:Z),cE R full lf (fP R (gM e.rows q r (eT c b).length (if c.getD b bq=bp then(eT c d).length else 0))),aB m.length l,())) ?_ ?_ ?_
 ·simp_all [eT]
 rotate_left
 ·rintro _ rfl;dsimp only;rw[a1 (aI (aa:¬(m.length:Z)<(m.length:Z)))];refine bu.2 ?_;rw[Ee];by_cases o:c.getD b bq=bp
  ·rw[au o,au o,jQ,pB,<-ap];rw[G8 (I b k o).1]
  grind
 rintro d _ u rfl;dsimp only;rw[aY (aK (aa:(d:Z)<(m.length:Z))),bk aa];refine bE (P:=λp=>p=(cE R full lf (fP R (gM e.rows q r (eT c b).length (if c.getD b bq=bp then(eT c (d+1)).length else 0))),aB m.length l,())) ?_ (by grind [bu]);generalize N:fP R (gM e.rows q r (eT c b).length (if c.getD b bq=bp then(eT c d).length else 0))=w;refine bz (y:=(c.getD b bq&&c.getD d bq,cE R full lf w,aB m.length l,())) ?_ ?_
 ·refine ai (y:=cE m a c j) rfl (ai (V b k) ?_);cases o:c.getD b bq with
  |true=>
   grind
  |false=>
   grind
 dsimp only;by_cases o:c.getD b bq=bp
 rotate_left
 ·simp_all [ax,bu,alo,bP]
 by_cases v:c.getD d bq=bp
 rotate_left
 ·simp_all [Ee,ax,bu,Bool.and_false,bP]
 rw[o,v,akE,bG];obtain⟨B,Q⟩:=I b k o;obtain⟨C,U⟩:=I d u v;rw[ca o] at N;obtain⟨_,G⟩:=Ji A E (F b k o);obtain⟨_,H⟩:=Ji A E (F d u v);have S:l b=((R.idxOf (m.getD b 0):X):Z):=(by grind);have ci:l d=((R.idxOf (m.getD d 0):X):Z):=(by grind);have eq:=(aiF.1 G).1;have ex:=(aiF.1 H).1;generalize R.idxOf (m.getD b 0)=d1 at*;generalize R.idxOf (m.getD d 0)=p at*;obtain⟨d2,x,fp,dc⟩:=Fo (gM e.rows q r (eT c b).length (eT c d).length) G H;have D:=J2 A (gM e.rows q r (eT c b).length (eT c d).length) G H (q (m.getD b 0) (m.getD d 0)) x;have K:=G6 (f:=q) (g:=r) B C;rw[Q,U] at K;rw[<-K] at D;have L:=G7 (f:=q) (g:=r) dl B C;rw[Q,U] at L;rw[L] at dc;have em:w.length=R.length:=(by grind [J1]);rw[N] at x D;have ad:=eS (n:=w.length) (i:=d1) aa;have am:=eS (n:=d2.length) (i:=p) aa;obtain⟨d3,d0,fn⟩:=t.ent b d k u o v;have ce:=L4 (cs (m.getD b 0) (m.getD d 0)) (t.okd _ (t.mem k o) _ (t.mem u v));subst co cv;have a4:(cE R full lf w).2.2.2.1=w:=rfl;rw[xS _ k,a4,S];refine bz ad ?_;rw[xS _ u,xS _ k,S];refine bz ad ?_;rw[xS _ u,ci,gq x,bN];refine bz am ?_;rw[gq x,gq dc,bN];refine bz (y:=cE m a c j) rfl (bz (y:=d3) (by rw[fg];exact d0) (bz (y:=az (e.s (m.getD b 0) (m.getD d 0))) (by grind [fg]) (bz ce ?_)));dsimp only;refine bz am ?_;rw[gq x,gq dc];refine bu.2 ?_;dsimp only;rw[D,Ee,ca v,aiz,akd,ca bn];rfl
end
end
theorem Xp (b:∀a∈h,0<=a):a5 (h.map aiv)=h:=by
 unfold a5;rw[oJ]
 conv=>rhs;rw[<-List.map_id h]
 refine ia λa c=>?_;grind
theorem Nh (c:X->X) (a:X) (b:ahY):(nE c a b).Perm (a::b):=by grind [anm,nE]
theorem QP (c:X->X):∀(b a:ahY),(b.foldl (λa p=>nE c p a) a).Perm (b++a)
 |[],a=>akb _
 |p::b,a=>by rw[ake];refine(QP c b _).trans ?_;grind [List.perm_middle,akD,Nh]
def ada (b:X->X) (a:ahY):(mG b a).Perm a:=by have:=QP b a [];rwa[mN] at this
theorem VZ (j:m.Pairwise λb c=>g b<g c) (o:∀b∈m,g b≠g a):(nE g a m).Pairwise λb c=>g b<g c:=by
 unfold nE;have k:∀b∈m.takeWhile (λb=>br (g b<g a)),g b<g a:=λb d=>of_decide_eq_true (Ix (p:=λb=>br (g b<g a)) d);have l:∀b∈m.dropWhile (λb=>br (g b<g a)),g a<g b:=by
  intro b d;have i:m.dropWhile (λb=>br (g b<g a))≠[]:=List.ne_nil_of_mem d;have h:=List.head_dropWhile_not (λb=>br (g b<g a)) i;rw[decide_eq_false_iff_not] at h;have n:(m.dropWhile λb=>br (g b<g a)).Pairwise λb c=>g b<g c:=j.sublist (ann _);have q:∀c∈m.dropWhile (λb=>br (g b<g a)),c∈m:=λc f=>(ann _).subset f;generalize m.dropWhile (λb=>br (g b<g a))=e at*;cases e with
  |nil=>cases d
  |cons c e=>
   grind [ajR]
 grind [ajR,anm]
theorem QQ {b:X->X}:∀{e d:ahY},d.Pairwise (λa c=>b a<b c)->(∀a∈d,∀c∈e,b a≠b c)->e.Pairwise (λa c=>b a≠b c)->(e.foldl (λd p=>nE b p d) d).Pairwise λa c=>b a<b c
 |[],d,f,_,_=>f
 |p::e,d,f,i,g=>by rw[ake];rw[mQ] at g;refine QQ (VZ f λa h=>i a h p ac) (λa h c j=>?_) g.2;grind [Nh]
theorem QL {e:X->X}:∀{a b:ahY},a.Perm b->a.Pairwise (λx d=>e x<e d)->b.Pairwise (λx d=>e x<e d)->a=b
 |[],b,c,_,_=>c.nil_eq
 |x::a,[],c,_,_=>absurd c.length_eq ac
 |x::a,d::b,c,f,g=>by rw[mQ] at f g;have h:x=d:=(by grind);subst h;rw[QL (List.perm_cons x|>.1 c) f.2 g.2]
theorem oP.key (a:Z->Z):oP λd e=>br (a d<a e):=⟨λb c g=>by grind,λb c f h i=>by grind⟩
def V0 (c:ahZ) (a b:Z) (d:bv aA) (e:bv eE):GZ (c,a,b,(d,e,()),())=D7 (λf g=>uw (f,g,d,e,())) c a b:=rfl
def aa1 (a:ahZ) (e:Z) (c:bv aA) (d:bv eE) (i:a.length<=12) {b:ahZ×bt} (f:D7 (λg h=>uw (g,h,c,d,())) a 0 (a.length:Z)=Y b):CQ (a,0,(a.length:Z),e,(c,d,()),())=Y b:=by obtain⟨b,_⟩:=b;unfold CQ;dsimp only;rw[Ei];dsimp only;rw[aY (aK (show ay ((a.length:Z)-0)<=12 by rw[Int.sub_zero,cL aa aa];omega)),V0,f];rfl
def Tw (i:∀c∈m,c<a) {d:X} (e:b<m.length) (f:d<m.length):uw ((b:Z),(d:Z),Y (aB a λc=>(g c:Z)),Y (a5 m,h,()),())=Y (fF (g m[b]:Z) (g m[d]:Z),()):=by unfold uw;refine ai (y:=aB a λc=>(g c:Z)) rfl (ai (y:=(a5 m,h,())) rfl (ai (mZ e) (ai (rp (i _ (cR e))) ?_)));refine ai (y:=aB a λc=>(g c:Z)) rfl (ai (y:=(a5 m,h,())) rfl (ai (mZ f) (ai (rp (i _ (cR f))) ?_)));exact ai (BN _ _) rfl
theorem Tx {a:Z}:fF n a<0↔n<a:=by grind [fF]
theorem ac4 {n:X} {f:X->X} {rows:ahY} (N:∀g∈rows,g<n) (M:rows.length<=12) (o:rows.Pairwise λd c=>f d≠f c) (w:ahZ):∃b:ahY,CN (a5 (bI rows.length),(Y (aB n λg=>(f g:Z)),Y (a5 rows,w,()),()),())=Y (a5 b,())/\(∀a∈b,a<rows.length)/\b.length=rows.length/\b.map (λa=>rows.getD a 0)=mG f rows:=by
 have s:(a5 (bI rows.length)).length=rows.length:=(by rw[fJ,mP]);obtain⟨⟨b,⟨⟩⟩,G,y,C,B,e⟩:=VX (cmp:=λh x=>uw (h,x,Y (aB n λg=>(f g:Z)),Y (a5 rows,w,()),())) (oP.key λh=>(f (rows.getD h.toNat 0):Z)) (a5 (bI rows.length)) (by
  intro h x j I;obtain⟨d,l,rfl⟩:=eY.1 j;obtain⟨c,m,rfl⟩:=eY.1 I;simp_all [lX,ba,Tx,aip,Tw,ig]) aa
 dsimp only at C e;obtain⟨c,m⟩:=KD rows.length aa;have P:b=a5 (b.map aiv):=(Xp λh j=>by
  obtain⟨Q,_,rfl⟩:=eY.1 (e.mem_iff.1 j);omega).symm
 have F:(b.map aiv).Perm (bI rows.length):=(by have:=e.map aiv;rwa[show(a5 (bI rows.length)).map aiv=bI rows.length by simp[a5,Function.comp_def]] at this);have D:∀a∈b.map aiv,a<rows.length:=λa i=>ai3.1 (F.mem_iff.1 i);have E:(b.map aiv).map (λa=>rows.getD a 0)=mG f rows:=(by have J:((bI rows.length).map λa=>rows.getD a 0)=rows:=(by refine List.ext_getElem? λa=>?_;grind);have k:((b.map aiv).map λa=>rows.getD a 0).Perm rows:=(by grind);have t:((b.map aiv).map λa=>rows.getD a 0).Pairwise λd c=>f d≠f c:=(k.symm.pairwise o λz=>z.symm);refine QL (k.trans (ada f rows).symm) ?_ (QQ akr (λd l=>by cases l) o);rw[ah1] at t|-;intro u v p r q;have O:b.length=rows.length:=(by rw[e.length_eq,s]);have K:=t u v p r q;simp only[cm] at p r;have A:=B u v q aa;rw[decide_eq_false_iff_not] at A;have L:∀a,(i:a<b.length)->y a=b[a]:=λa i=>(by grind [aiL,jl,bS,aB,a5,bI]);grind);refine⟨b.map aiv,?_,D,by rw[cm,e.length_eq,s],E⟩;unfold CN;have H:aL (al (a5 (bI rows.length)))=(rows.length:Z):=(by grind [Km,bh]);dsimp only;rw[H];refine ai m ?_;dsimp only;rw[bh];refine ai (aa1 _ c _ _ aa G) ?_;grind
def hT (a:m6):eE:=(a5 a.1,a.1.map a.2,())
theorem aa9 (bl:h.length=a) (eq:a<=12) (F:(c.flatMap a8.cF).Perm (bI a)) (G:∀o∈c,tS (bI a) o) (del:Z) (co:bv (Z×((bm aA×bt)×(bm (bv (bm (Z×cV)×X))×bt)))):Cv (Y (co,(a5 (c.flatMap a8.cF),(c.map (λo=>(o.cF.length:Z)),(c.flatMap (·.d),((c.flatMap b4).map hT,(del,())))))),h,())=Y (rf h c del,()):=by
 obtain⟨fs,ft,fz⟩:=AF G;have T:(c.flatMap a8.cF).length=a:=(by rw[F.length_eq,ai2]);have d6:(c.flatMap a8.cF).Nodup:=F.nodup_iff.2 al7;have I:∀g,g∈c.flatMap a8.cF↔g<a:=λg=>(by rw[F.mem_iff,ai3]);have C:∀t∈c.flatMap b4,t.1.Nodup/\∀q∈t.1,q<a:=λt u=>(by obtain⟨o,N,u⟩:=al8.1 u;obtain⟨m,_,rfl⟩:=List.mem_map.1 u;exact⟨(G o N).nd,λq x=>ai3.1 ((G o N).sub q x)⟩);unfold Cv rf;refine bQ.1 ?_;dsimp only;generalize d5:c.flatMap a8.cF=k at*;generalize d3:c.flatMap b4=j at*;generalize c.map (λo=>(o.cF.length:Z))=jw;generalize c.flatMap (·.d)=v;rw[show al h=(a:Z) by rw[bh,bl],h9 aa,bN,bN,bN,bN,bN];dsimp only;have U:al (a5 k)=(a:Z):=(by rw[bh,fJ,T]);refine bE (P:=λo=>o=(([],([],([],([],([],([],((0:Z),()))))))),aB a (λg=>(k.idxOf g:Z)),(k.map (λg=>h.getD g 0),(jw,(v,([0],(([]:aA),(([]:aA),(del,()))))))),())) ?_ ?_
 ·refine bO a (λb o=>o=((b:Z),([],([],([],([],([],([],((0:Z),()))))))),aB a (λg=>if g∈k.take b then(k.idxOf g:Z) else 0),((k.take b).map (λg=>h.getD g 0),(jw,(v,([0],(([]:aA),(([]:aA),(del,()))))))),())) ?_ ?_ ?_
  ·grind [jb,c9]
  ·rintro b _ B rfl;dsimp only;have M:b<k.length:=aa;rw[U,aY (aK (aa:(b:Z)<(a:Z))),bk aa];have bx:k[b]<a:=(I _).1 (b7 M);have a3:k.idxOf k[b]=b:=by
    grind
   refine bz (mZ M) ?_;rw[FF _ bx];refine bz (ho aa) ?_;rw[da (by grind),aC];refine bu.2 ?_;have aq:k.take (b+1)=k.take b++[k[b]]:=(by simp_all);have d1:(aB a (eB (λg=>if g∈k.take b then(k.idxOf g:Z) else 0) k[b] (b:Z)))=aB a λg=>if g∈k.take (b+1) then(k.idxOf g:Z) else 0:=by
    refine c9 λg ex=>?_;rw[aq];by_cases A:g=k[b]
    ·rw[A,gI,au (lq _ (gd.2 bn)),a3]
    grind [hb,ah4]
   grind
  rintro _ rfl;simp_all [c9,au,bu,a1,aI,fG,aB]
 rintro _ rfl;dsimp only;have em:∀m z,m<a->z<a->k.idxOf m=k.idxOf z->m=z:=λm z V d8 ds=>(by have S:=List.getElem_idxOf (List.idxOf_lt_length_iff.2 ((I m).2 V));grind);generalize am:(λg=>k.idxOf g)=i at*;have an:(λg=>(k.idxOf g:Z))=λg=>(i g:Z):=(by grind);have ek:∀g,k.idxOf g=i g:=λg=>(by rw[<-am]);rw[an];generalize k.map (λg=>h.getD g 0)=y;rw[bN];dsimp only;have J:al (j.map hT)=(j.length:Z):=(by grind);have ce:∀t∈j,t.1.length<=12:=λt u=>(by have:=(C t u).1.length_le_of_subset (l₂:=bI a) λq x=>ai3.2 ((C t u).2 q x);grind);have ad:∀r:bm m6,(∀t∈r,t∈j)->r.length<=100->(r.flatMap (gA i)).length<=10000/\(r.flatMap (ix i)).length<=10000:=λr S d2=>(by grind [DO,cm,rK,ix,gA]);refine bE (P:=λo=>o=(([],([],([],([],([],([],((0:Z),()))))))),(y,(jw,(v,(j9 (gA i) j,(j.flatMap (gA i),(j.flatMap (ix i),(del,()))))))),())) ?_ (by grind [bu]);refine bO j.length (λb o=>o=((b:Z),([],([],([],([],([],([],((0:Z),()))))))),aB a (λg=>(i g:Z)),(y,(jw,(v,(j9 (gA i) (j.take b),((j.take b).flatMap (gA i),((j.take b).flatMap (ix i),(del,()))))))),())) rfl ?_ ?_
 rotate_left
 ·rintro _ rfl;dsimp only;rw[J,a1 (aI (aa:¬(j.length:Z)<(j.length:Z))),cA];grind [bu]
 rintro b _ B rfl;dsimp only;rw[J,aY (aK (aa:(b:Z)<(j.length:Z))),bk aa];have K:=b7 B;have a4:j.take (b+1)=j.take b++[j[b]]:=(by simp_all);have ap:ao (j.map hT) (b:Z)=Y (hT j[b]):=(by grind [fg,bS]);obtain⟨c2,dl⟩:=ad (j.take b) (λt u=>ank u) (by grind);have w:=C _ K;have D:=ce _ K;have fn:(j9 (gA i) (j.take b)).length<=1000:=(by grind [cm,ai2,aib,j9]);have fl:=Ly (gA i) (j.take b) j[b];rw[a4];generalize j[b]=t at*;generalize j.take b=r at*;refine bz ap ?_;obtain⟨e,m⟩:=t;have D:e.length<=12:=D;have w:e.Nodup/\∀q∈e,q<a:=w;have ci:al (hT (e,m)).1=(e.length:Z):=(by rw[bh];exact b3 _ (fJ _));rw[ci,h9 aa,bN];have O:al (bJ e.length (0:Z))=(e.length:Z):=(by grind);generalize d9:((y,(jw,(v,(j9 (gA i) r,(r.flatMap (gA i),(r.flatMap (ix i),(del,()))))))):eG)=H;refine bE (P:=λo=>o=(([],([],([],([],([],([],((0:Z),()))))))),aB a (λg=>(i g:Z)),H,hT (e,m),a5 (bI e.length),())) ?_ ?_
 ·refine bO e.length (λq o=>o=((q:Z),([],([],([],([],([],([],((0:Z),()))))))),aB a (λg=>(i g:Z)),H,hT (e,m),aB e.length (λb=>if b<q then(b:Z) else 0),())) ?_ ?_ ?_
  ·grind [jb]
  ·rintro q _ x rfl;dsimp only;rw[O,aY (aK (aa:(q:Z)<(e.length:Z))),bk aa,FF _ x];refine bu.2 ?_;have:aB e.length (eB (λb:X=>if b<q then(b:Z) else 0) q (q:Z))=aB e.length λb=>if b<q+1 then(b:Z) else 0:=c9 λb _=>by
    by_cases A:b=q
    ·subst A;rw[gI,au aa]
    rw[hb _ _ A];omega
   grind
  rintro _ rfl;dsimp only;rw[O,a1 (aI (aa:¬(e.length:Z)<(e.length:Z)))];refine bu.2 ?_;have:(aB e.length λb:X=>if b<e.length then(b:Z) else 0)=a5 (bI e.length):=c9 λb B=>ca B;grind
 rintro _ rfl;dsimp only;obtain⟨s,cs,cv,c1,aJ⟩:=ac4 (n:=a) (f:=i) (rows:=e) w.2 D (by
  refine tI ?_ w.1;grind) (e.map m)
 refine bz cs ?_;dsimp only;have R:al (a5 s)=(e.length:Z):=(by rw[bh,fJ,c1]);have d4:∀p,p<s.length->(gA i (e,m))[p]?=Y (i (e.getD (s.getD p 0) 0):Z):=λp L=>(by grind [bS,gA]);have d7:∀p,p<s.length->(ix i (e,m))[p]?=Y (m (e.getD (s.getD p 0) 0)):=λp L=>(by grind [bS,ix]);have el:(gA i (e,m)).length=e.length:=(by grind [cm,rK,gA]);have fp:(ix i (e,m)).length=e.length:=(by grind [cm,rK,ix]);refine bE (P:=λo=>o=(([],([],([],([],([],([],((0:Z),()))))))),aB a (λg=>(i g:Z)),(y,(jw,(v,(j9 (gA i) r,(r.flatMap (gA i)++gA i (e,m),(r.flatMap (ix i)++ix i (e,m),(del,()))))))),())) ?_ ?_
 ·refine bO e.length (λp o=>o=((p:Z),([],([],([],([],([],([],((0:Z),()))))))),aB a (λg=>(i g:Z)),(y,(jw,(v,(j9 (gA i) r,(r.flatMap (gA i)++(gA i (e,m)).take p,(r.flatMap (ix i)++(ix i (e,m)).take p,(del,()))))))),hT (e,m),a5 s,())) ?_ ?_ ?_
  ·grind
  ·rintro p _ L rfl;dsimp only;have E:p<s.length:=aa;rw[R,aY (aK (aa:(p:Z)<(e.length:Z))),bk aa,qc E];have Q:=cv _ (b7 E);have av:ao (hT (e,m)).1 ((s[p]:X):Z)=Y ((e[s[p]]:X):Z):=mZ Q;have a0:ao (hT (e,m)).2.1 ((s[p]:X):Z)=Y (m e[s[p]]):=by
    rw[fg];show(e.map m)[s[p]]?=_;grind
   refine bz av ?_;rw[xS _ (w.2 _ (cR Q)),da (by grind),aC];refine bz a0 ?_;rw[da (by grind),aC];refine bu.2 ?_;have d0:e.getD (s.getD p 0) 0=e[s[p]]:=(by rw[lX (l:=s),ba E];grind);grind [aiB,ct]
  rintro _ rfl;dsimp only;rw[R,a1 (aI (aa:¬(e.length:Z)<(e.length:Z))),ch aa,ch aa];grind [bu]
 rintro _ rfl;dsimp only;rw[da (by grind),bN];grind [bh,bu]
section
theorem NJ (b:ahY):∀{a},a<=b.length->fd b (bJ b.length bp) a=b.take a:=by
 intro a
 induction a with
 |zero=>intro _;rfl
 |succ a c=>
  intro d;rw[xu,c aa,au (by grind),hN,ba aa,lX,ba aa];rfl
theorem iW.start {a:aV} (b:kP a) (g:a.rows.length<=1000):iW a.rows a.full (bJ a.rows.length bp) (fP a.rows λc d=>az (a.s c d)) a where
 ll:=qC ..
 nd:=b.nd
 sm:=g
 fl:=b.full
 rows:=by rw[NJ _ (bc _),hO]
 full:=by rw[NJ _ b.full,fU];have:=b.full;omega
 okd:=b.okd
 ent:=λc d e f _ _=>by obtain⟨j,h,_,i⟩:=Fo (λc d=>az (a.s c d)) (ba e) (ba f);grind
section
variable {G:ew} {l:bm dd} {n t:X} {L:X->aV} {ps:bm a8} {A:X->X->ahT}
theorem T6 (d:iF n l t):(gP l (t:Z)).drop (gm l t)=a5 (kL l t):=by
 refine hM λa=>?_;have c:(a5 (kL l t))[a]?=((kL l t)[a]?).map λ(b:X)=>(b:Z):=(by show((kL l t).map λ(b:X)=>(b:Z))[a]?=_;grind);rw[pA,c];unfold kL;rw[jg];by_cases e:gm l t+a<hC l t
 ·rw[d.get _ e,List.getElem?_range' aa];simp
 grind [ajE,al6,hC]
structure KK (n:X) (c:lp) (y:aV):Prop where
 r:iW c.R c.full c.lf c.M y
 len:c.R.length<=n
theorem SX (K:hW G l) (S:G.length=n) (av:t<l.length) (I:jP l n t L ps) (R:∀b d,cP (A b d)) (fs:n<=64) {w:X->lp} (J:∀e,e<t->KK n (w e) (L e)) {a3:bv (Z×((bm aA×bt)×(bm (bv (bm (Z×cV)×X))×bt)))} (bx:∀b d:X,b<n->d<n->w5 (a3,(b:Z),(d:Z),())=Y (az (A b d),())):Ci (a3,((be l t:Z),(be l (t+1):Z),gP l (t:Z),gn l t,()),(ez l t t).map (λe=>(w e).enc),())=Y (cE (hQ A l L t).rows (hQ A l L t).full (bJ (hQ A l L t).rows.length bp) (fP (hQ A l L t).rows λb d=>az ((hQ A l L t).s b d)),0,()):=by
 have q:=ajL K S av;have fn:l.length<=n:=(by have:=DR K;omega);have V:=yG A L t (l:=l);have T:∀b∈(hQ A l L t).rows,b<n:=λb m=>I.yF A q m;have d7:=I.BF A R q;have M:=(I.wl R q).nd;have d9:=q.wx;have fz:=q.own;have N:∀e∈ez l t t,e<t:=λe C=>(Ae.1 C).1;have ek:(ez l t t).length<=t:=(by grind [cz,air,ez]);have ds:(be l (t+1)-be l t)=gm l t:=rfl;have O:=acq (l:=(ez l t t).map w) (F:=be l t) (L:=be l (t+1)) (rows:=gP l (t:Z)) (par:=gn l t) (λe C=>by
  obtain⟨c,z,rfl⟩:=eY.1 C;have:=J c (N c z);exact⟨this.r.ll,this.r.fl,by have:=this.len;omega⟩) (by grind) aa aa (by have:=q.Oo;grind [hC]) (by have:=q.Bl;grind [hC])
 have co:kw ((ez l t t).map w)=(ez l t t).flatMap λe=>(L e).rows.take (L e).full:=(by unfold kw;rw[List.flatMap_map];refine ML λe C=>?_;exact(J e (N e C)).r.take.symm);rw[List.map_map,co,ds,T6 q] at O;have aq:a5 ((ez l t t).flatMap (λe=>(L e).rows.take (L e).full)++ah6 (be l t) (gm l t))++a5 (kL l t)=a5 (hQ A l L t).rows:=(by rw[<-oq,V.1];rfl);have a4:((ez l t t).flatMap (λe=>(L e).rows.take (L e).full)++ah6 (be l t) (gm l t)).length=(hQ A l L t).full:=V.2.symm;rw[aq,a4] at O;unfold Ci;refine bQ.1 ?_;refine bz O ?_;dsimp only;generalize d6:(hQ A l L t).rows=a at*;generalize eq:(hQ A l L t).full=j at*;have ce:al (a5 a)=(a.length:Z):=(by rw[bh,fJ]);rw[ce,a1 (aI (aa:¬(a.length:Z)>64)),h9 aa,bN,bN];generalize a0:bJ a.length ((bq,((bq,(([]:ahZ),())),((0:Z),()))):cV)=p;refine bE (P:=λi=>i=(cE a j (bJ a.length bp) (fP a λ_ _=>az (Y 0)),())) ?_ ?_
 ·refine bO a.length (λb i=>i=((b:Z),cE a j (aB a.length λc=>br (c<b)) (aB a.length λc=>if c<b then p else[]),())) ?_ ?_ ?_
  ·have x:(aB a.length λc=>br (c<0))=bJ a.length bq:=(by grind [c9,aiy,jb]);have E:(aB a.length λc=>if c<0 then p else[])=bJ a.length []:=(by simp_all [c9,ax,jb]);rw[x,E];rfl
  ·rintro b _ m rfl;dsimp only;rw[aY (aK (aa:(b:Z)<(a.length:Z))),bk aa,bN];have c1:(cE a j (aB a.length λc=>br (c<b)) (aB a.length λc=>if c<b then p else[])).2.2.1=aB a.length λc=>br (c<b):=rfl;rw[c1];refine bz (eS (by grind [cY])) ?_;rw[gq (jl m),hA];refine bz bn ?_;dsimp only;have c2:(cE a j (aB a.length λc=>br (c<b)) (aB a.length λc=>if c<b then p else[])).2.2.2.1=aB a.length λc=>if c<b then p else[]:=rfl
   rw[c2];refine bz (eS (by grind [cY])) ?_;rw[gq (jl m),hA];refine bz bn ?_;refine bu.2 ?_;have x:aB a.length (eB (λc=>br (c<b)) b bp)=aB a.length λc=>br (c<b+1):=c9 λc _=>by
    by_cases u:c=b
    ·grind [gI,ah3]
    rw[hb _ _ u,cx];omega
   have E:aB a.length (eB (λc=>if c<b then p else[]) b p)=aB a.length λc=>if c<b+1 then p else[]:=c9 λc _=>by
    by_cases u:c=b
    ·simp_all [gI,au]
    rw[hb _ _ u];grind
   rw[a0,x,E];rfl
  rintro _ rfl;dsimp only;rw[a1 (aI (aa:¬(a.length:Z)<(a.length:Z)))];refine bu.2 ?_;have x:(aB a.length λc=>br (c<a.length))=bJ a.length bp:=(by grind [c9,ah3,jb]);have E:(aB a.length λc=>if c<a.length then p else[])=fP a λ_ _=>az (Y 0):=(by have bl:(aB a.length λc=>if c<a.length then p else[])=aB a.length λ_=>p:=c9 λc z=>ca z;have H:p=a.map λ_=>az (Y 0):=(by rw[<-a0];exact(alY ..).symm);rw[bl,MA a λ_=>p,H];rfl);grind
 rintro _ rfl;dsimp only;generalize ex:bJ a.length bp=lf;refine bE (P:=λi=>i=(cE a j lf (fP a λb d=>az (ik A l t b d)),())) ?_ ?_
 ·generalize am:(λb d=>az (ik A l t b d))=h;generalize cv:(λ(_ _:X)=>az (Y 0))=k;have cs:fP a h=fP a (gM a h k a.length 0):=by
   rw[G5];simp_all [Q3,au]
  rw[cs];refine bO a.length (λb i=>i=((b:Z),cE a j lf (fP a (gM a h k b 0)),())) ?_ ?_ ?_
  ·rw[G9];rfl
  rotate_left
  ·rintro _ rfl;dsimp only;rw[a1 (aI (aa:¬(a.length:Z)<(a.length:Z)))];grind [bu]
  rintro b _ m rfl;dsimp only;rw[aY (aK (aa:(b:Z)<(a.length:Z))),bk aa];refine bE (P:=λi=>i=(cE a j lf (fP a (gM a h k b a.length)),())) ?_ (by grind [bu,G8]);refine bO a.length (λd i=>i=((d:Z),cE a j lf (fP a (gM a h k b d)),())) rfl ?_ ?_
  rotate_left
  ·rintro _ rfl;dsimp only;rw[a1 (aI (aa:¬(a.length:Z)<(a.length:Z)))];grind [bu]
  rintro d _ v rfl;dsimp only;rw[aY (aK (aa:(d:Z)<(a.length:Z))),bk aa];refine bE (P:=λi=>i=(cE a j lf (fP a (gM a h k b (d+1))),())) ?_ (by grind [bu]);have ft:=G7 (f:=h) (g:=k) M m v;have ap:=G6 (f:=h) (g:=k) m v;obtain⟨fT,Q,f0,dc⟩:=Fo (gM a h k b d) (bS m) (bS v);have H:=J2 M (gM a h k b d) (bS m) (bS v) (h a[b] a[d]) Q;rw[<-ap] at H;have fp:(fP a (gM a h k b d)).length=a.length:=J1 _ _;have d1:h a[b] a[d]=k a[b] a[d]->fP a (gM a h k b d)=fP a (gM a h k b (d+1)):=λel=>(by rw[ap];refine Q3 λd4 _ d5 _=>?_;grind);generalize d8:fP a (gM a h k b d)=D at*;have U:(cE a j lf D).1=a5 a:=rfl;have ci:(cE a j lf D).2.2.2.1=D:=rfl;rw[U,qc m,qc v];have dl:(if((a[d]:X):Z)<((a[b]:X):Z) then((a[d]:X):Z) else((a[b]:X):Z))=((min a[b] a[d]:X):Z):=aa;rw[dl];refine bz (y:=(br (be l t<=min a[b] a[d]/\min a[b] a[d]<be l (t+1)),cE a j lf D,())) ?_ ?_
  ·by_cases u:be l t<=min a[b] a[d]
   ·rw[aY (by grind)];rw[cx.2 (aa:((min a[b] a[d]:X):Z)<(be l (t+1):Z)↔be l t<=min a[b] a[d]/\min a[b] a[d]<be l (t+1))]
   grind
  dsimp only;by_cases u:be l t<=min a[b] a[d]/\min a[b] a[d]<be l (t+1)
  ·rw[aY (aK u),ci];have d3:az (A a[b] a[d])=h a[b] a[d]:=(by rw[<-am];dsimp only;unfold ik;grind);refine bz (eS aa) ?_;rw[U,qc m,qc v];refine bz (bx _ _ (T _ (b7 m)) (T _ (b7 v))) ?_;dsimp only;rw[gq Q,bN];refine bz (eS aa) ?_;rw[gq Q,gq dc,d3];refine bz bn ?_;refine bu.2 ?_;dsimp only;rw[H];rfl
  rw[a1 (aI u)];refine bu.2 ?_;rw[d1 (by rw[<-am,<-cv];dsimp only;unfold ik;grind)]
 rintro _ rfl;dsimp only;have em:∀B:ahY,(B.foldl (λo e=>o.plus (L e)) (jV A l L t)).rows=a:=λB=>(by simp_all [AD,jV]);have d0:∀(B:ahY) b d,cP ((B.foldl (λo e=>o.plus (L e)) (jV A l L t)).s b d):=λB=>ES L _ _ λb d=>by
  show cP (if _ then _ else _);split
  ·grind
  exact EN
 refine bE (P:=λi=>i=(cE a j lf (fP a λb d=>az ((hQ A l L t).s b d)),())) ?_ (by grind [bu]);have ad:al ((ez l t t).map λe=>(w e).enc)=((ez l t t).length:Z):=(by grind);refine bO (ez l t t).length (λc i=>i=((c:Z),cE a j lf (fP a λb d=>az ((((ez l t t).take c).foldl (λo e=>o.plus (L e)) (jV A l L t)).s b d)),())) rfl ?_ ?_
 rotate_left
 ·rintro _ rfl;dsimp only;rw[ad,a1 (aI (aa:¬((ez l t t).length:Z)<((ez l t t).length:Z))),cA];exact bu.2 bn
 rintro c _ z rfl;dsimp only;rw[ad,aY (aK (aa:(c:Z)<((ez l t t).length:Z))),bk aa];have an:=b7 z;refine bz (y:=(w (ez l t t)[c]).enc) (by grind [fg,bS]) ?_;have d2:∀b∈(L (ez l t t)[c]).rows,b∈a:=λb m=>(by have:=I.child A K S av an m;grind);have x:=Wp (full:=j) (lf:=lf) M aa (J _ (N _ an)).r d2 (g:=(((ez l t t).take c).foldl (λo e=>o.plus (L e)) (jV A l L t)).s) (d0 _);refine bz x ?_;refine bu.2 ?_;rw[ct,bS z,List.foldl_append];have:(λb d=>if b∈(L (ez l t t)[c]).rows/\d∈(L (ez l t t)[c]).rows then az (cK ((((ez l t t).take c).foldl (λo e=>o.plus (L e)) (jV A l L t)).s b d) ((L (ez l t t)[c]).s b d)) else az ((((ez l t t).take c).foldl (λo e=>o.plus (L e)) (jV A l L t)).s b d))=λb d=>az (((((ez l t t).take c).foldl (λo e=>o.plus (L e)) (jV A l L t)).plus (L (ez l t t)[c])).s b d):=(by funext b d;show _=az (if _ then _ else _);grind);simp_all
end
end
def xQ (l:Z->bv (cV×bt)) (r:bv c4) (f:aA) (q:cV):bv (eE×gh×Z×bt):=
 (loop (σ:=(Z×eE×eE×gh×bt)) (ρ:=((eE×eE×gh×bt)⊕(eE×gh×Z×bt))) (λ(e,h,a,d,_)=>
  bif br (e<al f) then
 (ao f e).bind λi=>
 (l i).bind λ(o,_)=>
 (so (o,q,0,())).bind λ(b,_)=>
 (ny (b,())).bind λ(p,_)=>
  bif !p then
 Y (.inr (.inr (a,[],233,()))) else
  r.bind λs=>
 (ao s.1 i).bind λc=>
 (cD ((a.1).length+([c]).length)).bind λ_=>
 (cD ((a.2.1).length+([b]).length)).bind λ_=>
 (jW (b,())).bind λ(g,_)=>
 (cD (d.length+([g]).length)).bind λ_=>
 Y (.inl (aP e,h,(((a.1++[c]),a.2).1,((((a.1++[c]),a.2).2.1++[b]),((a.1++[c]),a.2).2.2)),(d++[g]),())) else
 Y (.inr (.inl (h,a,d,())))) (0,([],([],())),([],([],())),[],())).bind λm=>match m with
 |.inl (_,j,k,_)=>(
 Y (j,k,0,()))
 |.inr n=>Y n
def abt (c:bv c4) (a:aA) (b:cV):GL (c,a,(),b,())=xQ (λd=>Cq (d,())) c a b:=rfl
def abu (e:bv c4) (c:aA) (d:cV) (a:bv (bv c4)) (b:ahT):GM (e,c,(a,b,()),d,())=xQ (λf=>Cp (f,a,b,())) e c d:=rfl
def abv (g:bv c4) (e:aA) (f:cV) (a:bv (bv (bv c4)×bt)) (b c:ahT) (d:bv gh):GN (g,e,(a,b,c,d,()),f,())=xQ (λh=>Cm (h,a,b,c,d,())) g e f:=rfl
def abw (g:bv c4) (e:aA) (f:cV) (a:bv (bv (bv c4)×bt)) (b c:ahT) (d:bv gh):GO (g,e,(a,b,c,d,()),f,())=xQ (λh=>Cn (h,a,b,c,d,())) g e f:=rfl
def qR (b:ahY) (a:ahY) (c:X->Z):eE:=(a5 (a.map λd=>b.getD d 0),a.map c,())
theorem EU {e:ahY} {lf:ahV} (z:e.length<=1000) {v:X->ahT} {c:ahT} (s:cP c) (p:∀b∈m,b<e.length/\cP (v b)/\r (b:Z)=Y (az (v b),())) (B:m.length<=1000):ae (xQ r (Y (cE e a lf j)) (a5 m) (az c)) λk=>((∀b∈m,bd (gr (v b) c 0)≠2047)/\k=(qR e m λb=>gr (v b) c 0,m.map (λb=>az (a6 (gr (v b) c 0))),0,()))\/((∃b∈m,bd (gr (v b) c 0)=2047)/\k.2.2.1=233):=by
 have i:al (a5 m)=(m.length:Z):=(by rw[bh,fJ]);unfold xQ;refine bE (P:=λf=>((∀b∈m,bd (gr (v b) c 0)≠2047)/\f=.inl (([],([],())),qR e m λb=>gr (v b) c 0,m.map (λb=>az (a6 (gr (v b) c 0))),()))\/((∃b∈m,bd (gr (v b) c 0)=2047)/\∃l,f=.inr (l,[],233,()))) ?_ ?_
 ·refine bO m.length (λd f=>(∀b∈m.take d,bd (gr (v b) c 0)≠2047)/\f=((d:Z),([],([],())),qR e (m.take d) λb=>gr (v b) c 0,(m.take d).map (λb=>az (a6 (gr (v b) c 0))),())) ⟨ac,bn⟩ ?_ ?_
  ·rintro d _ h ⟨g,rfl⟩;dsimp only;rw[i,aY (aK (aa:(d:Z)<(m.length:Z))),bk aa];have q:=b7 h;obtain⟨x,n,o⟩:=p _ q;have C:(m.take d).length<=1000:=(by grind);have t:m.take (d+1)=m.take d++[m[d]]:=(by simp_all);refine bz (mZ h) (bz o (bz (Ve n s) (bz (z2 (AI 0)) ?_)));dsimp only;by_cases w:bd (gr (v m[d]) c 0)=2047
   ·rw[aY (by grind)];grind [bu]
   rw[a1 (by grind)];refine bz (y:=cE e a lf j) rfl (bz (y:=((e.getD m[d] 0:X):Z)) ?_ ?_)
   ·rw[fg];exact Ev (by grind)
   have aq:(qR e (m.take d) λb=>gr (v b) c 0).1.length<=1000:=(by show(a5 _).length<=1000;grind [fJ,cm]);have u:(qR e (m.take d) λb=>gr (v b) c 0).2.1.length<=1000:=(by show((m.take d).map _).length<=1000;grind);rw[da (by grind),bN,da (by grind),bN];refine bz (p7 (AI 0)) ?_;dsimp only;rw[da (by grind),bN];refine bu.2 ⟨λb A=>?_,?_⟩
   ·grind
   unfold qR;rw[t,jh,jh,jh,oq];rfl
  rintro _ ⟨g,rfl⟩;dsimp only;rw[cA] at g;rw[i,a1 (aI (aa:¬(m.length:Z)<(m.length:Z))),cA];grind [bu]
 grind [bu]
section
def vP (c:X) (x:aV):Prop:=∀a:X,a=65536->∀b∈x.rows,∀d∈x.rows,cS a 3222 3072 c (x.s b d)
structure iG (R:ahY) (full:X) (lf:ahV) (E:X->X->ga) (x:aV) (c:X):Prop where
 r:iW R full lf (eF R.length E) x
 ex:vP c x
section
variable {R:ahY} {full:X} {lf lf':ahV} {E:X->X->ga} {x:aV} {c:X}
theorem iG.e (d:iG R full lf E x c) (f:a<R.length) (g:b<R.length) (h:lf.getD a bq=bp) (i:lf.getD b bq=bp):E a b=az (x.s (R.getD a 0) (R.getD b 0)):=by obtain⟨l,j,k⟩:=d.r.ent a b f g h i;grind [aiL,jl,eF]
theorem iW.rest {d:bm (bm ga)} (b:iW R full lf d x) {p:ahY} (k:∀a∈p,a<full) (h:∀a,a<R.length->lf'.getD a bq=(lf.getD a bq&&br (a∉p))) {i:X} (m:i<=R.length):fd R lf' i=(fd R lf i).filter λe=>br (e∉p.map λa=>R.getD a 0):=by
 have l:=b.fl;unfold fd;rw[List.filter_map,Bh];congr 1;refine py λa c=>?_;have c:=ig.1 c;rw[h a aa,Bool.and_comm];congr 1;show _=br (R.getD a 0∉p.map λa=>R.getD a 0);refine cx.2 (not_congr ?_);rw[eY];constructor
 ·grind
 rintro⟨j,g,f⟩;have n:=k j g;have:=(b.inj (i:=j) (j:=a) aa aa).1 f;grind
theorem iG.next (b:iG R full lf E x c) {p:ahY} (B:∀a∈p,a<full/\lf.getD a bq=bp) (A:p.Nodup) (z:lf'.length=lf.length) (o:∀a,a<R.length->lf'.getD a bq=(lf.getD a bq&&br (a∉p))) {E':X->X->ga} {c':X} (D:∀d e,d<R.length->e<R.length->lf'.getD d bq=bp->lf'.getD e bq=bp->E' d e=az ((x.elim (p.map λa=>R.getD a 0)).s (R.getD d 0) (R.getD e 0))) (C:vP c' (x.elim (p.map λa=>R.getD a 0))):iG R full lf' E' (x.elim (p.map λa=>R.getD a 0)) c':=by
 have m:=b.r.fl;have f:∀a∈p,a<full:=λa y=>(B a y).1;refine⟨⟨z.trans b.r.ll,b.r.nd,b.r.sm,m,?_,?_,λd _ e _=>kT _ _,λd e w F J K=>?_⟩,C⟩
 ·rw[b.r.rest f o (bc _),<-b.r.rows];rfl
 ·rw[b.r.rest f o m];show x.full-(p.map _).length=_;have u:(p.map λa=>R.getD a 0).Nodup:=by
   rw[akc,oK];refine tI ?_ A;intro k l h j i g;have q:=f k h;have t:=f l j;exact i ((b.r.inj aa aa).1 g)
  have v:(fd R lf full).Nodup:=(by unfold fd;rw[akc,oK];refine tI ?_ ((vZ (n:=full)).sublist tL);intro k l h j i g;have q:=ig.1 (hq.1 h).1;have t:=ig.1 (hq.1 j).1;exact i ((b.r.inj aa aa).1 g));have G:=DL v u (λL H=>by
   grind [Ii])
  have I:=b.r.full;omega
 refine⟨aB R.length (E' d),jl w,?_⟩;grind [jl]
theorem LR {b:X->Z}:qR R m (λa=>b (R.getD a 0))=hT (m.map (λa=>R.getD a 0),b):=by simp_all [oJ,qR,hT]
theorem xq {lf:ahV}:a∈eT lf b↔a<b/\lf.getD a bq=bp:=by grind [eT]
def NI (lf:ahV) (a:X):(eT lf a).Nodup:=(vZ (n:=a)).sublist tL
end
theorem aeJ (b:bd n≠2047):a6 n=Y 0↔k5 n=0:=by
 constructor
 ·intro a;rw[rB b] at a;have a:=gC a;have d:(2:Z)^(kA n+65536).toNat≠0:=ano (mM ab);have c:j3 n=0:=(Int.mul_eq_zero.1 a).resolve_right d;have g:=uR n;have f:0<=fy n:=aa;unfold k5;rw[ax b];have e:bd n=0/\fy n=0:=by
   unfold j3 at c;omega
  omega
 intro a;unfold k5 at a;rw[ax b] at a;by_cases h:bd n=0/\fy n=0
 ·simp_all [pq,au,rB,j3]
 omega
end
section
section
variable {R:ahY} {full:X} {lf lf':ahV} {E:X->X->ga} {x:aV} {c:X}
theorem UP (c:ahY) (b:X->Z):c.map (λa=>az (a6 (b a)))=(c.map λa=>a6 (b a)).map az:=by simp_all
theorem Qv {l:ahY} {f:X->Z} {d:ahT} (b:cP d) (g:l.length<=1000):oZ (l.map (λa=>az (a6 (f a))),az d,())=Y (l.map (λa=>az (cU (a6 (f a)) d)),()):=by
 rw[UP,acH (λc e=>by
  grind [gO]) b (by grind),oJ]
 rfl
theorem acU (i:iG R full lf E x c) (d7:c+4<1048576) {p:X} (fn:p<full) (H:lf.getD p bq=bp) (P:lf'.length=lf.length) (O:∀a,a<R.length->lf'.getD a bq=(lf.getD a bq&&br (a∉[p]))) (an:x.fin (R.getD p 0)):ae (Co (cE R full lf' (eF R.length E),(p:Z),x.bi (R.getD p 0) (R.getD p 0),())) λq=>
  ((x.eM [R.getD p 0]).fin/\∃E',q=(cE R full lf' (eF R.length E'),(x.eM [R.getD p 0]).c3.map hT,0,())/\iG R full lf' E' (x.elim [R.getD p 0]) (c+4))\/(¬(x.eM [R.getD p 0]).fin/\q.2.2.1=233/\q.2.1=[]):=by
 have ek:=i.r.fl;have A:=i.r.sm;have I:p<R.length:=aa;have a0:lf'.length=R.length:=P.trans i.r.ll;generalize C:R.getD p 0=b at*;have G:bd (x.bi b b)≠2047:=(by have:=an (R.getD p 0) (i.r.mem I H);grind);have j:∀a∈eT lf' R.length,a<R.length/\lf.getD a bq=bp/\a≠p:=λa h=>(by obtain⟨L,d5⟩:=xq.1 h;grind);have z:(eT lf' R.length).length<=1000:=eD (If _ _) aa;have a3:=NI lf' R.length;have bl:(eT lf' R.length).map (λa=>R.getD a 0)=x.rows.filter λd=>br (d∉[b]):=(by have:=i.r.rest (lf':=lf') (p:=[p]) (λa h=>by grind) O (bc _);rw[<-i.r.rows] at this;grind [Ef,anp]);have U:∀o,(x.eM [b]).rows=(eT lf' R.length).map (λa=>R.getD a 0)/\(o∈(x.eM [b]).l↔o=λd=>if k5 (x.bi b b)=0 then 0 else gr (x.s d b) (a6 (x.bi b b)) 0):=λo=>⟨bl.symm,by
  show o∈[_]↔_;grind⟩
 generalize D:(λd=>if k5 (x.bi b b)=0 then(0:Z) else gr (x.s d b) (a6 (x.bi b b)) 0)=f at U;have M:∀d,f d=if k5 (x.bi b b)=0 then(0:Z) else gr (x.s d b) (a6 (x.bi b b)) 0:=λd=>by rw[<-D]
 have a4:(x.eM [b]).l=[f]:=(by rw[<-D];rfl);have d9:(x.eM [b]).c3=[((eT lf' R.length).map (λa=>R.getD a 0),f)]:=(by simp_all [b4]);have ap:(x.eM [b]).fin↔∀a∈eT lf' R.length,bd (f (R.getD a 0))≠2047:=by
  unfold a8.fin;rw[a4,<-(U f).1.symm];constructor
  ·exactλav a h=>av f ac _ (eY.2 ⟨a,h,bn⟩)
  grind
 obtain⟨V,am⟩:=Ez G;have F:cP (a6 (x.bi b b)):=gO _;unfold Co;dsimp only;refine bz (PU a0 A) ?_;dsimp only;refine bz (p7 (x.k8 _ _)) ?_;dsimp only;refine bz (o1 F) ?_;dsimp only;have bx:(xY (a6 (x.bi b b))==0)=br (k5 (x.bi b b)=0):=(by rw[gD,cx,<-aeJ G,am];show gB V=0↔_;grind [ajd,gB]);rw[bx];have fp:(∀a∈eT lf' R.length,bd (f (R.getD a 0))≠2047)->
  ae ((oZ ((eT lf' R.length).map (λa=>az (a6 (f (R.getD a 0)))),az (a6 (x.bi b b)),())).bind λ(d0,_)=>
   (pV (cE R full lf' (eF R.length E),a5 (eT lf' R.length),d0,(eT lf' R.length).map (λa=>az (a6 (f (R.getD a 0)))),())).bind λ(ds,_)=>
   Y (ds,[qR R (eT lf' R.length) λa=>f (R.getD a 0)],(0:Z),())) λq=>((x.eM [b]).fin/\∃E',q=(cE R full lf' (eF R.length E'),(x.eM [b]).c3.map hT,0,())/\iG R full lf' E' (x.elim [b]) (c+4))\/(¬(x.eM [b]).fin/\q.2.2.1=233/\q.2.1=[]):=by
  intro t;refine bz (Qv F z) ?_;dsimp only;have ce:=QR (R:=R) (full:=full) (lf:=lf') (E:=E) (l:=eT lf' R.length) (s:=λd g=>x.s (R.getD d 0) (R.getD g 0)) (u:=λa=>cU (a6 (f (R.getD a 0))) (a6 (x.bi b b))) (v:=λa=>a6 (f (R.getD a 0))) A (λa h=>(j a h).1) a3 z
   (λd k g m=>i.e (j d k).1 (j g m).1 (j d k).2.1 (j g m).2.1) (λd k g m=>i.r.okd _ (i.r.mem (j d k).1 (j d k).2.1) _ (i.r.mem (j g m).1 (j g m).2.1)) (λd _=>kE _ _) (λd _=>gO _)
  refine bz ce ?_;refine bu.2 (.inl ⟨ap.2 t,(λd g=>if d∈eT lf' R.length/\g∈eT lf' R.length then az (cK (x.s (R.getD d 0) (R.getD g 0)) (c7 (cU (cU (a6 (f (R.getD d 0))) (a6 (x.bi b b))) (a6 (f (R.getD g 0)))))) else E d g),?_,?_⟩)
  ·grind [LR]
  have N:∀d J,nz (x.gF [b]) (x.lc [b]) d J=h3 (f d) (x.bi b b) (f J):=λd J=>(by rw[<-D];rfl);have eq:=i.next (lf':=lf') (p:=[p]) (λa h=>by grind) ac P O (E':=λd g=>if d∈eT lf' R.length/\g∈eT lf' R.length then az (cK (x.s (R.getD d 0) (R.getD g 0)) (c7 (cU (cU (a6 (f (R.getD d 0))) (a6 (x.bi b b))) (a6 (f (R.getD g 0)))))) else E d g) (c':=c+4) (λd g k m cv c1=>by
   rw[au ⟨xq.2 ⟨k,cv⟩,xq.2 ⟨m,c1⟩⟩,r0,C];show _=az (cK _ (c7 (nz (x.gF [b]) (x.lc [b]) _ _)));rw[N];rfl) (by
   rw[r0,C];intro K B d k g m;have el:=k;have em:=m;change d∈x.rows.filter _ at k;change g∈x.rows.filter _ at m;have Q:∀o,o∈x.rows.filter (λd=>br (d∉[b]))->o∈x.rows/\bd (f o)≠2047:=λo d6=>(by grind);obtain⟨i1,ci⟩:=Q d k;obtain⟨co,cs⟩:=Q g m;show cS K 3222 3072 (c+4) (cK _ (c7 (nz (x.gF [b]) (x.lc [b]) _ _)));rw[N];exact(cS.sub B (i.ex K B d i1 g co) (akf B ci G cs) aa).1.mono (bc _) (bc _) aa)
  grind
 by_cases w:k5 (x.bi b b)=0
 ·rw[aY (aK w)];have ad:∀d,f d=0:=λd=>(by rw[M d,ca w]);have L:qV (1,())=Y (az (jn 1),()):=zI ab ab;refine bz L ?_;dsimp only;rw[abt];have S:∀a:X,gr (Y 0) (jn 1) 0=0:=λ_=>by
   rw[Nj (n:=1) ab bn];unfold gr;grind
  refine bE (EU (v:=λ_=>Y 0) A (xk 1) (λa h=>⟨(j a h).1,EN,?_⟩) z) ?_
  ·unfold Cq;dsimp only;exact ai (zI ab ab) rfl
  rintro q (⟨t,rfl⟩|⟨⟨a,h,t⟩,_⟩)
  ·dsimp only;rw[a1 (by rfl)];have aq:(λa:X=>gr (Y 0) (jn 1) 0)=λa=>f (R.getD a 0):=(by simp_all);have d4:(eT lf' R.length).map (λa=>az (a6 (gr (Y 0) (jn 1) 0)))=(eT lf' R.length).map λa=>az (a6 (f (R.getD a 0))):=aii λa _=>(by rw[S a,ad]);grind
  rw[S a] at t;exact absurd t ab
 rw[a1 (aI w)];have d8:∀d,f d=gr (x.s d b) (a6 (x.bi b b)) 0:=λd=>(by rw[M d,ax w]);rw[abu];refine bE (EU (v:=λa=>x.s (R.getD a 0) b) A F (λa h=>⟨(j a h).1,?_,?_⟩) z) ?_
 ·have:=i.r.okd _ (i.r.mem (j a h).1 (j a h).2.1) _ (i.r.mem I H);grind
 ·unfold Cp;dsimp only;obtain⟨d1,c2,dl⟩:=i.r.ent a p (j a h).1 I (j a h).2.1 H;rw[C] at dl;refine ai (y:=Y (cE R full lf' (eF R.length E))) rfl (ai (y:=cE R full lf' (eF R.length E)) rfl ?_);refine ai (y:=d1) (by rw[fg];exact c2) (ai (y:=(p:Z)) rfl (ai (y:=az (x.s (R.getD a 0) b)) (by grind [fg]) rfl))
 rintro q (⟨t,rfl⟩|⟨⟨a,h,t⟩,T⟩)
 ·grind
 obtain⟨o,d2,d3,_⟩:=q;dsimp only at T;subst T;dsimp only;rw[aY (by rfl)];grind [bu]
end
end
section
def Hc {a b d:Z}:wM ([az (a6 a),az (a6 b),az (a6 d)],())=Y (az (kV [a,b,d]),()):=by unfold wM;dsimp only;refine ai (y:=az (a6 a)) rfl (ai (y:=az (a6 d)) rfl (ai (pX (gO _) (gO _)) (ai (y:=az (a6 b)) rfl (ai (y:=az (a6 b)) rfl (ai (pX (gO _) (gO _)) (ai (Hh (kE _ _) (kE _ _)) ?_))))));rfl
section
variable {R:ahY} {full:X} {lf lf':ahV} {E:X->X->ga} {x:aV} {c:X}
theorem N0 (a:iG R full lf E x c) {lf':ahV} {k p q:X} (b:k<R.length) (f:p<R.length) (g:q<R.length) (ar:lf.getD k bq=bp) (h:lf.getD p bq=bp) (i:lf.getD q bq=bp) {d e:ahT} (j:cP d) (l:cP e):zc ((k:Z),(p:Z),(q:Z),az d,az e,Y (Y (cE R full lf' (eF R.length E))),())=Y (az (cK (cU (x.s (R.getD k 0) (R.getD p 0)) d) (c7 (cU (x.s (R.getD k 0) (R.getD q 0)) e))),()):=by obtain⟨u,m,w⟩:=a.r.ent k p b f ar h;obtain⟨v,n,z⟩:=a.r.ent k q b g ar i;have o:=a.r.okd _ (a.r.mem b ar) _ (a.r.mem f h);have t:=a.r.okd _ (a.r.mem b ar) _ (a.r.mem g i);unfold zc;dsimp only;refine ai (y:=Y (cE R full lf' (eF R.length E))) rfl (ai (y:=cE R full lf' (eF R.length E)) rfl (ai (y:=u) (by rw[fg];exact m) (ai (y:=az _) (by grind [fg]) (ai (pX o j) ?_))));refine ai (y:=Y (cE R full lf' (eF R.length E))) rfl (ai (y:=cE R full lf' (eF R.length E)) rfl (ai (y:=v) (by rw[fg];exact n) (ai (y:=az _) (by grind [fg]) (ai (pX t l) (ai (Hh (kE _ _) (kE _ _)) rfl)))))
theorem T5 (A:iG R full lf E x c) (gl:c+4<1048576) {p:X} (nn:p<full) (a0:lf.getD p bq=bp) (nx:a<full) (a3:lf.getD a bq=bp) (no:p≠a) (d5:lf'.length=lf.length) (d4:∀g,g<R.length->lf'.getD g bq=(lf.getD g bq&&br (g∉[p,a]))) (d2:x.fin (R.getD p 0)) (gs:x.fin (R.getD a 0)):ae (zb (cE R full lf' (eF R.length E),(p:Z),(a:Z),x.gF [R.getD p 0,R.getD a 0],())) λJ=>
  ((x.eM [R.getD p 0,R.getD a 0]).fin/\∃E',J=(cE R full lf' (eF R.length E'),(x.eM [R.getD p 0,R.getD a 0]).c3.map hT,0,())/\iG R full lf' E' (x.elim [R.getD p 0,R.getD a 0]) (c+4))\/(¬(x.eM [R.getD p 0,R.getD a 0]).fin/\J.2.2.1=233/\J.2.1=[]):=by
 have mz:=A.r.fl;have V:=A.r.sm;have bl:p<R.length:=aa;have bx:a<R.length:=aa;have ic:lf'.length=R.length:=d5.trans A.r.ll;have B:∀g∈eT lf' R.length,g<R.length/\lf.getD g bq=bp:=λg n=>(by obtain⟨gc,ge⟩:=xq.1 n;grind);have U:(eT lf' R.length).length<=1000:=eD (If _ _) aa;have io:=NI lf' R.length;have id:=λ(g:X) (n:g∈eT lf' R.length) (L K:ahT) (Q:cP L) (S:cP K)=>N0 A (lf':=lf') (k:=g) (p:=p) (q:=a) (B g n).1 bl bx (B g n).2 a0 a3 Q S;have ii:=λ(g:X) (n:g∈eT lf' R.length) (L K:ahT) (Q:cP L) (S:cP K)=>N0 A (lf':=lf') (k:=g) (p:=a) (q:=p) (B g n).1 bx bl (B g n).2 a3 a0 Q S;have gi:=A.r.mem bl a0;have d0:=A.r.mem bx a3;generalize l2:R.getD p 0=j at*;generalize mc:R.getD a 0=i at*;have a4:[p,a].map (λg=>R.getD g 0)=[j,i]:=(by grind);have f9:bd (x.bi j j)≠2047:=d2 j gi;have dl:bd (x.bi i j)≠2047:=d2 i d0;have f2:bd (x.bi i i)≠2047:=gs i d0;have d8:(eT lf' R.length).map (λg=>R.getD g 0)=x.rows.filter λb=>br (b∉[j,i]):=by
  have:=A.r.rest (lf':=lf') (p:=[p,a]) (λg n=>by
   grind) d4 (bc _)
  rw[<-A.r.rows,a4] at this;grind [Ef]
 generalize ap:(λb=>gr (cK (cU (x.s b j) (a6 (x.bi i i))) (c7 (cU (x.s b i) (a6 (x.bi i j))))) (kV (x.gF [j,i])) 0)=o;generalize av:(λb=>gr (cK (cU (x.s b i) (a6 (x.bi j j))) (c7 (cU (x.s b j) (a6 (x.bi i j))))) (kV (x.gF [j,i])) 0)=t;have d7:(x.eM [j,i]).l=[o,t]:=(by rw[<-ap,<-av];rfl);have ib:x.lc [j,i]=[o,t]:=d7;have is:(x.eM [j,i]).rows=(eT lf' R.length).map (λg=>R.getD g 0):=d8.symm;have mo:(x.eM [j,i]).c3=[((eT lf' R.length).map (λg=>R.getD g 0),o),((eT lf' R.length).map (λg=>R.getD g 0),t)]:=(by grind [b4]);have hr:(x.eM [j,i]).fin↔(∀g∈eT lf' R.length,bd (o (R.getD g 0))≠2047)/\∀g∈eT lf' R.length,bd (t (R.getD g 0))≠2047:=by
  unfold a8.fin;rw[d7,is];constructor
  ·exactλd3=>⟨λg n=>d3 o ac _ (eY.2 ⟨g,n,bn⟩),λg n=>d3 t ac _ (eY.2 ⟨g,n,bn⟩)⟩
  rintro⟨gc,ge⟩ H N b C;obtain⟨g,n,rfl⟩:=eY.1 C;rcases fV.1 N with rfl|N
  ·grind
  grind
 have d1:cP (kV (x.gF [j,i])):=kT _ _;have go:x.gF [j,i]=[x.bi j j,x.bi i j,x.bi i i]:=rfl;unfold zb;dsimp only;refine bz (PU ic V) ?_;dsimp only;refine bz (y:=x.bi j j) rfl (bz (p7 (x.k8 _ _)) (bz (y:=x.bi i j) rfl (bz (p7 (x.k8 _ _)) (bz (y:=x.bi i i) rfl (bz (p7 (x.k8 _ _)) ?_)))));dsimp only;refine bz Hc ?_;dsimp only;rw[abv,<-go];refine bE (EU (v:=λg=>cK (cU (x.s (R.getD g 0) j) (a6 (x.bi i i))) (c7 (cU (x.s (R.getD g 0) i) (a6 (x.bi i j))))) V d1 (λg n=>⟨(B g n).1,kT _ _,?_⟩) U) ?_
 ·unfold Cm;dsimp only;refine ai (y:=(Y (Y (cE R full lf' (eF R.length E))),())) rfl (ai (y:=(p:Z)) rfl (ai (y:=(a:Z)) rfl (ai (y:=[az (a6 (x.bi j j)),az (a6 (x.bi i j)),az (a6 (x.bi i i))]) rfl (ai (y:=az (a6 (x.bi i i))) rfl (ai (y:=[az (a6 (x.bi j j)),az (a6 (x.bi i j)),az (a6 (x.bi i i))]) rfl (ai (y:=az (a6 (x.bi i j))) rfl ?_))))));exact ai (id g n _ _ (gO _) (gO _)) rfl
 rintro J (⟨mp,rfl⟩|⟨⟨g,n,gt⟩,P⟩)
 rotate_left
 ·obtain⟨H,f3,f4,_⟩:=J;dsimp only at P;subst P;dsimp only;rw[aY (by rfl)];grind [bu]
 dsimp only;rw[a1 (by rfl),abw];refine bE (EU (v:=λg=>cK (cU (x.s (R.getD g 0) i) (a6 (x.bi j j))) (c7 (cU (x.s (R.getD g 0) j) (a6 (x.bi i j))))) V d1 (λg n=>⟨(B g n).1,kT _ _,?_⟩) U) ?_
 ·unfold Cn;dsimp only;refine ai (y:=(Y (Y (cE R full lf' (eF R.length E))),())) rfl (ai (y:=(a:Z)) rfl (ai (y:=(p:Z)) rfl (ai (y:=[az (a6 (x.bi j j)),az (a6 (x.bi i j)),az (a6 (x.bi i i))]) rfl (ai (y:=az (a6 (x.bi j j))) rfl (ai (y:=[az (a6 (x.bi j j)),az (a6 (x.bi i j)),az (a6 (x.bi i i))]) rfl (ai (y:=az (a6 (x.bi i j))) rfl ?_))))));exact ai (ii g n _ _ (gO _) (gO _)) rfl
 rintro J (⟨mt,rfl⟩|⟨⟨g,n,gt⟩,P⟩)
 rotate_left
 ·obtain⟨H,f3,f4,_⟩:=J;dsimp only at P;subst P;dsimp only;rw[aY (by rfl)];grind [bu]
 dsimp only;rw[a1 (by rfl)];have f5:(λg=>gr (cK (cU (x.s (R.getD g 0) j) (a6 (x.bi i i))) (c7 (cU (x.s (R.getD g 0) i) (a6 (x.bi i j))))) (kV (x.gF [j,i])) 0)=λg=>o (R.getD g 0):=(by rw[<-ap]);have f7:(λg=>gr (cK (cU (x.s (R.getD g 0) i) (a6 (x.bi j j))) (c7 (cU (x.s (R.getD g 0) j) (a6 (x.bi i j))))) (kV (x.gF [j,i])) 0)=λg=>t (R.getD g 0):=(by rw[<-av]);have f6:(λg=>az (a6 (gr (cK (cU (x.s (R.getD g 0) j) (a6 (x.bi i i))) (c7 (cU (x.s (R.getD g 0) i) (a6 (x.bi i j))))) (kV (x.gF [j,i])) 0)))=λg=>az (a6 (o (R.getD g 0))):=(by rw[<-ap]);have f8:(λg=>az (a6 (gr (cK (cU (x.s (R.getD g 0) i) (a6 (x.bi j j))) (c7 (cU (x.s (R.getD g 0) j) (a6 (x.bi i j))))) (kV (x.gF [j,i])) 0)))=λg=>az (a6 (t (R.getD g 0))):=(by rw[<-av]);have hc:∀g∈eT lf' R.length,bd (o (R.getD g 0))≠2047:=λg n=>(by grind);have hi:∀g∈eT lf' R.length,bd (t (R.getD g 0))≠2047:=λg n=>(by grind);rw[f5,f7,f6,f8];generalize nd:eT lf' R.length=m at*;have am:=λ(E:X->X->ga) (an:X->X->ahT) (L K:X->ahT) (gf:∀b∈m,∀h∈m,E b h=az (an b h)) (i0:∀b∈m,∀h∈m,cP (an b h)) (Q:∀b,cP (L b)) (S:∀b,cP (K b))=>
  QR (R:=R) (full:=full) (lf:=lf') (E:=E) (l:=m) (s:=an) (u:=L) (v:=K) V (λg n=>(B g n).1) io U gf i0 (λb _=>Q b) (λb _=>S b)
 have ci:∀{E:X->X->ga} {s':X->X->ahT},∀b∈m,∀h∈m,(if b∈m/\h∈m then az (s' b h) else E b h)=az (s' b h):=λb C h F=>au ⟨C,F⟩;generalize ce:(λb h=>x.s (R.getD b 0) (R.getD h 0))=z;generalize d9:(λg=>cU (a6 (o (R.getD g 0))) (a6 (x.bi j j)))=w;generalize ek:(λg=>cU (a6 (o (R.getD g 0))) (a6 (x.bi i j)))=D;generalize el:(λg=>cU (a6 (t (R.getD g 0))) (a6 (x.bi i j)))=G;generalize em:(λg=>cU (a6 (t (R.getD g 0))) (a6 (x.bi i i)))=T;generalize eq:(λg=>a6 (o (R.getD g 0)))=v1;generalize fn:(λg=>a6 (t (R.getD g 0)))=fw;have fT:∀b,cP (v1 b):=λb=>(by grind [gO]);have f0:∀b,cP (fw b):=λb=>(by grind [gO]);have i3:∀b,cP (w b):=λb=>(by grind [kE]);have i8:∀b,cP (D b):=λb=>(by grind [kE]);have jp:∀b,cP (G b):=λb=>(by grind [kE]);have kd:∀b,cP (T b):=λb=>(by grind [kE]);have lo:m.map (λg=>az (a6 (o (R.getD g 0))))=m.map λg=>az (v1 g):=(by rw[<-eq]);have lt:m.map (λg=>az (a6 (t (R.getD g 0))))=m.map λg=>az (fw g):=(by rw[<-fn]);have ad:=λ(f1:X->Z) (c2:Z)=>Qv (l:=m) (f:=f1) (d:=a6 c2) (gO c2) U;have kg:=am E z w v1 (λb C h F=>by rw[<-ce];exact A.e (B b C).1 (B h F).1 (B b C).2 (B h F).2) (λb C h F=>by rw[<-ce];exact A.r.okd _ (A.r.mem (B b C).1 (B b C).2) _ (A.r.mem (B h F).1 (B h F).2)) i3 fT;have lb:=am _ (λb h=>cK (z b h) (c7 (cU (w b) (v1 h)))) D fw (ci (E:=E) (s':=λb h=>cK (z b h) (c7 (cU (w b) (v1 h))))) (λb _ h _=>kT _ _) i8 f0;have le:=am _ (λb h=>cK (cK (z b h) (c7 (cU (w b) (v1 h)))) (c7 (cU (D b) (fw h)))) G v1 (ci (E:=λb h=>if b∈m/\h∈m then az (cK (z b h) (c7 (cU (w b) (v1 h)))) else E b h) (s':=λb h=>cK (cK (z b h) (c7 (cU (w b) (v1 h)))) (c7 (cU (D b) (fw h))))) (λb _ h _=>kT _ _) jp fT;have lk:=am _ (λb h=>cK (cK (cK (z b h) (c7 (cU (w b) (v1 h)))) (c7 (cU (D b) (fw h)))) (c7 (cU (G b) (v1 h)))) T fw (ci (E:=λb h=>if b∈m/\h∈m then az (cK (cK (z b h) (c7 (cU (w b) (v1 h)))) (c7 (cU (D b) (fw h)))) else if b∈m/\h∈m then az (cK (z b h) (c7 (cU (w b) (v1 h)))) else E b h) (s':=λb h=>cK (cK (cK (z b h) (c7 (cU (w b) (v1 h)))) (c7 (cU (D b) (fw h)))) (c7 (cU (G b) (v1 h))))) (λb _ h _=>kT _ _) kd f0;have co:=ad (λg=>o (R.getD g 0)) (x.bi j j);have cs:=ad (λg=>o (R.getD g 0)) (x.bi i j);have cv:=ad (λg=>t (R.getD g 0)) (x.bi i j);have c1:=ad (λg=>t (R.getD g 0)) (x.bi i i);rw[show m.map (λg=>az (cU (a6 (o (R.getD g 0))) (a6 (x.bi j j))))=m.map λg=>az (w g) by rw[<-d9]] at co;rw[show m.map (λg=>az (cU (a6 (o (R.getD g 0))) (a6 (x.bi i j))))=m.map λg=>az (D g) by rw[<-ek]] at cs;rw[show m.map (λg=>az (cU (a6 (t (R.getD g 0))) (a6 (x.bi i j))))=m.map λg=>az (G g) by rw[<-el]] at cv;rw[show m.map (λg=>az (cU (a6 (t (R.getD g 0))) (a6 (x.bi i i))))=m.map λg=>az (T g) by rw[<-em]] at c1;rw[lo] at co cs|-;rw[lt] at cv c1|-;refine bz (y:=az (a6 (x.bi j j))) rfl (bz co (bz kg ?_));refine bz (y:=az (a6 (x.bi i j))) rfl (bz cs (bz lb ?_));refine bz (y:=az (a6 (x.bi i j))) rfl (bz cv (bz le ?_));refine bz (y:=az (a6 (x.bi i i))) rfl (bz c1 (bz lk ?_));refine bu.2 (.inl ⟨hr.2 ⟨hc,hi⟩,(λb h=>if b∈m/\h∈m then az (cK (cK (cK (cK (z b h) (c7 (cU (w b) (v1 h)))) (c7 (cU (D b) (fw h)))) (c7 (cU (G b) (v1 h)))) (c7 (cU (T b) (fw h)))) else(λb h=>if b∈m/\h∈m then az (cK (cK (cK (z b h) (c7 (cU (w b) (v1 h)))) (c7 (cU (D b) (fw h)))) (c7 (cU (G b) (v1 h)))) else(λb h=>if b∈m/\h∈m then az (cK (cK (z b h) (c7 (cU (w b) (v1 h)))) (c7 (cU (D b) (fw h)))) else if b∈m/\h∈m then az (cK (z b h) (c7 (cU (w b) (v1 h)))) else E b h) b h) b h),?_,?_⟩)
 ·grind [LR]
 have hs:∀b O,nz (x.gF [j,i]) (x.lc [j,i]) b O=cK (cK (cK (h3 (o b) (x.bi j j) (o O)) (h3 (o b) (x.bi i j) (t O))) (h3 (t b) (x.bi i j) (o O))) (h3 (t b) (x.bi i i) (t O)):=λb O=>(by rw[ib];rfl);have ds:∀M:X,M=65536->∀b∈x.rows.filter (λb=>br (b∉[j,i])),∀h∈x.rows.filter (λb=>br (b∉[j,i])),
  cK (cK (cK (cK (x.s b h) (c7 (h3 (o b) (x.bi j j) (o h)))) (c7 (h3 (o b) (x.bi i j) (t h)))) (c7 (h3 (t b) (x.bi i j) (o h)))) (c7 (h3 (t b) (x.bi i i) (t h)))=(x.elim [j,i]).s b h/\cS M 3222 3072 (c+4) ((x.elim [j,i]).s b h):=by
  intro M I b C h F;have d6:∀H,H∈x.rows.filter (λb=>br (b∉[j,i]))->H∈x.rows/\bd (o H)≠2047/\bd (t H)≠2047:=λH N=>(by refine⟨(hq.1 N).1,?_⟩;rw[<-d8] at N;obtain⟨g,n,rfl⟩:=eY.1 N;grind);obtain⟨i1,fp,fs⟩:=d6 b C;obtain⟨i2,ft,fz⟩:=d6 h F;have:=cS.adk I (A.ex M I b i1 h i2) (akf I fp f9 ft) (akf I fp dl fz) (akf I fs dl ft) (akf I fs f2 fz) gl;rw[<-hs] at this;exact this
 have ne:=A.next (lf':=lf') (p:=[p,a]) (λg n=>by
  rcases fV.1 n with rfl|n
  ·grind
  grind) (by grind) d5 d4 (E':=λb h=>if b∈m/\h∈m then az (cK (cK (cK (cK (z b h) (c7 (cU (w b) (v1 h)))) (c7 (cU (D b) (fw h)))) (c7 (cU (G b) (v1 h)))) (c7 (cU (T b) (fw h)))) else(λb h=>if b∈m/\h∈m then az (cK (cK (cK (z b h) (c7 (cU (w b) (v1 h)))) (c7 (cU (D b) (fw h)))) (c7 (cU (G b) (v1 h)))) else(λb h=>if b∈m/\h∈m then az (cK (cK (z b h) (c7 (cU (w b) (v1 h)))) (c7 (cU (D b) (fw h)))) else if b∈m/\h∈m then az (cK (z b h) (c7 (cU (w b) (v1 h)))) else E b h) b h) b h) (c':=c+4) (λb h C F n7 of=>by
   have hv:b∈m:=(by grind [xq]);have hw:h∈m:=(by grind [xq]);rw[a4];dsimp only;rw[ca ⟨hv,hw⟩,<-(ds 65536 bn (R.getD b 0) (by grind) (R.getD h 0) (by grind)).1,<-ce,<-d9,<-ek,<-el,<-em,<-eq,<-fn];rfl) (by
   rw[a4];intro M I b C h F;exact(ds M I b C h F).2)
 grind
end
end
section
theorem LI {x:aV}:∀{d b:ahY},x.gL d=Y b->∀c∈b,x.fin c
 |[],b,a,c,f=>by grind [aV.gL]
 |q::d,b,a,c,f=>by
  rw[aV.gL] at a;split at a
  ·cases a
  rename_i e;have e:=Classical.not_not.1 e;split at a
  ·grind
  split at a
  ·grind
  rename_i h g;split at a
  ·exact LI a c f
  grind
abbrev v5:=bv (Z×((bm aA×bt)×(bm (bv (bm (Z×cV)×X))×bt)))
abbrev FW:=v5×(aA×(aA×(aA×(bm eE×eV))))
def lC (b:v5) (a:bm a8) (del:X):FW:=(b,(a5 (a.flatMap a8.cF),(a.map (λc=>(c.cF.length:Z)),(a.flatMap a8.d,((a.flatMap b4).map hT,((del:Z),()))))))
def FV (a:bm a8):Prop:=(a.flatMap a8.cF).length<=1000/\a.length<=1000/\(a.flatMap a8.d).length<=10000/\(a.flatMap b4).length<=10000
def im (lf:ahV) (c:ahY):ahV:=c.foldl (λb a=>b.set a bq) lf
theorem XY (lf:ahV) (b:ahY) (a:X):im lf (b++[a])=(im lf b).set a bq:=by grind [im]
theorem IP (a:ahY):∀lf:ahV,(im lf a).length=lf.length:=by
 induction a with
 |nil=>intro lf;rfl
 |cons c a b=>
  grind [aj5,im,lf]
theorem XX (b:ahY):∀(lf:ahV) {a:X},a<lf.length->(im lf b).getD a bq=(lf.getD a bq&&br (a∉b)):=by
 induction b with
 |nil=>grind [im,lf]
 |cons c b e=>
  intro lf a d;show(im (lf.set c bq) b).getD a bq=_;grind
section
variable {R:ahY} {full:X} {lf:ahV} {E:X->X->ga} {x:aV} {c:X}
def l6 (x:aV) (a:ahY) (c:X):ahZ:=(bI c).flatMap λb=>(bI (b+1)).map λd=>x.bi (a.getD b 0) (a.getD d 0)
def iG.value (d:iG R full lf E x c) (e:a<R.length) (f:b<R.length) (h:lf.getD a bq=bp) (i:lf.getD b bq=bp) (g:ahV):sr (Y (cE R full g (eF R.length E)),(a:Z),(b:Z),())=Y (x.bi (R.getD a 0) (R.getD b 0),()):=by obtain⟨l,j,k⟩:=d.r.ent a b e f h i;unfold sr;dsimp only;refine ai (y:=cE R full g (eF R.length E)) rfl (ai (y:=l) (by rw[fg];exact j) (ai (y:=az _) (by rw[fg];exact k) ?_));exact ai (Mc (d.r.okd _ (d.r.mem e h) _ (d.r.mem f i))) rfl
theorem Ug (u:iG R full lf E x c) (M:c+4<1048576) (p:∀b∈m,b<full/\lf.getD b bq=bp) (ds:0<m.length) (N:x.choose=Y (m.map λb=>R.getD b 0)) (n:v5) {f:bm a8} (am:FV f) (del:X):ae (Cu (lC n f del,cE R full lf (eF R.length E),a5 m,())) λg=>
  ((x.eM (m.map λb=>R.getD b 0)).fin/\∃B i,g=(lC n (f++[x.eM (m.map λb=>R.getD b 0)]) del,cE R full B (eF R.length i),0,())/\iG R full B i (x.elim (m.map λb=>R.getD b 0)) (c+4))\/(¬(x.eM (m.map λb=>R.getD b 0)).fin/\g.2.2.1=233):=by
 have d3:=u.r.fl;have a0:=u.r.ll;have F:=LI N;have O:=BL N;have S:∀b∈m,b<R.length:=λb o=>(by grind);have d7:m.length<=2:=by rcases O with j|⟨e,j,_⟩|⟨e,s,j,_⟩<;>have:=b3 aia j<;>simp only[ff,iZ,oI] at this<;>omega
 have G:al (a5 m)=(m.length:Z):=(by rw[bh,fJ]);have ek:=u.r.sm;obtain⟨cs,cv,c1,c2⟩:=am;have d4:∀e,e<m.length->(m.map λb=>R.getD b 0).getD e 0=R.getD (m.getD e 0) 0:=λe q=>(by grind);have d8:∀e,(q:e<m.length)->m.getD e 0=m[e]:=λe q=>(by grind);generalize v:(m.map λb=>R.getD b 0)=a at*;have w:a.length=m.length:=(by grind);unfold Cu lC;dsimp only;refine bE (P:=λh=>h=((n,(a5 (f.flatMap a8.cF++a),(f.map (λh=>(h.cF.length:Z)),(f.flatMap a8.d,((f.flatMap b4).map hT,((del:Z),())))))),cE R full (im lf m) (eF R.length E),l6 x a m.length,())) ?_ ?_
 ·refine bO m.length (λe h=>h=((e:Z),(n,(a5 (f.flatMap a8.cF++a.take e),(f.map (λh=>(h.cF.length:Z)),(f.flatMap a8.d,((f.flatMap b4).map hT,((del:Z),())))))),cE R full (im lf (m.take e)) (eF R.length E),l6 x a e,())) ?_ ?_ ?_
  ·rw[List.take_zero,List.take_zero,mN];rfl
  rotate_left
  ·rintro _ rfl;dsimp only;rw[G,a1 (aI (aa:¬(m.length:Z)<(m.length:Z))),cA,<-w,cA];grind [bu]
  rintro e _ q rfl;dsimp only;rw[G,aY (aK (aa:(e:Z)<(m.length:Z))),bk aa];have T:=b7 q;have Q:=S _ T;have av:=(p _ T).2;refine bE (P:=λh=>h=((n,(a5 (f.flatMap a8.cF++a.take e),(f.map (λh=>(h.cF.length:Z)),(f.flatMap a8.d,((f.flatMap b4).map hT,((del:Z),())))))),cE R full (im lf (m.take e)) (eF R.length E),l6 x a (e+1),())) ?_ ?_
  ·refine bO (e+1) (λs h=>h=((s:Z),(n,(a5 (f.flatMap a8.cF++a.take e),(f.map (λh=>(h.cF.length:Z)),(f.flatMap a8.d,((f.flatMap b4).map hT,((del:Z),())))))),cE R full (im lf (m.take e)) (eF R.length E),l6 x a e++(bI s).map (λl=>x.bi (a.getD e 0) (a.getD l 0)),())) ?_ ?_ ?_
   ·grind
   ·rintro s _ d2 rfl;dsimp only;rw[aY (aK (aa:(s:Z)<((e+1:X):Z))),bk aa];have L:s<m.length:=aa;have U:=b7 L;refine bz (mZ q) (bz (mZ L) (bz (u.value Q (S _ U) av (p _ U).2 _) ?_));dsimp only;have an:(l6 x a e).length<=100:=by
     have:e=0\/e=1:=aa;rcases this with rfl|rfl
     ·exact(by decide:(0:X)<=100)
     exact(by decide:(1:X)<=100)
    rw[da (by grind),aC];grind [ais,aiB,anp,bu]
   rintro _ rfl;dsimp only;rw[a1 (aI (aa:¬((e+1:X):Z)<((e+1:X):Z)))];grind [ais,bu,l6,bI]
  rintro _ rfl;dsimp only;refine bz (mZ q) ?_;have a4:(cE R full (im lf (m.take e)) (eF R.length E)).2.2.1=im lf (m.take e):=rfl;have d6:(im lf (m.take e)).length=R.length:=(IP _ _).trans a0;rw[a4];refine bz (eS aa) ?_;rw[gq (bS (aa:m[e]<(im lf (m.take e)).length))];refine bz bn (bz (mZ q) ?_);dsimp only;have bl:(cE R full (im lf (m.take e)) (eF R.length E)).1=a5 R:=rfl;rw[bl,qc Q,da (by grind [akd,fJ,aiz,aib]),bN];refine bu.2 ?_;have aq:m.take (e+1)=m.take e++[m[e]]:=(by simp_all);have ad:a.take (e+1)=a.take e++[R[m[e]]]:=(by grind [ct,bS]);rw[aq,ad,XY,<-aiB,oq (f.flatMap a8.cF++a.take e)];rfl
 rintro _ rfl;dsimp only;have an:(l6 x a m.length).length<=100:=by
  have:m.length=1\/m.length=2:=aa;rcases this with j|j<;>rw[j]
  ·exact(by decide:(1:X)<=100)
  exact(by decide:(3:X)<=100)
 rw[G,da (by grind),aC,da aa,aC];have A:∀b,b<R.length->(im lf m).getD b bq=(lf.getD b bq&&br (b∉m)):=λb o=>XX m lf aa;have t:∀(g:c4×bm eE×Z×bt),((x.eM a).fin/\∃i,g=(cE R full (im lf m) (eF R.length i),(x.eM a).c3.map hT,0,())/\iG R full (im lf m) i (x.elim a) (c+4))\/(¬(x.eM a).fin/\g.2.2.1=233/\g.2.1=[])->l6 x a m.length=x.gF a->
  (g.2.1.length<=1000)->
  ae ((cD (((f.flatMap b4).map hT).length+g.2.1.length)).bind λ_=>Y (((n,(a5 (f.flatMap a8.cF++a),((f.map (λh=>(h.cF.length:Z))++[(m.length:Z)]),(f.flatMap a8.d++l6 x a m.length,((f.flatMap b4).map hT++g.2.1,((del:Z),())))))):FW),g.1,g.2.2.1,())) λg=>
  ((x.eM a).fin/\∃B i,g=(lC n (f++[x.eM a]) del,cE R full B (eF R.length i),0,())/\iG R full B i (x.elim a) (c+4))\/(¬(x.eM a).fin/\g.2.2.1=233):=by
  rintro g k z d9;rw[da (by grind),aC];refine bu.2 ?_;rcases k with⟨J,i,rfl,K⟩|⟨J,K⟩
  ·refine .inl ⟨J,im lf m,i,?_,K⟩;unfold lC;rw[z,qw,qw,qw,jh,jh];simp only[akg,akh,mN,ie,ajb];show _=((n,(a5 (f.flatMap a8.cF++a),((f.map (λh=>(h.cF.length:Z))++[(a.length:Z)]),(f.flatMap a8.d++x.gF a,((f.flatMap b4).map hT++(x.eM a).c3.map hT,((del:Z),())))))),_,_,());rw[w]
  grind
 rcases O with j|⟨V,j,_⟩|⟨V,co,j,d0,d1,d5⟩
 ·grind
 ·rw[j] at w
  match m,w,p,v,A,t with
  |[b],_,p,v,A,t=>
   obtain⟨H,I⟩:=p b ac;have o:a=[R.getD b 0]:=v.symm;rw[aY (by rfl)];have C:=acU u M H I (lf':=im lf [b]) (IP _ _) A (F _ (by grind));rw[<-o] at C;have z:l6 x a 1=[x.bi (R.getD b 0) (R.getD b 0)]:=(by rw[o];rfl);refine bE (P:=λh=>∃g:c4×bm eE×Z×bt,(((x.eM a).fin/\∃i,g=(cE R full (im lf [b]) (eF R.length i),(x.eM a).c3.map hT,0,())/\iG R full (im lf [b]) i (x.elim a) (c+4))\/(¬(x.eM a).fin/\g.2.2.1=233/\g.2.1=[]))/\h=(g.2.2.1,g.2.1,(n,(a5 (f.flatMap a8.cF++a),((f.map (λh=>(h.cF.length:Z))++[((1:X):Z)]),(f.flatMap a8.d++l6 x a 1,((f.flatMap b4).map hT,((del:Z),())))))),g.1,())) ?_ ?_
   ·refine bz (y:=(b:Z)) rfl ?_;have a3:∀{ci:Type} (D:Z->bv ci),rd (l6 x a 1) 0 D=D (x.bi (R.getD b 0) (R.getD b 0)):=λD=>(by rw[z];rfl);show ae (rd (l6 x a 1) 0 _) _;rw[a3];refine bE C ?_;rintro g k;exact bu.2 ⟨g,k,bn⟩
   rintro _ ⟨g,k,rfl⟩;dsimp only;refine t g k (by rw[o];rfl) ?_;rcases k with⟨_,i,rfl,_⟩|⟨_,_,j⟩
   ·show((x.eM a).c3.map hT).length<=1000;rw[o,ff];show 1<=1000;decide
   grind
 rw[j] at w
 match m,w,p,v,A,t with
 |[b,l],_,p,v,A,t=>
  obtain⟨H,I⟩:=p b ac;obtain⟨bx,ce⟩:=p l ac;have o:a=[R.getD b 0,R.getD l 0]:=v.symm;have ap:b≠l:=λdl=>(by grind);rw[a1 (by rfl)];have C:=T5 u M H I bx ce ap (lf':=im lf [b,l]) (IP _ _) A (F _ (by grind)) (F _ (by grind));rw[<-o] at C;have z:l6 x a 2=x.gF a:=(by rw[o];rfl);refine bE (P:=λh=>∃g:c4×bm eE×Z×bt,(((x.eM a).fin/\∃i,g=(cE R full (im lf [b,l]) (eF R.length i),(x.eM a).c3.map hT,0,())/\iG R full (im lf [b,l]) i (x.elim a) (c+4))\/(¬(x.eM a).fin/\g.2.2.1=233/\g.2.1=[]))/\h=(g.2.2.1,g.2.1,(n,(a5 (f.flatMap a8.cF++a),((f.map (λh=>(h.cF.length:Z))++[((2:X):Z)]),(f.flatMap a8.d++l6 x a 2,((f.flatMap b4).map hT,((del:Z),())))))),g.1,())) ?_ ?_
  ·refine bz (y:=(b:Z)) rfl (bz (y:=(l:Z)) rfl ?_);show ae ((zb (cE R full (im lf [b,l]) (eF R.length E),(b:Z),(l:Z),l6 x a 2,())).bind _) _;rw[z];refine bE C ?_;rintro g k;exact bu.2 ⟨g,k,by grind⟩
  rintro _ ⟨g,k,rfl⟩;dsimp only;refine t g k z ?_;rcases k with⟨_,i,rfl,_⟩|⟨_,_,j⟩
  ·show((x.eM a).c3.map hT).length<=1000;rw[o,ff];show 2<=1000;decide
  grind
end
end
section
section
variable {R:ahY} {full:X}
structure R2 (R:ahY) (full:X) (tz:aV) (n ud:X) (m:v5) (ps0:bm a8) (del:X) (lf:ahV) (E:X->X->ga) (y:aV) (ps:bm a8) (k:X):Prop where
 x:iG R full lf E y (ud+4*ps.length)
 w:kP y
 lt:y.full<k
 pl:ps.length+y.full<=tz.full
 run:aiC n tz=(aiC k y).map λq=>(q.1,ps++q.2)
 b:(ps.flatMap a8.cF).length+y.full=tz.full/\(ps.flatMap a8.d).length<=3*ps.length/\(ps.flatMap b4).length=(ps.flatMap a8.cF).length
theorem abn {l:aV} {lf:ahV} {E:X->X->ga} {s:X} (D:iG R full lf E l s) (bx:kP l) (d0:s+4*l.full+4<1048576) (a4:l.full<a) (p:v5) {ps0:bm a8} (d3:l.full<=100) (ds:(ps0.flatMap a8.cF).length<=500/\ps0.length<=500/\(ps0.flatMap a8.d).length<=5000/\(ps0.flatMap b4).length<=5000) {del:X} (d2:del<=1000000):ae (Cw (lC p ps0 del,cE R full lf (eF R.length E),())) λn=>
  (∃c h e f q,aiC a l=Y (c,h)/\n=(lC p (ps0++h) (del+c.full),cE R full e (eF R.length f),0,())/\iG R full e f c q/\q<=s+4*l.full)\/(aiC a l=bo/\n.2.2.1=233):=by
 have d4:=D.r.fl;have el:=D.r.sm;unfold Cw;dsimp only;refine bE (P:=λi=>(∃c h e f q,aiC a l=Y (c,h)/\i=.inl (lC p (ps0++h) del,cE R full e (eF R.length f),())/\iG R full e f c q/\q<=s+4*l.full/\c.full<=l.full)\/(aiC a l=bo/\∃n:FW×c4×Z×bt,i=.inr n/\n.2.2.1=233)) ?_ ?_
 ·refine aik (λi=>∃e f c h k,i=(lC p (ps0++h) del,cE R full e (eF R.length f),())/\R2 R full l a s p ps0 del e f c h k) (λi=>(i.2.1.2.2.1.filter λo=>o).length) ⟨lf,E,l,[],a,by rw[List.append_nil],D,bx,a4,ac,ac,ac⟩ ?_;rintro _ ⟨e,f,c,h,k,rfl,j⟩;dsimp only;have d8:=j.lt;have d9:=j.pl;obtain⟨k,rfl⟩:∃cs,k=cs+1:=⟨k-1,aa⟩;refine bE j.x.r.choose ?_;rintro n (⟨L,M⟩|⟨g,rfl,Q,t⟩)
  ·obtain⟨ad,o,_⟩:=n;dsimp only at L;subst L;dsimp only;rw[aY (by rfl)];refine bu.2 (.inr ⟨?_,_,bn,bn⟩);rw[j.run,JH M];rfl
  dsimp only;rw[a1 (by rfl),bh,fJ];by_cases C:g=[]
  ·subst C;rw[aY (by rfl)];refine bu.2 (.inl ⟨c,h,e,f,_,?_,bn,j.x,aa,aa⟩);rw[j.run,Fc t];simp
  have T:0<g.length:=yo.2 C;rw[a1 (by rw[gD,aI aa])];obtain⟨i1,em,eq⟩:=j.b;have ap:FV (ps0++h):=(by grind [aiz,FV]);have u:=BL t;have co:0<c.full:=(by have a3:=Q _ (cR T);have:=j.x.r.NY (k:=g[0]) aa a3.2;grind);refine bE (Ug j.x aa Q T t p ap del) ?_;rintro n (⟨y,A,V,rfl,v⟩|⟨y,z⟩)
  ·dsimp only;rw[a1 (by rfl)];have N:∀(lf:ahV) (c:aV) (K:X) (E:X->X->ga),iG R full lf E c K->(lf.filter λo=>o).length=c.rows.length:=λlf c K E U=>by
    rw[U.r.rows,Ef,ff];unfold eT;rw[<-U.r.ll];have:lf=(bI lf.length).map λk=>lf.getD k bq:=by refine hM λk=>?_;grind
    conv=>lhs;rw[this]
    rw[List.filter_map,ff];rfl
   have am:(g.map λk=>R.getD k 0).length=g.length:=ff _;have d7:g.length<=c.full:=(by obtain⟨G,I⟩:=u.props;have:=G.length_le_of_subset I;grind);have ek:(c.elim (g.map λk=>R.getD k 0)).rows.length<c.rows.length:=(by obtain⟨G,I⟩:=u.props;have:=DL j.w.nd G λi bl=>vY (I i bl);show(c.rows.filter _).length<_;omega);refine bu.2 ⟨⟨A,V,c.elim (g.map λk=>R.getD k 0),h++[c.eM (g.map λk=>R.getD k 0)],k,by rw[iY],?_,j.w.elim u,?_,?_,?_,?_⟩,?_⟩
   ·grind
   ·show c.full-(g.map λk=>R.getD k 0).length<k;omega
   ·show(h++[_]).length+(c.full-(g.map λk=>R.getD k 0).length)<=_;grind
   ·rw[j.run,xV t aa,au y];cases aiC k (c.elim (g.map λk=>R.getD k 0)) with
    |none=>rfl
    |some i=>simp
   ·have H:=j.w.PN u aa y (S:=c.rows) λm O=>O;have F:(c.eM (g.map λk=>R.getD k 0)).cF.length=g.length:=am;have av:(c.eM (g.map λk=>R.getD k 0)).c3.length=g.length:=by
     unfold b4;rw[ff,H.len,F]
    have a0:=H.dl;have an:=H.at1;simp only[qw,akg,akh,mN,jQ,pB];rw[F,av];rw[F] at a0 an;refine⟨?_,?_,aa⟩
    ·show _+(c.full-(g.map λk=>R.getD k 0).length)=_;omega
    omega
   show(aj0 _ (cE R full A _).2.2.1).length<(aj0 _ (cE R full e _).2.2.1).length;have aq:=N A _ _ _ v;have c2:=N e _ _ _ j.x;show(A.filter λo=>o).length<(e.filter λo=>o).length;omega
  obtain⟨ad,o,c1,_⟩:=n;dsimp only at z;subst z;dsimp only;rw[aY (by rfl)];refine bu.2 (.inr ⟨?_,_,bn,bn⟩);rw[j.run,xV t (by grind),ck y];rfl
 rintro i (⟨c,h,e,f,q,z,rfl,v,d1,co⟩|⟨z,n,rfl,M⟩)
 rotate_left
 ·grind [bu]
 dsimp only;have ce:=v.r.full;refine bE (P:=λi=>i=(lC p (ps0++h) (del+c.full),cE R full e (eF R.length f),())) ?_ (by grind [bu]);rw[ce];refine bO full (λm i=>i=((m:Z),lC p (ps0++h) (del+(fd R e m).length),cE R full e (eF R.length f),())) rfl ?_ ?_
 ·rintro m _ O rfl;dsimp only;have J:(cE R full e (eF R.length f)).2.1=(full:Z):=rfl;have ci:(cE R full e (eF R.length f)).2.2.1=e:=rfl;have d6:=v.r.ll;rw[J,aY (aK (aa:(m:Z)<(full:Z))),bk aa,ci];have bs:∀{cv:Type} (B:bA->bv cv),rd e (m:Z) B=B (e.getD m bq):=λB=>by
   grind [eS,gq,bS,rd]
  rw[bs];have d5:=Ih R e m;refine bE (P:=λi=>i=(lC p (ps0++h) (del+(fd R e (m+1)).length),cE R full e (eF R.length f),())) ?_ (by grind [bu]);rw[xu];cases C:e.getD m bq with
  |true=>
   rw[bG,ca bn,aiz,akd];refine bu.2 ?_;unfold lC;dsimp only;rw[bk aa];rfl
  |false=>
   rw[bP,ax ab];grind [bu]
 rintro _ rfl;dsimp only;have J:(cE R full e (eF R.length f)).2.1=(full:Z):=rfl;rw[J,a1 (aI (aa:¬(full:Z)<(full:Z)))];grind [bu]
end
end
def nI:eG:=([],([],([],([],([],([],(0,())))))))
def ky (a:bm aV):X:=(a.map aV.full).sum
def kZ (c:X->X->ahT) (d:ahZ) (a:bm dd):eG×Z×bt:=match h7 c a a.length with
 |none=>(nI,233,())
 |some b=>(rf d b.2 (ky b.1:Z),0,())
def Hx {a:X->X->ahT} {b:bm dd} {c:X} (e:h7 a b c=bo):∀d,h7 a b (c+d)=bo
 |0=>e
 |d+1=>by show(h7 a b (c+d)).bind _=bo;rw[Hx e d];rfl
theorem Ha (a:bm aV) (b:aV):ky (a++[b])=ky a+b.full:=by grind [ky]
theorem L6 {n:X} {L:bm aV} (c:∀b,b<L.length->(L.getD b hn).full<=n):ky L<=n*L.length:=by
 unfold ky;have:∀a∈L,a.full<=n:=λa d=>(by grind [bS,aiS]);clear c
 induction L with
 |nil=>grind
 |cons a L e=>
  grind [List.length_cons,Nat.mul_succ]
theorem W0 (c:aV->i) {b:bm aV} (e:b.length=a):(bI a).map (λd=>c (b.getD d hn))=b.map c:=by refine hM λf=>?_;grind
theorem abD {d:bm dd} (j:hW q d) (m:q.length=a) (k:∀p r,cP (l p r)) (K:a<=64) {u:lZ} (M:h.length=a) (F:∀p r:X,p<a->r<a->wZ (u,h,(p:Z),(r:Z),())=Y (az (l p r),())) (G:Dn (u,h,d,())=Y (0,())):w1 (u,h,d,())=Y (kZ l h d):=by
 have V:=DR j;unfold w1;refine ai G ?_;dsimp only;rw[a1 (by rfl)];refine bQ.1 ?_;refine bE (P:=λg=>(h7 l d d.length=bo/\g=.inr (nI,233,()))\/∃b e,h7 l d d.length=Y (b,e)/\g=.inl ((ky b:Z),nI,e.map ja,())) ?_ ?_
 ·refine bO d.length (λf g=>∃b e,h7 l d f=Y (b,e)/\g=((ky b:Z),bq,(f:Z),nI,b.map fS,e.map ja,())) ⟨[],[],bn,bn⟩ ?_ ?_
  rotate_left
  ·rintro _ ⟨b,e,s,rfl⟩;dsimp only;rw[bh,a1 (aI (aa:¬(d.length:Z)<(d.length:Z)))];grind [bu]
  rintro f _ C ⟨b,e,I,rfl⟩;dsimp only;rw[bh,aY (aK (aa:(f:Z)<(d.length:Z))),bk aa];obtain⟨y,i⟩:=uS k j m aa I;have t:=ajL j m C;have z:=abO j m C i k aa aa F;rw[W0 fS y] at z;refine bz z ?_;dsimp only;have ap:=i.BF l k t;have D:=i.wl k t;have an:h7 l d (f+1)=(aiC ((hQ l d (λc=>b.getD c hn) f).full+1) (hQ l d (λc=>b.getD c hn) f)).map λg=>(b++[g.1],e++g.2):=(by grind [h7]);have av:=D.full;generalize hQ l d (λc=>b.getD c hn) f=v at*;have J:al (fS v).1=(v.rows.length:Z):=(by rw[bh];exact b3 _ (fJ _));rw[J,a1 (aI (aa:¬(v.rows.length:Z)>64))];have am:e.length<=a:=(by have w:=(AF i.eM).1;have x:=i.perm.length_eq;rw[aiz,ai2] at x;have Q:=t.wx;have R:=t.BJ;omega);refine bE (acw D aa (ajm _) nI (b.map fS) (pv0:=e.map ja) (by grind)) ?_;rintro g (⟨o,E,N,rfl,a3⟩|⟨N,B⟩)
  ·dsimp only;rw[a1 (by rfl),da (by grind),bN];have A:h7 l d (f+1)=Y (b++[o],e++E):=(by grind);obtain⟨S,H⟩:=uS k j m aa A;have U:=L6 (n:=a) (L:=b) λc T=>(i.fl aa).1;have a0:o.full<=a:=by
    have:=(H.fl (c:=f) aa).1;grind
   have ad:a*b.length<=64*64:=mR K aa;refine bu.2 ⟨b++[o],e++E,A,?_⟩;rw[Ha];have O:ay ((ky b:Z)+(fS o).2.1)=((ky b+o.full:X):Z):=(by show ay ((ky b:Z)+(o.full:Z))=_;grind [cL]);grind
  obtain⟨a4,_⟩:=g;dsimp only at B;subst B;dsimp only;rw[aY (by rfl)];refine bu.2 (.inl ⟨?_,bn⟩);have w:h7 l d (f+1)=bo:=(by grind);have x:=Hx w (d.length-(f+1));grind
 rintro g (⟨s,rfl⟩|⟨b,e,s,rfl⟩)
 ·unfold kZ;grind [bu]
 dsimp only;unfold kZ;rw[s];obtain⟨y,i⟩:=uS k j m (cj _) s;refine bz (abS M aa (i.all j m) i.eM _) ?_;grind [bu]
section
def kX (n:X):X->X
 |0=>0
 |t+1=>kX n t+(1+kX n t+4*n)
theorem Md (n:X):∀t,kX n t+(4*n+1)=(4*n+1)*2^t
 |0=>by simp[kX]
 |t+1=>by have:=Md n t;grind [Nat.pow_succ,Nat.mul_assoc,kX]
def Me {n t:X} (e:n<=12) (b:t<=12):kX n t<=200704:=by have c:=Md n t;have a:2^t<=2^12:=tQ ab b;have d:=mR (aa:4*n+1<=49) a;omega
section
variable {l:bm dd} {n t:X} {L:X->aV} {A:X->X->ahT}
theorem My {L:X->aV} {D:X->X}:∀{cs:ahY} {x:aV} {k:X},(∀c∈cs,vP (D c) (L c))->k+(cs.map D).sum<1048576->(∀a:X,a=65536->∀b d,cS a 3222 3072 k (x.s b d))->∀a:X,a=65536->∀b d,cS a 3222 3072 (k+(cs.map D).sum) ((cs.foldl (λx c=>x.plus (L c)) x).s b d)
 |[],x,k,_,_,f=>by grind
 |c::cs,x,k,g,j,f=>by
  rw[ie,List.sum_cons] at j|-;rw[ake,<-ajv];refine My (k:=k+D c) (λi l=>g i (by grind)) aa λa e b d=>?_;show cS a 3222 3072 _ (if _ then _ else _);split
  ·rename_i h;exact(cS.add e ab (f a e b d) (g c ac a e b h.1 d h.2) aa).1
  exact(f a e b d).mono (bc _) (bc _) aa
theorem QT (b:X->X) (c:X->bA):∀l:ahY,((l.filter c).map b).sum<=(l.map b).sum
 |[]=>bc _
 |a::l=>by have:=QT b c l;grind
def QS (n:X):∀t,((bI t).map λa=>1+kX n a+4*n).sum=kX n t
 |0=>rfl
 |t+1=>by rw[i5,jh,List.sum_append,QS n t,kX];simp
theorem UH (j:∀b:X,b=65536->∀c d,cS b 3222 3072 1 (A c d)) (h:n<=12) (i:t<=12) (f:∀a,a<t->vP (1+kX n a+4*n) (L a)):vP (1+kX n t) (hQ A l L t):=by
 intro b e c _ d _;have o:((ez l t t).map λa=>1+kX n a+4*n).sum<=kX n t:=(by have:=QT (λa=>1+kX n a+4*n) (λa=>br (gn l a=(t:Z))) (bI t);rwa[QS] at this);have m:=Me h i;have:=My (L:=L) (D:=λa=>1+kX n a+4*n) (cs:=ez l t t) (x:=jV A l L t) (k:=1) (λa g=>f a (Ae.1 g).1) aa (λb e c d=>by
  show cS b 3222 3072 1 (if _ then _ else _);split
  ·grind
  exact cS.zero) b e c d
 exact this.mono (bc _) (bc _) aa
theorem Vf (g:l.length<=1000) (f:∀d∈l,d.2.2.1.length<=64):CI (l,(),())=Y (bq,()):=by
 have c:CK (l,(),())=Y (-1,()):=by
  unfold CK;refine bQ.1 ?_;dsimp only;refine bE (P:=λb=>b=.inl ()) ?_ (by grind [bu]);refine bO l.length (λa b=>b=((a:Z),())) rfl ?_ ?_
  ·rintro a _ c rfl;dsimp only;rw[bh,aY (aK (aa:(a:Z)<(l.length:Z))),bk aa];refine bz (y:=l[a]) (by rw[fg,bS c]) ?_;have e:Cg (l[a],())=Y (bq,()):=by
    grind [bh,aI,b7,Cg]
   refine bz e ?_;dsimp only;rw[bP];grind [bu]
  rintro _ rfl;dsimp only;rw[bh,a1 (aI (aa:¬(l.length:Z)<(l.length:Z)))];grind [bu]
 unfold CI;grind
end
structure FT (n t:X) (RE:X->lp) (L:X->aV):Prop where
 p:∀c,c<t->KK n (RE c) (L c)
 ex:∀c,c<t->vP (1+kX n c+4*n) (L c)
theorem aaV {l:bm dd} {n:X} {A:X->X->ahT} (m:hW q l) (x:q.length=n) (I:∀v w,cP (A v w)) (ds:∀K:X,K=65536->∀v w,cS K 3222 3072 1 (A v w)) (R:n<=12) {N:lZ} (d9:h.length=n) {ad:Z} (d3:w6 (N,h,())=Y (Y (ad,(q,()),o,()),0,())) (c2:∀v w:X,v<n->w<n->w5 (Y (ad,(q,()),o,()),(v:Z),(w:Z),())=Y (az (A v w),())) (dl:uJ ((q,()),l,())=Y (0,())):uv (N,h,l,())=Y (kZ A h l):=by
 have f5:=DR m;have d0:∀t,(z:t<l.length)->ao l (t:Z)=Y ((be l t:Z),(be l (t+1):Z),gP l (t:Z),gn l t,()):=λt z=>(by rw[fg];exact(ajL m x z).g);have em:∀f∈l,f.2.2.1.length<=64:=λf ft=>(by obtain⟨t,u,rfl⟩:=aiS.1 ft;have B:=ajL m x u;have F:=B.g;rw[bS u] at F;have G:=B.Bl;grind [aiL,gP,hC]);unfold uv;refine ai d3 ?_;dsimp only;rw[a1 (by rfl)];refine ai bn (ai dl ?_);dsimp only;rw[a1 (by rfl)];refine ai (Vf aa em) ?_;dsimp only;rw[bP,bh,h9 aa,bN];refine bQ.1 ?_;generalize f6:(Y (ad,(q,()),o,()):v5)=H at*;refine bE (P:=λd=>(h7 A l l.length=bo/\d=.inr (nI,233,()))\/∃L e,h7 A l l.length=Y (L,e)/\d=.inl (nI,lC H e (ky L),())) ?_ ?_
 ·refine bO l.length (λt d=>∃L e i,h7 A l t=Y (L,e)/\FT n t i (λa=>L.getD a hn)/\d=((t:Z),nI,lC H e (ky L),aB l.length (λc=>(ez l t c).map λa=>(i a).enc),())) ?_ ?_ ?_
  ·refine⟨[],[],λ_=>⟨[],0,[],[]⟩,bn,⟨λa C=>by omega,λa C=>by omega⟩,?_⟩;rw[jb];rfl
  rotate_left
  ·rintro _ ⟨L,e,i,z,_,rfl⟩;dsimp only;rw[a1 (aI (aa:¬(l.length:Z)<(l.length:Z)))];grind [bu]
  rintro t _ u ⟨L,e,i,d5,Q,rfl⟩;dsimp only;rw[aY (aK (aa:(t:Z)<(l.length:Z))),bk aa];obtain⟨d2,k⟩:=uS I m x aa d5;have B:=ajL m x u;have V:=k.wl I B;have fp:=k.BF A I B;have fn:=UH (l:=l) ds R (aa:t<=12) Q.ex;have a3:=SX m x u k I (aa:n<=64) Q.p c2;have co:=iW.start V aa;have gc:h7 A l (t+1)=(aiC ((hQ A l (λa=>L.getD a hn) t).full+1) (hQ A l (λa=>L.getD a hn) t)).map λd=>(L++[d.1],e++d.2):=(by grind [h7]);have fs:=V.full;generalize f9:hQ A l (λa=>L.getD a hn) t=b at*;rw[<-Xl] at a3 co;have d4:iG b.rows b.full (bJ b.rows.length bp) (λN cs=>az (b.s (b.rows.getD N 0) (b.rows.getD cs 0))) b (1+kX n t):=⟨co,fn⟩;have f4:=Me R (aa:t<=12);obtain⟨aw,ge,gf⟩:=AF k.eM;have f8:(e.flatMap a8.cF).length<=n:=(by have G:=k.perm.length_eq;rw[aiz,ai2] at G;have cv:=B.wx;have c1:=B.BJ;omega);have f3:=L6 (n:=n) (L:=L) λa C=>(k.fl aa).1;have f7:n*L.length<=12*12:=akW R aa;have ek:=abn d4 V aa (ajm _) H (ps0:=e) aa aa (del:=ky L) aa;refine bE (P:=λd=>(h7 A l (t+1)=bo/\d=.inr (.inr (.inr (nI,233,()))))\/∃M am S,h7 A l (t+1)=Y (M,am)/\FT n (t+1) S (λa=>M.getD a hn)/\d=.inl (nI,lC H am (ky M),aB l.length (λc=>(ez l (t+1) c).map λa=>(S a).enc),())) ?_ ?_
  rotate_left
  ·rintro _ (⟨F,rfl⟩|⟨M,am,S,F,G,rfl⟩)
   ·dsimp only;refine bu.2 (.inl ⟨?_,bn⟩);have G:=Hx F (l.length-(t+1));rwa[(aa:t+1+(l.length-(t+1))=l.length)] at G
   grind [bu]
  refine bz (d0 t u) ?_;have el:∀{fT:Type} (j:X->bm (bv c4)) (T:bm (bv c4)->bv fT),rd (aB l.length j) (t:Z) T=T (j t):=λj T=>(by unfold rd;rw[cY,eS u,bN,gq (jl u),bN]);rw[el];refine bz a3 ?_;dsimp only;refine bE (P:=λd=>(∃f E D y O,aiC (b.full+1) b=Y (f,E)/\d=(0,nI,lC H (e++E) (ky L+f.full),aB l.length (λc=>(ez l t c).map λa=>(i a).enc),((be l t:Z),(be l (t+1):Z),gP l (t:Z),gn l t,()),cE b.rows b.full D (eF b.rows.length y),())/\iG b.rows b.full D y f O/\O<=1+kX n t+4*b.full)\/(aiC (b.full+1) b=bo/\d.1=233)) ?_ ?_
  ·rw[aY (by rfl)];refine bE ek ?_;rintro gi (⟨f,E,D,y,O,F,rfl,cv,c1⟩|⟨F,G⟩)
   ·grind [bu]
   grind [bu]
  rintro d (⟨f,E,D,y,O,eq,rfl,a0,f1⟩|⟨eq,ci⟩)
  rotate_left
  ·obtain⟨f0,_⟩:=d;dsimp only at ci;subst ci;dsimp only;rw[aY (by rfl)];refine bu.2 (.inl ⟨by grind,bn⟩)
  dsimp only;rw[a1 (by rfl)];have a4:h7 A l (t+1)=Y (L++[f],e++E):=(by grind);have bl:∀a,a<t->(L++[f]).getD a hn=L.getD a hn:=λa C=>(by rw[anq,anq,List.getElem?_append_left aa]);have bx:(L++[f]).getD t hn=f:=(by simp_all);generalize ce:(⟨b.rows,b.full,D,eF b.rows.length y⟩:lp)=J;have d8:J.enc=Y (cE b.rows b.full D (eF b.rows.length y)):=(by rw[<-ce];rfl);have av:FT n (t+1) (λa=>if a=t then J else i a) (λa=>(L++[f]).getD a hn):=by
   refine⟨λa C=>?_,λa C=>?_⟩
   ·by_cases j:a=t
    ·subst j;rw[au bn,bx,<-ce];exact⟨a0.r,fp⟩
    rw[ax j,bl a aa];exact Q.p a aa
   by_cases j:a=t
   ·subst j;rw[bx];intro K d1 v d6 w d7;have:=fs;exact(a0.ex K d1 v d6 w d7).mono (bc _) (bc _) aa
   rw[bl a aa];exact Q.ex a aa
  have U:∀c,((ez l t c).map λa=>((if a=t then J else i a):lp).enc)=(ez l t c).map λa=>(i a).enc:=λc=>ia λa C=>(by have:=(Ae.1 C).1;rw[ax aa]);rcases EP m x u with⟨an,_⟩|⟨c,an,gl,ap,_⟩
  ·rw[a1 (aI (aa:¬gn l t>=0))];refine bu.2 (.inr ⟨L++[f],e++E,_,a4,av,?_⟩);rw[Ha];have:(aB l.length λc=>(ez l (t+1) c).map λa=>((if a=t then J else i a):lp).enc)=aB l.length λc=>(ez l t c).map λa=>(i a).enc:=c9 λc _=>by
    rw[yM,ax aa,U]
   grind
  rw[aY (aK (aa:gn l t>=0)),an];refine bz (eS (by grind [cY])) ?_;rw[gq (jl ap),aC];have f2:((ez l t c).map λa=>(i a).enc).length<=1000:=(by rw[ff];have:(ez l t c).length<=t:=(by unfold ez;grind);omega);rw[da (by grind),aC];refine bz (eS (by grind [cY])) ?_;rw[aY ac,gq (jl ap),aC,gq (jl ap),aC];refine bu.2 (.inr ⟨L++[f],e++E,_,a4,av,?_⟩);rw[Ha,hA];have:(aB l.length λc=>(ez l (t+1) c).map λa=>((if a=t then J else i a):lp).enc)=aB l.length (eB (λc=>(ez l t c).map λa=>(i a).enc) c (((ez l t c).map λa=>(i a).enc)++[Y (cE b.rows b.full D (eF b.rows.length y))])):=c9 λfz _=>by
   rw[yM];by_cases j:fz=c
   ·subst j;rw[gI,au an,jh,U,r0,au bn,d8]
   rw[hb _ _ j,ax aa,U]
  grind
 rintro d (⟨z,rfl⟩|⟨L,e,z,rfl⟩)
 ·unfold kZ;grind [bu]
 dsimp only;unfold kZ;rw[z];obtain⟨d2,k⟩:=uS I m x (cj _) z;refine bz (aa9 d9 R (k.all m x) k.eM _ H) ?_;grind [bu]
end
section
def Fg (c:X->X->bA) (e d a b:X):bA:=c a b||(br (a=e)&&br (b=d))
theorem MB {n e:X}:aB b (eB (λc=>aB n (d c)) a (aB n (eB (d a) e bp)))=aB b (λc=>aB n (Fg d a e c)):=
 c9 λc _=>by grind [hb,c9,gI,Fg]
def lH (a:X->X) (b:X):dd:=((a b:Z),(a (b+1):Z),[],-1,())
structure nT (G:ew) (n j F:X) (c:X->X) (T:X->X->bA):Prop where
 z:c 0=0
 e:c F=j
 m:∀f,f<F->c f<c (f+1)
 t:∀f i,f<F->i<n->(T f i=bp↔∃m,c f<=m/\m<c (f+1)/\(i:Z)∈g1 G m)
theorem Xj (e:∀d,d<a->g d<g (d+1)):∀c b,c<b->b<=a->g c<g b:=by
 intro c b f
 induction b with
 |zero=>omega
 |succ b h=>
  grind
theorem NA (d:∀c,c<a->g c<g (c+1)):∀b,b<=a->g 0+b<=g b:=by
 intro b
 induction b with
 |zero=>omega
 |succ b e=>
  grind
section
variable {G:ew} {n:X} (D:G.length=n) (B:fk G) (H:n<=7) {A:ahZ} (C:A.length<=9223372036854775807)
include D B H C
theorem TU:ae (loop (σ:=(Z×jC×bm g6×bt)) (ρ:=j7) (λ(k,M,H,_)=>
 bif br (k<al (aB n (g1 G))) then
 bB (α:=j7) (
 bB (α:=j7) (
 bB (α:=(bA×jC×bm g6×bt)) (bif (k==0)==bq then(uB (A,ay (900+k),())).bind λ(d1,_)=>
 (eJ bC d1 7).bind λd4=>
 (iC d4 3).bind λd5=>
 Y (br (d5>0),M,H,()) else Y (bp,M,H,())) λ(d2,N,I,_)=>
  bif d2 then
 (cD (N.length+([(k,(aP k,(([]:bf),((-1:Z),()))))]).length)).bind λ_=>
 (fY (al (aB n (g1 G))) (al (aB n (g1 G)))).bind λa0=>
 (cD (I.length+([bJ a0 bq]).length)).bind λ_=>
 Y ((N++[(k,(aP k,(([]:bf),((-1:Z),()))))]),(I++[bJ a0 bq]),()) else
 Y (N,I,())) λ(D,bx,_)=>
 (bj D.length (ay (al D-1))).bind λV=>
 (a9 D V λQ=>Y (D.set V (Q.1,(aP k,Q.2.2)))).bind λd9=>
 (loop (σ:=(Z×jC×bm g6×bt)) (ρ:=j7) (λ(L,av,x,_)=>
 (ao (aB n (g1 G)) k).bind λd6=>
  bif br (L<al d6) then
 (bj x.length (ay (al D-1))).bind λK=>
 (ao (aB n (g1 G)) k).bind λd7=>
 (ao d7 L).bind λd8=>
 ((a9 x K λa4=>Y a4).bind λbl=>bj bl.length d8).bind λam=>
 (a9 x K λR=>(a9 R am λ_=>Y (R.set am bp)).map λek=>x.set K ek).bind λel=>
 Y (.inl (aP L,av,el,())) else
 Y (.inr (av,x,()))) (0,d9,bx,())).bind λ(dl,ce,_)=>
 Y (dl,ce,())) λ(ds,ci,_)=>
 Y (.inl (aP k,ds,ci,())) else
 Y (.inr (M,H,()))) (0,[],[],())) (λd0=>∃f h i,nT G n n f h i/\d0=(aB f (lH h),aB f (λa=>aB n (i a)),())):=by
 refine bO n (λc O=>∃f h i,nT G n c f h i/\O=((c:Z),aB f (lH h),aB f (λa=>aB n (i a)),())) ⟨0,λ_=>0,λ_ _=>bq,⟨bn,bn,λa u=>absurd u (akZ _),λa g u=>absurd u (akZ _)⟩,bn⟩ ?_ ?_
 ·rintro c _ J ⟨f,h,i,j,rfl⟩;have fl:=NA j.m f (cj _);have fn:=j.z;have fp:=j.e;dsimp only;rw[bh,cY,aY (aK (aa:(c:Z)<(n:Z))),bk aa];refine bE (P:=λs=>∃(b:X) (d:X->X) (l:X->X->bA),d 0=0/\(∀a,a<b->d a<d (a+1))/\d b<=c/\b<=c/\(∀a g,a<b+1->g<n->(l a g=bp↔∃r,d a<=r/\r<eB d (b+1) (c+1) (a+1)/\(g:Z)∈g1 G r))/\s=(aB (b+1) (lH (eB d (b+1) (c+1))),aB (b+1) (λa=>aB n (l a)),())) ?_ ?_
  ·refine bE (P:=λs=>∃(b:X) (d:X->X) (l:X->X->bA) (F:Z),d 0=0/\(∀a,a<b->d a<d (a+1))/\d b<=c/\b<=c/\(∀a g,a<b+1->g<n->(l a g=bp↔∃r,d a<=r/\r<eB d (b+1) c (a+1)/\(g:Z)∈g1 G r))/\s=(aB (b+1) (eB (lH d) b ((d b:Z),F,[],-1,())),aB (b+1) (λa=>aB n (l a)),())) ?_ ?_
   ·refine bE (P:=λs=>∃E:bA,s=(E,aB f (lH h),aB f (λa=>aB n (i a)),())/\(E=bq->0<c)) ?_ ?_
    ·rw[gD];by_cases o:c=0
     ·rw[a1 (by simp[o])];grind [bu]
     rw[aY (by simp[o])];refine bE (Kj A C _) ?_;rintro⟨d3,_⟩ c1;dsimp only at c1|-;obtain⟨a3,c2⟩:∃a3,eJ bC d3 7=some a3:=⟨_,ca ab⟩;refine bz c2 ?_;unfold iC;rw[ca ab,bN];grind [bu]
    rintro _ ⟨E,rfl,co⟩;dsimp only;cases E with
    |true=>
     rw[bG,da (by grind [cY]),aC];refine bz (h9 aa) ?_;rw[da (by grind [cY]),aC];refine bu.2 ⟨f,h,(λa g=>if a<f then i a g else bq),((c+1:X):Z),j.z,j.m,aa,aa,?_,?_⟩
     ·intro a g v q;dsimp only;by_cases o:a<f
      ·rw[au o,hb _ _ aa];exact j.t a g o q
      obtain rfl:a=f:=aa;rw[ax o,gI];grind
     have aq:aB f (lH h)++[((c:Z),((c+1:X):Z),([]:ahZ),(-1:Z),())]=aB (f+1) (eB (lH h) f ((h f:Z),((c+1:X):Z),[],-1,())):=(by grind [c9,hb,zP,gI]);have em:aB f (λa=>aB n (i a))++[bJ n bq]=aB (f+1) (λa=>aB n (λg=>if a<f then i a g else bq)):=(by simp_all [c9,au,ajY,if_false,zP,jb]);grind
    |false=>
     have ft:=co bn;rw[bP];obtain⟨b,rfl⟩:∃b,f=b+1:=⟨f-1,by
      grind⟩
     have fz:=j.m b aa;refine bu.2 ⟨b,h,i,(c:Z),j.z,λa v=>j.m a aa,aa,aa,?_,?_⟩
     ·intro a g v q;rw[j.t a g v q];grind [hb,gI]
     grind [c9,gI,hb,lH]
   rintro _ ⟨b,d,l,F,T,U,ad,an,ap,rfl⟩;dsimp only;rw[bh,cY,show ay (((b+1:X):Z)-1)=(b:Z) by rw[(aa:((b+1:X):Z)-1=(b:Z)),cL aa aa]];refine bz (eS (ajm b)) ?_;rw[gV (ajm b),gI,hA];refine bz bn ?_;have aq:aB (b+1) (eB (eB (lH d) b ((d b:Z),F,[],-1,())) b ((d b:Z),((c+1:X):Z),[],-1,()))=aB (b+1) (lH (eB d (b+1) (c+1))):=c9 λa v=>by
    by_cases o:a=b
    ·simp_all [gI,hb,lH]
    grind [hb,lH]
   dsimp only;rw[aq];have cs:∀p,(u:p<(g1 G c).length)->∃g:X,(g1 G c)[p]=(g:Z)/\g<n:=λp u=>(by obtain⟨g,eq,ex,_⟩:=LY B (b7 u);grind);have fs:(g1 G c).length<=n:=(by grind [TF]);refine bE (P:=λs=>s=(aB (b+1) (lH (eB d (b+1) (c+1))),aB (b+1) (λa=>aB n (λw=>l a w||(br (a=b)&&br ((w:Z)∈g1 G c)))),())) ?_ ?_
   ·refine bO (g1 G c).length (λp O=>O=((p:Z),aB (b+1) (lH (eB d (b+1) (c+1))),aB (b+1) (λa=>aB n (λw=>l a w||(br (a=b)&&br ((w:Z)∈(g1 G c).take p)))),())) ?_ ?_ ?_
    ·simp
    ·rintro p _ S rfl;dsimp only;refine bz (rp J) ?_;rw[bh,aY (aK (aa:(p:Z)<((g1 G c).length:Z))),cY];refine bz (eS (ajm b)) ?_;refine bz (rp J) (bz (e3 S) ?_);obtain⟨g,q,cv⟩:=cs p S;rw[q,gV (ajm b)];refine bz (y:=g) (by grind [eS,cY]) ?_;rw[gV (ajm b),gV cv,hA,ajI,hA,MB,bk aa];refine bz bn (bu.2 ?_);congr 3;refine c9 λa _=>c9 λw _=>?_;grind [ct,bS,Fg]
    rintro _ rfl;dsimp only;refine bz (rp J) ?_;rw[bh,a1 (aI (aa:¬(((g1 G c).length:X):Z)<((g1 G c).length:Z))),cA];grind [bu]
   rintro _ rfl;dsimp only;refine bu.2 ⟨b,d,_,T,U,ad,an,?_,bn⟩;intro a g v q;rw[Bool.or_eq_true,ap a g v q];by_cases o:a=b
   ·subst o;rw[gI,gI];grind
   grind [hb]
  rintro _ ⟨b,d,l,T,U,ad,an,ap,rfl⟩;dsimp only;refine bu.2 ⟨b+1,eB d (b+1) (c+1),l,⟨?_,gI _ _ _,?_,?_⟩,bn⟩
  ·grind [hb]
  ·grind [hb,gI]
  grind [hb]
 rintro _ ⟨f,h,i,j,rfl⟩;dsimp only;rw[bh,cY,a1 (aI (aa:¬((n:Z)<(n:Z))))];grind [bu]
end
end
section
theorem ad0 (a:X->i) (b:X):eB a b (a b)=a:=by grind [eB]
theorem Rk (b:X->i) (a:X) (d c:i):eB (eB b a d) a c=eB b a c:=by grind [eB]
def hD (a:X->X->bA) (b c:X):ahZ:=((bI c).filter (a b)).map λd:X=>(d:Z)
theorem Qu:hD d b (a+1)=if d b a=bp then hD d b a++[(a:Z)] else hD d b a:=by grind [ais,hD]
theorem Qt {T:X->X->bA} {f i:X}:(hD T f i).length<=i:=by grind [cz,air,cm,hD]
def pE (c:X->X) (F:X) (e:X->X->bA) (b g:X) (h:Z):Prop:=
 (h=-1/\∀a,a<g->e b a=bp->a<c (b+1))\/
 (∃a d:X,a<g/\e b a=bp/\c (b+1)<=a/\(∀f,f<a->e b f=bp->f<c (b+1))/\h=(d:Z)/\b<d/\d<F/\c d<=a/\a<c (d+1))
def kH (c:X->X) (b:X->X->bA) (d f:X) (g:Z) (e a:X):bA:=b e a||(br (g=(e:Z))&&br (c (d+1)<=a)&&br (a<f)&&b d a)
structure m7 (G:ew) (n F:X) (c:X->X) (v9:X->X->bA) (f:X) (T:X->X->bA) (g:X->dd):Prop where
 sub:∀m x,m<F->x<n->v9 m x=bp->T m x=bp
 sup:∀m x,m<F->x<n->T m x=bp->c m<=x
 td:∀m,m<f->∃q,pE c F T m n q/\g m=((c m:Z),(c (m+1):Z),hD T m n,q,())/\∀p:X,q=(p:Z)->∀x,c (m+1)<=x->x<n->T m x=bp->T p x=bp
 new:∀m,f<=m->m<F->g m=lH c m
section
variable {G:ew} {n F:X} {c:X->X} {v9:X->X->bA} (C:G.length=n) (B:fk G) (D:n<=7) (A:nT G n n F c v9)
include C B D A
theorem nT.yf:F<=n:=by have:=NA A.m F (bc _);have:=A.e;omega
theorem nT.le (f:b<=a) (e:a<=F):c b<=c a:=by
 rcases cO b a with d|d
 ·exact Nat.le_of_lt (Xj A.m b a d e)
 grind
theorem nT.own (g:a<n):∃b,b<F/\c b<=a/\a<c (b+1):=by
 have h:∀d,d<=F->a<c d->∃b,b<d/\c b<=a/\a<c (b+1):=by
  intro d
  induction d with
  |zero=>intro _ f;rw[A.z] at f;omega
  |succ d i=>
   grind
 exact h F (bc _) (by rw[A.e];exact g)
theorem nT.sup (e:a<F) (f:b<n) (d:v9 a b=bp):c a<=b:=by obtain⟨j,g,h,i⟩:=(A.t a b e f).1 d;grind [LY]
theorem nT.diag (g:a<F) (d:c a<=b) (f:b<c (a+1)):v9 a b=bp:=by have h:=A.le C B D (aa:a+1<=F) (bc _);have i:=A.e;obtain⟨k,j,_⟩:=TE B (aa:b<G.length);exact(A.t a b g aa).2 ⟨b,d,f,by grind⟩
theorem aaY {T:X->X->bA} (ad:a<F) (G:b<n) (av:c (a+1)<=b) {g:X->dd} {has:bm g6} (z:∀d,d<F->(g d).1=(c d:Z)/\(g d).2.1=(c (d+1):Z)):ae (loop (σ:=(Z×jC×bm g6×bt)) (ρ:=j7) (λ(i,f,p,_)=>
 bif br (i<al f) then
 bB (α:=j7) (
 bB (α:=(bA×jC×bm g6×bt)) (
 (bj f.length i).bind λH=>
 (a9 f H λw=>Y w.1).bind λO=>
  bif br ((b:Z)>=O)==bp then(bj f.length i).bind λI=>
 (a9 f I λx=>Y x.2.1).bind λQ=>
 Y (br ((b:Z)<Q),f,p,()) else Y (bq,f,p,())) λ(N,o,r,_)=>
  bif N then
 (bj o.length (a:Z)).bind λt=>
 (a9 o t λk=>Y (o.set t (k.1,(k.2.1,(k.2.2.1,(i,k.2.2.2.2)))))).bind λR=>
 Y (R,r,()) else
 Y (o,r,())) λ(J,y,_)=>
 Y (.inl (aP i,J,y,())) else
 Y (.inr (f,p,()))) (aP (a:Z),aB F g,has,())) (λL=>∃e:X,a<e/\e<F/\c e<=b/\b<c (e+1)/\L=(aB F (eB g a ((g a).1,(g a).2.1,(g a).2.2.1,(e:Z),())),has,())):=by
 have V:=A.yf C B D;obtain⟨e,K,a0,a3⟩:=A.own C B D G;have am:a<e:=by
  rcases cO a e with h|h
  ·exact h
  have:=A.le C B D (aa:e+1<=a+1) aa;omega
 refine(bO (F-(a+1)) (λm M=>M=(((a+1+m:X):Z),aB F (if e<a+1+m then eB g a ((g a).1,(g a).2.1,(g a).2.2.1,(e:Z),()) else g),has,())) ?_ ?_ ?_)
 ·rw[bk aa,ax aa]
 ·rintro m _ an rfl;dsimp only;generalize ap:a+1+m=d;have j:d<F:=aa;rw[bh,cY,aY (aK (aa:(d:Z)<(F:Z)))];generalize E:(if e<d then eB g a ((g a).1,(g a).2.1,(g a).2.2.1,(e:Z),()) else g)=q;have s:(q d)=g d:=by
   rw[<-E];grind [hb]
  obtain⟨u,v⟩:=z d j;refine bE (P:=λh=>h=(aB F (if e<d+1 then eB g a ((g a).1,(g a).2.1,(g a).2.2.1,(e:Z),()) else g),has,())) ?_ ?_
  ·refine bE (P:=λh=>h=(br (d=e),aB F q,has,())) ?_ ?_
   ·refine bz (eS j) ?_;rw[gV j,s,u];refine bz bn ?_;by_cases S:c d<=b
    ·rw[aY (by grind)];refine bz (eS j) ?_;rw[gV j,s,v];refine bz bn (bu.2 ?_);by_cases l:d=e
     ·rw[aK l,aK (show(b:Z)<(c (d+1):Z) by grind)]
     have:¬b<c (d+1):=λU=>by
      rcases cO d e with h|h
      ·have:=A.le C B D (aa:d+1<=e) aa;omega
      have:=A.le C B D (aa:e+1<=d) aa;omega
     grind
    rw[a1 (by grind),aI (show¬d=e by grind)];grind [bu]
   rintro _ rfl;dsimp only;by_cases l:d=e
   ·rw[aY (aK l)];simp_all [bz,bu,gV,hA,au,eS,cY]
   rw[a1 (aI l)];grind [bu]
  grind [bk,bu]
 rintro _ rfl;dsimp only;rw[bh,cY,(aa:a+1+(F-(a+1))=F),a1 (aI (aa:¬((F:Z)<(F:Z)))),ca K];grind [bu]
theorem acr (q:a<F) (R:m7 G n F c v9 a d p):ae (loop (σ:=(Z×jC×bm g6×bt)) (ρ:=j7) (λ(s,t,v,_)=>
 bif br (s<al (aB n (g1 G))) then
 bB (α:=j7) (
 (bj v.length (a:Z)).bind λcs=>
 ((a9 v cs λd2=>Y d2).bind λd3=>bj d3.length s).bind λf3=>
 (a9 v cs λd4=>a9 d4 f3 λd5=>Y d5).bind λhs=>
  bif !hs then
 Y (t,v,()) else
 (bj t.length (a:Z)).bind λcv=>
 (a9 t cv λd6=>Y d6.2.2.1).bind λgt=>
 (cD (gt.length+([s]).length)).bind λ_=>
 (bj t.length (a:Z)).bind λU=>
  bif bH cv U&&bp then
 (a9 t U λd7=>Y d7.2.2.1).bind λhc=>
 (a9 t U λam=>Y (t.set U (am.1,(am.2.1,((hc++[s]),am.2.2.2))))).bind λE=>
 bB (α:=j7) (
 bB (α:=(bA×jC×bm g6×bt)) (
 (bj E.length (a:Z)).bind λf4=>
 (a9 E f4 λd8=>Y d8.2.1).bind λhv=>
  bif br (s>=hv)==bp then(bj E.length (a:Z)).bind λf5=>
 (a9 E f5 λd9=>Y d9.2.2.2.1).bind λhw=>
 Y (br (hw<0),E,v,()) else Y (bq,E,v,())) λ(go,c2,a4,_)=>
  bif go then
 (loop (σ:=(Z×jC×bm g6×bt)) (ρ:=j7) (λ(H,u,ap,_)=>
  bif br (H<al u) then
 bB (α:=j7) (
 bB (α:=(bA×jC×bm g6×bt)) (
 (bj u.length H).bind λf6=>
 (a9 u f6 λek=>Y ek.1).bind λib=>
  bif br (s>=ib)==bp then(bj u.length H).bind λf7=>
 (a9 u f7 λel=>Y el.2.1).bind λic=>
 Y (br (s<ic),u,ap,()) else Y (bq,u,ap,())) λ(gs,V,bl,_)=>
  bif gs then
 (bj V.length (a:Z)).bind λc1=>
 (a9 V c1 λQ=>Y (V.set c1 (Q.1,(Q.2.1,(Q.2.2.1,(H,Q.2.2.2.2)))))).bind λio=>
 Y (io,bl,()) else
 Y (V,bl,())) λ(gc,fp,_)=>
 Y (.inl (aP H,gc,fp,())) else
 Y (.inr (u,ap,()))) (aP (a:Z),c2,a4,())).bind λ(f8,fl,_)=>
 Y (f8,fl,()) else
 Y (c2,a4,())) λ(z,L,_)=>
 (bj z.length (a:Z)).bind λf1=>
 (a9 z f1 λdl=>Y dl.2.1).bind λhi=>
  bif br (s>=hi) then
 (bj z.length (a:Z)).bind λf2=>
 (a9 z f2 λds=>Y ds.2.2.2.1).bind λhr=>
 (bj L.length hr).bind λa0=>
 ((a9 L a0 λd0=>Y d0).bind λd1=>bj d1.length s).bind λco=>
 (a9 L a0 λa3=>(a9 a3 co λ_=>Y (a3.set co bp)).map λid=>L.set a0 id).bind λii=>
 Y (z,ii,()) else
 Y (z,L,()) else bo) λ(f9,fn,_)=>
 Y (.inl (aP s,f9,fn,())) else
 Y (.inr (t,v,()))) ((c a:Z),aB F p,aB F (λa=>aB n (d a)),())) (λx=>∃j,pE c F d a n j/\x=(aB F (eB p a ((c a:Z),(c (a+1):Z),hD d a n,j,())),aB F (λh=>aB n (kH c d a n j h)),())):=by
 have i2:=A.yf C B D;have jp:=A.le C B D (aa:a+1<=F) (bc _);have i8:=A.e;have lc:=A.m a q;have fz:p a=lH c a:=R.new a (bc _) q;have kd:∀h,h<F->(p h).1=(c h:Z)/\(p h).2.1=(c (h+1):Z):=λh bx=>by
  rcases cO h a with r|r
  ·obtain⟨j,_,K,_⟩:=R.td h r;grind
  rw[R.new h r bx];exact⟨bn,bn⟩
 refine bO (n-c a) (λw gl=>∃j,pE c F d a (c a+w) j/\gl=(((c a+w:X):Z),aB F (eB p a ((c a:Z),(c (a+1):Z),hD d a (c a+w),j,())),aB F (λh=>aB n (kH c d a (c a+w) j h)),())) ?_ ?_ ?_
 ·have aq:hD d a (c a)=[]:=by
   unfold hD;rw[akU.2 λk S r=>?_]
   ·rfl
   have J:=ig.1 S;have:=R.sup a k q aa r;omega
  refine⟨-1,.inl ⟨bn,λk S r=>?_⟩,?_⟩
  ·omega
  rw[nc,aq];congr 2
  ·have:eB p a ((c a:Z),(c (a+1):Z),([]:ahZ),(-1:Z),())=p:=by
    rw[show((c a:Z),(c (a+1):Z),([]:ahZ),(-1:Z),())=p a from fz.symm,ad0]
   grind
  simp_all [c9,aI,kH]
 ·rintro w _ lb ⟨j,M,rfl⟩;dsimp only;generalize kg:c a+w=b at*;have av:b<n:=aa;rw[bh,cY,aY (aK (aa:(b:Z)<(n:Z))),(aa:c a+(w+1)=b+1)];have fT:kH c d a b j a b=d a b:=by
   grind [aI,kH]
  refine bE (P:=λx=>∃o,pE c F d a (b+1) o/\x=(aB F (eB p a ((c a:Z),(c (a+1):Z),hD d a (b+1),o,())),aB F (λh=>aB n (kH c d a (b+1) o h)),())) ?_ ?_
  ·refine bz (eS (by grind [cY])) ?_;rw[gV q];refine bz (y:=b) (by grind [eS,cY]) ?_;rw[gV q,gV av,fT];refine bz bn ?_;cases an:d a b with
   |false=>
    rw[aY (by rfl)];refine bu.2 ⟨j,?_,?_⟩
    ·rcases M with⟨aw,o⟩|⟨k,l,aw,o⟩
     ·refine .inl ⟨aw,λk S r=>?_⟩;grind
     exact .inr ⟨k,l,aa,o⟩
    rw[Qu,an,ax ab];congr 2;refine c9 λh _=>c9 λk _=>?_;grind [aK,aI,kH]
   |true=>
    rw[a1 (by rfl)];refine bz (eS (by grind [cY])) ?_;rw[gV q,gI];refine bz bn ?_;have lk:=Qt (T:=d) (f:=a) (i:=b);rw[da (by grind),bN];refine bz (eS (by grind [cY])) ?_;rw[aY (by simp_all),gV q,gI];refine bz bn ?_;rw[gV q,gI,hA,Rk];refine bz bn ?_;have f0:hD d a b++[(b:Z)]=hD d a (b+1):=(by rw[Qu,ca an]);dsimp only;rw[f0];refine bE (P:=λx=>∃o,x=(aB F (eB p a ((c a:Z),(c (a+1):Z),hD d a (b+1),o,())),aB F (λh=>aB n (kH c d a b j h)),())/\((b<c (a+1)/\o=j)\/(c (a+1)<=b/\∃l:X,o=(l:Z)/\l<F/\(j=o\/(j=-1/\∀k,k<b->d a k=bp->k<c (a+1)))))/\pE c F d a (b+1) o) ?_ ?_
    ·refine bE (P:=λx=>∃O:bA,x=(O,aB F (eB p a ((c a:Z),(c (a+1):Z),hD d a (b+1),j,())),aB F (λh=>aB n (kH c d a b j h)),())/\(O=bp↔c (a+1)<=b/\j<0)) ?_ ?_
     ·refine bz (eS (by grind [cY])) ?_;rw[gV q,gI];refine bz bn ?_;dsimp only;by_cases I:c (a+1)<=b
      ·rw[aY (by grind)];grind [bz,bu,gV,gI,eS,cY]
      rw[a1 (by grind)];grind [bu]
     rintro _ ⟨O,rfl,fs⟩;dsimp only;cases O with
     |true=>
      obtain⟨ad,is⟩:=fs.1 bn;rw[bG];have ci:j=-1/\∀k,k<b->d a k=bp->k<c (a+1):=by
       rcases M with r|⟨k,l,J,K,em,eq,ex,_⟩
       ·exact r
       omega
      refine bE (aaY (T:=d) C B D A q av ad (g:=eB p a ((c a:Z),(c (a+1):Z),hD d a (b+1),j,())) (has:=aB F (λh=>aB n (kH c d a b j h))) (λh bx=>?_)) ?_
      ·grind [hb,gI]
      rintro _ ⟨l,ge,N,gf,gi,rfl⟩;dsimp only;refine bu.2 ⟨(l:Z),?_,.inr ⟨ad,l,bn,N,.inr ci⟩,.inr ⟨b,l,aa,an,ad,ci.2,bn,ge,N,gf,gi⟩⟩;rw[gI,Rk]
     |false=>
      rw[bP];refine bu.2 ⟨j,bn,?_,?_⟩
      ·rcases cO b (c (a+1)) with I|I
       ·omega
       refine .inr ⟨I,?_⟩;rcases M with r|⟨k,l,J,K,em,eq,ex,i0,i1,_⟩
       ·grind
       grind
      rcases M with⟨J,K⟩|⟨k,l,J,K⟩
      ·refine .inl ⟨J,λk S i3=>?_⟩;grind
      exact .inr ⟨k,l,aa,K⟩
    rintro _ ⟨o,rfl,ft,ce⟩;dsimp only;refine bz (eS (by grind [cY])) ?_;rw[gV q,gI];refine bz bn ?_;dsimp only;rcases ft with⟨I,rfl⟩|⟨I,l,rfl,N,lf⟩
    ·rw[a1 (aI (aa:¬(b:Z)>=(c (a+1):Z)))];refine bu.2 ⟨o,ce,?_⟩;congr 2;refine c9 λh _=>c9 λk _=>?_;grind [aI,aK,kH]
    rw[aY (aK (aa:(b:Z)>=(c (a+1):Z)))];refine bz (eS (by grind [cY])) ?_;rw[gV q,gI];refine bz bn ?_;dsimp only;refine bz (eS (by grind [cY])) ?_;rw[gV N];refine bz (y:=b) (by grind [eS,cY]) ?_;rw[gV N,gV av,hA,ajI,hA,MB];refine bz bn (bu.2 ⟨(l:Z),ce,?_⟩);congr 2;refine c9 λh _=>c9 λk _=>?_;grind [Fg,kH]
  grind [bk,bu]
 rintro _ ⟨j,M,rfl⟩;dsimp only;rw[(aa:c a+(n-c a)=n)] at*;rw[bh,cY,a1 (aI (aa:¬((n:Z)<(n:Z))))];grind [bu]
end
end
section
theorem pE.congr {c:X->X} {F:X} (e:d a=k a) (f:pE c F d a b n):pE c F k a b n:=by simp_all [pE]
theorem Qs (c:d a=k a):hD d a b=hD k a b:=by grind [hD]
section
variable {G:ew} {n F:X} {c:X->X} {A:X->X->bA} (B:G.length=n) (C:fk G) (D:n<=7) (H:nT G n n F c A)
include B C D H
theorem m7.next {o:X->dd} (L:a<F) (j:m7 G n F c A a d o) {g:Z} (l:pE c F d a n g):m7 G n F c A (a+1) (kH c d a n g) (eB o a ((c a:Z),(c (a+1):Z),hD d a n,g,())):=by
 have i:∀b,b<=a->kH c d a n g b=d b:=λb h=>by
  funext f;unfold kH;have:¬g=(b:Z):=by rcases l with⟨e,_⟩|⟨f,p,_,_,_,_,e,k,_⟩<;>omega
  grind
 have v:∀b f,d b f=bp->kH c d a n g b f=bp:=λb f e=>(by grind [kH]);refine⟨λb f h m e=>v _ _ (j.sub b f h m e),λb f h m e=>?_,λb h=>?_,λb h t=>?_⟩
 ·unfold kH at e;rw[je] at e;rcases e with e|e
  ·exact j.sup b f h m e
  simp only[cC,aip] at e;obtain⟨⟨⟨q,k⟩,s⟩,K⟩:=e;rcases l with⟨aw,_⟩|⟨M,p,y,z,B,C,D,E,H,I,J⟩
  ·omega
  grind
 ·rcases cO b a with e|e
  ·obtain⟨aw,q,k,s⟩:=j.td b e;refine⟨aw,q.congr (i b aa).symm,?_,λp u f w x r=>?_⟩
   ·rw[hb _ _ aa,k,Qs (i b aa)]
   rw[i b aa] at r;grind
  obtain rfl:b=a:=aa;refine⟨g,l.congr (i b aa).symm,?_,λp u f w x r=>?_⟩
  ·rw[gI,Qs (i b aa)]
  grind [aK,kH]
 rw[hb _ _ aa];exact j.new b aa t
end
theorem HK {j:e0} {k:ahZ} {aJ:e0} {l:Z} {m:Z} {G:ew} {o:Z} {n:X} (B:G.length=n) (C:fk G) (D:n<=7) (t:k.length<=9223372036854775807) (p:sB (j,())=Y (aJ,l,())) (r:sC (aJ,())=Y ((q,()),m,())) (s:q3 ((q,()),h,())=Y ((G,()),o,())):ae (zj (j,h,k,())) (λi=>∃F c A b a,nT G n n F c A/\m7 G n F c A F b a/\i=(aB F a,())):=by
 unfold zj;refine bz p (bz r (bz s ?_));refine bz (ab7 C aa) ?_;dsimp only;rw[B];refine bE (TU B C D t) ?_;rintro _ ⟨F,c,A,H,rfl⟩;dsimp only;have z:=H.yf B C D;refine bE (P:=λi=>∃b a,m7 G n F c A F b a/\i=(aB F a,())) ?_ ?_
 ·refine bO F (λd y=>∃b a,m7 G n F c A d b a/\y=((d:Z),aB F a,aB F (λd=>aB n (b d)),())) ⟨A,lH c,⟨λ_ _ _ _ e=>e,λx I u w e=>H.sup B C D u w e,λx e=>absurd e (akZ _),λ_ _ _=>rfl⟩,bn⟩ ?_ ?_
  ·rintro d _ f ⟨b,a,g,rfl⟩;dsimp only;rw[bh,cY F,aY (aK (aa:(d:Z)<(F:Z)))];refine bz (eS f) ?_;rw[gV f,g.new d (cj _) f];refine bz bn ?_;refine bE (acr B C D H f g) ?_;rintro _ ⟨E,v,rfl⟩;dsimp only;rw[bk aa];exact bu.2 ⟨_,_,g.next B C D H f v,bn⟩
  rintro _ ⟨b,a,g,rfl⟩;dsimp only;rw[bh,cY F,a1 (aI (aa:¬((F:Z)<(F:Z))))];grind [bu]
 grind [bu]
theorem U3 {P:X->bA} {a b:X} (i:∀c,c<a->P c=bq) (j:∀c,a<=c->c<b->P c=bp) (k:a<=b):∀e,(bI (b+e)).filter P=ah6 a (b-a)++(((bI (b+e)).filter P).filter λc=>br (b<=c)):=by
 have h:∀d,a+d<=b->(bI (a+d)).filter P=ah6 a d:=by
  intro d
  induction d with
  |zero=>
   simp_all
  |succ d f=>
   grind [ajv,ais,List.filter_cons_of_pos,ak3]
 intro e
 induction e with
 |zero=>
  have:=h (b-a) aa;simp_all
 |succ e f=>
  rw[<-ajv,i5,px,px,<-iY,<-f];congr 1;cases g:P (b+e)<;>simp[g]
end
section
section
variable {G:ew} {n F:X} {c:X->X} {I T:X->X->bA} {g:X->dd} (C:G.length=n) (D:fk G) (H:n<=7) (A:nT G n n F c I) (B:m7 G n F c I F T g)
include C D H A B
theorem m7.be {a:X} (e:a<=F):be (aB F g) a=c a:=by
 cases a with
 |zero=>exact A.z.symm
 |succ a=>
  obtain⟨f,_,d,_⟩:=B.td a aa;show(Option.map (λb:dd=>b.2.1.toNat) (aB F g)[a]?).getD 0=c (a+1);grind [jl]
theorem Iw {k x:X}:(x:Z)∈hD T k n↔x<n/\T k x=bp:=by unfold hD;grind
theorem Qr (a:X):(hD T a n).Pairwise (· < ·):=by unfold hD;rw[oK];exact(List.pairwise_lt_range.filter _).imp λb=>by omega
theorem m7.rows {f:X} (g:f<F):∃i:ahY,hD T f n=(ah6 (c f) (c (f+1)-c f)++i).map (λd:X=>(d:Z))/\∀d,d∈i↔c (f+1)<=d/\d<n/\T f d=bp:=by
 have q:=A.le C D H (aa:f+1<=F) (bc _);have r:=A.e;have s:=A.m f g;have:=U3 (P:=λd=>br (d<n)&&T f d) (a:=c f) (b:=c (f+1)) (λd h=>by
  by_cases p:d<n
  ·cases j:T f d with
   |false=>simp
   |true=>have:=B.sup f d g p j;omega
  omega) (λd l o=>by
   show(br (d<n)&&T f d)=bp;rw[aK (aa:d<n),B.sub f d g aa (A.diag C D H g l o)];rfl) aa (n-c (f+1))
 rw[(aa:c (f+1)+(n-c (f+1))=n)] at this;have k:(bI n).filter (λd=>br (d<n)&&T f d)=(bI n).filter (T f):=py λd h=>(by rw[aK (ig.1 h),ajX]);rw[k] at this;refine⟨((bI n).filter (T f)).filter λd=>br (c (f+1)<=d),?_,?_⟩
 ·grind [hD]
 grind
theorem m7.Vg:hW G (aB F g):=by
 have d4:=A.yf C D H;have a0:=A.e;have O:∀a,a<=F->jf.be (aB F g) a=c a:=λa b=>B.be C D H A b;have N:lR n (aB F g):=by
  refine⟨λa b=>?_,by rw[cY,O F (bc _),a0]⟩;rw[cY] at b;obtain⟨z,_,j,_⟩:=B.td a b;have s:=A.m a b;have d3:=A.le C D H (aa:a+1<=F) (bc _);refine⟨g a,jl b,?_,?_,?_⟩
  ·rw[j,O a aa]
  ·grind
  grind
 have ce:∀f,f<F->gP (aB F g) (f:Z)=hD T f n:=λf R=>(by obtain⟨z,_,j,_⟩:=B.td f R;grind [tj,cY,lE]);have bs:∀{f i:X},f<F->c f<=i->i<c (f+1)->hf (jf.be (aB F g)) i (aB F g).length=(f:Z):=λ{f i} R d2 j=>(by have s:=cY F g;exact wz (m:=(aB F g).length) (λa b=>⟨b,N.1 a b⟩) aa (by grind) (by grind) _ aa (bc _));unfold hW;rw[C];refine⟨N,λa b=>?_,λa b=>?_,λad d w=>?_⟩
 ·rw[cY] at b;rw[lE];obtain⟨z,_,j,_⟩:=B.td a b;obtain⟨h,S,p⟩:=B.rows C D H A b;have s:=A.m a b;have bl:(hD T a n).length=(c (a+1)-c a)+h.length:=(by grind);have u:=Qr C D H A B a;have q:((c (a+1):Z)-(c a:Z)).toNat=c (a+1)-c a:=aa;rw[j];unfold jz;dsimp only;rw[q];refine⟨aa,λd _ P l=>⟨λQ=>?_,λv=>?_⟩⟩
  ·simp_all
  dsimp only at v l|-;rw[q] at v;have y:(hD T a n)[d]=((h[d-(c (a+1)-c a)]'(by omega):X):Z):=by simp_all
  have o:=(p _).1 (cR (aa:d-(c (a+1)-c a)<h.length));refine⟨aa,aa,?_⟩;exact(h4.1 u) (d-1) d aa aa aa
 ·rw[cY] at b;rw[lE];obtain⟨z,bx,j,d6⟩:=B.td a b;obtain⟨h,S,p⟩:=B.rows C D H A b;have s:=A.m a b;have bl:(hD T a n).length=(c (a+1)-c a)+h.length:=(by grind);have u:=Qr C D H A B a;have q:((c (a+1):Z)-(c a:Z)).toNat=c (a+1)-c a:=aa;have y:∀d (l:d<(hD T a n).length),c (a+1)-c a<=d->∃i,i∈h/\(hD T a n)[d]=(i:Z):=λd l v=>by
   refine⟨h[d-(c (a+1)-c a)]'(by omega),cR _,?_⟩
   simp_all
  rw[j];unfold iX;dsimp only;rw[q];rcases bx with⟨aw,d9⟩|⟨I,f,K,L,ap,cs,rfl,cv,c1,c2,dl⟩
  ·refine .inl ⟨?_,aw⟩;have:h=[]:=List.eq_nil_iff_forall_not_mem.2 λi d8=>by
    grind
   grind
  have co:=(p I).2 ⟨ap,K,L⟩;have d7:0<h.length:=List.length_pos_of_mem co;refine .inr ⟨aa,?_,λd P l=>?_⟩
  ·obtain⟨J,V,a3⟩:=y (c (a+1)-c a) aa (bc _);obtain⟨ds,d0,d1⟩:=(p J).1 V;have d5:J<=I:=by
    obtain⟨E,ci,U⟩:=ht.1 ((Iw (x:=I) C D H A B (k:=a)).2 ⟨K,L⟩);rcases cO E (c (a+1)-c a) with av|av
    ·simp only[S,jh] at U;rw[List.getElem_append_left (by grind)] at U;grind
    rcases cO (c (a+1)-c a) E with M|M
    ·have:=(h4.1 u) _ E aa ci M;omega
    grind
   grind [aiA,cl]
  obtain⟨J,V,a3⟩:=y d l P;grind [Iw]
 intro Q;have a4:ad<n:=(by obtain⟨l,_⟩:=w;omega);have o:d<n:=(by have:=w.lt D;omega);obtain⟨f,r,am,an⟩:=A.own C D H a4;rw[bs r am an,ce f r];refine(Iw C D H A B).2 ⟨o,B.sub f d r o ((A.t f d r o).2 ⟨ad,am,an,u9.2 ⟨aa,.inr ⟨Q,?_⟩⟩⟩)⟩;exact .one w
end
end
theorem abG {b c:ahZ} (d:ji a a b h c) (e:gE a a b h c≠0):sB (((a:Z),(a:Z),b,h,c,()),())=Y ((0,0,[],[],[],()),gE a a b h c,()):=by unfold sB;refine ai d.xR ?_;grind
def abE:sC ((0,0,[],[],[],()),())=Y (([],()),1,()):=by unfold sC;refine ai (y:=((1:Z),())) rfl ?_;rfl
def FD:fk []:=HG []
theorem abI (a:ahZ):∃c,q3 (([],()),a,())=Y (([],()),c,()):=by
 rw[Jw (λe d=>by cases d)];by_cases b:mC [] a=0
 ·rw[au b];refine⟨0,?_⟩;have:a=[]:=by
   unfold mC at b;grind
  subst this;rfl
 simp_all
theorem m7.small (i:q.length=a) (j:fk q) (l:a<=7) (e:nT q a a b g d) (h:m7 q a b g d b k p):(aB b p).length<=a/\∀f∈aB b p,0<f.2.2.1.length/\f.2.2.1.length<=a:=by have t:=e.yf i j l;refine⟨by grind [cY],λf o=>?_⟩;obtain⟨n,c,rfl⟩:=ht.1 o;rw[cY] at c;rw[lE];obtain⟨v,_,r,_⟩:=h.td n c;obtain⟨w,u,_⟩:=h.rows i j l e c;have s:=e.m n c;grind [Qt]
theorem Vr {b:X} {c d:ahZ} (z:a<=b) (Q:b<=7) (y:gE a a c h d=0->mK a c h d) (u:ji a a c h d) {g L:ahZ} (q:L.length<=9223372036854775807):ae (zj (((a:Z),(a:Z),c,h,d,()),g,L,())) (λU=>∃m:jC,U=(m,())/\m.length<=b/\(∀e∈m,0<e.2.2.1.length/\e.2.2.1.length<=b)/\(Fi a a c h d g=0->hW (l7 a (g3 (c6 c h d a)) g) m)):=by
 classical
 have v:a<=7:=eD z Q;by_cases f:gE a a c h d=0
 ·have t:=(jG.1 f).1;have N:=(jG.1 f).2;have M:=q9 t a (bc _);have O:=q8 t;have V:=(y f).el;have P:=rc t u.hw;have R:=rc t (DN N);have K:=xA M;have J:=xz O;have T:=JO (rows:=a) (c3:=a) (E:=g3 (c6 c h d a)) aa aa aa (λB A=>P B (hq.1 A).1);have S:=Gz K J (λB A=>R B (hq.1 A).1);have x:=PR T S;rw[Ho K J] at x;by_cases r:gp g a
  ·refine(HK (DZ r) (zX a (g3 (c6 c h d a)) g) v q (Jm (y f) u f) x (PS (eD v ab) r)).mono ?_;rintro _ ⟨C,H,F,D,I,k,l,rfl⟩;obtain⟨o,i⟩:=l.small (DZ r) (zX a (g3 (c6 c h d a)) g) v k;exact⟨_,bn,eD o z,λe j=>⟨(i e j).1,eD (i e j).2 z⟩,λ_=>l.Vg (DZ r) (zX a (g3 (c6 c h d a)) g) v k⟩
  have p:∃w,q3 ((j0 a (jK (g3 (c6 c h d a))),()),g,())=Y (([],()),w,()):=by
   rw[Jw (λm q=>by have:=HL a (jK (g3 (c6 c h d a))) m q;omega)];rw[ax (λs=>?_)]
   ·grind
   grind [zV,mC]
  obtain⟨w,p⟩:=p;refine(HK (G:=[]) (n:=0) rfl FD (c8 _) q (Jm (y f) u f) x p).mono ?_;rintro _ ⟨C,H,F,D,I,k,l,rfl⟩;obtain⟨o,i⟩:=l.small bn FD (c8 _) k;refine⟨_,bn,eD o (c8 _),λe j=>⟨(i e j).1,eD (i e j).2 (c8 _)⟩,λs=>absurd (QN s).2.2 r⟩
 obtain⟨w,p⟩:=abI g;refine(HK (G:=[]) (n:=0) rfl FD (c8 _) q (abG u f) abE p).mono ?_;rintro _ ⟨C,H,F,D,I,k,l,rfl⟩;obtain⟨o,i⟩:=l.small bn FD (c8 _) k;exact⟨_,bn,eD o (c8 _),λe j=>⟨(i e j).1,eD (i e j).2 (c8 _)⟩,λs=>absurd (QN s).1 f⟩
section
def tV (a:eG):Prop:=a.1.length<100000/\a.2.1.length<100000/\a.2.2.1.length<100000/\a.2.2.2.1.length<100000/\a.2.2.2.2.1.length<100000/\a.2.2.2.2.2.1.length<100000
theorem acG {a:eG} (b:tV a):CV (a,a,())=Y (bp,()):=by obtain⟨e,f,g,h,i,j⟩:=b;have d:∀l:ahZ,l.length<100000->qX (l,l,())=Y (bp,()):=λl c=>(by grind [FM]);have jX:∀l:ahZ,l.length<100000->zl (l,l,())=Y (bp,()):=λl c=>(by grind [RP]);simp_all [aY,ai,CV]
theorem XB:tV nI:=by grind [tV,nI]
theorem UX {n:X} (q:n<=12) (o:ahZ) (i:(c.flatMap a8.cF).Perm (bI n)) (f:∀e∈c,tS (bI n) e) (del:Z):tV (rf o c del):=by
 obtain⟨r,s,t⟩:=AF f;have m:(c.flatMap a8.cF).length=n:=(by rw[i.length_eq,mP]);have p:∀b∈c.flatMap b4,b.1.length<=100:=λb a=>(by obtain⟨e,h,a⟩:=al8.1 a;obtain⟨j,_,rfl⟩:=eY.1 a;have:=(f e h).nd.length_le_of_subset (f e h).sub;grind);have k:=DO (gA λg=>(c.flatMap a8.cF).idxOf g) (cs:=c.flatMap b4) λb a=>(by grind [cm,rK,gA]);have l:=DO (ix λg=>(c.flatMap a8.cF).idxOf g) (cs:=c.flatMap b4) λb a=>(by grind [cm,rK,ix]);refine⟨?_,?_,?_,?_,?_,?_⟩
 ·show((c.flatMap a8.cF).map _).length<_;grind
 ·show(c.map _).length<_;grind
 ·show(c.flatMap a8.d).length<_;omega
 ·show(j9 _ _).length<_;grind [cm,ai2,j9]
 ·show((c.flatMap b4).flatMap _).length<_;omega
 show((c.flatMap b4).flatMap _).length<_;omega
section
variable {n:X} {st B C o:ahZ} {l:bm dd}
def UY {a:X->X->ahT} (f:∀h i,cP (a h i)) (d:hW q l) (b:q.length=n) (g:n<=12):tV (kZ a o l).1:=by
 unfold kZ;cases e:h7 a l l.length with
 |none=>exact XB
 |some j=>
  obtain⟨k,p⟩:=j;obtain⟨m,c⟩:=uS f d b (bc _) e;exact UX g o (c.all d b) c.eM _
theorem Kx (r:mK n st B C) (m:ji n n st B C) (h:gE n n st B C=0) (d:gp o n) (f:hW (l7 n (g3 (c6 st B C n)) o) l):uv (((n:Z),(n:Z),st,B,C,()),o,l,())=Y (kZ (jY (c6 st B C n) o) o l)/\w1 (((n:Z),(n:Z),st,B,C,()),o,l,())=Y (kZ (jY (c6 st B C n) o) o l)/\tV (kZ (jY (c6 st B C n) o) o l).1:=by
 classical
 have M:=r.xH;obtain⟨R,H,I⟩:=RY r m h d;have k:=DZ (E:=g3 (c6 st B C n)) d;have F:=zX n (g3 (c6 st B C n)) o;have w:=VA (E:=g3 (c6 st B C n)) (cz M ab) d;have x:=d.1;have J:=(jG.1 h).1;have D:=(jG.1 h).2;have A:∀p:X,p=65536->∀a b,cS p 3222 3072 1 (jY (c6 st B C n) o a b):=λp G a b=>(aki G (ad7 (rc J (DN D)) _ _)).mono ab ab ab;have q:∀a b,cP (jY (c6 st B C n) o a b):=λa b=>gO _;have U:=DR f;have L:∀j∈l,j.2.2.1.length<=7:=λj u=>(by obtain⟨c,i,rfl⟩:=aiS.1 u;have e:=ajL f k i;have z:=e.g;rw[bS i] at z;have S:=e.Bl;grind [aiL,gP,hC]);have T:iy (l7 n (g3 (c6 st B C n)) o)=0:=qQ.2 ⟨aa,F⟩;have K:xb (l7 n (g3 (c6 st B C n)) o) l=0:=(by simp_all [ck,ah2,ca,xb]);have e:=RN w (l:=l) aa (λj u=>by grind);have v:=RO w (l:=l) aa (λj u=>by grind);rw[K] at e v;refine⟨aaV f k q A aa x I (λa b s t=>acF H s t) e,abD f k q aa x (λa b s t=>abA m h d s t) ?_,UY q f k aa⟩;unfold Dn;refine ai (abK m aa) ?_;have N:(if gE n n st B C≠0 then gE n n st B C else if n≠n then 5 else if gp o n then 0 else 90)=0:=(by grind);rw[N];dsimp only;rw[a1 (by rfl)];refine ai (abF r m h d) (ai v ?_);dsimp only;rw[a1 (by rfl)];refine bQ.1 ?_;refine bE (P:=λO=>O=.inl ()) ?_ ?_
 ·refine bO l.length (λc Q=>Q=((c:Z),())) rfl ?_ ?_
  ·rintro c _ i rfl;dsimp only;rw[bh,aY (aK (aa:(c:Z)<(l.length:Z))),bk aa];refine bz (y:=l[c]) (e3 i) ?_;have:=L l[c] (b7 i);rw[a1 (aI (show¬al (l[c]).2.2.1>64 by grind))];grind [bu]
  rintro _ rfl;dsimp only;rw[bh,a1 (aI (aa:¬((l.length:Z)<(l.length:Z))))];grind [bu]
 grind [bu]
def RM (d:n<=5) (c:ji n n st B C) (a:gE n n st B C=0) (e:gp o n) (b:hW (l7 n (g3 (c6 st B C n)) o) l):uv (((n:Z),(n:Z),st,B,C,()),o,l,())=Y (kZ (jY (c6 st B C n) o) o l)/\w1 (((n:Z),(n:Z),st,B,C,()),o,l,())=Y (kZ (jY (c6 st B C n) o) o l)/\tV (kZ (jY (c6 st B C n) o) o l).1:=
 Kx (mK.XT d a) c a e b
end
end
section
section
variable {σ ρ:Type} {f:σ->bv (σ⊕ρ)}
def lG {a s':σ} (b:f a=Y (.inl s')):loop f a=loop f s':=by
 conv=>lhs;rw[Ei]
 rw[b]
def nG {b:σ} {a:ρ} (c:f b=Y (.inr a)):loop f b=Y a:=by rw[Ei,c]
end
def lD:eG:=([0,1],([2],([0,4607182418800017408,0],([0,0,0],([],([],(0,())))))))
def EY {f:Type} {c:bm i} {v:i} (a:ao c n=Y v) (b:i->bv f):rd c n b=b v:=by
 unfold ao at a;split at a
 ·rename_i d;have e:=(hF.1 a).1;unfold rd bj;rw[au ⟨d,e⟩,aC,gq a,aC]
 cases a
def UE:Cr ([0,1],())=Y (bp,()):=by unfold Cr;dsimp only;refine ai (y:=2) (by kernel_rfl) (ai (y:=.inl ()) ?_ bn);exact(lG (s':=(1,[bp,bq],())) (by kernel_rfl)).trans ((lG (s':=(2,[bp,bp],())) (by kernel_rfl)).trans (nG (by kernel_rfl)))
def UL:Cs (lD,())=Y ([0],bp,()):=by unfold Cs;dsimp only;refine ai (y:=.inl (2,3,[0],())) ?_ (by kernel_rfl);exact(lG (s':=(2,3,1,[0],())) (by kernel_rfl)).trans (nG (by kernel_rfl))
def UJ:Cj (lD,[0],())=Y (bp,()):=by
 unfold Cj;dsimp only;refine ai (y:=.inl ()) (by kernel_rfl) ?_;dsimp only;refine ai (y:=.inl ()) ?_ bn;refine(lG (s':=(1,())) ?_).trans (nG (by kernel_rfl));rw[aY (by kernel_rfl)];refine ai (y:=0) rfl (ai (y:=2) rfl (ai (y:=.inl ()) ?_ (by kernel_rfl)));have i:∀a:Z,a=0\/a=1->(bB (α:=bt⊕pI) (
 bB (α:=bt⊕(bt⊕pI)) (
 (ao lD.2.2.2.1 a).bind λp=>
 (ao lD.2.2.2.1 (aP a)).bind λl=>
  bif br (p>l)==bq then(ao lD.2.2.2.1 (aP a)).bind λm=>
  bif br (m>al lD.2.2.2.2.1) then
 Y (.inr (.inr (.inr (.inr (.inr (.inr (bq,()))))))) else
 Y (.inl ()) else Y (.inr (.inr (.inr (.inr (.inr (.inr (bq,())))))))) λb=>match b with
 |.inl _=>(
 (ao lD.2.2.2.1 a).bind λn=>
 (ao lD.2.2.2.1 (aP a)).bind λo=>
 ((gv n).bind λg=>(gv o).bind λh=>(g9 g h (lD.2.2.2.2.1).length).map λ_=>(g,h)).bind λd=>
 (loop (σ:=we) (ρ:=(bt⊕(bt⊕pI))) (λ(j,e,_)=>
  bif br (e<al (((lD.2.2.2.2.1).take d.2).drop d.1)) then(
 bB (α:=eV⊕(we⊕(bt⊕(bt⊕pI)))) (
 (ao (((lD.2.2.2.2.1).take d.2).drop d.1) e).bind λf=>
 bB (α:=bt⊕(eV⊕(we⊕(bt⊕(bt⊕pI))))) (bif br (f<=j)==bq then bif br (f>=al lD.1) then
 Y (.inr (.inr (.inr (.inr (.inr (.inr (.inr (.inr (.inr (bq,())))))))))) else
 Y (.inl ()) else Y (.inr (.inr (.inr (.inr (.inr (.inr (.inr (.inr (.inr (bq,()))))))))))) λb=>match b with
 |.inl _=>(
 Y (.inl (f,())))
 |.inr c=>Y c) λb=>match b with
 |.inl (k,_)=>(
 Y (.inl (k,aP e,())))
 |.inr c=>Y c) else
 Y (.inr (.inl ()))) (ay (ay (0+2)-1),0,())).bind λb=>match b with
 |.inl _=>(
 Y (.inl ()))
 |.inr c=>Y c)
 |.inr c=>Y c) λb=>match b with
 |.inl _=>(
 Y (.inl (aP a,())))
 |.inr c=>Y c)=Y (.inl (aP a,())):=by
  rintro a (rfl|rfl)
  ·refine ai (y:=.inl ()) (ai (y:=.inl ()) (by kernel_rfl) ?_) rfl;dsimp only;refine ai (y:=0) rfl (ai (y:=0) (by kernel_rfl) (ai (y:=(0,0)) (by kernel_rfl) (ai (y:=.inl ()) (nG (by kernel_rfl)) rfl)))
  refine ai (y:=.inl ()) (ai (y:=.inl ()) (by kernel_rfl) ?_) rfl;dsimp only;refine ai (y:=0) (by kernel_rfl) (ai (y:=0) (by kernel_rfl) (ai (y:=(0,0)) (by kernel_rfl) (ai (y:=.inl ()) (nG (by kernel_rfl)) rfl)))
 refine(lG (s':=(1,())) ?_).trans ((lG (s':=(2,())) ?_).trans (nG (by kernel_rfl)))
 ·rw[aY (by kernel_rfl)];exact i 0 (.inl bn)
 rw[aY (by kernel_rfl)];exact i 1 (.inr bn)
def MG:ny (0,())=Y (bp,()):=by rw[z2 (f:=0) ⟨ab,ab⟩];rfl
def U4:ny (4607182418800017408,())=Y (bp,()):=by rw[z2 (f:=4607182418800017408) ⟨ab,ab⟩];rfl
def XW:jW (4607182418800017408,())=Y (az (a6 4607182418800017408),()):=p7 ⟨ab,ab⟩
def Ap:a6 0=Y 0:=by decide
def Mw:∃g:Z,kV [0,4607182418800017408,0]=Y g/\g<0:=by obtain⟨b,a⟩:∃b:X,b=65536:=⟨_,bn⟩;have e:bd 4607182418800017408≠2047:=ab;obtain⟨n,p,q,h,aq,c,i,d⟩:=cS.mul a (aki a e) (aki a e) ab ab ab;have m:a6 4607182418800017408=Y (1*2^b):=(by rw[a];exact v1);rw[m] at aq c;have aq:=gC aq;have c:=gC c;have l:(0:Z)<2^b:=mM ab;rw[<-aq,<-c] at d;simp only[aj4] at d;have o:h=2^b:=Int.eq_of_mul_eq_mul_right (ano l) d;have j:=(cS.add a ab (cS.mul a (aki a (f:=0) ab) (aki a (f:=0) ab) ab ab ab).1 n.neg ab).2;refine⟨_,j,?_⟩;have k:cU (a6 0) (a6 0)=Y 0:=(by rw[Ap];rfl);rw[k,i];show 0+-h<0;omega
def Mx:y9 (lD,())=Y ([[az (a6 0),az (a6 4607182418800017408),az (a6 0)]],()):=by
 have c:jW (0,())=Y (az (a6 0),()):=p7 ⟨ab,ab⟩;unfold y9;dsimp only;generalize f:az (a6 0)=a at*;generalize d:az (a6 4607182418800017408)=b;have e:jW (4607182418800017408,())=Y (b,()):=(by rw[<-d];exact XW);refine ai (y:=([[a,b,a]],())) ?_ bn;refine(lG (s':=(3,1,[[a,b,a]],())) ?_).trans (nG (by kernel_rfl));dsimp only;rw[aY (by kernel_rfl)];refine ai (y:=2) rfl (ai (y:=(3,[],[a,b,a],())) ?_ (by kernel_rfl));refine(lG (s':=(1,1,[],[a],())) ?_).trans ((lG (s':=(2,2,[],[a,b],())) ?_).trans ((lG (s':=(3,3,[],[a,b,a],())) ?_).trans (nG (by kernel_rfl))))
 ·dsimp only;rw[aY (by kernel_rfl)];exact ai (y:=0) rfl (ai c (by kernel_rfl))
 ·dsimp only;rw[aY (by kernel_rfl)];exact ai (y:=4607182418800017408) rfl (ai e (by kernel_rfl))
 dsimp only;rw[aY (by kernel_rfl)];exact ai (y:=0) rfl (ai c (by kernel_rfl))
def UI:Cf (lD,())=Y (0,()):=by
 obtain⟨f,j,h⟩:=Mw;have g:=Hc (a:=0) (b:=4607182418800017408) (d:=0);have i:mT (az (kV [0,4607182418800017408,0]),())=Y (-1,()):=(by rw[o1 (show cP (kV [0,4607182418800017408,0]) from kT _ _),j];show Y (gB f,())=_;unfold gB;rw[ck aa,ca h]);unfold Cf;dsimp only;refine ai (y:=.inl ()) ?_ ?_
 ·rw[a1 (by kernel_rfl)];refine ai UE ?_;dsimp only
  kernel_rfl
 dsimp only;refine ai UL ?_;dsimp only;refine ai (y:=.inl ()) ?_ ?_
 ·rw[aY (by kernel_rfl),aY (by kernel_rfl)];refine ai UJ ?_;rfl
 dsimp only;refine ai (y:=.inl ()) ?_ ?_
 ·refine(lG (s':=(1,[[],[0,4607182418800017408,0]],())) ?_).trans ((lG (s':=(2,[[],[0,4607182418800017408,0]],())) ?_).trans (nG (by kernel_rfl)))
  ·dsimp only;rw[aY (by kernel_rfl),EY (v:=[]) rfl];exact ai (y:=.inl ([[],[0,4607182418800017408,0]],())) (nG (by kernel_rfl)) rfl
  dsimp only;rw[aY (by kernel_rfl),EY (v:=[0,4607182418800017408,0]) rfl];refine ai (y:=.inl ([[],[0,4607182418800017408,0]],())) ?_ bn;refine(lG (s':=(1,[[],[0,4607182418800017408,0]],())) ?_).trans ((lG (s':=(2,[[],[0,4607182418800017408,0]],())) ?_).trans ((lG (s':=(3,[[],[0,4607182418800017408,0]],())) ?_).trans (nG (by kernel_rfl))))
  ·dsimp only;rw[aY (by kernel_rfl)];exact ai (y:=0) rfl (ai MG (by kernel_rfl))
  ·dsimp only;rw[aY (by kernel_rfl)];exact ai (y:=4607182418800017408) rfl (ai U4 (by kernel_rfl))
  dsimp only;rw[aY (by kernel_rfl)];exact ai (y:=0) rfl (ai MG (by kernel_rfl))
 dsimp only;refine ai Mx ?_;dsimp only;generalize az (a6 0)=c at*;generalize az (a6 4607182418800017408)=e at*;generalize az (kV [0,4607182418800017408,0])=k at*;refine ai (y:=.inl ()) ?_ bn;refine(lG (s':=(1,[[c,e,c]],())) ?_).trans (nG (by kernel_rfl));dsimp only;rw[aY (by kernel_rfl)];refine ai (y:=.inl ([[c,e,c]],())) ?_ (by kernel_rfl);rw[EY (v:=[c,e,c]) rfl,aY (by kernel_rfl)];refine ai g (ai i ?_)
 kernel_rfl
def UO:Ch (lD,())=Y ((1,(0,(1,()))),0,()):=by
 obtain⟨f,k,h⟩:=Mw;have g:=Hc (a:=0) (b:=4607182418800017408) (d:=0);have j:mT (az (kV [0,4607182418800017408,0]),())=Y (-1,()):=(by rw[o1 (show cP (kV [0,4607182418800017408,0]) from kT _ _),k];show Y (gB f,())=_;unfold gB;rw[ck aa,ca h]);have i:mT (az (a6 0),())=Y (0,()):=(by rw[o1 (gO _),Ap];rfl);unfold Ch;dsimp only;refine ai UI ?_;dsimp only;rw[a1 (by kernel_rfl)];refine ai Mx ?_;dsimp only;generalize az (a6 0)=c at*;generalize az (a6 4607182418800017408)=e at*;generalize az (kV [0,4607182418800017408,0])=l at*;refine ai (y:=((0,(0,(0,()))),(1,(0,(1,()))),())) ?_ bn;refine(lG (s':=(1,(0,(0,(0,()))),(1,(0,(1,()))),[[c,e,c]],())) ?_).trans (nG (by kernel_rfl));dsimp only;rw[aY (by kernel_rfl)];refine ai (y:=((0,(0,(0,()))),(1,(0,(1,()))),[[c,e,c]],())) ?_ (by kernel_rfl);rw[EY (v:=[c,e,c]) rfl];refine ai (y:=c) rfl (ai i ?_);dsimp only;refine ai (y:=.inr ((0,(0,(0,()))),(1,(0,(1,()))),[[c,e,c]],())) ?_ bn;rw[aY (by kernel_rfl)];refine ai g (ai j ?_)
 kernel_rfl
end
abbrev m0:Z:=4607182418800017408
def adu:ji 2 2 [0,1,1] [1] [m0] where
 hr:=by decide
 hc:=by decide
 hi:=by decide
 hs:=by decide
 hv:=by decide
 hw:=λb a=>by rw[gd.1 a];exact⟨ab,ab⟩
def adv:gz 2 2 [0,1,1] [1] [m0] where
 len:=rfl
 first:=rfl
 mono:=λb e=>by have:b=0\/b=1:=aa;rcases this with rfl|rfl<;>decide
 last:=rfl
 val:=rfl
 rng:=λb a e c d=>by
  have:b=0\/b=1:=aa;rcases this with rfl|rfl
  ·change(0:Z)<=a at c;change(a:Z)<1 at d;have:a=0:=aa;subst this;exact⟨ab,ab⟩
  change(1:Z)<=a at c;change(a:Z)<1 at d;omega
 asc:=λb a e c d=>by
  have:b=0\/b=1:=aa;rcases this with rfl|rfl
  ·change(0:Z)<a at c;change(a:Z)<1 at d;omega
  change(1:Z)<a at c;change(a:Z)<1 at d;omega
def ado:gE 2 2 [0,1,1] [1] [m0]=0:=by refine jG.2 ⟨adv,λa b=>?_⟩;have:a=0:=(by have:([m0]:ahZ).length=1:=rfl;omega);subst this;decide
def JT:bm cW:=[(1,0,m0,())]
def QU:c6 [0,1,1] [1] [m0] 2=JT:=rfl
def QW:l7 2 (g3 JT) [0,1]=Hu:=by decide
def vC:bm dd:=[(0,(2,([0,1],((-1:Z),()))))]
def ads:hW Hu vC:=by
 refine⟨⟨λa b=>?_,bn⟩,λa b=>?_,λa b=>?_,λh c i l=>?_⟩
 ·have b:a<1:=b;obtain rfl:a=0:=aa;exact⟨_,bn,bn,ab,ab⟩
 ·have j:a<1:=b;obtain rfl:a=0:=aa;refine⟨(by decide:2<=2),λc _ g d=>?_⟩;have g:c<2:=g;have:c=0\/c=1:=aa;rcases this with rfl|rfl
  ·exact⟨λ_=>rfl,λd=>absurd (show 2<=0 from d) ab⟩
  exact⟨λ_=>rfl,λd=>absurd (show 2<=1 from d) ab⟩
 ·have j:a<1:=b;obtain rfl:a=0:=aa;exact .inl ⟨bn,bn⟩
 have k:fk Hu:=(by rw[<-QW];exact zX _ _ _);obtain⟨e,f⟩:=i.lt k;have e:h<2:=e;have f:c<2:=f;obtain rfl:h=0:=aa;obtain rfl:c=1:=aa;decide
abbrev Fl:X->X->ahT:=jY JT [0,1]
def P7:kJ (a6 m0) 0=m0:=by rw[v1,DH (a:=0) ab ab];decide
def P8:kJ (a6 0) 0=0:=by rw[Ap];rfl
def iq:aV:=hQ Fl vC (λa=>([]:bm aV).getD a hn) 0
def vD:iq.rows=[0,1]:=by decide
def JU:iq.full=2:=by decide
def JV:iq.bi 0 0=0:=P8
def QX:iq.bi 0 1=m0:=P7
def JW:iq.bi 1 0=m0:=P7
def JX:iq.bi 1 1=0:=P8
def QV (a:X) (c:a=0\/a=1):iq.fin a:=by
 unfold aV.fin;rw[vD];intro d b;simp only[fV,List.not_mem_nil,or_false] at b;rcases c with rfl|rfl<;>rcases b with rfl|rfl
 ·rw[JV];decide
 ·rw[JW];decide
 ·rw[QX];decide
 rw[JX];decide
def adp:iq.choose=Y [0,1]:=by
 obtain⟨a,l⟩:∃a:X,a=65536:=⟨_,bn⟩;have g:a6 m0=Y (1*2^a):=(by rw[l];exact v1);have c:(0:Z)<2^a:=mM ab;have d:iq.av 0 0=0:=(by unfold aV.av;rw[JV,Ap];rfl);have j:iq.av 1 1=0:=(by unfold aV.av;rw[JX,Ap];rfl);have i:iq.av 1 0=2^a:=(by unfold aV.av;rw[JW,g,r5,aj4];exact anr (fu c));have h:iq.av 0 1=2^a:=(by unfold aV.av;rw[QX,g,r5,aj4];exact anr (fu c));have e:iq.fh 0=(2^a,Y 1):=(by unfold aV.fh;rw[vD];show(iq.av 1 0,Y 1)=_;rw[i]);have k:iq.fh 1=(2^a,Y 0):=(by unfold aV.fh;rw[vD];show(iq.av 0 1,Y 0)=_;rw[h]);unfold aV.choose;have f:iq.rows.take iq.full=[0,1]:=(by rw[vD,JU];rfl);rw[f,aV.gL,ax (ah2 (QV 0 (.inl bn))),ax (by
  rw[e,d];intro b;rcases b with b|b
  ·dsimp only at b;omega
  dsimp only at b;omega)]
 rw[e];dsimp only;rw[ck (ah2 (by rw[f];decide)),ck (ah2 (QV 1 (.inr bn))),ck (by
  rw[d,pq,aj3];have:=qs c c;omega),ax (by
  rw[k,j];dsimp only;omega)]
def Uf (b:aV) (a:ahY):(b.elim a).rows=b.rows.filter λc=>br (c∉a):=rfl
def Ud (b:aV) (a:ahY):(b.elim a).full=b.full-a.length:=rfl
def PM (b:aV) (a:ahY):(b.eM a).rows=b.rows.filter λc=>br (c∉a):=rfl
def abq (c:aV) (a b:X):(c.eM [a,b]).d=[c.bi a a,c.bi b a,c.bi b b]:=rfl
def abr (e:aV) (c d:X):∃a b,(e.eM [c,d]).l=[a,b]:=⟨_,_,bn⟩
def abp (b:aV) (a:ahY):(b.eM a).cF=a:=rfl
def adt:aiC 3 iq=Y (iq.elim [0,1],[iq.eM [0,1]]):=by
 have a:([0,1]:ahY).filter (λc=>br (c∉[0,1]))=[]:=ab;have e:(iq.elim [0,1]).rows=[]:=(by rw[Uf,vD,a]);rw[xV adp ab,au (by
  intro f _ c b;rw[PM,vD,a] at b;cases b)]
 have d:(iq.elim [0,1]).choose=Y []:=(by unfold aV.choose;rw[e,List.take_nil,aV.gL]);rw[Fc d];rfl
def UW {a:a8} {b c:X->Z} (g:a.rows=[]) (h:a.d=[0,m0,0]) (i:a.l=[b,c]) (e:a.cF=[0,1]):rf [0,1] [a] 0=lD:=by unfold rf;have k:[a].flatMap b4=[([],b),([],c)]:=(by rw[akg,akh,mN];unfold b4;rw[i,g];rfl);have j:[a].flatMap a8.cF=[0,1]:=(by rw[akg,akh,mN,e]);have m:[a].flatMap (·.d)=[0,m0,0]:=(by rw[akg,akh,mN,h]);have n:[a].map (λa=>(a.cF.length:Z))=[2]:=(by rw[r0,e];rfl);rw[k,j,m,n];generalize(λo=>([0,1]:ahY).idxOf o)=f;have p:∀q:X->Z,mG f []=[]:=λ_=>rfl;rfl
def adq:h7 Fl vC 1=Y ([iq.elim [0,1]],[iq.eM [0,1]]):=by have b:hQ Fl vC (λa=>([]:bm aV).getD a hn) 0=iq:=rfl;rw[h7,h7,bN];dsimp only;rw[b,JU,adt,ajI,alQ,alQ]
def UZ {o:ahZ} {b:bm dd} {d:bm aV} (f:b.length=a) (e:h7 l b a=Y (d,c)):kZ l o b=(rf o c (ky d:Z),0,()):=by subst f;unfold kZ;rw[e]
def adr:kZ Fl [0,1] vC=(lD,0,()):=by have a:([0,1]:ahY).filter (λd=>br (d∉[0,1]))=[]:=ab;have c:(ky [iq.elim [0,1]]:Z)=0:=(by unfold ky;rw[r0,Ud,JU];rfl);obtain⟨e,f,b⟩:=abr iq 0 1;rw[UZ (o:=[0,1]) (show vC.length=1 from rfl) adq,c,UW (by rw[PM,vD,a]) (by rw[abq,JV,JW,JX]) b (abp _ _)]
def SZ:CX ()=Y (bp,()):=by unfold CX;refine ai (y:=((2,(2,([0,1,1],([1],([m0],()))))),())) rfl ?_;dsimp only;obtain⟨a,_,_⟩:=RM (n:=2) ab adu ado UK (l:=vC) (by rw[QU,QW];exact ads);rw[QU,adr] at a;refine ai a ?_;dsimp only;refine ai UO ?_;dsimp only;rw[aY (by rfl),aY (by rfl)];refine ai (FM _ _ ab) ?_;rfl
section
def io (a:X):ahZ:=(bI a).map λb:X=>(b:Z)
def V4 (a:X):(io a).length=a:=by unfold io;rw[ff,mP]
def XL {d:Z} (c:eK d) (a:Z):ae (uA (d,a,())) λe=>eK e.1/\bd e.1≠2047:=by
 by_cases g:o8 a 4<3
 ·exact(XM c g).mono λe f=>⟨f.1.1,f.1.2.1⟩
 have i:=Ai a (n:=4) ab;have h:o8 a 4=3:=aa;unfold uA;dsimp only;refine bz (xG a (n:=4) ab ab) ?_;dsimp only;rw[gD,gD,gD,h,a1 (aI ab),a1 (aI ab),aY (aK ab)];refine bz (AR c) ?_;dsimp only;by_cases b:bd d=2047
 ·rw[aK b];exact bu.2 ⟨⟨ab,ab⟩,ab⟩
 rw[aI b];exact bu.2 ⟨c,b⟩
section
variable {n:X} {A:ahZ}
def aa7 (a:h.Perm (io n)):gp h n:=by
 refine⟨by rw[a.length_eq,V4],λf c=>?_,a.nodup_iff.2 ?_⟩
 ·obtain⟨e,b,rfl⟩:=eY.1 (a.mem_iff.1 c);have:=ig.1 b;omega
 unfold io akc;rw[oK];exact vZ.imp λa d=>a aa
end
end
def j6.up {d c:X} {e f:ahZ} (j:j6 d b a e h f) (r:a<=c):j6 d b c e h f:=by obtain⟨p,k,l,m,n,o⟩:=j;exact⟨p,k,l,m,λq g i=>by have:=n q g i;omega,o⟩
def j6.aei {f:X} {g c:ahZ} (d:j6 f b a g h c):c.length=h.length:=by obtain⟨i,_,_,e,_⟩:=d;exact e
def RU (S:ahZ) (B U:Z) (T:bA) (J:S.length<=9223372036854775807):G2 (S,B,U,T,())=Y (bp,()):=by
 unfold G2;refine bQ.1 ?_;refine bz (xG B (n:=7) ab ab) ?_;have ds:=Ai B (n:=7) ab;dsimp only;generalize o8 B 7=a at*;refine bz (xG U (n:=3) ab ab) ?_;dsimp only;refine bE (RR (P:=λe=>eK e/\bd e≠2047) (λ_ an=>XL an _) J (aa:a<=6) (aa:a<=6)) ?_;rintro⟨d6,_⟩ ⟨p,i,z,rfl,aw,cs,d7⟩;dsimp only;have d0:a*a<=6*6:=akW aa aa;have d4:=aw.val;refine bE (P:=λs=>∃g l m,s=(((a:Z),(a:Z),g,l,m,()),())/\gz a a g l m/\(∀e∈m,eK e/\bd e≠2047)/\l.length<=a*a) ?_ ?_
 ·refine bO a (λf v=>∃g l m,v=((f:Z),((a:Z),(a:Z),p,i,z,()),((a:Z),(a:Z),g,l,m,()),())/\gz a f g l m/\(∀e∈m,eK e/\bd e≠2047)/\l.length<=f*a) ⟨[0],[],[],bn,gz.empty a,ac,ac⟩ ?_ ?_
  ·rintro f _ D ⟨g,l,m,rfl,r,u,w⟩;have d2:=aw.len;have dl:f*a+a<=6*6:=by
    have:(f+1)*a<=a*a:=h5 _ D;rw[lu,lv] at this;omega
   have bx:=aw.pos f aa;have ce:=aw.mono f D;have ci:=aw.p5 (f+1) aa;dsimp only;rw[aY (aK (aa:(f:Z)<(a:Z))),bk aa,js aa,<-kc (aa:f<p.length)];refine bE (P:=λs=>∃j k,s=(((a:Z),(a:Z),p,i,z,()),((a:Z),(a:Z),g,j,k,()),())/\j6 a f a g j k/\(∀e∈k,eK e/\bd e≠2047)/\j.length<=f*a+a) ?_ ?_
   ·obtain⟨d,Q⟩:=fR bx;obtain⟨o,C⟩:=fR (aa:0<=p.getD (f+1) 0);have F:=λc:X=>aw.rng f c D;have N:=λc:X=>aw.asc f c D;rw[Q,C] at F N ce;rw[C] at ci;rw[Q];refine bO (o-d) (λc v=>∃j k,v=(((d+c:X):Z),((a:Z),(a:Z),p,i,z,()),((a:Z),(a:Z),g,j,k,()),())/\j6 a f (if c=0 then 0 else(i.getD (d+c-1) 0).toNat+1) g j k/\(∀e∈k,eK e/\bd e≠2047)/\j.length<=f*a+(if c=0 then 0 else(i.getD (d+c-1) 0).toNat+1)) ⟨l,m,bn,r.open,u,by simpa using w⟩ ?_ ?_
    ·rintro c _ d3 ⟨j,k,rfl,t,q,M⟩;have aq:=F (d+c) aa aa;have L:(if c=0 then 0 else(i.getD (d+c-1) 0).toNat+1)<=(i.getD (d+c) 0).toNat:=by
      split
      ·omega
      have:=N (d+c) aa aa;have:=F (d+c-1) aa aa;omega
     obtain⟨s,x⟩:=cB aq.1;rw[x,aiA] at L;have H:=t.up L;have d1:=t.aei;dsimp only;rw[js (aa:f+1<p.length),<-kc (aa:f+1<p.length),C,aY (aK (aa:((d+c:X):Z)<(o:Z))),js (aa:d+c<i.length),<-kc (aa:d+c<i.length),x,bk aa];refine bE (P:=λco=>∃y A,co=(((a:Z),(a:Z),p,i,z,()),((a:Z),(a:Z),g,y,A,()),())/\j6 a f (s+1) g y A/\(∀e∈A,eK e/\bd e≠2047)/\y.length<=f*a+(s+1)) ?_ ?_
     ·rw[fX];by_cases G:(s:Z)=(f:Z)
      ·rw[aK G,a1 (by rfl)];cases T with
       |true=>
        rw[bG,da (by simp;omega),aC,da (by simp;omega),aC,<-G];refine bu.2 ⟨_,_,bn,H.add 0,λe h=>?_,by simp;omega⟩;rcases hX.1 h with h|h
        ·exact q e h
        rw[gd.1 h];exact⟨⟨ab,ab⟩,ab⟩
       |false=>
        rw[bP];exact bu.2 ⟨j,k,bn,H.skip,q,aa⟩
      rw[aI G,aY (by rfl),js (aa:d+c<i.length),<-kc (aa:d+c<i.length),x,da (by simp;omega),aC,js (aa:d+c<z.length),da (by simp;omega),aC];refine bu.2 ⟨_,_,bn,H.add _,λe h=>?_,by simp;omega⟩;rcases hX.1 h with h|h
      ·exact q e h
      rw[gd.1 h];exact cs _ (cR _)
     rintro _ ⟨y,A,rfl,av,a0,a3⟩;refine bu.2 ⟨y,A,bn,?_,a0,?_⟩
     ·rw[ax (ans c),(aa:d+(c+1)-1=d+c),x];exact av
     rw[ax (ans c),(aa:d+(c+1)-1=d+c),x];exact a3
    rintro _ ⟨j,k,rfl,t,q,M⟩;have ap:(if o-d=0 then 0 else(i.getD (d+(o-d)-1) 0).toNat+1)<=a:=by
     split
     ·omega
     have:=F (d+(o-d)-1) aa aa;omega
    dsimp only;rw[js (aa:f+1<p.length),<-kc (aa:f+1<p.length),C,a1 (aI (aa:¬((d+(o-d):X):Z)<(o:Z)))];exact bu.2 ⟨j,k,bn,t.up ap,q,aa⟩
   rintro _ ⟨j,k,rfl,t,q,M⟩;dsimp only;rw[da (by rw[r.len];simp;omega),bN];exact bu.2 ⟨_,j,k,bn,t.close,q,by rw[Nat.add_mul,ak2];omega⟩
  rintro _ ⟨g,l,m,rfl,r,u,w⟩;dsimp only;rw[a1 (aI (aa:¬((a:Z)<(a:Z))))];exact bu.2 ⟨g,l,m,bn,r,u,w⟩
 rintro _ ⟨v,V,e,rfl,r,u,w⟩;dsimp only;have R:=KA.ac0 (aa:a<=6) (aa:a<=6) r (λe h=>(u e h).1) w;have I:gE a a v V e=0:=jG.2 ⟨r,λd5 o=>by
  rw[kc o];exact(u _ (cR o)).2⟩
 have O:=mK.Ow (aa:a<=6) I;refine bE (RZ J (aa:a<=12)) ?_;rintro⟨K,_⟩ E;have E:gp K a:=aa7 E;dsimp only;refine bE (Vr (b:=6) (aa:a<=6) ab (λ_=>O) R J) ?_;rintro _ ⟨a4,rfl,_,_,bl⟩;obtain⟨ad,f2,am⟩:=Kx O R I E (bl (by unfold Fi;rw[ck (ah2 I),ck (ah2 bn),ca E]));dsimp only;refine bz ad (bz f2 ?_);generalize kZ (jY (c6 v V e a) K) K a4=cv at*;obtain⟨c2,c1,_⟩:=cv;dsimp only;rw[aY ac];refine bz (acG am) ?_;dsimp only;rw[aY (by rfl)];exact bz SZ (bu.2 bn)
end Go.jf
end
