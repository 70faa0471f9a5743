/-
  Parts of the proof: Pm95, Pm89, Pm97, Pm99, Pm100, Pm98, Pm101, Pm102, Pm103, Pm104, Pm105, Pm106, Pm96, Pm107, Pm45, Pm46, Pm47, Pm48, Pm49, Pm108, Pm109, Pm110: the framework (Fw), pure forms (Dn), plain laws (Pl, Th), calls of functions (Ok).
-/
import Derived.KernelRfl
import Derived.Test.YtnndjinceoekdaaGreatDoorB77ca9c8f

set_option linter.all false
set_option maxHeartbeats 1000000
open _root_ renaming Nat->X,List->bm,Bool->bA,Option->bv,Int->Z,Unit->bt,congrArg->b4,rfl->bn,cond_false->bP,cond_true->bG,if_pos->cb,decide_eq_true_eq->aiF,decide_eq_false->aiO,decide_eq_true->aij,decide_eq_decide->cy,if_neg->cn,not_not_intro->aii
open Option renaming some->Y,bind_some->bM,none->bo,bind->bB,map_some->ajZ
open Go.jg.a8 renaming c0->b3
open List renaming take_add_one->cr,getElem?_eq_getElem->bS,range->bI,length_range->ajj,nodup_range->amf,mem_range->ajk,take_length->cA,getElem_mem->b7,append_assoc->aiQ,take_append_drop->ajM,length_map->cg,mem_flatMap->amg,map_take->amd,take_of_length_le->ch,length_take->air,length_filter_le->aiH,range'->ain,mem_of_mem_take->anq,range'_concat->alj,Nodup->ali,mem_filter->anr,getElem?_eq_some_iff->aiV,length_append->aiP,length_singleton->akt,takeWhile_append_dropWhile->ans,foldl_cons->aku,dropWhile_sublist->ant,pairwise_cons->aj8,pairwise_iff_getElem->aih,mem_singleton->aik,replicate->bJ,getElem?_eq_none->ajU,length_range'->ame,map_const'->al9,map_singleton->anv,map_congr_left->aiy,length_set->akl,length->aiq,range_succ->aiI,flatMap_cons->akw,flatMap_nil->akx,map_nil->ajs,filter->akh,mem_iff_getElem->ai8,getD_eq_getElem?_getD->anw,filter_eq_nil_iff->ala,nil_append->al1
open Go.jg.ae renaming eq_iff->bQ,aK->bD,steps->bL,af->bu,bs->bz,loop->aiA
open Decidable renaming decide->br
open Nat renaming le_trans->cu,lt_succ_self->ajD,le_refl->cd,add_assoc->ajL,mul_le_mul->alc,not_lt_zero->alf,lt_irrefl->akf,beq->bH,lt_or_ge->cl
open Bool renaming false->bq,true->bp,false_and->alE,and_true->akU,true_and->ake
open List.Pairwise renaming imp_of_mem->anL,nil->akH
open Int renaming toNat->aiL,ne_of_gt->anu,toNat_natCast->aiT,one_mul->akk,natAbs_of_nonneg->anx,mul_zero->akj
open List.Perm renaming refl->aks,append_left->akT
open Option.some renaming inj->ai1,injEq->aju
open Go.jg.iD renaming of->aj2
open Go.jg.cS renaming h1->akv,rk->aky
open Go.jg.aV renaming run->aiR
open Go.IntKind renaming u64->bE
noncomputable section
namespace Go.jg
variable{a b:X}{c:bm a8}{d k:X->X->bA}{f:bv (Z×((bm aA×bt)×(bm (bv (bm (Z×cV)×X))×bt)))}{g:X->X}{h:aif}{i:Type}{j:bm (bm fX)}{l:X->X->ah9}{m:aie}{n:Z}{o:bm (bv (bm (Z×cV)×X))}{p:X->df}{q:ew}{r:Z->bv (cV×bt)}
theorem FK (c:X->Z) (f:a<b) (e:Z) (d:aif->bv i):wr (aB b c) (a:Z) e d=d (aB b (eC c a e)):=by simp_all [cX,eU,aD,gj,jn,hB,wr]
def x0 (c:X->Z) (d:a<b) (e:Z->bv i):rd (aB b c) (a:Z) e=e (c a):=by unfold rd;rw[cX,eU d,aD,gj (jn d),aD]
theorem Wg {b:aie} {B:aie} (d:m.Nodup) (c:m=b++a::B):m.idxOf a=b.length:=by grind
def QV (a b:X) (e:a<=b):((Y 0).bind λc=>(gu (a:Z)).bind λd=>(g9 c d b).bind λ_=>(nL b).map λ_=>(c,d))=Y (0,a):=by rw[aD,EH,aD,p8 ⟨da _,e⟩];rfl
def QW (b a:X) (e:b<=a):((gu (b:Z)).bind λc=>(Y a).bind λd=>(g9 c d a).bind λ_=>(nL a).map λ_=>(c,d))=Y (b,a):=by rw[EH,aD,aD,p8 ⟨e,bc _⟩];rfl
theorem AQ (e:∀a∈c,tW m a):c.length<=(c.flatMap a8.cF).length/\(c.flatMap a8.d).length<=3*c.length/\(c.flatMap b3).length=(c.flatMap a8.cF).length:=by
 induction c with
 |nil=>grind
 |cons a c g=>
  obtain⟨h,i,j⟩:=g λf o=>e f (by grind);have b:=e a ac;have k:=b.at1;have l:=b.dl;have n:a.c0.length=a.cF.length:=(by unfold b3;rw[e9,b.len]);grind
theorem Fv (b:a8->bm i) (d:a<c.length):(c.take (a+1)).flatMap b=(c.take a).flatMap b++b c[a]:=by grind [cr,bS]
def HG (b:a8->bm i) (d:a<c.length):c.flatMap b=(c.take a).flatMap b++(b c[a]++(c.drop (a+1)).flatMap b):=by
 conv=>lhs;rw[<-kl (a+1) c]
 rw[qB,Fv b d,i4]
theorem ab7 (bx:h.length=a) (fs:a<=100) (E:(c.flatMap a8.cF).Perm (bI a)) (y:∀b∈c,tW (bI a) b) (del:Z):DB (h,c.map jb,del,())=Y (ri h c del,()):=by
 obtain⟨f5,f6,f7⟩:=AQ y;have d3:(c.flatMap a8.cF).length=a:=(by rw[E.length_eq,ajj]);have T:(c.flatMap a8.cF).Nodup:=E.nodup_iff.2 amf;have J:∀e,e∈c.flatMap a8.cF↔e<a:=λe=>(by rw[E.mem_iff,ajk]);have C:al (c.map jb)=(c.length:Z):=(by grind);have L:∀i,(Q:i<c.length)->ao (c.map jb) (i:Z)=Y (jb c[i]):=λi Q=>(by grind [ff,bS]);unfold DB ri;refine bQ.1 ?_;dsimp only;generalize I:c.flatMap a8.cF=m at*;rw[show al h=(a:Z) by rw[bf,bx],h6 aa,bM];refine bD (P:=λb=>b=(([],([],([],([],([],([],((0:Z),()))))))),aB a (λe=>(m.idxOf e:Z)),(m.map (λe=>h.getD e 0),(c.map (λb=>(b.cF.length:Z)),(c.flatMap (·.d),([0],(([]:aA),(([]:aA),(del,()))))))),())) ?_ ?_
 ·refine bL c.length (λi b=>b=((i:Z),([],([],([],([],([],([],((0:Z),()))))))),aB a (λe=>if e∈(c.take i).flatMap a8.cF then(m.idxOf e:Z) else 0),(((c.take i).flatMap a8.cF).map (λe=>h.getD e 0),((c.take i).map (λb=>(b.cF.length:Z)),((c.take i).flatMap (·.d),([0],(([]:aA),(([]:aA),(del,()))))))),())) ?_ ?_ ?_
  ·grind [jc,db]
  rotate_left
  ·rintro _ rfl;dsimp only;rw[C,a1 (aI (aa:¬(c.length:Z)<(c.length:Z))),cA];refine bu.2 ?_;have:(aB a λe=>if e∈c.flatMap a8.cF then(m.idxOf e:Z) else 0)=aB a λe=>(m.idxOf e:Z):=db λe N=>by
    rw[I,au ((J e).2 N)]
   grind
  rintro i _ q rfl;dsimp only;rw[C,aY (aL (aa:(i:Z)<(c.length:Z))),bi aa];have w:=y _ (b7 q);have co:=HG a8.cF q;have f1:=HG a8.d q;rw[I] at co;have n:=L i q;have F:=Fv a8.cF q;have V:=Fv a8.d q;have a4:(c.take (i+1)).map (λb=>(b.cF.length:Z))=(c.take i).map (λb=>(b.cF.length:Z))++[(c[i].cF.length:Z)]:=(by grind [cr,bS]);have f3:(c.take i).length<=c.length:=(by grind);generalize c[i]=b at*;generalize d4:(c.take i).flatMap a8.cF=k at*;have d5:k.length+b.cF.length<=a:=(by grind);refine bD (P:=λs=>s=(([],([],([],([],([],([],((0:Z),()))))))),aB a (λe=>if e∈k++b.cF then(m.idxOf e:Z) else 0),((k++b.cF).map (λe=>h.getD e 0),((c.take i).map (λb=>(b.cF.length:Z)),((c.take i).flatMap (·.d),([0],(([]:aA),(([]:aA),(del,()))))))),())) ?_ ?_
  ·refine bL b.cF.length (λf s=>s=((f:Z),([],([],([],([],([],([],((0:Z),()))))))),aB a (λe=>if e∈k++b.cF.take f then(m.idxOf e:Z) else 0),((k++b.cF.take f).map (λe=>h.getD e 0),((c.take i).map (λb=>(b.cF.length:Z)),((c.take i).flatMap (·.d),([0],(([]:aA),(([]:aA),(del,()))))))),())) ?_ ?_ ?_
   ·simp_all
   ·rintro f _ M rfl;dsimp only;refine bz n ?_;have t:al (jb b).1=(b.cF.length:Z):=(by rw[bf];exact b4 _ (fH _));rw[t,aY (aL (aa:(f:Z)<(b.cF.length:Z))),bi aa];have K:ao (jb b).1 (f:Z)=Y ((b.cF[f]:X):Z):=mY M;have ce:b.cF[f]<a:=(J _).1 (by grind);have a3:m.idxOf b.cF[f]=(k++b.cF.take f).length:=by
     refine Wg T (B:=b.cF.drop (f+1)++(c.drop (i+1)).flatMap a8.cF) ?_;grind [aiQ,ajM,List.drop_eq_getElem_cons]
    refine bz n (bz K ?_);rw[FK _ ce];refine bz n (bz K ?_);refine bz (gY aa) ?_;have fl:(k++b.cF.take f).length<=a:=(by grind);rw[dc (by grind),aD];refine bu.2 ?_;have aq:k++b.cF.take (f+1)=(k++b.cF.take f)++[b.cF[f]]:=(by simp_all);have c1:(aB a (eC (λe=>if e∈k++b.cF.take f then(m.idxOf e:Z) else 0) b.cF[f] (al ((k++b.cF.take f).map λe=>h.getD e 0))))=aB a λe=>if e∈k++b.cF.take (f+1) then(m.idxOf e:Z) else 0:=by
     refine db λe N=>?_;rw[aq];by_cases H:e=b.cF[f]
     ·subst H;rw[gH,au (lm _ (gp.2 bn)),bf,e9,a3]
     rw[hb _ _ H];have:e∈(k++b.cF.take f)++[b.cF[f]]↔e∈k++b.cF.take f:=(by grind);simp_all
    grind
   rintro _ rfl;dsimp only;refine bz n ?_;have t:al (jb b).1=(b.cF.length:Z):=(by rw[bf];exact b4 _ (fH _));rw[t,a1 (aI (aa:¬(b.cF.length:Z)<(b.cF.length:Z))),cA];grind [bu]
  rintro _ rfl;dsimp only;have el:((c.take i).flatMap a8.d).length+b.d.length<=3*c.length:=(by grind);refine bz n ?_;rw[dc (by grind),bM];refine bz n ?_;rw[dc (by show((c.take i).flatMap a8.d).length+b.d.length<=_;omega),bM];refine bu.2 ?_;have t:al (jb b).1=(b.cF.length:Z):=(by rw[bf];exact b4 _ (fH _));rw[F,V,a4,t];rfl
 rintro _ rfl;dsimp only;generalize em:(λe=>m.idxOf e)=g at*;have am:(λe=>(m.idxOf e:Z))=λe=>(g e:Z):=(by grind);rw[am];have ci:∀b∈c,b.rows.length<=100:=λb w=>(by have:=(y b w).nd.length_le_of_subset (y b w).sub;grind);have U:∀r:bm m5,(∀v∈r,v.1.length<=100)->r.length<=100->(r.flatMap (gy g)).length<=10000/\(r.flatMap (iw g)).length<=10000:=λr c2 dl=>(by grind [DX,cg,rL,iw,gy]);have d9:∀v∈c.flatMap b3,v.1.length<=100:=λv A=>(by obtain⟨b,w,A⟩:=amg.1 A;obtain⟨j,_,rfl⟩:=List.mem_map.1 A;grind);generalize d2:m.map (λe=>h.getD e 0)=z;generalize d6:c.map (λb=>(b.cF.length:Z))=jv;generalize d1:c.flatMap (·.d)=x;refine bD (P:=λb=>b=(([],([],([],([],([],([],((0:Z),()))))))),(z,(jv,(x,(j6 (gy g) (c.flatMap b3),((c.flatMap b3).flatMap (gy g),((c.flatMap b3).flatMap (iw g),(del,()))))))),())) ?_ (by grind [bu]);refine bL c.length (λi b=>b=((i:Z),([],([],([],([],([],([],((0:Z),()))))))),aB a (λe=>(g e:Z)),(z,(jv,(x,(j6 (gy g) ((c.take i).flatMap b3),(((c.take i).flatMap b3).flatMap (gy g),(((c.take i).flatMap b3).flatMap (iw g),(del,()))))))),())) rfl ?_ ?_
 rotate_left
 ·rintro _ rfl;dsimp only;rw[C,a1 (aI (aa:¬(c.length:Z)<(c.length:Z))),cA];grind [bu]
 rintro i _ q rfl;dsimp only;rw[C,aY (aL (aa:(i:Z)<(c.length:Z))),bi aa];have w:=y _ (b7 q);have n:=L i q;have F:=Fv b3 q;have f0:=HG b3 q;have fz:=ci _ (b7 q);rw[F];generalize c[i]=b at*;generalize ds:(c.take i).flatMap b3=p at*;have d0:p.length+b.c0.length<=100:=(by grind);have ek:∀f,b.c0.take f=(b.l.take f).map λj=>(b.rows,j):=λf=>(by grind [amd,b3]);have d8:b.c0.length=b.l.length:=(by grind [cg,b3]);have ft:=w.len;refine bD (P:=λs=>s=(([],([],([],([],([],([],((0:Z),()))))))),aB a (λe=>(g e:Z)),(z,(jv,(x,(j6 (gy g) (p++b.c0),((p++b.c0).flatMap (gy g),((p++b.c0).flatMap (iw g),(del,()))))))),())) ?_ (by grind [bu]);refine bL b.cF.length (λf s=>s=((f:Z),([],([],([],([],([],([],((0:Z),()))))))),aB a (λe=>(g e:Z)),(z,(jv,(x,(j6 (gy g) (p++b.c0.take f),((p++b.c0.take f).flatMap (gy g),((p++b.c0.take f).flatMap (iw g),(del,()))))))),())) ?_ ?_ ?_
 ·grind
 rotate_left
 ·rintro _ rfl;dsimp only;refine bz n ?_;have t:al (jb b).1=(b.cF.length:Z):=(by rw[bf];exact b4 _ (fH _));rw[t,a1 (aI (aa:¬(b.cF.length:Z)<(b.cF.length:Z))),ch aa];grind [bu]
 rintro f _ M rfl;dsimp only;refine bz n ?_;have t:al (jb b).1=(b.cF.length:Z):=(by rw[bf];exact b4 _ (fH _));rw[t,aY (aL (aa:(f:Z)<(b.cF.length:Z))),bi aa];have ex:f<b.l.length:=aa;have bl:p++b.c0.take (f+1)=(p++b.c0.take f)++[(b.rows,b.l[f])]:=(by grind [bS,cr,aiQ,b3]);have ap:ao (jb b).2.2.2.1 (f:Z)=Y (b.rows.map b.l[f]):=(by rw[ff];show(b.l.map λj=>b.rows.map j)[f]?=_;grind);rw[bl];have S:∀v∈p++b.c0.take f,v.1.length<=100:=λv A=>(by grind);have R:(p++b.c0.take f).length<=100:=(by grind);obtain⟨cs,cv⟩:=U _ S R;generalize p++b.c0.take f=r at*;generalize b.l[f]=j at*;have O:al (jb b).2.2.1=(b.rows.length:Z):=(by rw[bf];exact b4 _ (fH _));generalize ad:((z,(jv,(x,(j6 (gy g) r,(r.flatMap (gy g),(r.flatMap (iw g),(del,()))))))):eH)=G;refine bD (P:=λs=>s=(([],([],([],([],([],([],((0:Z),()))))))),aB a (λe=>(g e:Z)),G,gy g (b.rows,j),iw g (b.rows,j),())) ?_ ?_
 ·refine bL b.rows.length (λo s=>s=((o:Z),([],([],([],([],([],([],((0:Z),()))))))),aB a (λe=>(g e:Z)),G,(mD g (b.rows.take o)).map (λe=>(g e:Z)),(mD g (b.rows.take o)).map j,())) rfl ?_ ?_
  rotate_left
  ·rintro _ rfl;dsimp only;refine bz n ?_;rw[O,a1 (aI (aa:¬(b.rows.length:Z)<(b.rows.length:Z))),cA];exact bu.2 bn
  rintro o _ D rfl;dsimp only;refine bz n ?_;rw[O,aY (aL (aa:(o:Z)<(b.rows.length:Z))),bi aa];have av:ao (jb b).2.2.1 (o:Z)=Y ((b.rows[o]:X):Z):=mY D;have a0:b.rows[o]<a:=ajk.1 (w.sub _ (b7 D));have an:ao (b.rows.map j) (o:Z)=Y (j b.rows[o]):=(by grind [ff,bS]);refine bz n (bz av ?_);rw[x0 _ a0];have fT:(mD g (b.rows.take o)).length<=100:=(by grind [rL,air]);rw[adl g D];generalize mD g (b.rows.take o)=u at*;generalize b.rows[o]=e at*;have d7:(u.takeWhile λj=>br (g j<g e)).length<=u.length:=(List.takeWhile_sublist _).length_le;refine bz (abw g u e aa _ _ _ _) ?_;dsimp only;have fn:(u.map λe=>(g e:Z)).length=u.length:=cg _;have fp:(u.map j).length=u.length:=cg _;rw[<-Nt g e u j,<-Nt g e u λe=>(g e:Z)];refine bz (QV _ _ aa) ?_;dsimp only;rw[dc (by grind),bM,dc (by grind),bM];refine bz (QW _ _ aa) ?_;dsimp only;rw[dc (by grind),bM];refine bz (QV _ _ aa) ?_;dsimp only;rw[dc (by grind),bM];refine bz n (bz ap (bz an ?_));rw[dc (by grind),bM];refine bz (QW _ _ aa) ?_;dsimp only;rw[dc (by grind),bM];grind [bu]
 rintro _ rfl;subst ad;dsimp only;have eq:(gy g (b.rows,j)).length=b.rows.length:=(by grind [cg,rL,gy]);have f4:(iw g (b.rows,j)).length=b.rows.length:=(by grind [cg,rL,iw]);have f2:(j6 (gy g) r).length=r.length+1:=(by grind [cg,ajj,j6]);rw[dc aa,bM,dc aa,bM,dc (by grind),bM];simp_all [LI,bf,List.flatMap_append,bu,aq,iw,gy]
structure lj where
 R:aie
 full:X
 lf:aib
 M:bm (bm fX)
def lj.enc (a:lj):bv c4:=Y (cD a.R a.full a.lf a.M)
def lj.ok (a:lj):Prop:=a.lf.length=a.R.length/\a.full<=a.R.length/\a.R.length<=100
def ks (b:bm lj):aie:=b.flatMap λa=>fd a.R a.lf a.full
theorem Ip (b:aie) (lf:aib) (a:X):(fd b lf a).length<=a:=by grind [cu,aiH,cg,fd]
theorem LQ {l:bm lj} (b:∀a∈l,a.ok):(ks l).length<=100*l.length:=by
 induction l with
 |nil=>exact bc _
 |cons a l d=>
  have f:=d λc j=>b c (by grind);obtain⟨_,g,h⟩:=b a ac;have i:=Ip a.R a.lf a.full;have e:ks (a::l)=fd a.R a.lf a.full++ks l:=rfl;grind
theorem acE {l:bm lj} (e:∀a∈l,a.ok) (w:l.length<=100) {F L:X} {rows:aif} {par:Z} (s:F<=L) (t:L<=1000) (z:L-F<=rows.length) (A:rows.length<=1000):CG (((F:Z),((L:Z),(rows,(par,())))),l.map lj.enc,())=Y (a5 (ks l++ain F (L-F))++rows.drop (L-F),((ks l++ain F (L-F)).length:Z),()):=by
 have u:=LQ e;unfold CG;refine bQ.1 ?_;dsimp only;refine bD (P:=λd=>d=(a5 (ks l),())) ?_ ?_
 ·refine bL l.length (λc d=>d=((c:Z),a5 (ks (l.take c)),())) rfl ?_ ?_
  rotate_left
  ·rintro _ rfl;dsimp only;rw[a1 (aI (show¬(l.length:Z)<al (l.map lj.enc) by grind)),cA];grind [bu]
  rintro c _ k rfl;dsimp only;rw[aY (aL (show(c:Z)<al (l.map lj.enc) by grind)),bi aa];have f:=e _ (b7 k);have v:=LQ (l:=l.take c) λa f=>e a (anq f);have B:(l.take c).length<=c:=(by grind);have j:ks (l.take (c+1))=ks (l.take c)++fd l[c].R l[c].lf l[c].full:=(by grind [cr,bS,ks]);rw[j];refine bz (y:=l[c].enc) (by grind [ff,bS]) ?_;generalize l[c]=a at*;obtain⟨o,p,q⟩:=f;refine bz (y:=cD a.R a.full a.lf a.M) rfl ?_;refine bD (P:=λd=>d=(a5 (ks (l.take c)++fd a.R a.lf a.full),())) ?_ (by grind [bu]);refine bL a.full (λb d=>d=((b:Z),a5 (ks (l.take c)++fd a.R a.lf b),())) ?_ ?_ ?_
  ·rw[show fd a.R a.lf 0=[] from rfl,mK];rfl
  rotate_left
  ·rintro _ rfl;dsimp only;rw[a1 (aI (show¬(a.full:Z)<(cD a.R a.full a.lf a.M).2.1 from Int.lt_irrefl _))];grind [bu]
  rintro b _ i rfl;dsimp only;rw[aY (aL (show(b:Z)<(cD a.R a.full a.lf a.M).2.1 by show(b:Z)<(a.full:Z);omega)),bi aa];have g:ao (cD a.R a.full a.lf a.M).2.2.1 (b:Z)=Y (a.lf.getD b bq):=(by rw[ff];show a.lf[b]?=_;grind);have h:ao (cD a.R a.full a.lf a.M).1 (b:Z)=Y ((a.R.getD b 0:X):Z):=(by rw[ff];show(a.R.map λ(n:X)=>(n:Z))[b]?=_;grind);have x:=Ip a.R a.lf b;refine bD (P:=λd=>d=(a5 (ks (l.take c)++fd a.R a.lf (b+1)),())) ?_ (by grind [bu]);refine bz (y:=cD a.R a.full a.lf a.M) rfl (bz g ?_);rw[xB];cases r:a.lf.getD b bq with
  |false=>
   rw[bP,az ab];grind [bu]
  |true=>
   rw[bG,au bn];refine bz (y:=cD a.R a.full a.lf a.M) rfl (bz h ?_);rw[dc (by grind [fH]),aD];refine bu.2 ?_;rw[<-i4,oq (ks (l.take c)++fd a.R a.lf b)];rfl
 rintro _ rfl;dsimp only;refine bD (P:=λd=>d=(a5 (ks l++ain F (L-F)),())) ?_ ?_
 ·refine bL (L-F) (λb d=>d=(((F+b:X):Z),a5 (ks l++ain F b),())) ?_ ?_ ?_
  ·grind
  ·rintro b _ i rfl;dsimp only;rw[aY (aL (aa:((F+b:X):Z)<(L:Z))),bi aa];rw[dc (by grind [fH]),bM];refine bu.2 ?_;rw[alj,<-aiQ,oq (ks l++ain F b),Nat.one_mul];rfl
  rintro _ rfl;dsimp only;rw[a1 (aI (aa:¬(((F+(L-F):X):Z)<(L:Z))))];grind [bu]
 rintro _ rfl;dsimp only;have m:ax ((L:Z)-(F:Z))=((L-F:X):Z):=(by grind [cL]);rw[m];refine bz (y:=(L-F,rows.length)) ?_ ?_
 ·simp_all [au,bc,EH,g9]
 dsimp only;rw[cA,dc (by grind [fH]),bM];grind [bf,fH,bu]
section
def NR (R:aie) (lf:aib) (a:X):(fd R lf a).length=(eV lf a).length:=by rw[Ep,e9]
theorem W0 (R:aie) (lf:aib) (d:a<b) (h:lf.getD a bq=bp):(fd R lf b)[(eV lf a).length]?=Y (R.getD a 0):=by obtain⟨e,c⟩:=Io R lf (a+1) (b-(a+1));rw[(aa:a+1+(b-(a+1))=b)] at c;simp_all [xB,au,i4,pu,NR,bc,oJ]
theorem EG {R:aie} (h:R[a]?=Y b):(a5 R)[a]?=Y (b:Z):=by show(R.map λ(c:X)=>(c:Z))[a]?=_;grind
theorem Js {R:aie} (i:R.Nodup) (j:R.length<=1000) (h:a∈R):zp (a5 R,(a:Z),())=Y (((R.idxOf a:X):Z),())/\R[R.idxOf a]?=Y a:=by have b:R[R.idxOf a]?=Y a:=(by grind);refine⟨Wh (by grind [fH]) (EG b) λc k e=>?_,b⟩;have f:c<R.length:=(by grind);have d:=EG (ba f);rw[d] at e;have g:R[c]=a:=(by grind);grind
section
variable {R:aie} {full:X} {lf:aib} {h:X->X->fX}
theorem WL (A:R.Nodup) (E:R.length<=1000) {c:aib} {e:aV} (t:iY m a c j e) (ds:∀b∈e.rows,b∈R) {g:X->X->ah9} (cs:∀b d,cM (g b d)):Cx (cD R full lf (fM R λb d=>ay (g b d)),Y (cD m a c j),())=Y (cD R full lf (fM R λb d=>if b∈e.rows/\d∈e.rows then ay (cK (g b d) (e.s b d)) else ay (g b d)),()):=by
 have d7:=t.sm;have ek:=t.ll;have av:=t.rows;have dl:e.rows.Nodup:=(by rw[av];unfold fd;rw[ali,List.pairwise_map];refine(anL ?_ ((amf (n:=m.length)).sublist List.filter_sublist));intro d4 d5 B C bx a0;exact bx ((t.inj (ajk.1 (anr.1 B).1) (ajk.1 (anr.1 C).1)).1 a0));have F:∀b,b<m.length->c.getD b bq=bp->m.getD b 0∈R:=λb k o=>ds _ (t.mem k o);have M:al (cD m a c j).1=(m.length:Z):=(by rw[bf];exact b4 _ (fH _));have c1:∀b,b<m.length->ao (cD m a c j).1 (b:Z)=Y ((m.getD b 0:X):Z):=λb k=>(by rw[ff];show(a5 m)[b]?=_;grind [EG,bS]);have V:∀b,b<m.length->ao (cD m a c j).2.2.1 (b:Z)=Y (c.getD b bq):=λb k=>(by rw[ff];show c[b]?=_;grind);unfold Cx;refine bQ.1 ?_;dsimp only;refine bz (y:=cD m a c j) rfl ?_;rw[M,h6 aa,bM];refine bz (y:=cD m a c j) rfl ?_;generalize O:cD R full lf (fM R λb d=>ay (g b d))=z;generalize d8:(λb=>if c.getD b bq=bp then(R.idxOf (m.getD b 0):Z) else 0)=l;refine bD (P:=λp=>p=(z,aB m.length l,())) ?_ ?_
 ·refine bL m.length (λb p=>p=((b:Z),z,aB m.length (λh=>if h<b then l h else 0),())) ?_ ?_ ?_
  ·grind [jc]
  rotate_left
  ·rintro _ rfl;simp_all [db,au,bu,a1,aI,aB]
  rintro b _ k rfl;dsimp only;rw[M,aY (aL (aa:(b:Z)<(m.length:Z))),bi aa];refine bD (P:=λp=>p=(z,aB m.length (λh=>if h<b+1 then l h else 0),())) ?_ (by grind [bu]);refine bz (c1 b k) (bz (y:=cD m a c j) rfl (bz (V b k) ?_));have an:∀J,J=l b->aB m.length (eC (λh=>if h<b then l h else(0:Z)) b J)=aB m.length λh=>if h<b+1 then l h else 0:=λJ fl=>db λh c2=>by
   by_cases g:h=b
   ·simp_all [gH,au]
   rw[hb _ _ g];omega
  cases o:c.getD b bq with
  |true=>
   rw[bG];have bl:z.1=a5 R:=(by rw[<-O];rfl);refine bz (by rw[bl];exact(Js A E (F b k o)).1) ?_;dsimp only;rw[FK _ k,an _ (by grind)];grind [bu]
  |false=>
   rw[bP];refine bu.2 ?_;have a3:l b=0:=(by grind);have:=an 0 a3.symm;rw[<-this];have:(aB m.length λh=>if h<b then l h else(0:Z))=aB m.length (eC (λh=>if h<b then l h else(0:Z)) b 0):=db λh c2=>by
    by_cases g:h=b
    ·simp_all [gH,az]
    grind [hb]
   grind
 rintro _ rfl;subst O;dsimp only;generalize co:(λb d=>ay (cK (g b d) (e.s b d)))=q;generalize cv:(λb d=>ay (g b d))=r;have d9:(λb d=>if b∈e.rows/\d∈e.rows then ay (cK (g b d) (e.s b d)) else ay (g b d))=gM e.rows q r e.rows.length 0:=(by grind [Hc]);have ap:e.rows.length=(eV c m.length).length:=(by rw[av,NR]);have T:al (aB m.length l)=(m.length:Z):=(by rw[bf,cX]);have I:∀b,b<m.length->c.getD b bq=bp->∃el:(eV c b).length<e.rows.length,e.rows[(eV c b).length]=m.getD b 0:=λb k o=>(by have d6:=W0 m c k o;grind);refine bD (P:=λp=>p=(cD R full lf (fM R (gM e.rows q r e.rows.length 0)),())) ?_ (by grind [bu]);refine bL m.length (λb p=>p=((b:Z),cD R full lf (fM R (gM e.rows q r (eV c b).length 0)),aB m.length l,())) ?_ ?_ ?_
 ·rw[show(eV c 0).length=0 from rfl,Hg];rfl
 rotate_left
 ·rintro _ rfl;dsimp only;rw[T,a1 (aI (aa:¬(m.length:Z)<(m.length:Z))),ap];grind [bu]
 rintro b _ k rfl;dsimp only;rw[T,aY (aL (aa:(b:Z)<(m.length:Z))),bi aa];refine bD (P:=λp=>p=(cD R full lf (fM R (gM e.rows q r (eV c (b+1)).length 0)),aB m.length l,())) ?_ (by grind [bu]);refine bL m.length (λd p=>p=((d:Z),cD R full lf (fM R (gM e.rows q r (eV c b).length (if c.getD b bq=bp then(eV c d).length else 0))),aB m.length l,())) ?_ ?_ ?_
 ·simp_all [eV]
 rotate_left
 ·rintro _ rfl;dsimp only;rw[a1 (aI (aa:¬(m.length:Z)<(m.length:Z)))];refine bu.2 ?_;rw[Eo];by_cases o:c.getD b bq=bp
  ·rw[au o,au o,jN,px,<-ap];rw[Hf (I b k o).1]
  grind
 rintro d _ u rfl;dsimp only;rw[aY (aL (aa:(d:Z)<(m.length:Z))),bi aa];refine bD (P:=λp=>p=(cD R full lf (fM R (gM e.rows q r (eV c b).length (if c.getD b bq=bp then(eV c (d+1)).length else 0))),aB m.length l,())) ?_ (by grind [bu]);generalize N:fM R (gM e.rows q r (eV c b).length (if c.getD b bq=bp then(eV c d).length else 0))=w;refine bz (y:=(c.getD b bq&&c.getD d bq,cD R full lf w,aB m.length l,())) ?_ ?_
 ·refine ai (y:=cD m a c j) rfl (ai (V b k) ?_);cases o:c.getD b bq with
  |true=>
   grind
  |false=>
   grind
 dsimp only;by_cases o:c.getD b bq=bp
 rotate_left
 ·simp_all [az,bu,alE,bP]
 by_cases v:c.getD d bq=bp
 rotate_left
 ·simp_all [Eo,az,bu,Bool.and_false,bP]
 rw[o,v,akU,bG];obtain⟨B,Q⟩:=I b k o;obtain⟨C,U⟩:=I d u v;rw[cb o] at N;obtain⟨_,G⟩:=Js A E (F b k o);obtain⟨_,H⟩:=Js A E (F d u v);have S:l b=((R.idxOf (m.getD b 0):X):Z):=(by grind);have ci:l d=((R.idxOf (m.getD d 0):X):Z):=(by grind);have eq:=(aiV.1 G).1;have ex:=(aiV.1 H).1;generalize R.idxOf (m.getD b 0)=d1 at*;generalize R.idxOf (m.getD d 0)=p at*;obtain⟨d2,x,fp,dd⟩:=Fw (gM e.rows q r (eV c b).length (eV c d).length) G H;have D:=Kc A (gM e.rows q r (eV c b).length (eV c d).length) G H (q (m.getD b 0) (m.getD d 0)) x;have K:=Hd (f:=q) (g:=r) B C;rw[Q,U] at K;rw[<-K] at D;have L:=He (f:=q) (g:=r) dl B C;rw[Q,U] at L;rw[L] at dd;have em:w.length=R.length:=(by grind [Kb]);rw[N] at x D;have ad:=eU (n:=w.length) (i:=d1) aa;have am:=eU (n:=d2.length) (i:=p) aa;obtain⟨d3,d0,fn⟩:=t.ent b d k u o v;have ce:=Me (cs (m.getD b 0) (m.getD d 0)) (t.okd _ (t.mem k o) _ (t.mem u v));subst co cv;have a4:(cD R full lf w).2.2.2.1=w:=rfl;rw[x0 _ k,a4,S];refine bz ad ?_;rw[x0 _ u,x0 _ k,S];refine bz ad ?_;rw[x0 _ u,ci,gj x,bM];refine bz am ?_;rw[gj x,gj dd,bM];refine bz (y:=cD m a c j) rfl (bz (y:=d3) (by rw[ff];exact d0) (bz (y:=ay (e.s (m.getD b 0) (m.getD d 0))) (by grind [ff]) (bz ce ?_)));dsimp only;refine bz am ?_;rw[gj x,gj dd];refine bu.2 ?_;dsimp only;rw[D,Eo,cb v,aiP,akt,cb bn];rfl
end
end
theorem XM (b:∀a∈h,0<=a):a5 (h.map aiL)=h:=by
 unfold a5;rw[oI]
 conv=>rhs;rw[<-List.map_id h]
 refine h7 λa c=>?_;grind
theorem Ns (c:X->X) (a:X) (b:aie):(nF c a b).Perm (a::b):=by grind [ans,nF]
theorem Q1 (c:X->X):∀(b a:aie),(b.foldl (λa p=>nF c p a) a).Perm (b++a)
 |[],a=>aks _
 |p::b,a=>by rw[aku];refine(Q1 c b _).trans ?_;grind [List.perm_middle,akT,Ns]
def adm (b:X->X) (a:aie):(mD b a).Perm a:=by have:=Q1 b a [];rwa[mK] at this
theorem Wm (j:m.Pairwise λb c=>g b<g c) (o:∀b∈m,g b≠g a):(nF g a m).Pairwise λb c=>g b<g c:=by
 unfold nF;have k:∀b∈m.takeWhile (λb=>br (g b<g a)),g b<g a:=λb d=>of_decide_eq_true (IF (p:=λb=>br (g b<g a)) d);have l:∀b∈m.dropWhile (λb=>br (g b<g a)),g a<g b:=by
  intro b d;have i:m.dropWhile (λb=>br (g b<g a))≠[]:=List.ne_nil_of_mem d;have h:=List.head_dropWhile_not (λb=>br (g b<g a)) i;rw[decide_eq_false_iff_not] at h;have n:(m.dropWhile λb=>br (g b<g a)).Pairwise λb c=>g b<g c:=j.sublist (ant _);have q:∀c∈m.dropWhile (λb=>br (g b<g a)),c∈m:=λc f=>(ant _).subset f;generalize m.dropWhile (λb=>br (g b<g a))=e at*;cases e with
  |nil=>cases d
  |cons c e=>
   grind [aj8]
 grind [aj8,ans]
theorem Q2 {b:X->X}:∀{e d:aie},d.Pairwise (λa c=>b a<b c)->(∀a∈d,∀c∈e,b a≠b c)->e.Pairwise (λa c=>b a≠b c)->(e.foldl (λd p=>nF b p d) d).Pairwise λa c=>b a<b c
 |[],d,f,_,_=>f
 |p::e,d,f,i,g=>by rw[aku];rw[mM] at g;refine Q2 (Wm f λa h=>i a h p ac) (λa h c j=>?_) g.2;grind [Ns]
theorem QY {e:X->X}:∀{a b:aie},a.Perm b->a.Pairwise (λx d=>e x<e d)->b.Pairwise (λx d=>e x<e d)->a=b
 |[],b,c,_,_=>c.nil_eq
 |x::a,[],c,_,_=>absurd c.length_eq ac
 |x::a,d::b,c,f,g=>by rw[mM] at f g;have h:x=d:=(by grind);subst h;rw[QY (List.perm_cons x|>.1 c) f.2 g.2]
theorem oL.key (a:Z->Z):oL λd e=>br (a d<a e):=⟨λb c g=>by grind,λb c f h i=>by grind⟩
def Wn (c:aif) (a b:Z) (d:bv aA) (e:bv eE):G6 (c,a,b,(d,e,()),())=Eh (λf g=>uy (f,g,d,e,())) c a b:=rfl
def abi (a:aif) (e:Z) (c:bv aA) (d:bv eE) (i:a.length<=12) {b:aif×bt} (f:Eh (λg h=>uy (g,h,c,d,())) a 0 (a.length:Z)=Y b):C3 (a,0,(a.length:Z),e,(c,d,()),())=Y b:=by obtain⟨b,_⟩:=b;unfold C3;dsimp only;rw[Et];dsimp only;rw[aY (aL (show ax ((a.length:Z)-0)<=12 by rw[Int.sub_zero,cL aa aa];omega)),Wn,f];rfl
def TU (i:∀c∈m,c<a) {d:X} (e:b<m.length) (f:d<m.length):uy ((b:Z),(d:Z),Y (aB a λc=>(g c:Z)),Y (a5 m,h,()),())=Y (fE (g m[b]:Z) (g m[d]:Z),()):=by unfold uy;refine ai (y:=aB a λc=>(g c:Z)) rfl (ai (y:=(a5 m,h,())) rfl (ai (mY e) (ai (rr (i _ (cR e))) ?_)));refine ai (y:=aB a λc=>(g c:Z)) rfl (ai (y:=(a5 m,h,())) rfl (ai (mY f) (ai (rr (i _ (cR f))) ?_)));exact ai (B0 _ _) rfl
theorem TV {a:Z}:fE n a<0↔n<a:=by grind [fE]
theorem adg {n:X} {f:X->X} {rows:aie} (N:∀g∈rows,g<n) (M:rows.length<=12) (o:rows.Pairwise λd c=>f d≠f c) (w:aif):∃b:aie,C0 (a5 (bI rows.length),(Y (aB n λg=>(f g:Z)),Y (a5 rows,w,()),()),())=Y (a5 b,())/\(∀a∈b,a<rows.length)/\b.length=rows.length/\b.map (λa=>rows.getD a 0)=mD f rows:=by
 have s:(a5 (bI rows.length)).length=rows.length:=(by rw[fH,nb]);obtain⟨⟨b,⟨⟩⟩,G,y,C,B,e⟩:=Wk (cmp:=λh x=>uy (h,x,Y (aB n λg=>(f g:Z)),Y (a5 rows,w,()),())) (oL.key λh=>(f (rows.getD h.toNat 0):Z)) (a5 (bI rows.length)) (by
  intro h x j I;obtain⟨d,l,rfl⟩:=eZ.1 j;obtain⟨c,m,rfl⟩:=eZ.1 I;simp_all [lR,ba,TV,aiF,TU,iq]) aa
 dsimp only at C e;obtain⟨c,m⟩:=KP rows.length aa;have P:b=a5 (b.map aiL):=(XM λh j=>by
  obtain⟨Q,_,rfl⟩:=eZ.1 (e.mem_iff.1 j);omega).symm
 have F:(b.map aiL).Perm (bI rows.length):=(by have:=e.map aiL;rwa[show(a5 (bI rows.length)).map aiL=bI rows.length by simp[a5,Function.comp_def]] at this);have D:∀a∈b.map aiL,a<rows.length:=λa i=>ajk.1 (F.mem_iff.1 i);have E:(b.map aiL).map (λa=>rows.getD a 0)=mD f rows:=(by have J:((bI rows.length).map λa=>rows.getD a 0)=rows:=(by refine List.ext_getElem? λa=>?_;grind);have k:((b.map aiL).map λa=>rows.getD a 0).Perm rows:=(by grind);have t:((b.map aiL).map λa=>rows.getD a 0).Pairwise λd c=>f d≠f c:=(k.symm.pairwise o λz=>z.symm);refine QY (k.trans (adm f rows).symm) ?_ (Q2 akH (λd l=>by cases l) o);rw[aih] at t|-;intro u v p r q;have O:b.length=rows.length:=(by rw[e.length_eq,s]);have K:=t u v p r q;simp only[cg] at p r;have A:=B u v q aa;rw[decide_eq_false_iff_not] at A;have L:∀a,(i:a<b.length)->y a=b[a]:=λa i=>(by grind [ai1,jn,bS,aB,a5,bI]);grind);refine⟨b.map aiL,?_,D,by rw[cg,e.length_eq,s],E⟩;unfold C0;have H:aM (al (a5 (bI rows.length)))=(rows.length:Z):=(by grind [Kx,bf]);dsimp only;rw[H];refine ai m ?_;dsimp only;rw[bf];refine ai (abi _ c _ _ aa G) ?_;grind
def hT (a:m5):eE:=(a5 a.1,a.1.map a.2,())
theorem abo (bl:h.length=a) (eq:a<=12) (F:(c.flatMap a8.cF).Perm (bI a)) (G:∀o∈c,tW (bI a) o) (del:Z) (co:bv (Z×((bm aA×bt)×(bm (bv (bm (Z×cV)×X))×bt)))):CI (Y (co,(a5 (c.flatMap a8.cF),(c.map (λo=>(o.cF.length:Z)),(c.flatMap (·.d),((c.flatMap b3).map hT,(del,())))))),h,())=Y (ri h c del,()):=by
 obtain⟨fs,ft,fz⟩:=AQ G;have T:(c.flatMap a8.cF).length=a:=(by rw[F.length_eq,ajj]);have d6:(c.flatMap a8.cF).Nodup:=F.nodup_iff.2 amf;have I:∀g,g∈c.flatMap a8.cF↔g<a:=λg=>(by rw[F.mem_iff,ajk]);have C:∀t∈c.flatMap b3,t.1.Nodup/\∀q∈t.1,q<a:=λt u=>(by obtain⟨o,N,u⟩:=amg.1 u;obtain⟨m,_,rfl⟩:=List.mem_map.1 u;exact⟨(G o N).nd,λq x=>ajk.1 ((G o N).sub q x)⟩);unfold CI ri;refine bQ.1 ?_;dsimp only;generalize d5:c.flatMap a8.cF=k at*;generalize d3:c.flatMap b3=j at*;generalize c.map (λo=>(o.cF.length:Z))=jv;generalize c.flatMap (·.d)=v;rw[show al h=(a:Z) by rw[bf,bl],h6 aa,bM,bM,bM,bM,bM];dsimp only;have U:al (a5 k)=(a:Z):=(by rw[bf,fH,T]);refine bD (P:=λo=>o=(([],([],([],([],([],([],((0:Z),()))))))),aB a (λg=>(k.idxOf g:Z)),(k.map (λg=>h.getD g 0),(jv,(v,([0],(([]:aA),(([]:aA),(del,()))))))),())) ?_ ?_
 ·refine bL a (λb o=>o=((b:Z),([],([],([],([],([],([],((0:Z),()))))))),aB a (λg=>if g∈k.take b then(k.idxOf g:Z) else 0),((k.take b).map (λg=>h.getD g 0),(jv,(v,([0],(([]:aA),(([]:aA),(del,()))))))),())) ?_ ?_ ?_
  ·grind [jc,db]
  ·rintro b _ B rfl;dsimp only;have M:b<k.length:=aa;rw[U,aY (aL (aa:(b:Z)<(a:Z))),bi aa];have bx:k[b]<a:=(I _).1 (b7 M);have a3:k.idxOf k[b]=b:=by
    grind
   refine bz (mY M) ?_;rw[FK _ bx];refine bz (gY aa) ?_;rw[dc (by grind),aD];refine bu.2 ?_;have aq:k.take (b+1)=k.take b++[k[b]]:=(by simp_all);have d1:(aB a (eC (λg=>if g∈k.take b then(k.idxOf g:Z) else 0) k[b] (b:Z)))=aB a λg=>if g∈k.take (b+1) then(k.idxOf g:Z) else 0:=by
    refine db λg ex=>?_;rw[aq];by_cases A:g=k[b]
    ·rw[A,gH,au (lm _ (gp.2 bn)),a3]
    grind [hb,aik]
   grind
  rintro _ rfl;simp_all [db,au,bu,a1,aI,fB,aB]
 rintro _ rfl;dsimp only;have em:∀m z,m<a->z<a->k.idxOf m=k.idxOf z->m=z:=λm z V d8 ds=>(by have S:=List.getElem_idxOf (List.idxOf_lt_length_iff.2 ((I m).2 V));grind);generalize am:(λg=>k.idxOf g)=i at*;have an:(λg=>(k.idxOf g:Z))=λg=>(i g:Z):=(by grind);have ek:∀g,k.idxOf g=i g:=λg=>(by rw[<-am]);rw[an];generalize k.map (λg=>h.getD g 0)=y;rw[bM];dsimp only;have J:al (j.map hT)=(j.length:Z):=(by grind);have ce:∀t∈j,t.1.length<=12:=λt u=>(by have:=(C t u).1.length_le_of_subset (l₂:=bI a) λq x=>ajk.2 ((C t u).2 q x);grind);have ad:∀r:bm m5,(∀t∈r,t∈j)->r.length<=100->(r.flatMap (gy i)).length<=10000/\(r.flatMap (iw i)).length<=10000:=λr S d2=>(by grind [DX,cg,rL,iw,gy]);refine bD (P:=λo=>o=(([],([],([],([],([],([],((0:Z),()))))))),(y,(jv,(v,(j6 (gy i) j,(j.flatMap (gy i),(j.flatMap (iw i),(del,()))))))),())) ?_ (by grind [bu]);refine bL j.length (λb o=>o=((b:Z),([],([],([],([],([],([],((0:Z),()))))))),aB a (λg=>(i g:Z)),(y,(jv,(v,(j6 (gy i) (j.take b),((j.take b).flatMap (gy i),((j.take b).flatMap (iw i),(del,()))))))),())) rfl ?_ ?_
 rotate_left
 ·rintro _ rfl;dsimp only;rw[J,a1 (aI (aa:¬(j.length:Z)<(j.length:Z))),cA];grind [bu]
 rintro b _ B rfl;dsimp only;rw[J,aY (aL (aa:(b:Z)<(j.length:Z))),bi aa];have K:=b7 B;have a4:j.take (b+1)=j.take b++[j[b]]:=(by simp_all);have ap:ao (j.map hT) (b:Z)=Y (hT j[b]):=(by grind [ff,bS]);obtain⟨c2,dl⟩:=ad (j.take b) (λt u=>anq u) (by grind);have w:=C _ K;have D:=ce _ K;have fn:(j6 (gy i) (j.take b)).length<=1000:=(by grind [cg,ajj,air,j6]);have fl:=LI (gy i) (j.take b) j[b];rw[a4];generalize j[b]=t at*;generalize j.take b=r at*;refine bz ap ?_;obtain⟨e,m⟩:=t;have D:e.length<=12:=D;have w:e.Nodup/\∀q∈e,q<a:=w;have ci:al (hT (e,m)).1=(e.length:Z):=(by rw[bf];exact b4 _ (fH _));rw[ci,h6 aa,bM];have O:al (bJ e.length (0:Z))=(e.length:Z):=(by grind);generalize d9:((y,(jv,(v,(j6 (gy i) r,(r.flatMap (gy i),(r.flatMap (iw i),(del,()))))))):eH)=H;refine bD (P:=λo=>o=(([],([],([],([],([],([],((0:Z),()))))))),aB a (λg=>(i g:Z)),H,hT (e,m),a5 (bI e.length),())) ?_ ?_
 ·refine bL e.length (λq o=>o=((q:Z),([],([],([],([],([],([],((0:Z),()))))))),aB a (λg=>(i g:Z)),H,hT (e,m),aB e.length (λb=>if b<q then(b:Z) else 0),())) ?_ ?_ ?_
  ·grind [jc]
  ·rintro q _ x rfl;dsimp only;rw[O,aY (aL (aa:(q:Z)<(e.length:Z))),bi aa,FK _ x];refine bu.2 ?_;have:aB e.length (eC (λb:X=>if b<q then(b:Z) else 0) q (q:Z))=aB e.length λb=>if b<q+1 then(b:Z) else 0:=db λb _=>by
    by_cases A:b=q
    ·subst A;rw[gH,au aa]
    rw[hb _ _ A];omega
   grind
  rintro _ rfl;dsimp only;rw[O,a1 (aI (aa:¬(e.length:Z)<(e.length:Z)))];refine bu.2 ?_;have:(aB e.length λb:X=>if b<e.length then(b:Z) else 0)=a5 (bI e.length):=db λb B=>cb B;grind
 rintro _ rfl;dsimp only;obtain⟨s,cs,cv,c1,aJ⟩:=adg (n:=a) (f:=i) (rows:=e) w.2 D (by
  refine tK ?_ w.1;grind) (e.map m)
 refine bz cs ?_;dsimp only;have R:al (a5 s)=(e.length:Z):=(by rw[bf,fH,c1]);have d4:∀p,p<s.length->(gy i (e,m))[p]?=Y (i (e.getD (s.getD p 0) 0):Z):=λp L=>(by grind [bS,gy]);have d7:∀p,p<s.length->(iw i (e,m))[p]?=Y (m (e.getD (s.getD p 0) 0)):=λp L=>(by grind [bS,iw]);have el:(gy i (e,m)).length=e.length:=(by grind [cg,rL,gy]);have fp:(iw i (e,m)).length=e.length:=(by grind [cg,rL,iw]);refine bD (P:=λo=>o=(([],([],([],([],([],([],((0:Z),()))))))),aB a (λg=>(i g:Z)),(y,(jv,(v,(j6 (gy i) r,(r.flatMap (gy i)++gy i (e,m),(r.flatMap (iw i)++iw i (e,m),(del,()))))))),())) ?_ ?_
 ·refine bL e.length (λp o=>o=((p:Z),([],([],([],([],([],([],((0:Z),()))))))),aB a (λg=>(i g:Z)),(y,(jv,(v,(j6 (gy i) r,(r.flatMap (gy i)++(gy i (e,m)).take p,(r.flatMap (iw i)++(iw i (e,m)).take p,(del,()))))))),hT (e,m),a5 s,())) ?_ ?_ ?_
  ·grind
  ·rintro p _ L rfl;dsimp only;have E:p<s.length:=aa;rw[R,aY (aL (aa:(p:Z)<(e.length:Z))),bi aa,qf E];have Q:=cv _ (b7 E);have av:ao (hT (e,m)).1 ((s[p]:X):Z)=Y ((e[s[p]]:X):Z):=mY Q;have a0:ao (hT (e,m)).2.1 ((s[p]:X):Z)=Y (m e[s[p]]):=by
    rw[ff];show(e.map m)[s[p]]?=_;grind
   refine bz av ?_;rw[x0 _ (w.2 _ (cR Q)),dc (by grind),aD];refine bz a0 ?_;rw[dc (by grind),aD];refine bu.2 ?_;have d0:e.getD (s.getD p 0) 0=e[s[p]]:=(by rw[lR (l:=s),ba E];grind);grind [aiQ,cr]
  rintro _ rfl;dsimp only;rw[R,a1 (aI (aa:¬(e.length:Z)<(e.length:Z))),ch aa,ch aa];grind [bu]
 rintro _ rfl;dsimp only;rw[dc (by grind),bM];grind [bf,bu]
section
theorem NT (b:aie):∀{a},a<=b.length->fd b (bJ b.length bp) a=b.take a:=by
 intro a
 induction a with
 |zero=>intro _;rfl
 |succ a c=>
  intro d;rw[xB,c aa,au (by grind),hx,ba aa,lR,ba aa];rfl
theorem iY.start {a:aV} (b:kM a) (g:a.rows.length<=1000):iY a.rows a.full (bJ a.rows.length bp) (fM a.rows λc d=>ay (a.s c d)) a where
 ll:=qH ..
 nd:=b.nd
 sm:=g
 fl:=b.full
 rows:=by rw[NT _ (bc _),hP]
 full:=by rw[NT _ b.full,fQ];have:=b.full;omega
 okd:=b.okd
 ent:=λc d e f _ _=>by obtain⟨j,h,_,i⟩:=Fw (λc d=>ay (a.s c d)) (ba e) (ba f);grind
section
variable {G:ew} {l:bm df} {n t:X} {L:X->aV} {ps:bm a8} {A:X->X->ah9}
theorem Uv (d:iD n l t):(gO l (t:Z)).drop (gd l t)=a5 (kH l t):=by
 refine hO λa=>?_;have c:(a5 (kH l t))[a]?=((kH l t)[a]?).map λ(b:X)=>(b:Z):=(by show((kH l t).map λ(b:X)=>(b:Z))[a]?=_;grind);rw[pw,c];unfold kH;rw[jh];by_cases e:gd l t+a<hE l t
 ·rw[d.get _ e,List.getElem?_range' aa];simp
 grind [ajU,ame,hE]
structure KW (n:X) (c:lj) (y:aV):Prop where
 r:iY c.R c.full c.lf c.M y
 len:c.R.length<=n
theorem Tm (K:hq G l) (S:G.length=n) (av:t<l.length) (I:jM l n t L ps) (R:∀b d,cM (A b d)) (fs:n<=64) {w:X->lj} (J:∀e,e<t->KW n (w e) (L e)) {a3:bv (Z×((bm aA×bt)×(bm (bv (bm (Z×cV)×X))×bt)))} (bx:∀b d:X,b<n->d<n->xd (a3,(b:Z),(d:Z),())=Y (ay (A b d),())):Cv (a3,((bd l t:Z),(bd l (t+1):Z),gO l (t:Z),gg l t,()),(eA l t t).map (λe=>(w e).enc),())=Y (cD (hR A l L t).rows (hR A l L t).full (bJ (hR A l L t).rows.length bp) (fM (hR A l L t).rows λb d=>ay ((hR A l L t).s b d)),0,()):=by
 have q:=aj2 K S av;have fn:l.length<=n:=(by have:=D1 K;omega);have V:=yO A L t (l:=l);have T:∀b∈(hR A l L t).rows,b<n:=λb m=>I.yN A q m;have d7:=I.BT A R q;have M:=(I.ww R q).nd;have d9:=q.wF;have fz:=q.own;have N:∀e∈eA l t t,e<t:=λe C=>(Ap.1 C).1;have ek:(eA l t t).length<=t:=(by grind [cu,aiH,eA]);have ds:(bd l (t+1)-bd l t)=gd l t:=rfl;have O:=acE (l:=(eA l t t).map w) (F:=bd l t) (L:=bd l (t+1)) (rows:=gO l (t:Z)) (par:=gg l t) (λe C=>by
  obtain⟨c,z,rfl⟩:=eZ.1 C;have:=J c (N c z);exact⟨this.r.ll,this.r.fl,by have:=this.len;omega⟩) (by grind) aa aa (by have:=q.OD;grind [hE]) (by have:=q.Bz;grind [hE])
 have co:ks ((eA l t t).map w)=(eA l t t).flatMap λe=>(L e).rows.take (L e).full:=(by unfold ks;rw[List.flatMap_map];refine MU λe C=>?_;exact(J e (N e C)).r.take.symm);rw[List.map_map,co,ds,Uv q] at O;have aq:a5 ((eA l t t).flatMap (λe=>(L e).rows.take (L e).full)++ain (bd l t) (gd l t))++a5 (kH l t)=a5 (hR A l L t).rows:=(by rw[<-oq,V.1];rfl);have a4:((eA l t t).flatMap (λe=>(L e).rows.take (L e).full)++ain (bd l t) (gd l t)).length=(hR A l L t).full:=V.2.symm;rw[aq,a4] at O;unfold Cv;refine bQ.1 ?_;refine bz O ?_;dsimp only;generalize d6:(hR A l L t).rows=a at*;generalize eq:(hR A l L t).full=j at*;have ce:al (a5 a)=(a.length:Z):=(by rw[bf,fH]);rw[ce,a1 (aI (aa:¬(a.length:Z)>64)),h6 aa,bM,bM];generalize a0:bJ a.length ((bq,((bq,(([]:aif),())),((0:Z),()))):cV)=p;refine bD (P:=λi=>i=(cD a j (bJ a.length bp) (fM a λ_ _=>ay (Y 0)),())) ?_ ?_
 ·refine bL a.length (λb i=>i=((b:Z),cD a j (aB a.length λc=>br (c<b)) (aB a.length λc=>if c<b then p else[]),())) ?_ ?_ ?_
  ·have x:(aB a.length λc=>br (c<0))=bJ a.length bq:=(by grind [db,aiO,jc]);have E:(aB a.length λc=>if c<0 then p else[])=bJ a.length []:=(by simp_all [db,az,jc]);rw[x,E];rfl
  ·rintro b _ m rfl;dsimp only;rw[aY (aL (aa:(b:Z)<(a.length:Z))),bi aa,bM];have c1:(cD a j (aB a.length λc=>br (c<b)) (aB a.length λc=>if c<b then p else[])).2.2.1=aB a.length λc=>br (c<b):=rfl;rw[c1];refine bz (eU (by grind [cX])) ?_;rw[gj (jn m),hB];refine bz bn ?_;dsimp only;have c2:(cD a j (aB a.length λc=>br (c<b)) (aB a.length λc=>if c<b then p else[])).2.2.2.1=aB a.length λc=>if c<b then p else[]:=rfl
   rw[c2];refine bz (eU (by grind [cX])) ?_;rw[gj (jn m),hB];refine bz bn ?_;refine bu.2 ?_;have x:aB a.length (eC (λc=>br (c<b)) b bp)=aB a.length λc=>br (c<b+1):=db λc _=>by
    by_cases u:c=b
    ·grind [gH,aij]
    rw[hb _ _ u,cy];omega
   have E:aB a.length (eC (λc=>if c<b then p else[]) b p)=aB a.length λc=>if c<b+1 then p else[]:=db λc _=>by
    by_cases u:c=b
    ·simp_all [gH,au]
    rw[hb _ _ u];grind
   rw[a0,x,E];rfl
  rintro _ rfl;dsimp only;rw[a1 (aI (aa:¬(a.length:Z)<(a.length:Z)))];refine bu.2 ?_;have x:(aB a.length λc=>br (c<a.length))=bJ a.length bp:=(by grind [db,aij,jc]);have E:(aB a.length λc=>if c<a.length then p else[])=fM a λ_ _=>ay (Y 0):=(by have bl:(aB a.length λc=>if c<a.length then p else[])=aB a.length λ_=>p:=db λc z=>cb z;have H:p=a.map λ_=>ay (Y 0):=(by rw[<-a0];exact(al9 ..).symm);rw[bl,MJ a λ_=>p,H];rfl);grind
 rintro _ rfl;dsimp only;generalize ex:bJ a.length bp=lf;refine bD (P:=λi=>i=(cD a j lf (fM a λb d=>ay (ig A l t b d)),())) ?_ ?_
 ·generalize am:(λb d=>ay (ig A l t b d))=h;generalize cv:(λ(_ _:X)=>ay (Y 0))=k;have cs:fM a h=fM a (gM a h k a.length 0):=by
   rw[Hc];simp_all [Rf,au]
  rw[cs];refine bL a.length (λb i=>i=((b:Z),cD a j lf (fM a (gM a h k b 0)),())) ?_ ?_ ?_
  ·rw[Hg];rfl
  rotate_left
  ·rintro _ rfl;dsimp only;rw[a1 (aI (aa:¬(a.length:Z)<(a.length:Z)))];grind [bu]
  rintro b _ m rfl;dsimp only;rw[aY (aL (aa:(b:Z)<(a.length:Z))),bi aa];refine bD (P:=λi=>i=(cD a j lf (fM a (gM a h k b a.length)),())) ?_ (by grind [bu,Hf]);refine bL a.length (λd i=>i=((d:Z),cD a j lf (fM a (gM a h k b d)),())) rfl ?_ ?_
  rotate_left
  ·rintro _ rfl;dsimp only;rw[a1 (aI (aa:¬(a.length:Z)<(a.length:Z)))];grind [bu]
  rintro d _ v rfl;dsimp only;rw[aY (aL (aa:(d:Z)<(a.length:Z))),bi aa];refine bD (P:=λi=>i=(cD a j lf (fM a (gM a h k b (d+1))),())) ?_ (by grind [bu]);have ft:=He (f:=h) (g:=k) M m v;have ap:=Hd (f:=h) (g:=k) m v;obtain⟨fT,Q,f0,dd⟩:=Fw (gM a h k b d) (bS m) (bS v);have H:=Kc M (gM a h k b d) (bS m) (bS v) (h a[b] a[d]) Q;rw[<-ap] at H;have fp:(fM a (gM a h k b d)).length=a.length:=Kb _ _;have d1:h a[b] a[d]=k a[b] a[d]->fM a (gM a h k b d)=fM a (gM a h k b (d+1)):=λel=>(by rw[ap];refine Rf λd4 _ d5 _=>?_;grind);generalize d8:fM a (gM a h k b d)=D at*;have U:(cD a j lf D).1=a5 a:=rfl;have ci:(cD a j lf D).2.2.2.1=D:=rfl;rw[U,qf m,qf v];have dl:(if((a[d]:X):Z)<((a[b]:X):Z) then((a[d]:X):Z) else((a[b]:X):Z))=((min a[b] a[d]:X):Z):=aa;rw[dl];refine bz (y:=(br (bd l t<=min a[b] a[d]/\min a[b] a[d]<bd l (t+1)),cD a j lf D,())) ?_ ?_
  ·by_cases u:bd l t<=min a[b] a[d]
   ·rw[aY (by grind)];rw[cy.2 (aa:((min a[b] a[d]:X):Z)<(bd l (t+1):Z)↔bd l t<=min a[b] a[d]/\min a[b] a[d]<bd l (t+1))]
   grind
  dsimp only;by_cases u:bd l t<=min a[b] a[d]/\min a[b] a[d]<bd l (t+1)
  ·rw[aY (aL u),ci];have d3:ay (A a[b] a[d])=h a[b] a[d]:=(by rw[<-am];dsimp only;unfold ig;grind);refine bz (eU aa) ?_;rw[U,qf m,qf v];refine bz (bx _ _ (T _ (b7 m)) (T _ (b7 v))) ?_;dsimp only;rw[gj Q,bM];refine bz (eU aa) ?_;rw[gj Q,gj dd,d3];refine bz bn ?_;refine bu.2 ?_;dsimp only;rw[H];rfl
  rw[a1 (aI u)];refine bu.2 ?_;rw[d1 (by rw[<-am,<-cv];dsimp only;unfold ig;grind)]
 rintro _ rfl;dsimp only;have em:∀B:aie,(B.foldl (λo e=>o.plus (L e)) (jS A l L t)).rows=a:=λB=>(by simp_all [AO,jS]);have d0:∀(B:aie) b d,cM ((B.foldl (λo e=>o.plus (L e)) (jS A l L t)).s b d):=λB=>E1 L _ _ λb d=>by
  show cM (if _ then _ else _);split
  ·grind
  exact EW
 refine bD (P:=λi=>i=(cD a j lf (fM a λb d=>ay ((hR A l L t).s b d)),())) ?_ (by grind [bu]);have ad:al ((eA l t t).map λe=>(w e).enc)=((eA l t t).length:Z):=(by grind);refine bL (eA l t t).length (λc i=>i=((c:Z),cD a j lf (fM a λb d=>ay ((((eA l t t).take c).foldl (λo e=>o.plus (L e)) (jS A l L t)).s b d)),())) rfl ?_ ?_
 rotate_left
 ·rintro _ rfl;dsimp only;rw[ad,a1 (aI (aa:¬((eA l t t).length:Z)<((eA l t t).length:Z))),cA];exact bu.2 bn
 rintro c _ z rfl;dsimp only;rw[ad,aY (aL (aa:(c:Z)<((eA l t t).length:Z))),bi aa];have an:=b7 z;refine bz (y:=(w (eA l t t)[c]).enc) (by grind [ff,bS]) ?_;have d2:∀b∈(L (eA l t t)[c]).rows,b∈a:=λb m=>(by have:=I.child A K S av an m;grind);have x:=WL (full:=j) (lf:=lf) M aa (J _ (N _ an)).r d2 (g:=(((eA l t t).take c).foldl (λo e=>o.plus (L e)) (jS A l L t)).s) (d0 _);refine bz x ?_;refine bu.2 ?_;rw[cr,bS z,List.foldl_append];have:(λb d=>if b∈(L (eA l t t)[c]).rows/\d∈(L (eA l t t)[c]).rows then ay (cK ((((eA l t t).take c).foldl (λo e=>o.plus (L e)) (jS A l L t)).s b d) ((L (eA l t t)[c]).s b d)) else ay ((((eA l t t).take c).foldl (λo e=>o.plus (L e)) (jS A l L t)).s b d))=λb d=>ay (((((eA l t t).take c).foldl (λo e=>o.plus (L e)) (jS A l L t)).plus (L (eA l t t)[c])).s b d):=(by funext b d;show _=ay (if _ then _ else _);grind);simp_all
end
end
def xZ (l:Z->bv (cV×bt)) (r:bv c4) (f:aA) (q:cV):bv (eE×ga×Z×bt):=
 (loop (σ:=(Z×eE×eE×ga×bt)) (ρ:=((eE×eE×ga×bt)⊕(eE×ga×Z×bt))) (λ(e,h,a,d,_)=>
  bif br (e<al f) then
 (ao f e).bind λi=>
 (l i).bind λ(o,_)=>
 (ss (o,q,0,())).bind λ(b,_)=>
 (nz (b,())).bind λ(p,_)=>
  bif !p then
 Y (.inr (.inr (a,[],233,()))) else
  r.bind λs=>
 (ao s.1 i).bind λc=>
 (cC ((a.1).length+([c]).length)).bind λ_=>
 (cC ((a.2.1).length+([b]).length)).bind λ_=>
 (jT (b,())).bind λ(g,_)=>
 (cC (d.length+([g]).length)).bind λ_=>
 Y (.inl (aP e,h,(((a.1++[c]),a.2).1,((((a.1++[c]),a.2).2.1++[b]),((a.1++[c]),a.2).2.2)),(d++[g]),())) else
 Y (.inr (.inl (h,a,d,())))) (0,([],([],())),([],([],())),[],())).bind λm=>match m with
 |.inl (_,j,k,_)=>(
 Y (j,k,0,()))
 |.inr n=>Y n
def abJ (c:bv c4) (a:aA) (b:cV):GS (c,a,(),b,())=xZ (λd=>CD (d,())) c a b:=rfl
def abK (e:bv c4) (c:aA) (d:cV) (a:bv (bv c4)) (b:ah9):GU (e,c,(a,b,()),d,())=xZ (λf=>CC (f,a,b,())) e c d:=rfl
def abL (g:bv c4) (e:aA) (f:cV) (a:bv (bv (bv c4)×bt)) (b c:ah9) (d:bv ga):GV (g,e,(a,b,c,d,()),f,())=xZ (λh=>Cz (h,a,b,c,d,())) g e f:=rfl
def abM (g:bv c4) (e:aA) (f:cV) (a:bv (bv (bv c4)×bt)) (b c:ah9) (d:bv ga):GW (g,e,(a,b,c,d,()),f,())=xZ (λh=>CA (h,a,b,c,d,())) g e f:=rfl
def qU (b:aie) (a:aie) (c:X->Z):eE:=(a5 (a.map λd=>b.getD d 0),a.map c,())
theorem E3 {e:aie} {lf:aib} (z:e.length<=1000) {v:X->ah9} {c:ah9} (s:cM c) (p:∀b∈m,b<e.length/\cM (v b)/\r (b:Z)=Y (ay (v b),())) (B:m.length<=1000):ae (xZ r (Y (cD e a lf j)) (a5 m) (ay c)) λk=>((∀b∈m,cE (gm (v b) c 0)≠2047)/\k=(qU e m λb=>gm (v b) c 0,m.map (λb=>ay (a6 (gm (v b) c 0))),0,()))\/((∃b∈m,cE (gm (v b) c 0)=2047)/\k.2.2.1=233):=by
 have i:al (a5 m)=(m.length:Z):=(by rw[bf,fH]);unfold xZ;refine bD (P:=λf=>((∀b∈m,cE (gm (v b) c 0)≠2047)/\f=.inl (([],([],())),qU e m λb=>gm (v b) c 0,m.map (λb=>ay (a6 (gm (v b) c 0))),()))\/((∃b∈m,cE (gm (v b) c 0)=2047)/\∃l,f=.inr (l,[],233,()))) ?_ ?_
 ·refine bL m.length (λd f=>(∀b∈m.take d,cE (gm (v b) c 0)≠2047)/\f=((d:Z),([],([],())),qU e (m.take d) λb=>gm (v b) c 0,(m.take d).map (λb=>ay (a6 (gm (v b) c 0))),())) ⟨ac,bn⟩ ?_ ?_
  ·rintro d _ h ⟨g,rfl⟩;dsimp only;rw[i,aY (aL (aa:(d:Z)<(m.length:Z))),bi aa];have q:=b7 h;obtain⟨x,n,o⟩:=p _ q;have C:(m.take d).length<=1000:=(by grind);have t:m.take (d+1)=m.take d++[m[d]]:=(by simp_all);refine bz (mY h) (bz o (bz (VB n s) (bz (Af (AS 0)) ?_)));dsimp only;by_cases w:cE (gm (v m[d]) c 0)=2047
   ·rw[aY (by grind)];grind [bu]
   rw[a1 (by grind)];refine bz (y:=cD e a lf j) rfl (bz (y:=((e.getD m[d] 0:X):Z)) ?_ ?_)
   ·rw[ff];exact EG (by grind)
   have aq:(qU e (m.take d) λb=>gm (v b) c 0).1.length<=1000:=(by show(a5 _).length<=1000;grind [fH,cg]);have u:(qU e (m.take d) λb=>gm (v b) c 0).2.1.length<=1000:=(by show((m.take d).map _).length<=1000;grind);rw[dc (by grind),bM,dc (by grind),bM];refine bz (qb (AS 0)) ?_;dsimp only;rw[dc (by grind),bM];refine bu.2 ⟨λb A=>?_,?_⟩
   ·grind
   unfold qU;rw[t,ji,ji,ji,oq];rfl
  rintro _ ⟨g,rfl⟩;dsimp only;rw[cA] at g;rw[i,a1 (aI (aa:¬(m.length:Z)<(m.length:Z))),cA];grind [bu]
 grind [bu]
section
def vX (c:X) (x:aV):Prop:=∀a:X,a=65536->∀b∈x.rows,∀d∈x.rows,cS a 3222 3072 c (x.s b d)
structure iE (R:aie) (full:X) (lf:aib) (E:X->X->fX) (x:aV) (c:X):Prop where
 r:iY R full lf (eF R.length E) x
 ex:vX c x
section
variable {R:aie} {full:X} {lf lf':aib} {E:X->X->fX} {x:aV} {c:X}
theorem iE.e (d:iE R full lf E x c) (f:a<R.length) (g:b<R.length) (h:lf.getD a bq=bp) (i:lf.getD b bq=bp):E a b=ay (x.s (R.getD a 0) (R.getD b 0)):=by obtain⟨l,j,k⟩:=d.r.ent a b f g h i;grind [ai1,jn,eF]
theorem iY.rest {d:bm (bm fX)} (b:iY R full lf d x) {p:aie} (k:∀a∈p,a<full) (h:∀a,a<R.length->lf'.getD a bq=(lf.getD a bq&&br (a∉p))) {i:X} (m:i<=R.length):fd R lf' i=(fd R lf i).filter λe=>br (e∉p.map λa=>R.getD a 0):=by
 have l:=b.fl;unfold fd;rw[List.filter_map,Bv];congr 1;refine pt λa c=>?_;have c:=iq.1 c;rw[h a aa,Bool.and_comm];congr 1;show _=br (R.getD a 0∉p.map λa=>R.getD a 0);refine cy.2 (not_congr ?_);rw[eZ];constructor
 ·grind
 rintro⟨j,g,f⟩;have n:=k j g;have:=(b.inj (i:=j) (j:=a) aa aa).1 f;grind
theorem iE.next (b:iE R full lf E x c) {p:aie} (B:∀a∈p,a<full/\lf.getD a bq=bp) (A:p.Nodup) (z:lf'.length=lf.length) (o:∀a,a<R.length->lf'.getD a bq=(lf.getD a bq&&br (a∉p))) {E':X->X->fX} {c':X} (D:∀d e,d<R.length->e<R.length->lf'.getD d bq=bp->lf'.getD e bq=bp->E' d e=ay ((x.elim (p.map λa=>R.getD a 0)).s (R.getD d 0) (R.getD e 0))) (C:vX c' (x.elim (p.map λa=>R.getD a 0))):iE R full lf' E' (x.elim (p.map λa=>R.getD a 0)) c':=by
 have m:=b.r.fl;have f:∀a∈p,a<full:=λa y=>(B a y).1;refine⟨⟨z.trans b.r.ll,b.r.nd,b.r.sm,m,?_,?_,λd _ e _=>kQ _ _,λd e w F J K=>?_⟩,C⟩
 ·rw[b.r.rest f o (bc _),<-b.r.rows];rfl
 ·rw[b.r.rest f o m];show x.full-(p.map _).length=_;have u:(p.map λa=>R.getD a 0).Nodup:=by
   rw[ali,py];refine tK ?_ A;intro k l h j i g;have q:=f k h;have t:=f l j;exact i ((b.r.inj aa aa).1 g)
  have v:(fd R lf full).Nodup:=(by unfold fd;rw[ali,py];refine tK ?_ ((yB (n:=full)).sublist tN);intro k l h j i g;have q:=iq.1 (ht.1 h).1;have t:=iq.1 (ht.1 j).1;exact i ((b.r.inj aa aa).1 g));have G:=DU v u (λL H=>by
   grind [Iq])
  have I:=b.r.full;omega
 refine⟨aB R.length (E' d),jn w,?_⟩;grind [jn]
theorem L2 {b:X->Z}:qU R m (λa=>b (R.getD a 0))=hT (m.map (λa=>R.getD a 0),b):=by simp_all [oI,qU,hT]
theorem xA {lf:aib}:a∈eV lf b↔a<b/\lf.getD a bq=bp:=by grind [eV]
def NS (lf:aib) (a:X):(eV lf a).Nodup:=(yB (n:=a)).sublist tN
end
theorem aeX (b:cE n≠2047):a6 n=Y 0↔k1 n=0:=by
 constructor
 ·intro a;rw[xP b] at a;have a:=gC a;have d:(2:Z)^(oZ n+65536).toNat≠0:=anu (m9 ab);have c:nJ n=0:=(Int.mul_eq_zero.1 a).resolve_right d;have g:=xi n;have f:0<=gr n:=aa;unfold k1;rw[az b];have e:cE n=0/\gr n=0:=by
   unfold nJ at c;omega
  omega
 intro a;unfold k1 at a;rw[az b] at a;by_cases h:cE n=0/\gr n=0
 ·simp_all [qx,au,xP,nJ]
 omega
end
section
section
variable {R:aie} {full:X} {lf lf':aib} {E:X->X->fX} {x:aV} {c:X}
theorem Vd (c:aie) (b:X->Z):c.map (λa=>ay (a6 (b a)))=(c.map λa=>a6 (b a)).map ay:=by simp_all
theorem QJ {l:aie} {f:X->Z} {d:ah9} (b:cM d) (g:l.length<=1000):oW (l.map (λa=>ay (a6 (f a))),ay d,())=Y (l.map (λa=>ay (cT (a6 (f a)) d)),()):=by
 rw[Vd,acU (λc e=>by
  grind [gA]) b (by grind),oI]
 rfl
theorem ac7 (i:iE R full lf E x c) (d7:c+4<1048576) {p:X} (fn:p<full) (H:lf.getD p bq=bp) (P:lf'.length=lf.length) (O:∀a,a<R.length->lf'.getD a bq=(lf.getD a bq&&br (a∉[p]))) (an:x.fin (R.getD p 0)):ae (CB (cD R full lf' (eF R.length E),(p:Z),x.bh (R.getD p 0) (R.getD p 0),())) λq=>
  ((x.eM [R.getD p 0]).fin/\∃E',q=(cD R full lf' (eF R.length E'),(x.eM [R.getD p 0]).c0.map hT,0,())/\iE R full lf' E' (x.elim [R.getD p 0]) (c+4))\/(¬(x.eM [R.getD p 0]).fin/\q.2.2.1=233/\q.2.1=[]):=by
 have ek:=i.r.fl;have A:=i.r.sm;have I:p<R.length:=aa;have a0:lf'.length=R.length:=P.trans i.r.ll;generalize C:R.getD p 0=b at*;have G:cE (x.bh b b)≠2047:=(by have:=an (R.getD p 0) (i.r.mem I H);grind);have j:∀a∈eV lf' R.length,a<R.length/\lf.getD a bq=bp/\a≠p:=λa h=>(by obtain⟨L,d5⟩:=xA.1 h;grind);have z:(eV lf' R.length).length<=1000:=ez (In _ _) aa;have a3:=NS lf' R.length;have bl:(eV lf' R.length).map (λa=>R.getD a 0)=x.rows.filter λd=>br (d∉[b]):=(by have:=i.r.rest (lf':=lf') (p:=[p]) (λa h=>by grind) O (bc _);rw[<-i.r.rows] at this;grind [Ep,anv]);have U:∀o,(x.eM [b]).rows=(eV lf' R.length).map (λa=>R.getD a 0)/\(o∈(x.eM [b]).l↔o=λd=>if k1 (x.bh b b)=0 then 0 else gm (x.s d b) (a6 (x.bh b b)) 0):=λo=>⟨bl.symm,by
  show o∈[_]↔_;grind⟩
 generalize D:(λd=>if k1 (x.bh b b)=0 then(0:Z) else gm (x.s d b) (a6 (x.bh b b)) 0)=f at U;have M:∀d,f d=if k1 (x.bh b b)=0 then(0:Z) else gm (x.s d b) (a6 (x.bh b b)) 0:=λd=>by rw[<-D]
 have a4:(x.eM [b]).l=[f]:=(by rw[<-D];rfl);have d9:(x.eM [b]).c0=[((eV lf' R.length).map (λa=>R.getD a 0),f)]:=(by simp_all [b3]);have ap:(x.eM [b]).fin↔∀a∈eV lf' R.length,cE (f (R.getD a 0))≠2047:=by
  unfold a8.fin;rw[a4,<-(U f).1.symm];constructor
  ·exactλav a h=>av f ac _ (eZ.2 ⟨a,h,bn⟩)
  grind
 obtain⟨V,am⟩:=EL G;have F:cM (a6 (x.bh b b)):=gA _;unfold CB;dsimp only;refine bz (P8 a0 A) ?_;dsimp only;refine bz (qb (x.k4 _ _)) ?_;dsimp only;refine bz (oX F) ?_;dsimp only;have bx:(x6 (a6 (x.bh b b))==0)=br (k1 (x.bh b b)=0):=(by rw[gK,cy,<-aeX G,am];show gB V=0↔_;grind [aju,gB]);rw[bx];have fp:(∀a∈eV lf' R.length,cE (f (R.getD a 0))≠2047)->
  ae ((oW ((eV lf' R.length).map (λa=>ay (a6 (f (R.getD a 0)))),ay (a6 (x.bh b b)),())).bind λ(d0,_)=>
   (pW (cD R full lf' (eF R.length E),a5 (eV lf' R.length),d0,(eV lf' R.length).map (λa=>ay (a6 (f (R.getD a 0)))),())).bind λ(ds,_)=>
   Y (ds,[qU R (eV lf' R.length) λa=>f (R.getD a 0)],(0:Z),())) λq=>((x.eM [b]).fin/\∃E',q=(cD R full lf' (eF R.length E'),(x.eM [b]).c0.map hT,0,())/\iE R full lf' E' (x.elim [b]) (c+4))\/(¬(x.eM [b]).fin/\q.2.2.1=233/\q.2.1=[]):=by
  intro t;refine bz (QJ F z) ?_;dsimp only;have ce:=Q3 (R:=R) (full:=full) (lf:=lf') (E:=E) (l:=eV lf' R.length) (s:=λd g=>x.s (R.getD d 0) (R.getD g 0)) (u:=λa=>cT (a6 (f (R.getD a 0))) (a6 (x.bh b b))) (v:=λa=>a6 (f (R.getD a 0))) A (λa h=>(j a h).1) a3 z
   (λd k g m=>i.e (j d k).1 (j g m).1 (j d k).2.1 (j g m).2.1) (λd k g m=>i.r.okd _ (i.r.mem (j d k).1 (j d k).2.1) _ (i.r.mem (j g m).1 (j g m).2.1)) (λd _=>kC _ _) (λd _=>gA _)
  refine bz ce ?_;refine bu.2 (.inl ⟨ap.2 t,(λd g=>if d∈eV lf' R.length/\g∈eV lf' R.length then ay (cK (x.s (R.getD d 0) (R.getD g 0)) (c9 (cT (cT (a6 (f (R.getD d 0))) (a6 (x.bh b b))) (a6 (f (R.getD g 0)))))) else E d g),?_,?_⟩)
  ·grind [L2]
  have N:∀d J,nA (x.gD [b]) (x.lc [b]) d J=h1 (f d) (x.bh b b) (f J):=λd J=>(by rw[<-D];rfl);have eq:=i.next (lf':=lf') (p:=[p]) (λa h=>by grind) ac P O (E':=λd g=>if d∈eV lf' R.length/\g∈eV lf' R.length then ay (cK (x.s (R.getD d 0) (R.getD g 0)) (c9 (cT (cT (a6 (f (R.getD d 0))) (a6 (x.bh b b))) (a6 (f (R.getD g 0)))))) else E d g) (c':=c+4) (λd g k m cv c1=>by
   rw[au ⟨xA.2 ⟨k,cv⟩,xA.2 ⟨m,c1⟩⟩,r3,C];show _=ay (cK _ (c9 (nA (x.gD [b]) (x.lc [b]) _ _)));rw[N];rfl) (by
   rw[r3,C];intro K B d k g m;have el:=k;have em:=m;change d∈x.rows.filter _ at k;change g∈x.rows.filter _ at m;have Q:∀o,o∈x.rows.filter (λd=>br (d∉[b]))->o∈x.rows/\cE (f o)≠2047:=λo d6=>(by grind);obtain⟨i1,ci⟩:=Q d k;obtain⟨co,cs⟩:=Q g m;show cS K 3222 3072 (c+4) (cK _ (c9 (nA (x.gD [b]) (x.lc [b]) _ _)));rw[N];exact(cS.sub B (i.ex K B d i1 g co) (akv B ci G cs) aa).1.mono (bc _) (bc _) aa)
  grind
 by_cases w:k1 (x.bh b b)=0
 ·rw[aY (aL w)];have ad:∀d,f d=0:=λd=>(by rw[M d,cb w]);have L:qY (1,())=Y (ay (jq 1),()):=zU ab ab;refine bz L ?_;dsimp only;rw[abJ];have S:∀a:X,gm (Y 0) (jq 1) 0=0:=λ_=>by
   rw[Nu (n:=1) ab bn];unfold gm;grind
  refine bD (E3 (v:=λ_=>Y 0) A (u3 1) (λa h=>⟨(j a h).1,EW,?_⟩) z) ?_
  ·unfold CD;dsimp only;exact ai (zU ab ab) rfl
  rintro q (⟨t,rfl⟩|⟨⟨a,h,t⟩,_⟩)
  ·dsimp only;rw[a1 (by rfl)];have aq:(λa:X=>gm (Y 0) (jq 1) 0)=λa=>f (R.getD a 0):=(by simp_all);have d4:(eV lf' R.length).map (λa=>ay (a6 (gm (Y 0) (jq 1) 0)))=(eV lf' R.length).map λa=>ay (a6 (f (R.getD a 0))):=aiy λa _=>(by rw[S a,ad]);grind
  rw[S a] at t;exact absurd t ab
 rw[a1 (aI w)];have d8:∀d,f d=gm (x.s d b) (a6 (x.bh b b)) 0:=λd=>(by rw[M d,az w]);rw[abK];refine bD (E3 (v:=λa=>x.s (R.getD a 0) b) A F (λa h=>⟨(j a h).1,?_,?_⟩) z) ?_
 ·have:=i.r.okd _ (i.r.mem (j a h).1 (j a h).2.1) _ (i.r.mem I H);grind
 ·unfold CC;dsimp only;obtain⟨d1,c2,dl⟩:=i.r.ent a p (j a h).1 I (j a h).2.1 H;rw[C] at dl;refine ai (y:=Y (cD R full lf' (eF R.length E))) rfl (ai (y:=cD R full lf' (eF R.length E)) rfl ?_);refine ai (y:=d1) (by rw[ff];exact c2) (ai (y:=(p:Z)) rfl (ai (y:=ay (x.s (R.getD a 0) b)) (by grind [ff]) rfl))
 rintro q (⟨t,rfl⟩|⟨⟨a,h,t⟩,T⟩)
 ·grind
 obtain⟨o,d2,d3,_⟩:=q;dsimp only at T;subst T;dsimp only;rw[aY (by rfl)];grind [bu]
end
end
section
def Hj {a b d:Z}:wU ([ay (a6 a),ay (a6 b),ay (a6 d)],())=Y (ay (kR [a,b,d]),()):=by unfold wU;dsimp only;refine ai (y:=ay (a6 a)) rfl (ai (y:=ay (a6 d)) rfl (ai (p0 (gA _) (gA _)) (ai (y:=ay (a6 b)) rfl (ai (y:=ay (a6 b)) rfl (ai (p0 (gA _) (gA _)) (ai (Hp (kC _ _) (kC _ _)) ?_))))));rfl
section
variable {R:aie} {full:X} {lf lf':aib} {E:X->X->fX} {x:aV} {c:X}
theorem Oa (a:iE R full lf E x c) {lf':aib} {k p q:X} (b:k<R.length) (f:p<R.length) (g:q<R.length) (ar:lf.getD k bq=bp) (h:lf.getD p bq=bp) (i:lf.getD q bq=bp) {d e:ah9} (j:cM d) (l:cM e):zl ((k:Z),(p:Z),(q:Z),ay d,ay e,Y (Y (cD R full lf' (eF R.length E))),())=Y (ay (cK (cT (x.s (R.getD k 0) (R.getD p 0)) d) (c9 (cT (x.s (R.getD k 0) (R.getD q 0)) e))),()):=by obtain⟨u,m,w⟩:=a.r.ent k p b f ar h;obtain⟨v,n,z⟩:=a.r.ent k q b g ar i;have o:=a.r.okd _ (a.r.mem b ar) _ (a.r.mem f h);have t:=a.r.okd _ (a.r.mem b ar) _ (a.r.mem g i);unfold zl;dsimp only;refine ai (y:=Y (cD R full lf' (eF R.length E))) rfl (ai (y:=cD R full lf' (eF R.length E)) rfl (ai (y:=u) (by rw[ff];exact m) (ai (y:=ay _) (by grind [ff]) (ai (p0 o j) ?_))));refine ai (y:=Y (cD R full lf' (eF R.length E))) rfl (ai (y:=cD R full lf' (eF R.length E)) rfl (ai (y:=v) (by rw[ff];exact n) (ai (y:=ay _) (by grind [ff]) (ai (p0 t l) (ai (Hp (kC _ _) (kC _ _)) rfl)))))
theorem Uu (A:iE R full lf E x c) (gl:c+4<1048576) {p:X} (nn:p<full) (a0:lf.getD p bq=bp) (nx:a<full) (a3:lf.getD a bq=bp) (no:p≠a) (d5:lf'.length=lf.length) (d4:∀g,g<R.length->lf'.getD g bq=(lf.getD g bq&&br (g∉[p,a]))) (d2:x.fin (R.getD p 0)) (gs:x.fin (R.getD a 0)):ae (zk (cD R full lf' (eF R.length E),(p:Z),(a:Z),x.gD [R.getD p 0,R.getD a 0],())) λJ=>
  ((x.eM [R.getD p 0,R.getD a 0]).fin/\∃E',J=(cD R full lf' (eF R.length E'),(x.eM [R.getD p 0,R.getD a 0]).c0.map hT,0,())/\iE R full lf' E' (x.elim [R.getD p 0,R.getD a 0]) (c+4))\/(¬(x.eM [R.getD p 0,R.getD a 0]).fin/\J.2.2.1=233/\J.2.1=[]):=by
 have mz:=A.r.fl;have V:=A.r.sm;have bl:p<R.length:=aa;have bx:a<R.length:=aa;have ic:lf'.length=R.length:=d5.trans A.r.ll;have B:∀g∈eV lf' R.length,g<R.length/\lf.getD g bq=bp:=λg n=>(by obtain⟨gc,ge⟩:=xA.1 n;grind);have U:(eV lf' R.length).length<=1000:=ez (In _ _) aa;have io:=NS lf' R.length;have id:=λ(g:X) (n:g∈eV lf' R.length) (L K:ah9) (Q:cM L) (S:cM K)=>Oa A (lf':=lf') (k:=g) (p:=p) (q:=a) (B g n).1 bl bx (B g n).2 a0 a3 Q S;have ii:=λ(g:X) (n:g∈eV lf' R.length) (L K:ah9) (Q:cM L) (S:cM K)=>Oa A (lf':=lf') (k:=g) (p:=a) (q:=p) (B g n).1 bx bl (B g n).2 a3 a0 Q S;have gi:=A.r.mem bl a0;have d0:=A.r.mem bx a3;generalize l2:R.getD p 0=j at*;generalize mc:R.getD a 0=i at*;have a4:[p,a].map (λg=>R.getD g 0)=[j,i]:=(by grind);have f9:cE (x.bh j j)≠2047:=d2 j gi;have dl:cE (x.bh i j)≠2047:=d2 i d0;have f2:cE (x.bh i i)≠2047:=gs i d0;have d8:(eV lf' R.length).map (λg=>R.getD g 0)=x.rows.filter λb=>br (b∉[j,i]):=by
  have:=A.r.rest (lf':=lf') (p:=[p,a]) (λg n=>by
   grind) d4 (bc _)
  rw[<-A.r.rows,a4] at this;grind [Ep]
 generalize ap:(λb=>gm (cK (cT (x.s b j) (a6 (x.bh i i))) (c9 (cT (x.s b i) (a6 (x.bh i j))))) (kR (x.gD [j,i])) 0)=o;generalize av:(λb=>gm (cK (cT (x.s b i) (a6 (x.bh j j))) (c9 (cT (x.s b j) (a6 (x.bh i j))))) (kR (x.gD [j,i])) 0)=t;have d7:(x.eM [j,i]).l=[o,t]:=(by rw[<-ap,<-av];rfl);have ib:x.lc [j,i]=[o,t]:=d7;have is:(x.eM [j,i]).rows=(eV lf' R.length).map (λg=>R.getD g 0):=d8.symm;have mo:(x.eM [j,i]).c0=[((eV lf' R.length).map (λg=>R.getD g 0),o),((eV lf' R.length).map (λg=>R.getD g 0),t)]:=(by grind [b3]);have hr:(x.eM [j,i]).fin↔(∀g∈eV lf' R.length,cE (o (R.getD g 0))≠2047)/\∀g∈eV lf' R.length,cE (t (R.getD g 0))≠2047:=by
  unfold a8.fin;rw[d7,is];constructor
  ·exactλd3=>⟨λg n=>d3 o ac _ (eZ.2 ⟨g,n,bn⟩),λg n=>d3 t ac _ (eZ.2 ⟨g,n,bn⟩)⟩
  rintro⟨gc,ge⟩ H N b C;obtain⟨g,n,rfl⟩:=eZ.1 C;rcases fR.1 N with rfl|N
  ·grind
  grind
 have d1:cM (kR (x.gD [j,i])):=kQ _ _;have go:x.gD [j,i]=[x.bh j j,x.bh i j,x.bh i i]:=rfl;unfold zk;dsimp only;refine bz (P8 ic V) ?_;dsimp only;refine bz (y:=x.bh j j) rfl (bz (qb (x.k4 _ _)) (bz (y:=x.bh i j) rfl (bz (qb (x.k4 _ _)) (bz (y:=x.bh i i) rfl (bz (qb (x.k4 _ _)) ?_)))));dsimp only;refine bz Hj ?_;dsimp only;rw[abL,<-go];refine bD (E3 (v:=λg=>cK (cT (x.s (R.getD g 0) j) (a6 (x.bh i i))) (c9 (cT (x.s (R.getD g 0) i) (a6 (x.bh i j))))) V d1 (λg n=>⟨(B g n).1,kQ _ _,?_⟩) U) ?_
 ·unfold Cz;dsimp only;refine ai (y:=(Y (Y (cD R full lf' (eF R.length E))),())) rfl (ai (y:=(p:Z)) rfl (ai (y:=(a:Z)) rfl (ai (y:=[ay (a6 (x.bh j j)),ay (a6 (x.bh i j)),ay (a6 (x.bh i i))]) rfl (ai (y:=ay (a6 (x.bh i i))) rfl (ai (y:=[ay (a6 (x.bh j j)),ay (a6 (x.bh i j)),ay (a6 (x.bh i i))]) rfl (ai (y:=ay (a6 (x.bh i j))) rfl ?_))))));exact ai (id g n _ _ (gA _) (gA _)) rfl
 rintro J (⟨mp,rfl⟩|⟨⟨g,n,gt⟩,P⟩)
 rotate_left
 ·obtain⟨H,f3,f4,_⟩:=J;dsimp only at P;subst P;dsimp only;rw[aY (by rfl)];grind [bu]
 dsimp only;rw[a1 (by rfl),abM];refine bD (E3 (v:=λg=>cK (cT (x.s (R.getD g 0) i) (a6 (x.bh j j))) (c9 (cT (x.s (R.getD g 0) j) (a6 (x.bh i j))))) V d1 (λg n=>⟨(B g n).1,kQ _ _,?_⟩) U) ?_
 ·unfold CA;dsimp only;refine ai (y:=(Y (Y (cD R full lf' (eF R.length E))),())) rfl (ai (y:=(a:Z)) rfl (ai (y:=(p:Z)) rfl (ai (y:=[ay (a6 (x.bh j j)),ay (a6 (x.bh i j)),ay (a6 (x.bh i i))]) rfl (ai (y:=ay (a6 (x.bh j j))) rfl (ai (y:=[ay (a6 (x.bh j j)),ay (a6 (x.bh i j)),ay (a6 (x.bh i i))]) rfl (ai (y:=ay (a6 (x.bh i j))) rfl ?_))))));exact ai (ii g n _ _ (gA _) (gA _)) rfl
 rintro J (⟨mt,rfl⟩|⟨⟨g,n,gt⟩,P⟩)
 rotate_left
 ·obtain⟨H,f3,f4,_⟩:=J;dsimp only at P;subst P;dsimp only;rw[aY (by rfl)];grind [bu]
 dsimp only;rw[a1 (by rfl)];have f5:(λg=>gm (cK (cT (x.s (R.getD g 0) j) (a6 (x.bh i i))) (c9 (cT (x.s (R.getD g 0) i) (a6 (x.bh i j))))) (kR (x.gD [j,i])) 0)=λg=>o (R.getD g 0):=(by rw[<-ap]);have f7:(λg=>gm (cK (cT (x.s (R.getD g 0) i) (a6 (x.bh j j))) (c9 (cT (x.s (R.getD g 0) j) (a6 (x.bh i j))))) (kR (x.gD [j,i])) 0)=λg=>t (R.getD g 0):=(by rw[<-av]);have f6:(λg=>ay (a6 (gm (cK (cT (x.s (R.getD g 0) j) (a6 (x.bh i i))) (c9 (cT (x.s (R.getD g 0) i) (a6 (x.bh i j))))) (kR (x.gD [j,i])) 0)))=λg=>ay (a6 (o (R.getD g 0))):=(by rw[<-ap]);have f8:(λg=>ay (a6 (gm (cK (cT (x.s (R.getD g 0) i) (a6 (x.bh j j))) (c9 (cT (x.s (R.getD g 0) j) (a6 (x.bh i j))))) (kR (x.gD [j,i])) 0)))=λg=>ay (a6 (t (R.getD g 0))):=(by rw[<-av]);have hc:∀g∈eV lf' R.length,cE (o (R.getD g 0))≠2047:=λg n=>(by grind);have hi:∀g∈eV lf' R.length,cE (t (R.getD g 0))≠2047:=λg n=>(by grind);rw[f5,f7,f6,f8];generalize nd:eV lf' R.length=m at*;have am:=λ(E:X->X->fX) (an:X->X->ah9) (L K:X->ah9) (gf:∀b∈m,∀h∈m,E b h=ay (an b h)) (i0:∀b∈m,∀h∈m,cM (an b h)) (Q:∀b,cM (L b)) (S:∀b,cM (K b))=>
  Q3 (R:=R) (full:=full) (lf:=lf') (E:=E) (l:=m) (s:=an) (u:=L) (v:=K) V (λg n=>(B g n).1) io U gf i0 (λb _=>Q b) (λb _=>S b)
 have ci:∀{E:X->X->fX} {s':X->X->ah9},∀b∈m,∀h∈m,(if b∈m/\h∈m then ay (s' b h) else E b h)=ay (s' b h):=λb C h F=>au ⟨C,F⟩;generalize ce:(λb h=>x.s (R.getD b 0) (R.getD h 0))=z;generalize d9:(λg=>cT (a6 (o (R.getD g 0))) (a6 (x.bh j j)))=w;generalize ek:(λg=>cT (a6 (o (R.getD g 0))) (a6 (x.bh i j)))=D;generalize el:(λg=>cT (a6 (t (R.getD g 0))) (a6 (x.bh i j)))=G;generalize em:(λg=>cT (a6 (t (R.getD g 0))) (a6 (x.bh i i)))=T;generalize eq:(λg=>a6 (o (R.getD g 0)))=v1;generalize fn:(λg=>a6 (t (R.getD g 0)))=fv;have fT:∀b,cM (v1 b):=λb=>(by grind [gA]);have f0:∀b,cM (fv b):=λb=>(by grind [gA]);have i3:∀b,cM (w b):=λb=>(by grind [kC]);have i8:∀b,cM (D b):=λb=>(by grind [kC]);have jp:∀b,cM (G b):=λb=>(by grind [kC]);have kd:∀b,cM (T b):=λb=>(by grind [kC]);have lo:m.map (λg=>ay (a6 (o (R.getD g 0))))=m.map λg=>ay (v1 g):=(by rw[<-eq]);have lt:m.map (λg=>ay (a6 (t (R.getD g 0))))=m.map λg=>ay (fv g):=(by rw[<-fn]);have ad:=λ(f1:X->Z) (c2:Z)=>QJ (l:=m) (f:=f1) (d:=a6 c2) (gA c2) U;have kg:=am E z w v1 (λb C h F=>by rw[<-ce];exact A.e (B b C).1 (B h F).1 (B b C).2 (B h F).2) (λb C h F=>by rw[<-ce];exact A.r.okd _ (A.r.mem (B b C).1 (B b C).2) _ (A.r.mem (B h F).1 (B h F).2)) i3 fT;have lb:=am _ (λb h=>cK (z b h) (c9 (cT (w b) (v1 h)))) D fv (ci (E:=E) (s':=λb h=>cK (z b h) (c9 (cT (w b) (v1 h))))) (λb _ h _=>kQ _ _) i8 f0;have le:=am _ (λb h=>cK (cK (z b h) (c9 (cT (w b) (v1 h)))) (c9 (cT (D b) (fv h)))) G v1 (ci (E:=λb h=>if b∈m/\h∈m then ay (cK (z b h) (c9 (cT (w b) (v1 h)))) else E b h) (s':=λb h=>cK (cK (z b h) (c9 (cT (w b) (v1 h)))) (c9 (cT (D b) (fv h))))) (λb _ h _=>kQ _ _) jp fT;have lk:=am _ (λb h=>cK (cK (cK (z b h) (c9 (cT (w b) (v1 h)))) (c9 (cT (D b) (fv h)))) (c9 (cT (G b) (v1 h)))) T fv (ci (E:=λb h=>if b∈m/\h∈m then ay (cK (cK (z b h) (c9 (cT (w b) (v1 h)))) (c9 (cT (D b) (fv h)))) else if b∈m/\h∈m then ay (cK (z b h) (c9 (cT (w b) (v1 h)))) else E b h) (s':=λb h=>cK (cK (cK (z b h) (c9 (cT (w b) (v1 h)))) (c9 (cT (D b) (fv h)))) (c9 (cT (G b) (v1 h))))) (λb _ h _=>kQ _ _) kd f0;have co:=ad (λg=>o (R.getD g 0)) (x.bh j j);have cs:=ad (λg=>o (R.getD g 0)) (x.bh i j);have cv:=ad (λg=>t (R.getD g 0)) (x.bh i j);have c1:=ad (λg=>t (R.getD g 0)) (x.bh i i);rw[show m.map (λg=>ay (cT (a6 (o (R.getD g 0))) (a6 (x.bh j j))))=m.map λg=>ay (w g) by rw[<-d9]] at co;rw[show m.map (λg=>ay (cT (a6 (o (R.getD g 0))) (a6 (x.bh i j))))=m.map λg=>ay (D g) by rw[<-ek]] at cs;rw[show m.map (λg=>ay (cT (a6 (t (R.getD g 0))) (a6 (x.bh i j))))=m.map λg=>ay (G g) by rw[<-el]] at cv;rw[show m.map (λg=>ay (cT (a6 (t (R.getD g 0))) (a6 (x.bh i i))))=m.map λg=>ay (T g) by rw[<-em]] at c1;rw[lo] at co cs|-;rw[lt] at cv c1|-;refine bz (y:=ay (a6 (x.bh j j))) rfl (bz co (bz kg ?_));refine bz (y:=ay (a6 (x.bh i j))) rfl (bz cs (bz lb ?_));refine bz (y:=ay (a6 (x.bh i j))) rfl (bz cv (bz le ?_));refine bz (y:=ay (a6 (x.bh i i))) rfl (bz c1 (bz lk ?_));refine bu.2 (.inl ⟨hr.2 ⟨hc,hi⟩,(λb h=>if b∈m/\h∈m then ay (cK (cK (cK (cK (z b h) (c9 (cT (w b) (v1 h)))) (c9 (cT (D b) (fv h)))) (c9 (cT (G b) (v1 h)))) (c9 (cT (T b) (fv h)))) else(λb h=>if b∈m/\h∈m then ay (cK (cK (cK (z b h) (c9 (cT (w b) (v1 h)))) (c9 (cT (D b) (fv h)))) (c9 (cT (G b) (v1 h)))) else(λb h=>if b∈m/\h∈m then ay (cK (cK (z b h) (c9 (cT (w b) (v1 h)))) (c9 (cT (D b) (fv h)))) else if b∈m/\h∈m then ay (cK (z b h) (c9 (cT (w b) (v1 h)))) else E b h) b h) b h),?_,?_⟩)
 ·grind [L2]
 have hs:∀b O,nA (x.gD [j,i]) (x.lc [j,i]) b O=cK (cK (cK (h1 (o b) (x.bh j j) (o O)) (h1 (o b) (x.bh i j) (t O))) (h1 (t b) (x.bh i j) (o O))) (h1 (t b) (x.bh i i) (t O)):=λb O=>(by rw[ib];rfl);have ds:∀M:X,M=65536->∀b∈x.rows.filter (λb=>br (b∉[j,i])),∀h∈x.rows.filter (λb=>br (b∉[j,i])),
  cK (cK (cK (cK (x.s b h) (c9 (h1 (o b) (x.bh j j) (o h)))) (c9 (h1 (o b) (x.bh i j) (t h)))) (c9 (h1 (t b) (x.bh i j) (o h)))) (c9 (h1 (t b) (x.bh i i) (t h)))=(x.elim [j,i]).s b h/\cS M 3222 3072 (c+4) ((x.elim [j,i]).s b h):=by
  intro M I b C h F;have d6:∀H,H∈x.rows.filter (λb=>br (b∉[j,i]))->H∈x.rows/\cE (o H)≠2047/\cE (t H)≠2047:=λH N=>(by refine⟨(ht.1 N).1,?_⟩;rw[<-d8] at N;obtain⟨g,n,rfl⟩:=eZ.1 N;grind);obtain⟨i1,fp,fs⟩:=d6 b C;obtain⟨i2,ft,fz⟩:=d6 h F;have:=cS.adw I (A.ex M I b i1 h i2) (akv I fp f9 ft) (akv I fp dl fz) (akv I fs dl ft) (akv I fs f2 fz) gl;rw[<-hs] at this;exact this
 have ne:=A.next (lf':=lf') (p:=[p,a]) (λg n=>by
  rcases fR.1 n with rfl|n
  ·grind
  grind) (by grind) d5 d4 (E':=λb h=>if b∈m/\h∈m then ay (cK (cK (cK (cK (z b h) (c9 (cT (w b) (v1 h)))) (c9 (cT (D b) (fv h)))) (c9 (cT (G b) (v1 h)))) (c9 (cT (T b) (fv h)))) else(λb h=>if b∈m/\h∈m then ay (cK (cK (cK (z b h) (c9 (cT (w b) (v1 h)))) (c9 (cT (D b) (fv h)))) (c9 (cT (G b) (v1 h)))) else(λb h=>if b∈m/\h∈m then ay (cK (cK (z b h) (c9 (cT (w b) (v1 h)))) (c9 (cT (D b) (fv h)))) else if b∈m/\h∈m then ay (cK (z b h) (c9 (cT (w b) (v1 h)))) else E b h) b h) b h) (c':=c+4) (λb h C F n7 of=>by
   have hv:b∈m:=(by grind [xA]);have hw:h∈m:=(by grind [xA]);rw[a4];dsimp only;rw[cb ⟨hv,hw⟩,<-(ds 65536 bn (R.getD b 0) (by grind) (R.getD h 0) (by grind)).1,<-ce,<-d9,<-ek,<-el,<-em,<-eq,<-fn];rfl) (by
   rw[a4];intro M I b C h F;exact(ds M I b C h F).2)
 grind
end
end
section
theorem LR {x:aV}:∀{d b:aie},x.gL d=Y b->∀c∈b,x.fin c
 |[],b,a,c,f=>by grind [aV.gL]
 |q::d,b,a,c,f=>by
  rw[aV.gL] at a;split at a
  ·cases a
  rename_i e;have e:=Classical.not_not.1 e;split at a
  ·grind
  split at a
  ·grind
  rename_i h g;split at a
  ·exact LR a c f
  grind
abbrev wd:=bv (Z×((bm aA×bt)×(bm (bv (bm (Z×cV)×X))×bt)))
abbrev F3:=wd×(aA×(aA×(aA×(bm eE×eX))))
def lx (b:wd) (a:bm a8) (del:X):F3:=(b,(a5 (a.flatMap a8.cF),(a.map (λc=>(c.cF.length:Z)),(a.flatMap a8.d,((a.flatMap b3).map hT,((del:Z),()))))))
def F2 (a:bm a8):Prop:=(a.flatMap a8.cF).length<=1000/\a.length<=1000/\(a.flatMap a8.d).length<=10000/\(a.flatMap b3).length<=10000
def ij (lf:aib) (c:aie):aib:=c.foldl (λb a=>b.set a bq) lf
theorem Yg (lf:aib) (b:aie) (a:X):ij lf (b++[a])=(ij lf b).set a bq:=by grind [ij]
theorem IX (a:aie):∀lf:aib,(ij lf a).length=lf.length:=by
 induction a with
 |nil=>intro lf;rfl
 |cons c a b=>
  grind [akl,ij,lf]
theorem Yf (b:aie):∀(lf:aib) {a:X},a<lf.length->(ij lf b).getD a bq=(lf.getD a bq&&br (a∉b)):=by
 induction b with
 |nil=>grind [ij,lf]
 |cons c b e=>
  intro lf a d;show(ij (lf.set c bq) b).getD a bq=_;grind
section
variable {R:aie} {full:X} {lf:aib} {E:X->X->fX} {x:aV} {c:X}
def lZ (x:aV) (a:aie) (c:X):aif:=(bI c).flatMap λb=>(bI (b+1)).map λd=>x.bh (a.getD b 0) (a.getD d 0)
def iE.value (d:iE R full lf E x c) (e:a<R.length) (f:b<R.length) (h:lf.getD a bq=bp) (i:lf.getD b bq=bp) (g:aib):sw (Y (cD R full g (eF R.length E)),(a:Z),(b:Z),())=Y (x.bh (R.getD a 0) (R.getD b 0),()):=by obtain⟨l,j,k⟩:=d.r.ent a b e f h i;unfold sw;dsimp only;refine ai (y:=cD R full g (eF R.length E)) rfl (ai (y:=l) (by rw[ff];exact j) (ai (y:=ay _) (by rw[ff];exact k) ?_));exact ai (Mm (d.r.okd _ (d.r.mem e h) _ (d.r.mem f i))) rfl
theorem UF (u:iE R full lf E x c) (M:c+4<1048576) (p:∀b∈m,b<full/\lf.getD b bq=bp) (ds:0<m.length) (N:x.choose=Y (m.map λb=>R.getD b 0)) (n:wd) {f:bm a8} (am:F2 f) (del:X):ae (CH (lx n f del,cD R full lf (eF R.length E),a5 m,())) λg=>
  ((x.eM (m.map λb=>R.getD b 0)).fin/\∃B i,g=(lx n (f++[x.eM (m.map λb=>R.getD b 0)]) del,cD R full B (eF R.length i),0,())/\iE R full B i (x.elim (m.map λb=>R.getD b 0)) (c+4))\/(¬(x.eM (m.map λb=>R.getD b 0)).fin/\g.2.2.1=233):=by
 have d3:=u.r.fl;have a0:=u.r.ll;have F:=LR N;have O:=BY N;have S:∀b∈m,b<R.length:=λb o=>(by grind);have d7:m.length<=2:=by rcases O with j|⟨e,j,_⟩|⟨e,s,j,_⟩<;>have:=b4 aiq j<;>simp only[e9,i5,oH] at this<;>omega
 have G:al (a5 m)=(m.length:Z):=(by rw[bf,fH]);have ek:=u.r.sm;obtain⟨cs,cv,c1,c2⟩:=am;have d4:∀e,e<m.length->(m.map λb=>R.getD b 0).getD e 0=R.getD (m.getD e 0) 0:=λe q=>(by grind);have d8:∀e,(q:e<m.length)->m.getD e 0=m[e]:=λe q=>(by grind);generalize v:(m.map λb=>R.getD b 0)=a at*;have w:a.length=m.length:=(by grind);unfold CH lx;dsimp only;refine bD (P:=λh=>h=((n,(a5 (f.flatMap a8.cF++a),(f.map (λh=>(h.cF.length:Z)),(f.flatMap a8.d,((f.flatMap b3).map hT,((del:Z),())))))),cD R full (ij lf m) (eF R.length E),lZ x a m.length,())) ?_ ?_
 ·refine bL m.length (λe h=>h=((e:Z),(n,(a5 (f.flatMap a8.cF++a.take e),(f.map (λh=>(h.cF.length:Z)),(f.flatMap a8.d,((f.flatMap b3).map hT,((del:Z),())))))),cD R full (ij lf (m.take e)) (eF R.length E),lZ x a e,())) ?_ ?_ ?_
  ·rw[List.take_zero,List.take_zero,mK];rfl
  rotate_left
  ·rintro _ rfl;dsimp only;rw[G,a1 (aI (aa:¬(m.length:Z)<(m.length:Z))),cA,<-w,cA];grind [bu]
  rintro e _ q rfl;dsimp only;rw[G,aY (aL (aa:(e:Z)<(m.length:Z))),bi aa];have T:=b7 q;have Q:=S _ T;have av:=(p _ T).2;refine bD (P:=λh=>h=((n,(a5 (f.flatMap a8.cF++a.take e),(f.map (λh=>(h.cF.length:Z)),(f.flatMap a8.d,((f.flatMap b3).map hT,((del:Z),())))))),cD R full (ij lf (m.take e)) (eF R.length E),lZ x a (e+1),())) ?_ ?_
  ·refine bL (e+1) (λs h=>h=((s:Z),(n,(a5 (f.flatMap a8.cF++a.take e),(f.map (λh=>(h.cF.length:Z)),(f.flatMap a8.d,((f.flatMap b3).map hT,((del:Z),())))))),cD R full (ij lf (m.take e)) (eF R.length E),lZ x a e++(bI s).map (λl=>x.bh (a.getD e 0) (a.getD l 0)),())) ?_ ?_ ?_
   ·grind
   ·rintro s _ d2 rfl;dsimp only;rw[aY (aL (aa:(s:Z)<((e+1:X):Z))),bi aa];have L:s<m.length:=aa;have U:=b7 L;refine bz (mY q) (bz (mY L) (bz (u.value Q (S _ U) av (p _ U).2 _) ?_));dsimp only;have an:(lZ x a e).length<=100:=by
     have:e=0\/e=1:=aa;rcases this with rfl|rfl
     ·exact(by decide:(0:X)<=100)
     exact(by decide:(1:X)<=100)
    rw[dc (by grind),aD];grind [aiI,aiQ,anv,bu]
   rintro _ rfl;dsimp only;rw[a1 (aI (aa:¬((e+1:X):Z)<((e+1:X):Z)))];grind [aiI,bu,lZ,bI]
  rintro _ rfl;dsimp only;refine bz (mY q) ?_;have a4:(cD R full (ij lf (m.take e)) (eF R.length E)).2.2.1=ij lf (m.take e):=rfl;have d6:(ij lf (m.take e)).length=R.length:=(IX _ _).trans a0;rw[a4];refine bz (eU aa) ?_;rw[gj (bS (aa:m[e]<(ij lf (m.take e)).length))];refine bz bn (bz (mY q) ?_);dsimp only;have bl:(cD R full (ij lf (m.take e)) (eF R.length E)).1=a5 R:=rfl;rw[bl,qf Q,dc (by grind [akt,fH,aiP,air]),bM];refine bu.2 ?_;have aq:m.take (e+1)=m.take e++[m[e]]:=(by simp_all);have ad:a.take (e+1)=a.take e++[R[m[e]]]:=(by grind [cr,bS]);rw[aq,ad,Yg,<-aiQ,oq (f.flatMap a8.cF++a.take e)];rfl
 rintro _ rfl;dsimp only;have an:(lZ x a m.length).length<=100:=by
  have:m.length=1\/m.length=2:=aa;rcases this with j|j<;>rw[j]
  ·exact(by decide:(1:X)<=100)
  exact(by decide:(3:X)<=100)
 rw[G,dc (by grind),aD,dc aa,aD];have A:∀b,b<R.length->(ij lf m).getD b bq=(lf.getD b bq&&br (b∉m)):=λb o=>Yf m lf aa;have t:∀(g:c4×bm eE×Z×bt),((x.eM a).fin/\∃i,g=(cD R full (ij lf m) (eF R.length i),(x.eM a).c0.map hT,0,())/\iE R full (ij lf m) i (x.elim a) (c+4))\/(¬(x.eM a).fin/\g.2.2.1=233/\g.2.1=[])->lZ x a m.length=x.gD a->
  (g.2.1.length<=1000)->
  ae ((cC (((f.flatMap b3).map hT).length+g.2.1.length)).bind λ_=>Y (((n,(a5 (f.flatMap a8.cF++a),((f.map (λh=>(h.cF.length:Z))++[(m.length:Z)]),(f.flatMap a8.d++lZ x a m.length,((f.flatMap b3).map hT++g.2.1,((del:Z),())))))):F3),g.1,g.2.2.1,())) λg=>
  ((x.eM a).fin/\∃B i,g=(lx n (f++[x.eM a]) del,cD R full B (eF R.length i),0,())/\iE R full B i (x.elim a) (c+4))\/(¬(x.eM a).fin/\g.2.2.1=233):=by
  rintro g k z d9;rw[dc (by grind),aD];refine bu.2 ?_;rcases k with⟨J,i,rfl,K⟩|⟨J,K⟩
  ·refine .inl ⟨J,ij lf m,i,?_,K⟩;unfold lx;rw[z,qB,qB,qB,ji,ji];simp only[akw,akx,mK,h8,ajs];show _=((n,(a5 (f.flatMap a8.cF++a),((f.map (λh=>(h.cF.length:Z))++[(a.length:Z)]),(f.flatMap a8.d++x.gD a,((f.flatMap b3).map hT++(x.eM a).c0.map hT,((del:Z),())))))),_,_,());rw[w]
  grind
 rcases O with j|⟨V,j,_⟩|⟨V,co,j,d0,d1,d5⟩
 ·grind
 ·rw[j] at w
  match m,w,p,v,A,t with
  |[b],_,p,v,A,t=>
   obtain⟨H,I⟩:=p b ac;have o:a=[R.getD b 0]:=v.symm;rw[aY (by rfl)];have C:=ac7 u M H I (lf':=ij lf [b]) (IX _ _) A (F _ (by grind));rw[<-o] at C;have z:lZ x a 1=[x.bh (R.getD b 0) (R.getD b 0)]:=(by rw[o];rfl);refine bD (P:=λh=>∃g:c4×bm eE×Z×bt,(((x.eM a).fin/\∃i,g=(cD R full (ij lf [b]) (eF R.length i),(x.eM a).c0.map hT,0,())/\iE R full (ij lf [b]) i (x.elim a) (c+4))\/(¬(x.eM a).fin/\g.2.2.1=233/\g.2.1=[]))/\h=(g.2.2.1,g.2.1,(n,(a5 (f.flatMap a8.cF++a),((f.map (λh=>(h.cF.length:Z))++[((1:X):Z)]),(f.flatMap a8.d++lZ x a 1,((f.flatMap b3).map hT,((del:Z),())))))),g.1,())) ?_ ?_
   ·refine bz (y:=(b:Z)) rfl ?_;have a3:∀{ci:Type} (D:Z->bv ci),rd (lZ x a 1) 0 D=D (x.bh (R.getD b 0) (R.getD b 0)):=λD=>(by rw[z];rfl);show ae (rd (lZ x a 1) 0 _) _;rw[a3];refine bD C ?_;rintro g k;exact bu.2 ⟨g,k,bn⟩
   rintro _ ⟨g,k,rfl⟩;dsimp only;refine t g k (by rw[o];rfl) ?_;rcases k with⟨_,i,rfl,_⟩|⟨_,_,j⟩
   ·show((x.eM a).c0.map hT).length<=1000;rw[o,e9];show 1<=1000;decide
   grind
 rw[j] at w
 match m,w,p,v,A,t with
 |[b,l],_,p,v,A,t=>
  obtain⟨H,I⟩:=p b ac;obtain⟨bx,ce⟩:=p l ac;have o:a=[R.getD b 0,R.getD l 0]:=v.symm;have ap:b≠l:=λdl=>(by grind);rw[a1 (by rfl)];have C:=Uu u M H I bx ce ap (lf':=ij lf [b,l]) (IX _ _) A (F _ (by grind)) (F _ (by grind));rw[<-o] at C;have z:lZ x a 2=x.gD a:=(by rw[o];rfl);refine bD (P:=λh=>∃g:c4×bm eE×Z×bt,(((x.eM a).fin/\∃i,g=(cD R full (ij lf [b,l]) (eF R.length i),(x.eM a).c0.map hT,0,())/\iE R full (ij lf [b,l]) i (x.elim a) (c+4))\/(¬(x.eM a).fin/\g.2.2.1=233/\g.2.1=[]))/\h=(g.2.2.1,g.2.1,(n,(a5 (f.flatMap a8.cF++a),((f.map (λh=>(h.cF.length:Z))++[((2:X):Z)]),(f.flatMap a8.d++lZ x a 2,((f.flatMap b3).map hT,((del:Z),())))))),g.1,())) ?_ ?_
  ·refine bz (y:=(b:Z)) rfl (bz (y:=(l:Z)) rfl ?_);show ae ((zk (cD R full (ij lf [b,l]) (eF R.length E),(b:Z),(l:Z),lZ x a 2,())).bind _) _;rw[z];refine bD C ?_;rintro g k;exact bu.2 ⟨g,k,by grind⟩
  rintro _ ⟨g,k,rfl⟩;dsimp only;refine t g k z ?_;rcases k with⟨_,i,rfl,_⟩|⟨_,_,j⟩
  ·show((x.eM a).c0.map hT).length<=1000;rw[o,e9];show 2<=1000;decide
  grind
end
end
section
section
variable {R:aie} {full:X}
structure Sl (R:aie) (full:X) (tB:aV) (n ug:X) (m:wd) (ps0:bm a8) (del:X) (lf:aib) (E:X->X->fX) (y:aV) (ps:bm a8) (k:X):Prop where
 x:iE R full lf E y (ug+4*ps.length)
 w:kM y
 lt:y.full<k
 pl:ps.length+y.full<=tB.full
 run:aiR n tB=(aiR k y).map λq=>(q.1,ps++q.2)
 b:(ps.flatMap a8.cF).length+y.full=tB.full/\(ps.flatMap a8.d).length<=3*ps.length/\(ps.flatMap b3).length=(ps.flatMap a8.cF).length
theorem abE {l:aV} {lf:aib} {E:X->X->fX} {s:X} (D:iE R full lf E l s) (bx:kM l) (d0:s+4*l.full+4<1048576) (a4:l.full<a) (p:wd) {ps0:bm a8} (d3:l.full<=100) (ds:(ps0.flatMap a8.cF).length<=500/\ps0.length<=500/\(ps0.flatMap a8.d).length<=5000/\(ps0.flatMap b3).length<=5000) {del:X} (d2:del<=1000000):ae (CJ (lx p ps0 del,cD R full lf (eF R.length E),())) λn=>
  (∃c h e f q,aiR a l=Y (c,h)/\n=(lx p (ps0++h) (del+c.full),cD R full e (eF R.length f),0,())/\iE R full e f c q/\q<=s+4*l.full)\/(aiR a l=bo/\n.2.2.1=233):=by
 have d4:=D.r.fl;have el:=D.r.sm;unfold CJ;dsimp only;refine bD (P:=λi=>(∃c h e f q,aiR a l=Y (c,h)/\i=.inl (lx p (ps0++h) del,cD R full e (eF R.length f),())/\iE R full e f c q/\q<=s+4*l.full/\c.full<=l.full)\/(aiR a l=bo/\∃n:F3×c4×Z×bt,i=.inr n/\n.2.2.1=233)) ?_ ?_
 ·refine aiA (λi=>∃e f c h k,i=(lx p (ps0++h) del,cD R full e (eF R.length f),())/\Sl R full l a s p ps0 del e f c h k) (λi=>(i.2.1.2.2.1.filter λo=>o).length) ⟨lf,E,l,[],a,by rw[List.append_nil],D,bx,a4,ac,ac,ac⟩ ?_;rintro _ ⟨e,f,c,h,k,rfl,j⟩;dsimp only;have d8:=j.lt;have d9:=j.pl;obtain⟨k,rfl⟩:∃cs,k=cs+1:=⟨k-1,aa⟩;refine bD j.x.r.choose ?_;rintro n (⟨L,M⟩|⟨g,rfl,Q,t⟩)
  ·obtain⟨ad,o,_⟩:=n;dsimp only at L;subst L;dsimp only;rw[aY (by rfl)];refine bu.2 (.inr ⟨?_,_,bn,bn⟩);rw[j.run,JQ M];rfl
  dsimp only;rw[a1 (by rfl),bf,fH];by_cases C:g=[]
  ·subst C;rw[aY (by rfl)];refine bu.2 (.inl ⟨c,h,e,f,_,?_,bn,j.x,aa,aa⟩);rw[j.run,Fm t];simp
  have T:0<g.length:=yy.2 C;rw[a1 (by rw[gK,aI aa])];obtain⟨i1,em,eq⟩:=j.b;have ap:F2 (ps0++h):=(by grind [aiP,F2]);have u:=BY t;have co:0<c.full:=(by have a3:=Q _ (cR T);have:=j.x.r.N8 (k:=g[0]) aa a3.2;grind);refine bD (UF j.x aa Q T t p ap del) ?_;rintro n (⟨y,A,V,rfl,v⟩|⟨y,z⟩)
  ·dsimp only;rw[a1 (by rfl)];have N:∀(lf:aib) (c:aV) (K:X) (E:X->X->fX),iE R full lf E c K->(lf.filter λo=>o).length=c.rows.length:=λlf c K E U=>by
    rw[U.r.rows,Ep,e9];unfold eV;rw[<-U.r.ll];have:lf=(bI lf.length).map λk=>lf.getD k bq:=by refine hO λk=>?_;grind
    conv=>lhs;rw[this]
    rw[List.filter_map,e9];rfl
   have am:(g.map λk=>R.getD k 0).length=g.length:=e9 _;have d7:g.length<=c.full:=(by obtain⟨G,I⟩:=u.props;have:=G.length_le_of_subset I;grind);have ek:(c.elim (g.map λk=>R.getD k 0)).rows.length<c.rows.length:=(by obtain⟨G,I⟩:=u.props;have:=DU j.w.nd G λi bl=>wb (I i bl);show(c.rows.filter _).length<_;omega);refine bu.2 ⟨⟨A,V,c.elim (g.map λk=>R.getD k 0),h++[c.eM (g.map λk=>R.getD k 0)],k,by rw[i4],?_,j.w.elim u,?_,?_,?_,?_⟩,?_⟩
   ·grind
   ·show c.full-(g.map λk=>R.getD k 0).length<k;omega
   ·show(h++[_]).length+(c.full-(g.map λk=>R.getD k 0).length)<=_;grind
   ·rw[j.run,x3 t aa,au y];cases aiR k (c.elim (g.map λk=>R.getD k 0)) with
    |none=>rfl
    |some i=>simp
   ·have H:=j.w.PY u aa y (S:=c.rows) λm O=>O;have F:(c.eM (g.map λk=>R.getD k 0)).cF.length=g.length:=am;have av:(c.eM (g.map λk=>R.getD k 0)).c0.length=g.length:=by
     unfold b3;rw[e9,H.len,F]
    have a0:=H.dl;have an:=H.at1;simp only[qB,akw,akx,mK,jN,px];rw[F,av];rw[F] at a0 an;refine⟨?_,?_,aa⟩
    ·show _+(c.full-(g.map λk=>R.getD k 0).length)=_;omega
    omega
   show(akh _ (cD R full A _).2.2.1).length<(akh _ (cD R full e _).2.2.1).length;have aq:=N A _ _ _ v;have c2:=N e _ _ _ j.x;show(A.filter λo=>o).length<(e.filter λo=>o).length;omega
  obtain⟨ad,o,c1,_⟩:=n;dsimp only at z;subst z;dsimp only;rw[aY (by rfl)];refine bu.2 (.inr ⟨?_,_,bn,bn⟩);rw[j.run,x3 t (by grind),cn y];rfl
 rintro i (⟨c,h,e,f,q,z,rfl,v,d1,co⟩|⟨z,n,rfl,M⟩)
 rotate_left
 ·grind [bu]
 dsimp only;have ce:=v.r.full;refine bD (P:=λi=>i=(lx p (ps0++h) (del+c.full),cD R full e (eF R.length f),())) ?_ (by grind [bu]);rw[ce];refine bL full (λm i=>i=((m:Z),lx p (ps0++h) (del+(fd R e m).length),cD R full e (eF R.length f),())) rfl ?_ ?_
 ·rintro m _ O rfl;dsimp only;have J:(cD R full e (eF R.length f)).2.1=(full:Z):=rfl;have ci:(cD R full e (eF R.length f)).2.2.1=e:=rfl;have d6:=v.r.ll;rw[J,aY (aL (aa:(m:Z)<(full:Z))),bi aa,ci];have bs:∀{cv:Type} (B:bA->bv cv),rd e (m:Z) B=B (e.getD m bq):=λB=>by
   grind [eU,gj,bS,rd]
  rw[bs];have d5:=Ip R e m;refine bD (P:=λi=>i=(lx p (ps0++h) (del+(fd R e (m+1)).length),cD R full e (eF R.length f),())) ?_ (by grind [bu]);rw[xB];cases C:e.getD m bq with
  |true=>
   rw[bG,cb bn,aiP,akt];refine bu.2 ?_;unfold lx;dsimp only;rw[bi aa];rfl
  |false=>
   rw[bP,az ab];grind [bu]
 rintro _ rfl;dsimp only;have J:(cD R full e (eF R.length f)).2.1=(full:Z):=rfl;rw[J,a1 (aI (aa:¬(full:Z)<(full:Z)))];grind [bu]
end
end
def mw:eH:=([],([],([],([],([],([],(0,())))))))
def kv (a:bm aV):X:=(a.map aV.full).sum
def kV (c:X->X->ah9) (d:aif) (a:bm df):eH×Z×bt:=match h4 c a a.length with
 |none=>(mw,233,())
 |some b=>(ri d b.2 (kv b.1:Z),0,())
def HF {a:X->X->ah9} {b:bm df} {c:X} (e:h4 a b c=bo):∀d,h4 a b (c+d)=bo
 |0=>e
 |d+1=>by show(h4 a b (c+d)).bind _=bo;rw[HF e d];rfl
theorem Hh (a:bm aV) (b:aV):kv (a++[b])=kv a+b.full:=by grind [kv]
theorem Mg {n:X} {L:bm aV} (c:∀b,b<L.length->(L.getD b ho).full<=n):kv L<=n*L.length:=by
 unfold kv;have:∀a∈L,a.full<=n:=λa d=>(by grind [bS,ai8]);clear c
 induction L with
 |nil=>grind
 |cons a L e=>
  grind [List.length_cons,Nat.mul_succ]
theorem Xm (c:aV->i) {b:bm aV} (e:b.length=a):(bI a).map (λd=>c (b.getD d ho))=b.map c:=by refine hO λf=>?_;grind
theorem abS {d:bm df} (j:hq q d) (m:q.length=a) (k:∀p r,cM (l p r)) (K:a<=64) {u:pI} (M:h.length=a) (F:∀p r:X,p<a->r<a->w8 (u,h,(p:Z),(r:Z),())=Y (ay (l p r),())) (G:w9 (u,h,d,())=Y (0,())):pZ (u,h,d,())=Y (kV l h d):=by
 have V:=D1 j;unfold pZ;refine ai G ?_;dsimp only;rw[a1 (by rfl)];refine bQ.1 ?_;refine bD (P:=λg=>(h4 l d d.length=bo/\g=.inr (mw,233,()))\/∃b e,h4 l d d.length=Y (b,e)/\g=.inl ((kv b:Z),mw,e.map jb,())) ?_ ?_
 ·refine bL d.length (λf g=>∃b e,h4 l d f=Y (b,e)/\g=((kv b:Z),bq,(f:Z),mw,b.map fP,e.map jb,())) ⟨[],[],bn,bn⟩ ?_ ?_
  rotate_left
  ·rintro _ ⟨b,e,s,rfl⟩;dsimp only;rw[bf,a1 (aI (aa:¬(d.length:Z)<(d.length:Z)))];grind [bu]
  rintro f _ C ⟨b,e,I,rfl⟩;dsimp only;rw[bf,aY (aL (aa:(f:Z)<(d.length:Z))),bi aa];obtain⟨y,i⟩:=uV k j m aa I;have t:=aj2 j m C;have z:=ab3 j m C i k aa aa F;rw[Xm fP y] at z;refine bz z ?_;dsimp only;have ap:=i.BT l k t;have D:=i.ww k t;have an:h4 l d (f+1)=(aiR ((hR l d (λc=>b.getD c ho) f).full+1) (hR l d (λc=>b.getD c ho) f)).map λg=>(b++[g.1],e++g.2):=(by grind [h4]);have av:=D.full;generalize hR l d (λc=>b.getD c ho) f=v at*;have J:al (fP v).1=(v.rows.length:Z):=(by rw[bf];exact b4 _ (fH _));rw[J,a1 (aI (aa:¬(v.rows.length:Z)>64))];have am:e.length<=a:=(by have w:=(AQ i.eM).1;have x:=i.perm.length_eq;rw[aiP,ajj] at x;have Q:=t.wF;have R:=t.BW;omega);refine bD (acK D aa (ajD _) mw (b.map fP) (pv0:=e.map jb) (by grind)) ?_;rintro g (⟨o,E,N,rfl,a3⟩|⟨N,B⟩)
  ·dsimp only;rw[a1 (by rfl),dc (by grind),bM];have A:h4 l d (f+1)=Y (b++[o],e++E):=(by grind);obtain⟨S,H⟩:=uV k j m aa A;have U:=Mg (n:=a) (L:=b) λc T=>(i.fl aa).1;have a0:o.full<=a:=by
    have:=(H.fl (c:=f) aa).1;grind
   have ad:a*b.length<=64*64:=mO K aa;refine bu.2 ⟨b++[o],e++E,A,?_⟩;rw[Hh];have O:ax ((kv b:Z)+(fP o).2.1)=((kv b+o.full:X):Z):=(by show ax ((kv b:Z)+(o.full:Z))=_;grind [cL]);grind
  obtain⟨a4,_⟩:=g;dsimp only at B;subst B;dsimp only;rw[aY (by rfl)];refine bu.2 (.inl ⟨?_,bn⟩);have w:h4 l d (f+1)=bo:=(by grind);have x:=HF w (d.length-(f+1));grind
 rintro g (⟨s,rfl⟩|⟨b,e,s,rfl⟩)
 ·unfold kV;grind [bu]
 dsimp only;unfold kV;rw[s];obtain⟨y,i⟩:=uV k j m (cd _) s;refine bz (ab7 M aa (i.all j m) i.eM _) ?_;grind [bu]
section
def kT (n:X):X->X
 |0=>0
 |t+1=>kT n t+(1+kT n t+4*n)
theorem Mn (n:X):∀t,kT n t+(4*n+1)=(4*n+1)*2^t
 |0=>by simp[kT]
 |t+1=>by have:=Mn n t;grind [Nat.pow_succ,Nat.mul_assoc,kT]
def Mo {n t:X} (e:n<=12) (b:t<=12):kT n t<=200704:=by have c:=Mn n t;have a:2^t<=2^12:=tU ab b;have d:=mO (aa:4*n+1<=49) a;omega
section
variable {l:bm df} {n t:X} {L:X->aV} {A:X->X->ah9}
theorem MI {L:X->aV} {D:X->X}:∀{cs:aie} {x:aV} {k:X},(∀c∈cs,vX (D c) (L c))->k+(cs.map D).sum<1048576->(∀a:X,a=65536->∀b d,cS a 3222 3072 k (x.s b d))->∀a:X,a=65536->∀b d,cS a 3222 3072 (k+(cs.map D).sum) ((cs.foldl (λx c=>x.plus (L c)) x).s b d)
 |[],x,k,_,_,f=>by grind
 |c::cs,x,k,g,j,f=>by
  rw[h8,List.sum_cons] at j|-;rw[aku,<-ajL];refine MI (k:=k+D c) (λi l=>g i (by grind)) aa λa e b d=>?_;show cS a 3222 3072 _ (if _ then _ else _);split
  ·rename_i h;exact(cS.add e ab (f a e b d) (g c ac a e b h.1 d h.2) aa).1
  exact(f a e b d).mono (bc _) (bc _) aa
theorem Q5 (b:X->X) (c:X->bA):∀l:aie,((l.filter c).map b).sum<=(l.map b).sum
 |[]=>bc _
 |a::l=>by have:=Q5 b c l;grind
def Q4 (n:X):∀t,((bI t).map λa=>1+kT n a+4*n).sum=kT n t
 |0=>rfl
 |t+1=>by rw[i7,ji,List.sum_append,Q4 n t,kT];simp
theorem U5 (j:∀b:X,b=65536->∀c d,cS b 3222 3072 1 (A c d)) (h:n<=12) (i:t<=12) (f:∀a,a<t->vX (1+kT n a+4*n) (L a)):vX (1+kT n t) (hR A l L t):=by
 intro b e c _ d _;have o:((eA l t t).map λa=>1+kT n a+4*n).sum<=kT n t:=(by have:=Q5 (λa=>1+kT n a+4*n) (λa=>br (gg l a=(t:Z))) (bI t);rwa[Q4] at this);have m:=Mo h i;have:=MI (L:=L) (D:=λa=>1+kT n a+4*n) (cs:=eA l t t) (x:=jS A l L t) (k:=1) (λa g=>f a (Ap.1 g).1) aa (λb e c d=>by
  show cS b 3222 3072 1 (if _ then _ else _);split
  ·grind
  exact cS.zero) b e c d
 exact this.mono (bc _) (bc _) aa
theorem VC (g:l.length<=1000) (f:∀d∈l,d.2.2.1.length<=64):CV (l,(),())=Y (bq,()):=by
 have c:CX (l,(),())=Y (-1,()):=by
  unfold CX;refine bQ.1 ?_;dsimp only;refine bD (P:=λb=>b=.inl ()) ?_ (by grind [bu]);refine bL l.length (λa b=>b=((a:Z),())) rfl ?_ ?_
  ·rintro a _ c rfl;dsimp only;rw[bf,aY (aL (aa:(a:Z)<(l.length:Z))),bi aa];refine bz (y:=l[a]) (by rw[ff,bS c]) ?_;have e:Ct (l[a],())=Y (bq,()):=by
    grind [bf,aI,b7,Ct]
   refine bz e ?_;dsimp only;rw[bP];grind [bu]
  rintro _ rfl;dsimp only;rw[bf,a1 (aI (aa:¬(l.length:Z)<(l.length:Z)))];grind [bu]
 unfold CV;grind
end
structure FZ (n t:X) (RQ:X->lj) (L:X->aV):Prop where
 p:∀c,c<t->KW n (RQ c) (L c)
 ex:∀c,c<t->vX (1+kT n c+4*n) (L c)
theorem abc {l:bm df} {n:X} {A:X->X->ah9} (m:hq q l) (x:q.length=n) (I:∀v w,cM (A v w)) (ds:∀K:X,K=65536->∀v w,cS K 3222 3072 1 (A v w)) (R:n<=12) {N:pI} (d9:h.length=n) {ad:Z} (d3:sI (N,h,())=Y (Y (ad,(q,()),o,()),0,())) (c2:∀v w:X,v<n->w<n->xd (Y (ad,(q,()),o,()),(v:Z),(w:Z),())=Y (ay (A v w),())) (dl:uN ((q,()),l,())=Y (0,())):oV (N,h,l,())=Y (kV A h l):=by
 have f5:=D1 m;have d0:∀t,(z:t<l.length)->ao l (t:Z)=Y ((bd l t:Z),(bd l (t+1):Z),gO l (t:Z),gg l t,()):=λt z=>(by rw[ff];exact(aj2 m x z).g);have em:∀f∈l,f.2.2.1.length<=64:=λf ft=>(by obtain⟨t,u,rfl⟩:=ai8.1 ft;have B:=aj2 m x u;have F:=B.g;rw[bS u] at F;have G:=B.Bz;grind [ai1,gO,hE]);unfold oV;refine ai d3 ?_;dsimp only;rw[a1 (by rfl)];refine ai bn (ai dl ?_);dsimp only;rw[a1 (by rfl)];refine ai (VC aa em) ?_;dsimp only;rw[bP,bf,h6 aa,bM];refine bQ.1 ?_;generalize f6:(Y (ad,(q,()),o,()):wd)=H at*;refine bD (P:=λd=>(h4 A l l.length=bo/\d=.inr (mw,233,()))\/∃L e,h4 A l l.length=Y (L,e)/\d=.inl (mw,lx H e (kv L),())) ?_ ?_
 ·refine bL l.length (λt d=>∃L e i,h4 A l t=Y (L,e)/\FZ n t i (λa=>L.getD a ho)/\d=((t:Z),mw,lx H e (kv L),aB l.length (λc=>(eA l t c).map λa=>(i a).enc),())) ?_ ?_ ?_
  ·refine⟨[],[],λ_=>⟨[],0,[],[]⟩,bn,⟨λa C=>by omega,λa C=>by omega⟩,?_⟩;rw[jc];rfl
  rotate_left
  ·rintro _ ⟨L,e,i,z,_,rfl⟩;dsimp only;rw[a1 (aI (aa:¬(l.length:Z)<(l.length:Z)))];grind [bu]
  rintro t _ u ⟨L,e,i,d5,Q,rfl⟩;dsimp only;rw[aY (aL (aa:(t:Z)<(l.length:Z))),bi aa];obtain⟨d2,k⟩:=uV I m x aa d5;have B:=aj2 m x u;have V:=k.ww I B;have fp:=k.BT A I B;have fn:=U5 (l:=l) ds R (aa:t<=12) Q.ex;have a3:=Tm m x u k I (aa:n<=64) Q.p c2;have co:=iY.start V aa;have gc:h4 A l (t+1)=(aiR ((hR A l (λa=>L.getD a ho) t).full+1) (hR A l (λa=>L.getD a ho) t)).map λd=>(L++[d.1],e++d.2):=(by grind [h4]);have fs:=V.full;generalize f9:hR A l (λa=>L.getD a ho) t=b at*;rw[<-XH] at a3 co;have d4:iE b.rows b.full (bJ b.rows.length bp) (λN cs=>ay (b.s (b.rows.getD N 0) (b.rows.getD cs 0))) b (1+kT n t):=⟨co,fn⟩;have f4:=Mo R (aa:t<=12);obtain⟨aw,ge,gf⟩:=AQ k.eM;have f8:(e.flatMap a8.cF).length<=n:=(by have G:=k.perm.length_eq;rw[aiP,ajj] at G;have cv:=B.wF;have c1:=B.BW;omega);have f3:=Mg (n:=n) (L:=L) λa C=>(k.fl aa).1;have f7:n*L.length<=12*12:=alc R aa;have ek:=abE d4 V aa (ajD _) H (ps0:=e) aa aa (del:=kv L) aa;refine bD (P:=λd=>(h4 A l (t+1)=bo/\d=.inr (.inr (.inr (mw,233,()))))\/∃M am S,h4 A l (t+1)=Y (M,am)/\FZ n (t+1) S (λa=>M.getD a ho)/\d=.inl (mw,lx H am (kv M),aB l.length (λc=>(eA l (t+1) c).map λa=>(S a).enc),())) ?_ ?_
  rotate_left
  ·rintro _ (⟨F,rfl⟩|⟨M,am,S,F,G,rfl⟩)
   ·dsimp only;refine bu.2 (.inl ⟨?_,bn⟩);have G:=HF F (l.length-(t+1));rwa[(aa:t+1+(l.length-(t+1))=l.length)] at G
   grind [bu]
  refine bz (d0 t u) ?_;have el:∀{fT:Type} (j:X->bm (bv c4)) (T:bm (bv c4)->bv fT),rd (aB l.length j) (t:Z) T=T (j t):=λj T=>(by unfold rd;rw[cX,eU u,bM,gj (jn u),bM]);rw[el];refine bz a3 ?_;dsimp only;refine bD (P:=λd=>(∃f E D y O,aiR (b.full+1) b=Y (f,E)/\d=(0,mw,lx H (e++E) (kv L+f.full),aB l.length (λc=>(eA l t c).map λa=>(i a).enc),((bd l t:Z),(bd l (t+1):Z),gO l (t:Z),gg l t,()),cD b.rows b.full D (eF b.rows.length y),())/\iE b.rows b.full D y f O/\O<=1+kT n t+4*b.full)\/(aiR (b.full+1) b=bo/\d.1=233)) ?_ ?_
  ·rw[aY (by rfl)];refine bD ek ?_;rintro gi (⟨f,E,D,y,O,F,rfl,cv,c1⟩|⟨F,G⟩)
   ·grind [bu]
   grind [bu]
  rintro d (⟨f,E,D,y,O,eq,rfl,a0,f1⟩|⟨eq,ci⟩)
  rotate_left
  ·obtain⟨f0,_⟩:=d;dsimp only at ci;subst ci;dsimp only;rw[aY (by rfl)];refine bu.2 (.inl ⟨by grind,bn⟩)
  dsimp only;rw[a1 (by rfl)];have a4:h4 A l (t+1)=Y (L++[f],e++E):=(by grind);have bl:∀a,a<t->(L++[f]).getD a ho=L.getD a ho:=λa C=>(by rw[anw,anw,List.getElem?_append_left aa]);have bx:(L++[f]).getD t ho=f:=(by simp_all);generalize ce:(⟨b.rows,b.full,D,eF b.rows.length y⟩:lj)=J;have d8:J.enc=Y (cD b.rows b.full D (eF b.rows.length y)):=(by rw[<-ce];rfl);have av:FZ n (t+1) (λa=>if a=t then J else i a) (λa=>(L++[f]).getD a ho):=by
   refine⟨λa C=>?_,λa C=>?_⟩
   ·by_cases j:a=t
    ·subst j;rw[au bn,bx,<-ce];exact⟨a0.r,fp⟩
    rw[az j,bl a aa];exact Q.p a aa
   by_cases j:a=t
   ·subst j;rw[bx];intro K d1 v d6 w d7;have:=fs;exact(a0.ex K d1 v d6 w d7).mono (bc _) (bc _) aa
   rw[bl a aa];exact Q.ex a aa
  have U:∀c,((eA l t c).map λa=>((if a=t then J else i a):lj).enc)=(eA l t c).map λa=>(i a).enc:=λc=>h7 λa C=>(by have:=(Ap.1 C).1;rw[az aa]);rcases EY m x u with⟨an,_⟩|⟨c,an,gl,ap,_⟩
  ·rw[a1 (aI (aa:¬gg l t>=0))];refine bu.2 (.inr ⟨L++[f],e++E,_,a4,av,?_⟩);rw[Hh];have:(aB l.length λc=>(eA l (t+1) c).map λa=>((if a=t then J else i a):lj).enc)=aB l.length λc=>(eA l t c).map λa=>(i a).enc:=db λc _=>by
    rw[yV,az aa,U]
   grind
  rw[aY (aL (aa:gg l t>=0)),an];refine bz (eU (by grind [cX])) ?_;rw[gj (jn ap),aD];have f2:((eA l t c).map λa=>(i a).enc).length<=1000:=(by rw[e9];have:(eA l t c).length<=t:=(by unfold eA;grind);omega);rw[dc (by grind),aD];refine bz (eU (by grind [cX])) ?_;rw[aY ac,gj (jn ap),aD,gj (jn ap),aD];refine bu.2 (.inr ⟨L++[f],e++E,_,a4,av,?_⟩);rw[Hh,hB];have:(aB l.length λc=>(eA l (t+1) c).map λa=>((if a=t then J else i a):lj).enc)=aB l.length (eC (λc=>(eA l t c).map λa=>(i a).enc) c (((eA l t c).map λa=>(i a).enc)++[Y (cD b.rows b.full D (eF b.rows.length y))])):=db λfz _=>by
   rw[yV];by_cases j:fz=c
   ·subst j;rw[gH,au an,ji,U,r3,au bn,d8]
   rw[hb _ _ j,az aa,U]
  grind
 rintro d (⟨z,rfl⟩|⟨L,e,z,rfl⟩)
 ·unfold kV;grind [bu]
 dsimp only;unfold kV;rw[z];obtain⟨d2,k⟩:=uV I m x (cd _) z;refine bz (abo d9 R (k.all m x) k.eM _ H) ?_;grind [bu]
end
section
def Fq (c:X->X->bA) (e d a b:X):bA:=c a b||(br (a=e)&&br (b=d))
theorem MK {n e:X}:aB b (eC (λc=>aB n (d c)) a (aB n (eC (d a) e bp)))=aB b (λc=>aB n (Fq d a e c)):=
 db λc _=>by grind [hb,db,gH,Fq]
def lC (a:X->X) (b:X):df:=((a b:Z),(a (b+1):Z),[],-1,())
structure nV (G:ew) (n j F:X) (c:X->X) (T:X->X->bA):Prop where
 z:c 0=0
 e:c F=j
 m:∀f,f<F->c f<c (f+1)
 t:∀f i,f<F->i<n->(T f i=bp↔∃m,c f<=m/\m<c (f+1)/\(i:Z)∈g2 G m)
theorem XF (e:∀d,d<a->g d<g (d+1)):∀c b,c<b->b<=a->g c<g b:=by
 intro c b f
 induction b with
 |zero=>omega
 |succ b h=>
  grind
theorem NK (d:∀c,c<a->g c<g (c+1)):∀b,b<=a->g 0+b<=g b:=by
 intro b
 induction b with
 |zero=>omega
 |succ b e=>
  grind
section
variable {G:ew} {n:X} (D:G.length=n) (B:fj G) (H:n<=7) {A:aif} (C:A.length<=9223372036854775807)
include D B H C
theorem Ui:ae (loop (σ:=(Z×iu×bm g6×bt)) (ρ:=j4) (λ(k,M,H,_)=>
 bif br (k<al (aB n (g2 G))) then
 bB (α:=j4) (
 bB (α:=j4) (
 bB (α:=(bA×iu×bm g6×bt)) (bif (k==0)==bq then(uF (A,ax (900+k),())).bind λ(d1,_)=>
 (eJ bE d1 7).bind λd4=>
 (iM d4 3).bind λd5=>
 Y (br (d5>0),M,H,()) else Y (bp,M,H,())) λ(d2,N,I,_)=>
  bif d2 then
 (cC (N.length+([(k,(aP k,(([]:be),((-1:Z),()))))]).length)).bind λ_=>
 (fV (al (aB n (g2 G))) (al (aB n (g2 G)))).bind λa0=>
 (cC (I.length+([bJ a0 bq]).length)).bind λ_=>
 Y ((N++[(k,(aP k,(([]:be),((-1:Z),()))))]),(I++[bJ a0 bq]),()) else
 Y (N,I,())) λ(D,bx,_)=>
 (bj D.length (ax (al D-1))).bind λV=>
 (a9 D V λQ=>Y (D.set V (Q.1,(aP k,Q.2.2)))).bind λd9=>
 (loop (σ:=(Z×iu×bm g6×bt)) (ρ:=j4) (λ(L,av,x,_)=>
 (ao (aB n (g2 G)) k).bind λd6=>
  bif br (L<al d6) then
 (bj x.length (ax (al D-1))).bind λK=>
 (ao (aB n (g2 G)) k).bind λd7=>
 (ao d7 L).bind λd8=>
 ((a9 x K λa4=>Y a4).bind λbl=>bj bl.length d8).bind λam=>
 (a9 x K λR=>(a9 R am λ_=>Y (R.set am bp)).map λek=>x.set K ek).bind λel=>
 Y (.inl (aP L,av,el,())) else
 Y (.inr (av,x,()))) (0,d9,bx,())).bind λ(dl,ce,_)=>
 Y (dl,ce,())) λ(ds,ci,_)=>
 Y (.inl (aP k,ds,ci,())) else
 Y (.inr (M,H,()))) (0,[],[],())) (λd0=>∃f h i,nV G n n f h i/\d0=(aB f (lC h),aB f (λa=>aB n (i a)),())):=by
 refine bL n (λc O=>∃f h i,nV G n c f h i/\O=((c:Z),aB f (lC h),aB f (λa=>aB n (i a)),())) ⟨0,λ_=>0,λ_ _=>bq,⟨bn,bn,λa u=>absurd u (alf _),λa g u=>absurd u (alf _)⟩,bn⟩ ?_ ?_
 ·rintro c _ J ⟨f,h,i,j,rfl⟩;have fl:=NK j.m f (cd _);have fn:=j.z;have fp:=j.e;dsimp only;rw[bf,cX,aY (aL (aa:(c:Z)<(n:Z))),bi aa];refine bD (P:=λs=>∃(b:X) (d:X->X) (l:X->X->bA),d 0=0/\(∀a,a<b->d a<d (a+1))/\d b<=c/\b<=c/\(∀a g,a<b+1->g<n->(l a g=bp↔∃r,d a<=r/\r<eC d (b+1) (c+1) (a+1)/\(g:Z)∈g2 G r))/\s=(aB (b+1) (lC (eC d (b+1) (c+1))),aB (b+1) (λa=>aB n (l a)),())) ?_ ?_
  ·refine bD (P:=λs=>∃(b:X) (d:X->X) (l:X->X->bA) (F:Z),d 0=0/\(∀a,a<b->d a<d (a+1))/\d b<=c/\b<=c/\(∀a g,a<b+1->g<n->(l a g=bp↔∃r,d a<=r/\r<eC d (b+1) c (a+1)/\(g:Z)∈g2 G r))/\s=(aB (b+1) (eC (lC d) b ((d b:Z),F,[],-1,())),aB (b+1) (λa=>aB n (l a)),())) ?_ ?_
   ·refine bD (P:=λs=>∃E:bA,s=(E,aB f (lC h),aB f (λa=>aB n (i a)),())/\(E=bq->0<c)) ?_ ?_
    ·rw[gK];by_cases o:c=0
     ·rw[a1 (by simp[o])];grind [bu]
     rw[aY (by simp[o])];refine bD (Ku A C _) ?_;rintro⟨d3,_⟩ c1;dsimp only at c1|-;obtain⟨a3,c2⟩:∃a3,eJ bE d3 7=some a3:=⟨_,cb ab⟩;refine bz c2 ?_;unfold iM;rw[cb ab,bM];grind [bu]
    rintro _ ⟨E,rfl,co⟩;dsimp only;cases E with
    |true=>
     rw[bG,dc (by grind [cX]),aD];refine bz (h6 aa) ?_;rw[dc (by grind [cX]),aD];refine bu.2 ⟨f,h,(λa g=>if a<f then i a g else bq),((c+1:X):Z),j.z,j.m,aa,aa,?_,?_⟩
     ·intro a g v q;dsimp only;by_cases o:a<f
      ·rw[au o,hb _ _ aa];exact j.t a g o q
      obtain rfl:a=f:=aa;rw[az o,gH];grind
     have aq:aB f (lC h)++[((c:Z),((c+1:X):Z),([]:aif),(-1:Z),())]=aB (f+1) (eC (lC h) f ((h f:Z),((c+1:X):Z),[],-1,())):=(by grind [db,hb,z1,gH]);have em:aB f (λa=>aB n (i a))++[bJ n bq]=aB (f+1) (λa=>aB n (λg=>if a<f then i a g else bq)):=(by simp_all [db,au,akf,if_false,z1,jc]);grind
    |false=>
     have ft:=co bn;rw[bP];obtain⟨b,rfl⟩:∃b,f=b+1:=⟨f-1,by
      grind⟩
     have fz:=j.m b aa;refine bu.2 ⟨b,h,i,(c:Z),j.z,λa v=>j.m a aa,aa,aa,?_,?_⟩
     ·intro a g v q;rw[j.t a g v q];grind [hb,gH]
     grind [db,gH,hb,lC]
   rintro _ ⟨b,d,l,F,T,U,ad,an,ap,rfl⟩;dsimp only;rw[bf,cX,show ax (((b+1:X):Z)-1)=(b:Z) by rw[(aa:((b+1:X):Z)-1=(b:Z)),cL aa aa]];refine bz (eU (ajD b)) ?_;rw[gW (ajD b),gH,hB];refine bz bn ?_;have aq:aB (b+1) (eC (eC (lC d) b ((d b:Z),F,[],-1,())) b ((d b:Z),((c+1:X):Z),[],-1,()))=aB (b+1) (lC (eC d (b+1) (c+1))):=db λa v=>by
    by_cases o:a=b
    ·simp_all [gH,hb,lC]
    grind [hb,lC]
   dsimp only;rw[aq];have cs:∀p,(u:p<(g2 G c).length)->∃g:X,(g2 G c)[p]=(g:Z)/\g<n:=λp u=>(by obtain⟨g,eq,ex,_⟩:=L8 B (b7 u);grind);have fs:(g2 G c).length<=n:=(by grind [T3]);refine bD (P:=λs=>s=(aB (b+1) (lC (eC d (b+1) (c+1))),aB (b+1) (λa=>aB n (λw=>l a w||(br (a=b)&&br ((w:Z)∈g2 G c)))),())) ?_ ?_
   ·refine bL (g2 G c).length (λp O=>O=((p:Z),aB (b+1) (lC (eC d (b+1) (c+1))),aB (b+1) (λa=>aB n (λw=>l a w||(br (a=b)&&br ((w:Z)∈(g2 G c).take p)))),())) ?_ ?_ ?_
    ·simp
    ·rintro p _ S rfl;dsimp only;refine bz (rr J) ?_;rw[bf,aY (aL (aa:(p:Z)<((g2 G c).length:Z))),cX];refine bz (eU (ajD b)) ?_;refine bz (rr J) (bz (e1 S) ?_);obtain⟨g,q,cv⟩:=cs p S;rw[q,gW (ajD b)];refine bz (y:=g) (by grind [eU,cX]) ?_;rw[gW (ajD b),gW cv,hB,ajZ,hB,MK,bi aa];refine bz bn (bu.2 ?_);congr 3;refine db λa _=>db λw _=>?_;grind [cr,bS,Fq]
    rintro _ rfl;dsimp only;refine bz (rr J) ?_;rw[bf,a1 (aI (aa:¬(((g2 G c).length:X):Z)<((g2 G c).length:Z))),cA];grind [bu]
   rintro _ rfl;dsimp only;refine bu.2 ⟨b,d,_,T,U,ad,an,?_,bn⟩;intro a g v q;rw[Bool.or_eq_true,ap a g v q];by_cases o:a=b
   ·subst o;rw[gH,gH];grind
   grind [hb]
  rintro _ ⟨b,d,l,T,U,ad,an,ap,rfl⟩;dsimp only;refine bu.2 ⟨b+1,eC d (b+1) (c+1),l,⟨?_,gH _ _ _,?_,?_⟩,bn⟩
  ·grind [hb]
  ·grind [hb,gH]
  grind [hb]
 rintro _ ⟨f,h,i,j,rfl⟩;dsimp only;rw[bf,cX,a1 (aI (aa:¬((n:Z)<(n:Z))))];grind [bu]
end
end
section
theorem aed (a:X->i) (b:X):eC a b (a b)=a:=by grind [eC]
theorem Rv (b:X->i) (a:X) (d c:i):eC (eC b a d) a c=eC b a c:=by grind [eC]
def hF (a:X->X->bA) (b c:X):aif:=((bI c).filter (a b)).map λd:X=>(d:Z)
theorem QH:hF d b (a+1)=if d b a=bp then hF d b a++[(a:Z)] else hF d b a:=by grind [aiI,hF]
theorem QG {T:X->X->bA} {f i:X}:(hF T f i).length<=i:=by grind [cu,aiH,cg,hF]
def pC (c:X->X) (F:X) (e:X->X->bA) (b g:X) (h:Z):Prop:=
 (h=-1/\∀a,a<g->e b a=bp->a<c (b+1))\/
 (∃a d:X,a<g/\e b a=bp/\c (b+1)<=a/\(∀f,f<a->e b f=bp->f<c (b+1))/\h=(d:Z)/\b<d/\d<F/\c d<=a/\a<c (d+1))
def kE (c:X->X) (b:X->X->bA) (d f:X) (g:Z) (e a:X):bA:=b e a||(br (g=(e:Z))&&br (c (d+1)<=a)&&br (a<f)&&b d a)
structure m6 (G:ew) (n F:X) (c:X->X) (wh:X->X->bA) (f:X) (T:X->X->bA) (g:X->df):Prop where
 sub:∀m x,m<F->x<n->wh m x=bp->T m x=bp
 sup:∀m x,m<F->x<n->T m x=bp->c m<=x
 tk:∀m,m<f->∃q,pC c F T m n q/\g m=((c m:Z),(c (m+1):Z),hF T m n,q,())/\∀p:X,q=(p:Z)->∀x,c (m+1)<=x->x<n->T m x=bp->T p x=bp
 new:∀m,f<=m->m<F->g m=lC c m
section
variable {G:ew} {n F:X} {c:X->X} {wh:X->X->bA} (C:G.length=n) (B:fj G) (D:n<=7) (A:nV G n n F c wh)
include C B D A
theorem nV.yo:F<=n:=by have:=NK A.m F (bc _);have:=A.e;omega
theorem nV.le (f:b<=a) (e:a<=F):c b<=c a:=by
 rcases cQ b a with d|d
 ·exact Nat.le_of_lt (XF A.m b a d e)
 grind
theorem nV.own (g:a<n):∃b,b<F/\c b<=a/\a<c (b+1):=by
 have h:∀d,d<=F->a<c d->∃b,b<d/\c b<=a/\a<c (b+1):=by
  intro d
  induction d with
  |zero=>intro _ f;rw[A.z] at f;omega
  |succ d i=>
   grind
 exact h F (bc _) (by rw[A.e];exact g)
theorem nV.sup (e:a<F) (f:b<n) (d:wh a b=bp):c a<=b:=by obtain⟨j,g,h,i⟩:=(A.t a b e f).1 d;grind [L8]
theorem nV.diag (g:a<F) (d:c a<=b) (f:b<c (a+1)):wh a b=bp:=by have h:=A.le C B D (aa:a+1<=F) (bc _);have i:=A.e;obtain⟨k,j,_⟩:=T2 B (aa:b<G.length);exact(A.t a b g aa).2 ⟨b,d,f,by grind⟩
theorem abf {T:X->X->bA} (ad:a<F) (G:b<n) (av:c (a+1)<=b) {g:X->df} {has:bm g6} (z:∀d,d<F->(g d).1=(c d:Z)/\(g d).2.1=(c (d+1):Z)):ae (loop (σ:=(Z×iu×bm g6×bt)) (ρ:=j4) (λ(i,f,p,_)=>
 bif br (i<al f) then
 bB (α:=j4) (
 bB (α:=(bA×iu×bm g6×bt)) (
 (bj f.length i).bind λH=>
 (a9 f H λw=>Y w.1).bind λO=>
  bif br ((b:Z)>=O)==bp then(bj f.length i).bind λI=>
 (a9 f I λx=>Y x.2.1).bind λQ=>
 Y (br ((b:Z)<Q),f,p,()) else Y (bq,f,p,())) λ(N,o,r,_)=>
  bif N then
 (bj o.length (a:Z)).bind λt=>
 (a9 o t λk=>Y (o.set t (k.1,(k.2.1,(k.2.2.1,(i,k.2.2.2.2)))))).bind λR=>
 Y (R,r,()) else
 Y (o,r,())) λ(J,y,_)=>
 Y (.inl (aP i,J,y,())) else
 Y (.inr (f,p,()))) (aP (a:Z),aB F g,has,())) (λL=>∃e:X,a<e/\e<F/\c e<=b/\b<c (e+1)/\L=(aB F (eC g a ((g a).1,(g a).2.1,(g a).2.2.1,(e:Z),())),has,())):=by
 have V:=A.yo C B D;obtain⟨e,K,a0,a3⟩:=A.own C B D G;have am:a<e:=by
  rcases cQ a e with h|h
  ·exact h
  have:=A.le C B D (aa:e+1<=a+1) aa;omega
 refine(bL (F-(a+1)) (λm M=>M=(((a+1+m:X):Z),aB F (if e<a+1+m then eC g a ((g a).1,(g a).2.1,(g a).2.2.1,(e:Z),()) else g),has,())) ?_ ?_ ?_)
 ·rw[bi aa,az aa]
 ·rintro m _ an rfl;dsimp only;generalize ap:a+1+m=d;have j:d<F:=aa;rw[bf,cX,aY (aL (aa:(d:Z)<(F:Z)))];generalize E:(if e<d then eC g a ((g a).1,(g a).2.1,(g a).2.2.1,(e:Z),()) else g)=q;have s:(q d)=g d:=by
   rw[<-E];grind [hb]
  obtain⟨u,v⟩:=z d j;refine bD (P:=λh=>h=(aB F (if e<d+1 then eC g a ((g a).1,(g a).2.1,(g a).2.2.1,(e:Z),()) else g),has,())) ?_ ?_
  ·refine bD (P:=λh=>h=(br (d=e),aB F q,has,())) ?_ ?_
   ·refine bz (eU j) ?_;rw[gW j,s,u];refine bz bn ?_;by_cases S:c d<=b
    ·rw[aY (by grind)];refine bz (eU j) ?_;rw[gW j,s,v];refine bz bn (bu.2 ?_);by_cases l:d=e
     ·rw[aL l,aL (show(b:Z)<(c (d+1):Z) by grind)]
     have:¬b<c (d+1):=λU=>by
      rcases cQ d e with h|h
      ·have:=A.le C B D (aa:d+1<=e) aa;omega
      have:=A.le C B D (aa:e+1<=d) aa;omega
     grind
    rw[a1 (by grind),aI (show¬d=e by grind)];grind [bu]
   rintro _ rfl;dsimp only;by_cases l:d=e
   ·rw[aY (aL l)];simp_all [bz,bu,gW,hB,au,eU,cX]
   rw[a1 (aI l)];grind [bu]
  grind [bi,bu]
 rintro _ rfl;dsimp only;rw[bf,cX,(aa:a+1+(F-(a+1))=F),a1 (aI (aa:¬((F:Z)<(F:Z)))),cb K];grind [bu]
theorem acF (q:a<F) (R:m6 G n F c wh a d p):ae (loop (σ:=(Z×iu×bm g6×bt)) (ρ:=j4) (λ(s,t,v,_)=>
 bif br (s<al (aB n (g2 G))) then
 bB (α:=j4) (
 (bj v.length (a:Z)).bind λcs=>
 ((a9 v cs λd2=>Y d2).bind λd3=>bj d3.length s).bind λf3=>
 (a9 v cs λd4=>a9 d4 f3 λd5=>Y d5).bind λhs=>
  bif !hs then
 Y (t,v,()) else
 (bj t.length (a:Z)).bind λcv=>
 (a9 t cv λd6=>Y d6.2.2.1).bind λgt=>
 (cC (gt.length+([s]).length)).bind λ_=>
 (bj t.length (a:Z)).bind λU=>
  bif bH cv U&&bp then
 (a9 t U λd7=>Y d7.2.2.1).bind λhc=>
 (a9 t U λam=>Y (t.set U (am.1,(am.2.1,((hc++[s]),am.2.2.2))))).bind λE=>
 bB (α:=j4) (
 bB (α:=(bA×iu×bm g6×bt)) (
 (bj E.length (a:Z)).bind λf4=>
 (a9 E f4 λd8=>Y d8.2.1).bind λhv=>
  bif br (s>=hv)==bp then(bj E.length (a:Z)).bind λf5=>
 (a9 E f5 λd9=>Y d9.2.2.2.1).bind λhw=>
 Y (br (hw<0),E,v,()) else Y (bq,E,v,())) λ(go,c2,a4,_)=>
  bif go then
 (loop (σ:=(Z×iu×bm g6×bt)) (ρ:=j4) (λ(H,u,ap,_)=>
  bif br (H<al u) then
 bB (α:=j4) (
 bB (α:=(bA×iu×bm g6×bt)) (
 (bj u.length H).bind λf6=>
 (a9 u f6 λek=>Y ek.1).bind λib=>
  bif br (s>=ib)==bp then(bj u.length H).bind λf7=>
 (a9 u f7 λel=>Y el.2.1).bind λic=>
 Y (br (s<ic),u,ap,()) else Y (bq,u,ap,())) λ(gs,V,bl,_)=>
  bif gs then
 (bj V.length (a:Z)).bind λc1=>
 (a9 V c1 λQ=>Y (V.set c1 (Q.1,(Q.2.1,(Q.2.2.1,(H,Q.2.2.2.2)))))).bind λio=>
 Y (io,bl,()) else
 Y (V,bl,())) λ(gc,fp,_)=>
 Y (.inl (aP H,gc,fp,())) else
 Y (.inr (u,ap,()))) (aP (a:Z),c2,a4,())).bind λ(f8,fl,_)=>
 Y (f8,fl,()) else
 Y (c2,a4,())) λ(z,L,_)=>
 (bj z.length (a:Z)).bind λf1=>
 (a9 z f1 λdl=>Y dl.2.1).bind λhi=>
  bif br (s>=hi) then
 (bj z.length (a:Z)).bind λf2=>
 (a9 z f2 λds=>Y ds.2.2.2.1).bind λhr=>
 (bj L.length hr).bind λa0=>
 ((a9 L a0 λd0=>Y d0).bind λd1=>bj d1.length s).bind λco=>
 (a9 L a0 λa3=>(a9 a3 co λ_=>Y (a3.set co bp)).map λid=>L.set a0 id).bind λii=>
 Y (z,ii,()) else
 Y (z,L,()) else bo) λ(f9,fn,_)=>
 Y (.inl (aP s,f9,fn,())) else
 Y (.inr (t,v,()))) ((c a:Z),aB F p,aB F (λa=>aB n (d a)),())) (λx=>∃j,pC c F d a n j/\x=(aB F (eC p a ((c a:Z),(c (a+1):Z),hF d a n,j,())),aB F (λh=>aB n (kE c d a n j h)),())):=by
 have i2:=A.yo C B D;have jp:=A.le C B D (aa:a+1<=F) (bc _);have i8:=A.e;have lc:=A.m a q;have fz:p a=lC c a:=R.new a (bc _) q;have kd:∀h,h<F->(p h).1=(c h:Z)/\(p h).2.1=(c (h+1):Z):=λh bx=>by
  rcases cQ h a with r|r
  ·obtain⟨j,_,K,_⟩:=R.tk h r;grind
  rw[R.new h r bx];exact⟨bn,bn⟩
 refine bL (n-c a) (λw gl=>∃j,pC c F d a (c a+w) j/\gl=(((c a+w:X):Z),aB F (eC p a ((c a:Z),(c (a+1):Z),hF d a (c a+w),j,())),aB F (λh=>aB n (kE c d a (c a+w) j h)),())) ?_ ?_ ?_
 ·have aq:hF d a (c a)=[]:=by
   unfold hF;rw[ala.2 λk S r=>?_]
   ·rfl
   have J:=iq.1 S;have:=R.sup a k q aa r;omega
  refine⟨-1,.inl ⟨bn,λk S r=>?_⟩,?_⟩
  ·omega
  rw[nf,aq];congr 2
  ·have:eC p a ((c a:Z),(c (a+1):Z),([]:aif),(-1:Z),())=p:=by
    rw[show((c a:Z),(c (a+1):Z),([]:aif),(-1:Z),())=p a from fz.symm,aed]
   grind
  simp_all [db,aI,kE]
 ·rintro w _ lb ⟨j,M,rfl⟩;dsimp only;generalize kg:c a+w=b at*;have av:b<n:=aa;rw[bf,cX,aY (aL (aa:(b:Z)<(n:Z))),(aa:c a+(w+1)=b+1)];have fT:kE c d a b j a b=d a b:=by
   grind [aI,kE]
  refine bD (P:=λx=>∃o,pC c F d a (b+1) o/\x=(aB F (eC p a ((c a:Z),(c (a+1):Z),hF d a (b+1),o,())),aB F (λh=>aB n (kE c d a (b+1) o h)),())) ?_ ?_
  ·refine bz (eU (by grind [cX])) ?_;rw[gW q];refine bz (y:=b) (by grind [eU,cX]) ?_;rw[gW q,gW av,fT];refine bz bn ?_;cases an:d a b with
   |false=>
    rw[aY (by rfl)];refine bu.2 ⟨j,?_,?_⟩
    ·rcases M with⟨aw,o⟩|⟨k,l,aw,o⟩
     ·refine .inl ⟨aw,λk S r=>?_⟩;grind
     exact .inr ⟨k,l,aa,o⟩
    rw[QH,an,az ab];congr 2;refine db λh _=>db λk _=>?_;grind [aL,aI,kE]
   |true=>
    rw[a1 (by rfl)];refine bz (eU (by grind [cX])) ?_;rw[gW q,gH];refine bz bn ?_;have lk:=QG (T:=d) (f:=a) (i:=b);rw[dc (by grind),bM];refine bz (eU (by grind [cX])) ?_;rw[aY (by simp_all),gW q,gH];refine bz bn ?_;rw[gW q,gH,hB,Rv];refine bz bn ?_;have f0:hF d a b++[(b:Z)]=hF d a (b+1):=(by rw[QH,cb an]);dsimp only;rw[f0];refine bD (P:=λx=>∃o,x=(aB F (eC p a ((c a:Z),(c (a+1):Z),hF d a (b+1),o,())),aB F (λh=>aB n (kE c d a b j h)),())/\((b<c (a+1)/\o=j)\/(c (a+1)<=b/\∃l:X,o=(l:Z)/\l<F/\(j=o\/(j=-1/\∀k,k<b->d a k=bp->k<c (a+1)))))/\pC c F d a (b+1) o) ?_ ?_
    ·refine bD (P:=λx=>∃O:bA,x=(O,aB F (eC p a ((c a:Z),(c (a+1):Z),hF d a (b+1),j,())),aB F (λh=>aB n (kE c d a b j h)),())/\(O=bp↔c (a+1)<=b/\j<0)) ?_ ?_
     ·refine bz (eU (by grind [cX])) ?_;rw[gW q,gH];refine bz bn ?_;dsimp only;by_cases I:c (a+1)<=b
      ·rw[aY (by grind)];grind [bz,bu,gW,gH,eU,cX]
      rw[a1 (by grind)];grind [bu]
     rintro _ ⟨O,rfl,fs⟩;dsimp only;cases O with
     |true=>
      obtain⟨ad,is⟩:=fs.1 bn;rw[bG];have ci:j=-1/\∀k,k<b->d a k=bp->k<c (a+1):=by
       rcases M with r|⟨k,l,J,K,em,eq,ex,_⟩
       ·exact r
       omega
      refine bD (abf (T:=d) C B D A q av ad (g:=eC p a ((c a:Z),(c (a+1):Z),hF d a (b+1),j,())) (has:=aB F (λh=>aB n (kE c d a b j h))) (λh bx=>?_)) ?_
      ·grind [hb,gH]
      rintro _ ⟨l,ge,N,gf,gi,rfl⟩;dsimp only;refine bu.2 ⟨(l:Z),?_,.inr ⟨ad,l,bn,N,.inr ci⟩,.inr ⟨b,l,aa,an,ad,ci.2,bn,ge,N,gf,gi⟩⟩;rw[gH,Rv]
     |false=>
      rw[bP];refine bu.2 ⟨j,bn,?_,?_⟩
      ·rcases cQ b (c (a+1)) with I|I
       ·omega
       refine .inr ⟨I,?_⟩;rcases M with r|⟨k,l,J,K,em,eq,ex,i0,i1,_⟩
       ·grind
       grind
      rcases M with⟨J,K⟩|⟨k,l,J,K⟩
      ·refine .inl ⟨J,λk S i3=>?_⟩;grind
      exact .inr ⟨k,l,aa,K⟩
    rintro _ ⟨o,rfl,ft,ce⟩;dsimp only;refine bz (eU (by grind [cX])) ?_;rw[gW q,gH];refine bz bn ?_;dsimp only;rcases ft with⟨I,rfl⟩|⟨I,l,rfl,N,lf⟩
    ·rw[a1 (aI (aa:¬(b:Z)>=(c (a+1):Z)))];refine bu.2 ⟨o,ce,?_⟩;congr 2;refine db λh _=>db λk _=>?_;grind [aI,aL,kE]
    rw[aY (aL (aa:(b:Z)>=(c (a+1):Z)))];refine bz (eU (by grind [cX])) ?_;rw[gW q,gH];refine bz bn ?_;dsimp only;refine bz (eU (by grind [cX])) ?_;rw[gW N];refine bz (y:=b) (by grind [eU,cX]) ?_;rw[gW N,gW av,hB,ajZ,hB,MK];refine bz bn (bu.2 ⟨(l:Z),ce,?_⟩);congr 2;refine db λh _=>db λk _=>?_;grind [Fq,kE]
  grind [bi,bu]
 rintro _ ⟨j,M,rfl⟩;dsimp only;rw[(aa:c a+(n-c a)=n)] at*;rw[bf,cX,a1 (aI (aa:¬((n:Z)<(n:Z))))];grind [bu]
end
end
section
theorem pC.congr {c:X->X} {F:X} (e:d a=k a) (f:pC c F d a b n):pC c F k a b n:=by simp_all [pC]
theorem QF (c:d a=k a):hF d a b=hF k a b:=by grind [hF]
section
variable {G:ew} {n F:X} {c:X->X} {A:X->X->bA} (B:G.length=n) (C:fj G) (D:n<=7) (H:nV G n n F c A)
include B C D H
theorem m6.next {o:X->df} (L:a<F) (j:m6 G n F c A a d o) {g:Z} (l:pC c F d a n g):m6 G n F c A (a+1) (kE c d a n g) (eC o a ((c a:Z),(c (a+1):Z),hF d a n,g,())):=by
 have i:∀b,b<=a->kE c d a n g b=d b:=λb h=>by
  funext f;unfold kE;have:¬g=(b:Z):=by rcases l with⟨e,_⟩|⟨f,p,_,_,_,_,e,k,_⟩<;>omega
  grind
 have v:∀b f,d b f=bp->kE c d a n g b f=bp:=λb f e=>(by grind [kE]);refine⟨λb f h m e=>v _ _ (j.sub b f h m e),λb f h m e=>?_,λb h=>?_,λb h t=>?_⟩
 ·unfold kE at e;rw[je] at e;rcases e with e|e
  ·exact j.sup b f h m e
  simp only[bk,aiF] at e;obtain⟨⟨⟨q,k⟩,s⟩,K⟩:=e;rcases l with⟨aw,_⟩|⟨M,p,y,z,B,C,D,E,H,I,J⟩
  ·omega
  grind
 ·rcases cQ b a with e|e
  ·obtain⟨aw,q,k,s⟩:=j.tk b e;refine⟨aw,q.congr (i b aa).symm,?_,λp u f w x r=>?_⟩
   ·rw[hb _ _ aa,k,QF (i b aa)]
   rw[i b aa] at r;grind
  obtain rfl:b=a:=aa;refine⟨g,l.congr (i b aa).symm,?_,λp u f w x r=>?_⟩
  ·rw[gH,QF (i b aa)]
  grind [aL,kE]
 rw[hb _ _ aa];exact j.new b aa t
end
theorem HS {j:c5} {k:aif} {aJ:c5} {l:Z} {m:Z} {G:ew} {o:Z} {n:X} (B:G.length=n) (C:fj G) (D:n<=7) (t:k.length<=9223372036854775807) (p:sG (j,())=Y (aJ,l,())) (r:sH (aJ,())=Y ((q,()),m,())) (s:q6 ((q,()),h,())=Y ((G,()),o,())):ae (uC (j,h,k,())) (λi=>∃F c A b a,nV G n n F c A/\m6 G n F c A F b a/\i=(aB F a,())):=by
 unfold uC;refine bz p (bz r (bz s ?_));refine bz (acn C aa) ?_;dsimp only;rw[B];refine bD (Ui B C D t) ?_;rintro _ ⟨F,c,A,H,rfl⟩;dsimp only;have z:=H.yo B C D;refine bD (P:=λi=>∃b a,m6 G n F c A F b a/\i=(aB F a,())) ?_ ?_
 ·refine bL F (λd y=>∃b a,m6 G n F c A d b a/\y=((d:Z),aB F a,aB F (λd=>aB n (b d)),())) ⟨A,lC c,⟨λ_ _ _ _ e=>e,λx I u w e=>H.sup B C D u w e,λx e=>absurd e (alf _),λ_ _ _=>rfl⟩,bn⟩ ?_ ?_
  ·rintro d _ f ⟨b,a,g,rfl⟩;dsimp only;rw[bf,cX F,aY (aL (aa:(d:Z)<(F:Z)))];refine bz (eU f) ?_;rw[gW f,g.new d (cd _) f];refine bz bn ?_;refine bD (acF B C D H f g) ?_;rintro _ ⟨E,v,rfl⟩;dsimp only;rw[bi aa];exact bu.2 ⟨_,_,g.next B C D H f v,bn⟩
  rintro _ ⟨b,a,g,rfl⟩;dsimp only;rw[bf,cX F,a1 (aI (aa:¬((F:Z)<(F:Z))))];grind [bu]
 grind [bu]
theorem Vq {P:X->bA} {a b:X} (i:∀c,c<a->P c=bq) (j:∀c,a<=c->c<b->P c=bp) (k:a<=b):∀e,(bI (b+e)).filter P=ain a (b-a)++(((bI (b+e)).filter P).filter λc=>br (b<=c)):=by
 have h:∀d,a+d<=b->(bI (a+d)).filter P=ain a d:=by
  intro d
  induction d with
  |zero=>
   simp_all
  |succ d f=>
   grind [ajL,aiI,List.filter_cons_of_pos,alj]
 intro e
 induction e with
 |zero=>
  have:=h (b-a) aa;simp_all
 |succ e f=>
  rw[<-ajL,i7,pq,pq,<-i4,<-f];congr 1;cases g:P (b+e)<;>simp[g]
end
section
section
variable {G:ew} {n F:X} {c:X->X} {I T:X->X->bA} {g:X->df} (C:G.length=n) (D:fj G) (H:n<=7) (A:nV G n n F c I) (B:m6 G n F c I F T g)
include C D H A B
theorem m6.bd {a:X} (e:a<=F):bd (aB F g) a=c a:=by
 cases a with
 |zero=>exact A.z.symm
 |succ a=>
  obtain⟨f,_,d,_⟩:=B.tk a aa;show(Option.map (λb:df=>b.2.1.toNat) (aB F g)[a]?).getD 0=c (a+1);grind [jn]
theorem IE {k x:X}:(x:Z)∈hF T k n↔x<n/\T k x=bp:=by unfold hF;grind
theorem QE (a:X):(hF T a n).Pairwise (· < ·):=by unfold hF;rw[py];exact(List.pairwise_lt_range.filter _).imp λb=>by omega
theorem m6.rows {f:X} (g:f<F):∃i:aie,hF T f n=(ain (c f) (c (f+1)-c f)++i).map (λd:X=>(d:Z))/\∀d,d∈i↔c (f+1)<=d/\d<n/\T f d=bp:=by
 have q:=A.le C D H (aa:f+1<=F) (bc _);have r:=A.e;have s:=A.m f g;have:=Vq (P:=λd=>br (d<n)&&T f d) (a:=c f) (b:=c (f+1)) (λd h=>by
  by_cases p:d<n
  ·cases j:T f d with
   |false=>simp
   |true=>have:=B.sup f d g p j;omega
  omega) (λd l o=>by
   show(br (d<n)&&T f d)=bp;rw[aL (aa:d<n),B.sub f d g aa (A.diag C D H g l o)];rfl) aa (n-c (f+1))
 rw[(aa:c (f+1)+(n-c (f+1))=n)] at this;have k:(bI n).filter (λd=>br (d<n)&&T f d)=(bI n).filter (T f):=pt λd h=>(by rw[aL (iq.1 h),ake]);rw[k] at this;refine⟨((bI n).filter (T f)).filter λd=>br (c (f+1)<=d),?_,?_⟩
 ·grind [hF]
 grind
theorem m6.VD:hq G (aB F g):=by
 have d4:=A.yo C D H;have a0:=A.e;have O:∀a,a<=F->jg.bd (aB F g) a=c a:=λa b=>B.bd C D H A b;have N:lM n (aB F g):=by
  refine⟨λa b=>?_,by rw[cX,O F (bc _),a0]⟩;rw[cX] at b;obtain⟨z,_,j,_⟩:=B.tk a b;have s:=A.m a b;have d3:=A.le C D H (aa:a+1<=F) (bc _);refine⟨g a,jn b,?_,?_,?_⟩
  ·rw[j,O a aa]
  ·grind
  grind
 have ce:∀f,f<F->gO (aB F g) (f:Z)=hF T f n:=λf R=>(by obtain⟨z,_,j,_⟩:=B.tk f R;grind [tq,cX,lz]);have bs:∀{f i:X},f<F->c f<=i->i<c (f+1)->hf (jg.bd (aB F g)) i (aB F g).length=(f:Z):=λ{f i} R d2 j=>(by have s:=cX F g;exact wH (m:=(aB F g).length) (λa b=>⟨b,N.1 a b⟩) aa (by grind) (by grind) _ aa (bc _));unfold hq;rw[C];refine⟨N,λa b=>?_,λa b=>?_,λad d w=>?_⟩
 ·rw[cX] at b;rw[lz];obtain⟨z,_,j,_⟩:=B.tk a b;obtain⟨h,S,p⟩:=B.rows C D H A b;have s:=A.m a b;have bl:(hF T a n).length=(c (a+1)-c a)+h.length:=(by grind);have u:=QE C D H A B a;have q:((c (a+1):Z)-(c a:Z)).toNat=c (a+1)-c a:=aa;rw[j];unfold jy;dsimp only;rw[q];refine⟨aa,λd _ P l=>⟨λQ=>?_,λv=>?_⟩⟩
  ·simp_all
  dsimp only at v l|-;rw[q] at v;have y:(hF T a n)[d]=((h[d-(c (a+1)-c a)]'(by omega):X):Z):=by simp_all
  have o:=(p _).1 (cR (aa:d-(c (a+1)-c a)<h.length));refine⟨aa,aa,?_⟩;exact(h2.1 u) (d-1) d aa aa aa
 ·rw[cX] at b;rw[lz];obtain⟨z,bx,j,d6⟩:=B.tk a b;obtain⟨h,S,p⟩:=B.rows C D H A b;have s:=A.m a b;have bl:(hF T a n).length=(c (a+1)-c a)+h.length:=(by grind);have u:=QE C D H A B a;have q:((c (a+1):Z)-(c a:Z)).toNat=c (a+1)-c a:=aa;have y:∀d (l:d<(hF T a n).length),c (a+1)-c a<=d->∃i,i∈h/\(hF T a n)[d]=(i:Z):=λd l v=>by
   refine⟨h[d-(c (a+1)-c a)]'(by omega),cR _,?_⟩
   simp_all
  rw[j];unfold iZ;dsimp only;rw[q];rcases bx with⟨aw,d9⟩|⟨I,f,K,L,ap,cs,rfl,cv,c1,c2,dl⟩
  ·refine .inl ⟨?_,aw⟩;have:h=[]:=List.eq_nil_iff_forall_not_mem.2 λi d8=>by
    grind
   grind
  have co:=(p I).2 ⟨ap,K,L⟩;have d7:0<h.length:=List.length_pos_of_mem co;refine .inr ⟨aa,?_,λd P l=>?_⟩
  ·obtain⟨J,V,a3⟩:=y (c (a+1)-c a) aa (bc _);obtain⟨ds,d0,d1⟩:=(p J).1 V;have d5:J<=I:=by
    obtain⟨E,ci,U⟩:=hu.1 ((IE (x:=I) C D H A B (k:=a)).2 ⟨K,L⟩);rcases cQ E (c (a+1)-c a) with av|av
    ·simp only[S,ji] at U;rw[List.getElem_append_left (by grind)] at U;grind
    rcases cQ (c (a+1)-c a) E with M|M
    ·have:=(h2.1 u) _ E aa ci M;omega
    grind
   grind [aiT,cl]
  obtain⟨J,V,a3⟩:=y d l P;grind [IE]
 intro Q;have a4:ad<n:=(by obtain⟨l,_⟩:=w;omega);have o:d<n:=(by have:=w.lt D;omega);obtain⟨f,r,am,an⟩:=A.own C D H a4;rw[bs r am an,ce f r];refine(IE C D H A B).2 ⟨o,B.sub f d r o ((A.t f d r o).2 ⟨ad,am,an,vd.2 ⟨aa,.inr ⟨Q,?_⟩⟩⟩)⟩;exact .one w
end
end
theorem abW {b c:aif} (d:hJ a a b h c) (e:gz a a b h c≠0):sG (((a:Z),(a:Z),b,h,c,()),())=Y ((0,0,[],[],[],()),gz a a b h c,()):=by unfold sG;refine ai d.vu ?_;grind
def abT:sH ((0,0,[],[],[],()),())=Y (([],()),1,()):=by unfold sH;refine ai (y:=((1:Z),())) rfl ?_;rfl
def FI:fj []:=HO []
theorem abY (a:aif):∃c,q6 (([],()),a,())=Y (([],()),c,()):=by
 rw[JF (λe d=>by cases d)];by_cases b:mx [] a=0
 ·rw[au b];refine⟨0,?_⟩;have:a=[]:=by
   unfold mx at b;grind
  subst this;rfl
 simp_all
theorem m6.small (i:q.length=a) (j:fj q) (l:a<=7) (e:nV q a a b g d) (h:m6 q a b g d b k p):(aB b p).length<=a/\∀f∈aB b p,0<f.2.2.1.length/\f.2.2.1.length<=a:=by have t:=e.yo i j l;refine⟨by grind [cX],λf o=>?_⟩;obtain⟨n,c,rfl⟩:=hu.1 o;rw[cX] at c;rw[lz];obtain⟨v,_,r,_⟩:=h.tk n c;obtain⟨w,u,_⟩:=h.rows i j l e c;have s:=e.m n c;grind [QG]
theorem VO {c d:aif} (z:a<=b) (Q:b<=7) (y:gz a a c h d=0->mI a c h d) (u:hJ a a c h d) {g L:aif} (q:L.length<=9223372036854775807):ae (uC (((a:Z),(a:Z),c,h,d,()),g,L,())) (λU=>∃m:iu,U=(m,())/\m.length<=b/\(∀e∈m,0<e.2.2.1.length/\e.2.2.1.length<=b)/\(lH a a c h d g=0->hq (kz a (gE (c6 c h d a)) g) m)):=by
 classical
 have v:a<=7:=ez z Q;by_cases f:gz a a c h d=0
 ·have t:=(jE.1 f).1;have N:=(jE.1 f).2;have M:=rf t a (bc _);have O:=re t;have V:=(y f).el;have P:=p1 t u.hw;have R:=p1 t (DW N);have K:=xH M;have J:=xG O;have T:=JX (rows:=a) (c0:=a) (E:=gE (c6 c h d a)) aa aa aa (λB A=>P B (ht.1 A).1);have S:=GH K J (λB A=>R B (ht.1 A).1);have x:=P3 T S;rw[Hw K J] at x;by_cases r:gx g a
  ·refine(HS (D9 r) (Ab a (gE (c6 c h d a)) g) v q (Jx (y f) u f) x (P4 (ez v ab) r)).mono ?_;rintro _ ⟨C,H,F,D,I,k,l,rfl⟩;obtain⟨o,i⟩:=l.small (D9 r) (Ab a (gE (c6 c h d a)) g) v k;exact⟨_,bn,ez o z,λe j=>⟨(i e j).1,ez (i e j).2 z⟩,λ_=>l.VD (D9 r) (Ab a (gE (c6 c h d a)) g) v k⟩
  have p:∃w,q6 ((jX a (jI (gE (c6 c h d a))),()),g,())=Y (([],()),w,()):=by
   rw[JF (λm q=>by have:=HT a (jI (gE (c6 c h d a))) m q;omega)];rw[az (λs=>?_)]
   ·grind
   grind [z9,mx]
  obtain⟨w,p⟩:=p;refine(HS (G:=[]) (n:=0) rfl FI (da _) q (Jx (y f) u f) x p).mono ?_;rintro _ ⟨C,H,F,D,I,k,l,rfl⟩;obtain⟨o,i⟩:=l.small bn FI (da _) k;refine⟨_,bn,ez o (da _),λe j=>⟨(i e j).1,ez (i e j).2 (da _)⟩,λs=>absurd (JZ s).2.2 r⟩
 obtain⟨w,p⟩:=abY g;refine(HS (G:=[]) (n:=0) rfl FI (da _) q (abW u f) abT p).mono ?_;rintro _ ⟨C,H,F,D,I,k,l,rfl⟩;obtain⟨o,i⟩:=l.small bn FI (da _) k;exact⟨_,bn,ez o (da _),λe j=>⟨(i e j).1,ez (i e j).2 (da _)⟩,λs=>absurd (JZ s).1 f⟩
def M6 {c d:aif} (f:a<=5) (k:hJ a a c h d) {e g:aif} (j:g.length<=9223372036854775807):ae (uC (((a:Z),(a:Z),c,h,d,()),e,g,())) (λl=>∃b:iu,l=(b,())/\b.length<=5/\(∀i∈b,0<i.2.2.1.length/\i.2.2.1.length<=5)/\(lH a a c h d e=0->hq (kz a (gE (c6 c h d a)) e) b)):=
 VO f ab (mI.OH f) k j
section
def sa (a:eH):Prop:=a.1.length<100000/\a.2.1.length<100000/\a.2.2.1.length<100000/\a.2.2.2.1.length<100000/\a.2.2.2.2.1.length<100000/\a.2.2.2.2.2.1.length<100000
theorem QI {a:eH} (b:sa a):zv (a,a,())=Y (bp,()):=by obtain⟨e,f,g,h,i,j⟩:=b;have d:∀l:aif,l.length<100000->q0 (l,l,())=Y (bp,()):=λl c=>(by grind [FQ]);have jU:∀l:aif,l.length<100000->zx (l,l,())=Y (bp,()):=λl c=>(by grind [R5]);simp_all [aY,ai,zv]
theorem Oz:sa mw:=by grind [sa,mw]
theorem Vk {n:X} (q:n<=12) (o:aif) (i:(c.flatMap a8.cF).Perm (bI n)) (f:∀e∈c,tW (bI n) e) (del:Z):sa (ri o c del):=by
 obtain⟨r,s,t⟩:=AQ f;have m:(c.flatMap a8.cF).length=n:=(by rw[i.length_eq,nb]);have p:∀b∈c.flatMap b3,b.1.length<=100:=λb a=>(by obtain⟨e,h,a⟩:=amg.1 a;obtain⟨j,_,rfl⟩:=eZ.1 a;have:=(f e h).nd.length_le_of_subset (f e h).sub;grind);have k:=DX (gy λg=>(c.flatMap a8.cF).idxOf g) (cs:=c.flatMap b3) λb a=>(by grind [cg,rL,gy]);have l:=DX (iw λg=>(c.flatMap a8.cF).idxOf g) (cs:=c.flatMap b3) λb a=>(by grind [cg,rL,iw]);refine⟨?_,?_,?_,?_,?_,?_⟩
 ·show((c.flatMap a8.cF).map _).length<_;grind
 ·show(c.map _).length<_;grind
 ·show(c.flatMap a8.d).length<_;omega
 ·show(j6 _ _).length<_;grind [cg,ajj,j6]
 ·show((c.flatMap b3).flatMap _).length<_;omega
 show((c.flatMap b3).flatMap _).length<_;omega
section
variable {n:X} {st B C o:aif} {l:bm df}
def Vl {a:X->X->ah9} (f:∀h i,cM (a h i)) (d:hq q l) (b:q.length=n) (g:n<=12):sa (kV a o l).1:=by
 unfold kV;cases e:h4 a l l.length with
 |none=>exact Oz
 |some j=>
  obtain⟨k,p⟩:=j;obtain⟨m,c⟩:=uV f d b (bc _) e;exact Vk g o (c.all d b) c.eM _
theorem R2 (r:mI n st B C) (m:hJ n n st B C) (h:gz n n st B C=0) (d:gx o n) (f:hq (kz n (gE (c6 st B C n)) o) l):oV (((n:Z),(n:Z),st,B,C,()),o,l,())=Y (kV (jV (c6 st B C n) o) o l)/\pZ (((n:Z),(n:Z),st,B,C,()),o,l,())=Y (kV (jV (c6 st B C n) o) o l)/\sa (kV (jV (c6 st B C n) o) o l).1:=by
 classical
 have M:=r.xN;obtain⟨R,H,I⟩:=Sg r m h d;have k:=D9 (E:=gE (c6 st B C n)) d;have F:=Ab n (gE (c6 st B C n)) o;have w:=VX (E:=gE (c6 st B C n)) (cu M ab) d;have x:=d.1;have J:=(jE.1 h).1;have D:=(jE.1 h).2;have A:∀p:X,p=65536->∀a b,cS p 3222 3072 1 (jV (c6 st B C n) o a b):=λp G a b=>(aky G (ael (p1 J (DW D)) _ _)).mono ab ab ab;have q:∀a b,cM (jV (c6 st B C n) o a b):=λa b=>gA _;have U:=D1 f;have L:∀j∈l,j.2.2.1.length<=7:=λj u=>(by obtain⟨c,i,rfl⟩:=ai8.1 u;have e:=aj2 f k i;have z:=e.g;rw[bS i] at z;have S:=e.Bz;grind [ai1,gO,hE]);have T:ix (kz n (gE (c6 st B C n)) o)=0:=qT.2 ⟨aa,F⟩;have K:xj (kz n (gE (c6 st B C n)) o) l=0:=(by simp_all [cn,aii,cb,xj]);have e:=R3 w (l:=l) aa (λj u=>by grind);have v:=R4 w (l:=l) aa (λj u=>by grind);rw[K] at e v;refine⟨abc f k q A aa x I (λa b s t=>acT H s t) e,abS f k q aa x (λa b s t=>abQ m h d s t) ?_,Vl q f k aa⟩;unfold w9;refine ai (P5 m aa) ?_;have N:(if gz n n st B C≠0 then gz n n st B C else if n≠n then 5 else if gx o n then 0 else 90)=0:=(by grind);rw[N];dsimp only;rw[a1 (by rfl)];refine ai (abV r m h d) (ai v ?_);dsimp only;rw[a1 (by rfl)];refine bQ.1 ?_;refine bD (P:=λO=>O=.inl ()) ?_ ?_
 ·refine bL l.length (λc Q=>Q=((c:Z),())) rfl ?_ ?_
  ·rintro c _ i rfl;dsimp only;rw[bf,aY (aL (aa:(c:Z)<(l.length:Z))),bi aa];refine bz (y:=l[c]) (e1 i) ?_;have:=L l[c] (b7 i);rw[a1 (aI (show¬al (l[c]).2.2.1>64 by grind))];grind [bu]
  rintro _ rfl;dsimp only;rw[bf,a1 (aI (aa:¬((l.length:Z)<(l.length:Z))))];grind [bu]
 grind [bu]
def KJ (d:n<=5) (c:hJ n n st B C) (a:gz n n st B C=0) (e:gx o n) (b:hq (kz n (gE (c6 st B C n)) o) l):oV (((n:Z),(n:Z),st,B,C,()),o,l,())=Y (kV (jV (c6 st B C n) o) o l)/\pZ (((n:Z),(n:Z),st,B,C,()),o,l,())=Y (kV (jV (c6 st B C n) o) o l)/\sa (kV (jV (c6 st B C n) o) o l).1:=
 R2 (mI.OH d a) c a e b
theorem R1 (e:hJ b a st B C) (f:o.length<=1000000) (c:lH b a st B C o≠0) (l:iu):oV (((b:Z),(a:Z),st,B,C,()),o,l,())=Y (mw,lH b a st B C o,())/\pZ (((b:Z),(a:Z),st,B,C,()),o,l,())=Y (mw,lH b a st B C o,()):=by
 have d:(lH b a st B C o !=0)=bp:=(by grind);constructor
 ·unfold oV;refine ai (Sf e f c) ?_;dsimp only;rw[aY d];rfl
 unfold pZ;refine ai (abU e f c l) ?_;dsimp only;rw[aY d];rfl
end
end
section
section
variable {σ ρ:Type} {f:σ->bv (σ⊕ρ)}
def lB {a s':σ} (b:f a=Y (.inl s')):loop f a=loop f s':=by
 conv=>lhs;rw[Et]
 rw[b]
def nH {b:σ} {a:ρ} (c:f b=Y (.inr a)):loop f b=Y a:=by rw[Et,c]
end
def ly:eH:=([0,1],([2],([0,4607182418800017408,0],([0,0,0],([],([],(0,())))))))
def E7 {f:Type} {c:bm i} {v:i} (a:ao c n=Y v) (b:i->bv f):rd c n b=b v:=by
 unfold ao at a;split at a
 ·rename_i d;have e:=(hH.1 a).1;unfold rd bj;rw[au ⟨d,e⟩,aD,gj a,aD]
 cases a
def U3:CE ([0,1],())=Y (bp,()):=by unfold CE;dsimp only;refine ai (y:=2) (by kernel_rfl) (ai (y:=.inl ()) ?_ bn);exact(lB (s':=(1,[bp,bq],())) (by kernel_rfl)).trans ((lB (s':=(2,[bp,bp],())) (by kernel_rfl)).trans (nH (by kernel_rfl)))
def U9:CF (ly,())=Y ([0],bp,()):=by unfold CF;dsimp only;refine ai (y:=.inl (2,3,[0],())) ?_ (by kernel_rfl);exact(lB (s':=(2,3,1,[0],())) (by kernel_rfl)).trans (nH (by kernel_rfl))
def U7:Cw (ly,[0],())=Y (bp,()):=by
 unfold Cw;dsimp only;refine ai (y:=.inl ()) (by kernel_rfl) ?_;dsimp only;refine ai (y:=.inl ()) ?_ bn;refine(lB (s':=(1,())) ?_).trans (nH (by kernel_rfl));rw[aY (by kernel_rfl)];refine ai (y:=0) rfl (ai (y:=2) rfl (ai (y:=.inl ()) ?_ (by kernel_rfl)));have i:∀a:Z,a=0\/a=1->(bB (α:=bt⊕pH) (
 bB (α:=bt⊕(bt⊕pH)) (
 (ao ly.2.2.2.1 a).bind λp=>
 (ao ly.2.2.2.1 (aP a)).bind λl=>
  bif br (p>l)==bq then(ao ly.2.2.2.1 (aP a)).bind λm=>
  bif br (m>al ly.2.2.2.2.1) then
 Y (.inr (.inr (.inr (.inr (.inr (.inr (bq,()))))))) else
 Y (.inl ()) else Y (.inr (.inr (.inr (.inr (.inr (.inr (bq,())))))))) λb=>match b with
 |.inl _=>(
 (ao ly.2.2.2.1 a).bind λn=>
 (ao ly.2.2.2.1 (aP a)).bind λo=>
 ((gu n).bind λg=>(gu o).bind λh=>(g9 g h (ly.2.2.2.2.1).length).map λ_=>(g,h)).bind λd=>
 (loop (σ:=wm) (ρ:=(bt⊕(bt⊕pH))) (λ(j,e,_)=>
  bif br (e<al (((ly.2.2.2.2.1).take d.2).drop d.1)) then(
 bB (α:=eX⊕(wm⊕(bt⊕(bt⊕pH)))) (
 (ao (((ly.2.2.2.2.1).take d.2).drop d.1) e).bind λf=>
 bB (α:=bt⊕(eX⊕(wm⊕(bt⊕(bt⊕pH))))) (bif br (f<=j)==bq then bif br (f>=al ly.1) then
 Y (.inr (.inr (.inr (.inr (.inr (.inr (.inr (.inr (.inr (bq,())))))))))) else
 Y (.inl ()) else Y (.inr (.inr (.inr (.inr (.inr (.inr (.inr (.inr (.inr (bq,()))))))))))) λb=>match b with
 |.inl _=>(
 Y (.inl (f,())))
 |.inr c=>Y c) λb=>match b with
 |.inl (k,_)=>(
 Y (.inl (k,aP e,())))
 |.inr c=>Y c) else
 Y (.inr (.inl ()))) (ax (ax (0+2)-1),0,())).bind λb=>match b with
 |.inl _=>(
 Y (.inl ()))
 |.inr c=>Y c)
 |.inr c=>Y c) λb=>match b with
 |.inl _=>(
 Y (.inl (aP a,())))
 |.inr c=>Y c)=Y (.inl (aP a,())):=by
  rintro a (rfl|rfl)
  ·refine ai (y:=.inl ()) (ai (y:=.inl ()) (by kernel_rfl) ?_) rfl;dsimp only;refine ai (y:=0) rfl (ai (y:=0) (by kernel_rfl) (ai (y:=(0,0)) (by kernel_rfl) (ai (y:=.inl ()) (nH (by kernel_rfl)) rfl)))
  refine ai (y:=.inl ()) (ai (y:=.inl ()) (by kernel_rfl) ?_) rfl;dsimp only;refine ai (y:=0) (by kernel_rfl) (ai (y:=0) (by kernel_rfl) (ai (y:=(0,0)) (by kernel_rfl) (ai (y:=.inl ()) (nH (by kernel_rfl)) rfl)))
 refine(lB (s':=(1,())) ?_).trans ((lB (s':=(2,())) ?_).trans (nH (by kernel_rfl)))
 ·rw[aY (by kernel_rfl)];exact i 0 (.inl bn)
 rw[aY (by kernel_rfl)];exact i 1 (.inr bn)
def MP:nz (0,())=Y (bp,()):=by rw[Af (f:=0) ⟨ab,ab⟩];rfl
def Vr:nz (4607182418800017408,())=Y (bp,()):=by rw[Af (f:=4607182418800017408) ⟨ab,ab⟩];rfl
def Ye:jT (4607182418800017408,())=Y (ay (a6 4607182418800017408),()):=qb ⟨ab,ab⟩
def Az:a6 0=Y 0:=by decide
def MG:∃g:Z,kR [0,4607182418800017408,0]=Y g/\g<0:=by obtain⟨b,a⟩:∃b:X,b=65536:=⟨_,bn⟩;have e:cE 4607182418800017408≠2047:=ab;obtain⟨n,p,q,h,aq,c,i,d⟩:=cS.mul a (aky a e) (aky a e) ab ab ab;have m:a6 4607182418800017408=Y (1*2^b):=(by rw[a];exact v1);rw[m] at aq c;have aq:=gC aq;have c:=gC c;have l:(0:Z)<2^b:=m9 ab;rw[<-aq,<-c] at d;simp only[akk] at d;have o:h=2^b:=Int.eq_of_mul_eq_mul_right (anu l) d;have j:=(cS.add a ab (cS.mul a (aky a (f:=0) ab) (aky a (f:=0) ab) ab ab ab).1 n.neg ab).2;refine⟨_,j,?_⟩;have k:cT (a6 0) (a6 0)=Y 0:=(by rw[Az];rfl);rw[k,i];show 0+-h<0;omega
def MH:zi (ly,())=Y ([[ay (a6 0),ay (a6 4607182418800017408),ay (a6 0)]],()):=by
 have c:jT (0,())=Y (ay (a6 0),()):=qb ⟨ab,ab⟩;unfold zi;dsimp only;generalize f:ay (a6 0)=a at*;generalize d:ay (a6 4607182418800017408)=b;have e:jT (4607182418800017408,())=Y (b,()):=(by rw[<-d];exact Ye);refine ai (y:=([[a,b,a]],())) ?_ bn;refine(lB (s':=(3,1,[[a,b,a]],())) ?_).trans (nH (by kernel_rfl));dsimp only;rw[aY (by kernel_rfl)];refine ai (y:=2) rfl (ai (y:=(3,[],[a,b,a],())) ?_ (by kernel_rfl));refine(lB (s':=(1,1,[],[a],())) ?_).trans ((lB (s':=(2,2,[],[a,b],())) ?_).trans ((lB (s':=(3,3,[],[a,b,a],())) ?_).trans (nH (by kernel_rfl))))
 ·dsimp only;rw[aY (by kernel_rfl)];exact ai (y:=0) rfl (ai c (by kernel_rfl))
 ·dsimp only;rw[aY (by kernel_rfl)];exact ai (y:=4607182418800017408) rfl (ai e (by kernel_rfl))
 dsimp only;rw[aY (by kernel_rfl)];exact ai (y:=0) rfl (ai c (by kernel_rfl))
def U6:Cs (ly,())=Y (0,()):=by
 obtain⟨f,j,h⟩:=MG;have g:=Hj (a:=0) (b:=4607182418800017408) (d:=0);have i:mR (ay (kR [0,4607182418800017408,0]),())=Y (-1,()):=(by rw[oX (show cM (kR [0,4607182418800017408,0]) from kQ _ _),j];show Y (gB f,())=_;unfold gB;rw[cn aa,cb h]);unfold Cs;dsimp only;refine ai (y:=.inl ()) ?_ ?_
 ·rw[a1 (by kernel_rfl)];refine ai U3 ?_;dsimp only
  kernel_rfl
 dsimp only;refine ai U9 ?_;dsimp only;refine ai (y:=.inl ()) ?_ ?_
 ·rw[aY (by kernel_rfl),aY (by kernel_rfl)];refine ai U7 ?_;rfl
 dsimp only;refine ai (y:=.inl ()) ?_ ?_
 ·refine(lB (s':=(1,[[],[0,4607182418800017408,0]],())) ?_).trans ((lB (s':=(2,[[],[0,4607182418800017408,0]],())) ?_).trans (nH (by kernel_rfl)))
  ·dsimp only;rw[aY (by kernel_rfl),E7 (v:=[]) rfl];exact ai (y:=.inl ([[],[0,4607182418800017408,0]],())) (nH (by kernel_rfl)) rfl
  dsimp only;rw[aY (by kernel_rfl),E7 (v:=[0,4607182418800017408,0]) rfl];refine ai (y:=.inl ([[],[0,4607182418800017408,0]],())) ?_ bn;refine(lB (s':=(1,[[],[0,4607182418800017408,0]],())) ?_).trans ((lB (s':=(2,[[],[0,4607182418800017408,0]],())) ?_).trans ((lB (s':=(3,[[],[0,4607182418800017408,0]],())) ?_).trans (nH (by kernel_rfl))))
  ·dsimp only;rw[aY (by kernel_rfl)];exact ai (y:=0) rfl (ai MP (by kernel_rfl))
  ·dsimp only;rw[aY (by kernel_rfl)];exact ai (y:=4607182418800017408) rfl (ai Vr (by kernel_rfl))
  dsimp only;rw[aY (by kernel_rfl)];exact ai (y:=0) rfl (ai MP (by kernel_rfl))
 dsimp only;refine ai MH ?_;dsimp only;generalize ay (a6 0)=c at*;generalize ay (a6 4607182418800017408)=e at*;generalize ay (kR [0,4607182418800017408,0])=k at*;refine ai (y:=.inl ()) ?_ bn;refine(lB (s':=(1,[[c,e,c]],())) ?_).trans (nH (by kernel_rfl));dsimp only;rw[aY (by kernel_rfl)];refine ai (y:=.inl ([[c,e,c]],())) ?_ (by kernel_rfl);rw[E7 (v:=[c,e,c]) rfl,aY (by kernel_rfl)];refine ai g (ai i ?_)
 kernel_rfl
def Vc:Cu (ly,())=Y ((1,(0,(1,()))),0,()):=by
 obtain⟨f,k,h⟩:=MG;have g:=Hj (a:=0) (b:=4607182418800017408) (d:=0);have j:mR (ay (kR [0,4607182418800017408,0]),())=Y (-1,()):=(by rw[oX (show cM (kR [0,4607182418800017408,0]) from kQ _ _),k];show Y (gB f,())=_;unfold gB;rw[cn aa,cb h]);have i:mR (ay (a6 0),())=Y (0,()):=(by rw[oX (gA _),Az];rfl);unfold Cu;dsimp only;refine ai U6 ?_;dsimp only;rw[a1 (by kernel_rfl)];refine ai MH ?_;dsimp only;generalize ay (a6 0)=c at*;generalize ay (a6 4607182418800017408)=e at*;generalize ay (kR [0,4607182418800017408,0])=l at*;refine ai (y:=((0,(0,(0,()))),(1,(0,(1,()))),())) ?_ bn;refine(lB (s':=(1,(0,(0,(0,()))),(1,(0,(1,()))),[[c,e,c]],())) ?_).trans (nH (by kernel_rfl));dsimp only;rw[aY (by kernel_rfl)];refine ai (y:=((0,(0,(0,()))),(1,(0,(1,()))),[[c,e,c]],())) ?_ (by kernel_rfl);rw[E7 (v:=[c,e,c]) rfl];refine ai (y:=c) rfl (ai i ?_);dsimp only;refine ai (y:=.inr ((0,(0,(0,()))),(1,(0,(1,()))),[[c,e,c]],())) ?_ bn;rw[aY (by kernel_rfl)];refine ai g (ai j ?_)
 kernel_rfl
end
abbrev mZ:Z:=4607182418800017408
def adG:hJ 2 2 [0,1,1] [1] [mZ] where
 hr:=by decide
 hc:=by decide
 hi:=by decide
 hs:=by decide
 hv:=by decide
 hw:=λb a=>by rw[gp.1 a];exact⟨ab,ab⟩
def adH:gq 2 2 [0,1,1] [1] [mZ] where
 len:=rfl
 first:=rfl
 mono:=λb e=>by have:b=0\/b=1:=aa;rcases this with rfl|rfl<;>decide
 last:=rfl
 val:=rfl
 rng:=λb a e c d=>by
  have:b=0\/b=1:=aa;rcases this with rfl|rfl
  ·change(0:Z)<=a at c;change(a:Z)<1 at d;have:a=0:=aa;subst this;exact⟨ab,ab⟩
  change(1:Z)<=a at c;change(a:Z)<1 at d;omega
 asc:=λb a e c d=>by
  have:b=0\/b=1:=aa;rcases this with rfl|rfl
  ·change(0:Z)<a at c;change(a:Z)<1 at d;omega
  change(1:Z)<a at c;change(a:Z)<1 at d;omega
def adA:gz 2 2 [0,1,1] [1] [mZ]=0:=by refine jE.2 ⟨adH,λa b=>?_⟩;have:a=0:=(by have:([mZ]:aif).length=1:=rfl;omega);subst this;decide
def J3:bm cU:=[(1,0,mZ,())]
def Q6:c6 [0,1,1] [1] [mZ] 2=J3:=rfl
def Q8:kz 2 (gE J3) [0,1]=HC:=by decide
def vI:bm df:=[(0,(2,([0,1],((-1:Z),()))))]
def adE:hq HC vI:=by
 refine⟨⟨λa b=>?_,bn⟩,λa b=>?_,λa b=>?_,λh c i l=>?_⟩
 ·have b:a<1:=b;obtain rfl:a=0:=aa;exact⟨_,bn,bn,ab,ab⟩
 ·have j:a<1:=b;obtain rfl:a=0:=aa;refine⟨(by decide:2<=2),λc _ g d=>?_⟩;have g:c<2:=g;have:c=0\/c=1:=aa;rcases this with rfl|rfl
  ·exact⟨λ_=>rfl,λd=>absurd (show 2<=0 from d) ab⟩
  exact⟨λ_=>rfl,λd=>absurd (show 2<=1 from d) ab⟩
 ·have j:a<1:=b;obtain rfl:a=0:=aa;exact .inl ⟨bn,bn⟩
 have k:fj HC:=(by rw[<-Q8];exact Ab _ _ _);obtain⟨e,f⟩:=i.lt k;have e:h<2:=e;have f:c<2:=f;obtain rfl:h=0:=aa;obtain rfl:c=1:=aa;decide
abbrev Fu:X->X->ah9:=jV J3 [0,1]
def Ql:k5 (a6 mZ) 0=mZ:=by rw[v1,DQ (a:=0) ab ab];decide
def Qm:k5 (a6 0) 0=0:=by rw[Az];rfl
def il:aV:=hR Fu vI (λa=>([]:bm aV).getD a ho) 0
def vJ:il.rows=[0,1]:=by decide
def J4:il.full=2:=by decide
def J5:il.bh 0 0=0:=Qm
def Q9:il.bh 0 1=mZ:=Ql
def J6:il.bh 1 0=mZ:=Ql
def J7:il.bh 1 1=0:=Qm
def Q7 (a:X) (c:a=0\/a=1):il.fin a:=by
 unfold aV.fin;rw[vJ];intro d b;simp only[fR,List.not_mem_nil,or_false] at b;rcases c with rfl|rfl<;>rcases b with rfl|rfl
 ·rw[J5];decide
 ·rw[J6];decide
 ·rw[Q9];decide
 rw[J7];decide
def adB:il.choose=Y [0,1]:=by
 obtain⟨a,l⟩:∃a:X,a=65536:=⟨_,bn⟩;have g:a6 mZ=Y (1*2^a):=(by rw[l];exact v1);have c:(0:Z)<2^a:=m9 ab;have d:il.av 0 0=0:=(by unfold aV.av;rw[J5,Az];rfl);have j:il.av 1 1=0:=(by unfold aV.av;rw[J7,Az];rfl);have i:il.av 1 0=2^a:=(by unfold aV.av;rw[J6,g,r8,akk];exact anx (fr c));have h:il.av 0 1=2^a:=(by unfold aV.av;rw[Q9,g,r8,akk];exact anx (fr c));have e:il.fg 0=(2^a,Y 1):=(by unfold aV.fg;rw[vJ];show(il.av 1 0,Y 1)=_;rw[i]);have k:il.fg 1=(2^a,Y 0):=(by unfold aV.fg;rw[vJ];show(il.av 0 1,Y 0)=_;rw[h]);unfold aV.choose;have f:il.rows.take il.full=[0,1]:=(by rw[vJ,J4];rfl);rw[f,aV.gL,az (aii (Q7 0 (.inl bn))),az (by
  rw[e,d];intro b;rcases b with b|b
  ·dsimp only at b;omega
  dsimp only at b;omega)]
 rw[e];dsimp only;rw[cn (aii (by rw[f];decide)),cn (aii (Q7 1 (.inr bn))),cn (by
  rw[d,qx,akj];have:=qw c c;omega),az (by
  rw[k,j];dsimp only;omega)]
def UE (b:aV) (a:aie):(b.elim a).rows=b.rows.filter λc=>br (c∉a):=rfl
def UC (b:aV) (a:aie):(b.elim a).full=b.full-a.length:=rfl
def PX (b:aV) (a:aie):(b.eM a).rows=b.rows.filter λc=>br (c∉a):=rfl
def abH (c:aV) (a b:X):(c.eM [a,b]).d=[c.bh a a,c.bh b a,c.bh b b]:=rfl
def abI (e:aV) (c d:X):∃a b,(e.eM [c,d]).l=[a,b]:=⟨_,_,bn⟩
def abG (b:aV) (a:aie):(b.eM a).cF=a:=rfl
def adF:aiR 3 il=Y (il.elim [0,1],[il.eM [0,1]]):=by
 have a:([0,1]:aie).filter (λc=>br (c∉[0,1]))=[]:=ab;have e:(il.elim [0,1]).rows=[]:=(by rw[UE,vJ,a]);rw[x3 adB ab,au (by
  intro f _ c b;rw[PX,vJ,a] at b;cases b)]
 have d:(il.elim [0,1]).choose=Y []:=(by unfold aV.choose;rw[e,List.take_nil,aV.gL]);rw[Fm d];rfl
def Vj {a:a8} {b c:X->Z} (g:a.rows=[]) (h:a.d=[0,mZ,0]) (i:a.l=[b,c]) (e:a.cF=[0,1]):ri [0,1] [a] 0=ly:=by unfold ri;have k:[a].flatMap b3=[([],b),([],c)]:=(by rw[akw,akx,mK];unfold b3;rw[i,g];rfl);have j:[a].flatMap a8.cF=[0,1]:=(by rw[akw,akx,mK,e]);have m:[a].flatMap (·.d)=[0,mZ,0]:=(by rw[akw,akx,mK,h]);have n:[a].map (λa=>(a.cF.length:Z))=[2]:=(by rw[r3,e];rfl);rw[k,j,m,n];generalize(λo=>([0,1]:aie).idxOf o)=f;have p:∀q:X->Z,mD f []=[]:=λ_=>rfl;rfl
def adC:h4 Fu vI 1=Y ([il.elim [0,1]],[il.eM [0,1]]):=by have b:hR Fu vI (λa=>([]:bm aV).getD a ho) 0=il:=rfl;rw[h4,h4,bM];dsimp only;rw[b,J4,adF,ajZ,al1,al1]
def Vm {o:aif} {b:bm df} {d:bm aV} (f:b.length=a) (e:h4 l b a=Y (d,c)):kV l o b=(ri o c (kv d:Z),0,()):=by subst f;unfold kV;rw[e]
def adD:kV Fu [0,1] vI=(ly,0,()):=by have a:([0,1]:aie).filter (λd=>br (d∉[0,1]))=[]:=ab;have c:(kv [il.elim [0,1]]:Z)=0:=(by unfold kv;rw[r3,UC,J4];rfl);obtain⟨e,f,b⟩:=abI il 0 1;rw[Vm (o:=[0,1]) (show vI.length=1 from rfl) adC,c,Vj (by rw[PX,vJ,a]) (by rw[abH,J5,J6,J7]) b (abG _ _)]
def To:C7 ()=Y (bp,()):=by unfold C7;refine ai (y:=((2,(2,([0,1,1],([1],([mZ],()))))),())) rfl ?_;dsimp only;obtain⟨a,_,_⟩:=KJ (n:=2) ab adG adA U8 (l:=vI) (by rw[Q6,Q8];exact adE);rw[Q6,adD] at a;refine ai a ?_;dsimp only;refine ai Vc ?_;dsimp only;rw[aY (by rfl),aY (by rfl)];refine ai (FQ _ _ ab) ?_;rfl
def abp (g:h.length<=9223372036854775807) (f j:Z) (k:bA):ae (C8 (h,f,j,k,())) λw=>
 ∃(a:X) (d b e c:aif) (i:iu),a<=5/\hJ a a d b e/\c.length=a/\w=(((a:Z),(a:Z),d,b,e,()),c,i,())/\(lH a a d b e c=0->hq (kz a (gE (c6 d b e a)) c) i):=by
 unfold C8;refine bz (At f (n:=6) ab ab) ?_;have y:=ED f (n:=6) ab;dsimp only;generalize s8 f 6=a at*;refine bD (R8 g (aa:a<=5) (aa:a<=5) j) ?_;rintro⟨x,_⟩ r;dsimp only;refine bD (P:=λt=>rW a a t.2.1) ?_ ?_
 ·cases k with
  |true=>
   rw[bG];refine bD (RT g (n:=a) aa j) ?_;rintro⟨p,_⟩ q;exact bu.2 q
  |false=>
   rw[bP];exact bu.2 r
 rintro⟨_,p,_⟩ l;dsimp only at l|-;refine bD (Sh g (n:=a) aa) ?_;rintro⟨c,_⟩ m;dsimp only at m|-;obtain⟨d,b,e,rfl,aw,u,v⟩:=l.ex;have o:=rW.small (aa:a<=5) (aa:a<=5) aw u v;refine bD (M6 (aa:a<=5) o g) ?_;rintro _ ⟨i,rfl,_,_,s⟩;exact bu.2 ⟨a,d,b,e,c,i,aa,o,m,bn,s⟩
def KI {c b d:aif} {f:iu} (o:a<=5) (k:hJ a a c b d) (r:h.length=a) (m:lH a a c b d h=0->hq (kz a (gE (c6 c b d a)) h) f):∃e g,sa e/\oV (((a:Z),(a:Z),c,b,d,()),h,f,())=Y (e,g,())/\pZ (((a:Z),(a:Z),c,b,d,()),h,f,())=Y (e,g,()):=by
 by_cases j:lH a a c b d h=0
 ·obtain⟨n,_,p⟩:=JZ j;obtain⟨i,f2,l⟩:=KJ o k n p (m j);generalize kV (jV (c6 c b d a) h) h f=q at*;obtain⟨e,g,_⟩:=q;exact⟨e,g,l,i,f2⟩
 obtain⟨i,f2⟩:=R1 k aa j f;exact⟨_,_,Oz,i,f2⟩
def Sb (g:aif) (f h:Z) (d:bA) (c:aif) (m:g.length<=9223372036854775807) (l:c.length<=9223372036854775807):G9 (g,f,h,d,c,())=Y (bp,()):=by unfold G9;refine bQ.1 ?_;refine bD (abp m f h d) ?_;rintro _ ⟨u,y,t,A,x,v,a,b,e,rfl,k⟩;dsimp only;obtain⟨s,r,i,f2,j⟩:=KI a b e k;refine bz f2 (bz j ?_);dsimp only;refine bD (M6 a b l) ?_;rintro _ ⟨w,rfl,_,_,n⟩;dsimp only;obtain⟨B,z,o,p,q⟩:=KI a b e n;refine bz p (bz q ?_);dsimp only;rw[aY ac];refine bz (QI i) ?_;dsimp only;rw[aY (by rfl),aY ac];refine bz (QI o) ?_;dsimp only;rw[aY (by rfl)];exact bz To (bu.2 bn)
end Go.jg
end
