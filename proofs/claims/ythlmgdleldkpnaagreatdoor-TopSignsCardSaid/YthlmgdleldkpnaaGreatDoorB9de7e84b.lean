/-
  Parts of the proof: Pl41, Pl42, Pl43, Pm13, Pl45, Pl46, Pl48, Pl50, Pl51, Pl54, Pm14, Pm15, Pm16, Pm17, Pm18, Pm22, Pm24, Pm26, Pm27, Pm29, Pm30, Pm31, Pm32, Pm34, Pm51, Pm52, Pm54, Pm55, Pm57, Pm70, Pm71, Pm72, Pm73, Pm74, Pm75, Th5, Th6, Pm82, Pm83, Pm90, Pm38, Pm41, Pm42, Pm91, Pm84, Pm85, Pm86, Pm87, Pm88, Pm92, Pm93, Pm94, Pm95, Pm89, Pm97, Pm99, Pm100, Pm98, Pm101, Pm102, Pm103, Pm104, Pm105, Pm106, Pm96, Pm107, Pm45, Pm46, Pm47, Pm48, Pm49, Pm108, Pm117, Pm118, Pm119, Pm120, Pm121, Pm122, Pm123, Pm124, Pm125, Pm126, Th7, Pm127, Pm129, Pm130, Pm132: the framework (Fw), pure forms (Dn), plain laws (Pl, Th), calls of functions (Ok).
-/
import Derived.Test.YthlmgdleldkpnaaGreatDoorB4752a5c1

set_option linter.all false
set_option maxHeartbeats 1000000
open _root_ renaming Nat->X,Int->Z,Bool->bD,Option->bv,List->bp,Unit->bz,cond_true->bI,decide_eq_decide->amD,rfl->bq,congrArg->b9,cond_false->bQ,not_true_eq_false->aoq,if_true->cq,not_not_intro->anb,beq_self_eq_true->am2,decide_eq_true_eq->amV,Decidable->am9,if_pos->cc,if_neg->b6,decide_eq_true->amA,decide_eq_false_iff_not->aqK,of_decide_eq_true->aoH,decide_eq_false->amT,or_false->an1
open Go.Lib renaming compact->anq,keeps->apx
open List renaming range->bK,pairwise_iff_getElem->amx,getElem_inj->apy,length_range->aoV,filter_eq_self->an5,length_filter_le->am4,replicate->bM,range_succ->am7,mem_iff_getElem->ani,take_add_one->amG,getElem?_eq_getElem->bZ,getElem_mem->ca,take_of_length_le->amz,mem_cons_self->aop,map_congr_left->amU,mem_of_find?_eq_some->arR,take_sublist->apv,nodup_append->ap0,mem_singleton->amF,map_append->aqD,take_length->amy,decidableBAll->arU,filter->aoI,length_pos_of_mem->arW,getElem?_eq_some_iff->anL,pairwise_lt_range->aqo,flatMap_def->arX,range'->amP,filter_append_perm->aqJ,Nodup->apA,range_eq_range'->aqL,flatMap->apB,eq_nil_iff_forall_not_mem->arY,filter_nil->apw,append_assoc->aoo,mem_take_iff_getElem->aoT,mem_append_right->ape,getElem?_inj->ao7,length->cE,takeWhile_append_dropWhile->aqM,foldl_cons->apC,length_map->cb,mem_of_mem_take->ar0,range'_concat->ar1,nodup_range->aqN,mem_range->aor,mem_filter->apD,length_append->amX,length_singleton->aoW,dropWhile_sublist->ar2,pairwise_cons->aoz,mem_flatMap->aoX,mem_map->apE,getElem_idxOf->apF,length_take->am5,getElem?_eq_none->aoi,length_range'->ar3,filter_map->apS,map_singleton->ar4,take_zero->aoP,flatMap_nil->ar5,length_cons->aqn,sum_cons->aqO,sum_append->ar6,getD_eq_getElem?_getD->aoY,filter_eq_nil_iff->apu,mem_append_left->aqd,ext_getElem->aoJ,mem_cons_of_mem->an2
open Bool renaming true->bt,false->bu,false_and->ap5,and_true->aoF,true_and->aoE
open Nat renaming lt_or_ge->cw,ble->b5,ble_eq_true_of_le->arQ,le_refl->cj,le_trans->cC,mul_add_div->aqE,div_eq_of_lt->apt,add_assoc->apz,add_comm->anO,le_div_iff_mul_le->aqq,mod_lt->anT,and_two_pow_sub_one_eq_mod->aqp,lt_succ_self->aos,beq->bL,add_sub_cancel->aqv
open Option renaming some->Y,bind_some->bT,map_some->aoS,bind->bE,none->br
open Decidable renaming decide->bw,not_not->ar7
open Go.j5.ah renaming eq_iff->bR,aO->bJ,ai->bA,steps->bS,bs->bC,loop->am3,ite->anH
open Int renaming toNat_natCast->am8,eq_ofNat_of_zero_le->cD,toNat->amZ,mul_ne_zero->arT,natAbs->aqI,natAbs_natCast->aqB,mul_comm->aon,lt_irrefl->arZ,sub_zero->apo,add_zero->aoN
open List.Pairwise renaming map->ass,sublist->arO,imp_of_mem->asv,nil->aoy,imp->asw
open Go.IntKind renaming i64->bN,u64->bG
open Go.j5 renaming wrap64->cA
open List.Perm renaming refl->aoU,append_left->apg
open List.Nodup renaming sublist->arS
open List.Sublist renaming append->ast,refl->asu
open Classical renaming not_not->arV
open Option.some renaming inj->am0,injEq->anV
open BitVec renaming ofInt->cl
open Rat renaming intCast_inj->aqP,intCast_lt_intCast->aqQ
noncomputable section
namespace Go.j5
variable{a b i u:X}{c j w:Z}{d s t O:amv}{f N:amu}{g n:X->X->bD}{k:Type}{m:bv (Z×((bp aU×bz)×(bp (bv (bp (Z×cY)×X))×bz)))}{o:bp (bp gG)}{q:ez}{r:X->X}{v:bp (bv (bp (Z×cY)×X))}{x:amp}{z:X->eS}{P:Z->bv (cY×bz)}
section
open Go
theorem Xm (h:d.Pairwise (· <= ·)):(anq d).length<d.length↔¬d.Nodup:=by
 have g:(anq d).length=((bK d.length).filter (apx d.toArray)).length:=(by simp[anq,Lib.compactUpTo]);have e:(∀a,a<d.length->apx d.toArray a=bt)↔d.Nodup:=by
  have f:∀a,(b:a<d.length)->(apx d.toArray a=bt↔a=0\/d[a]≠d[a-1]):=λa b=>(by grind [apx]);constructor
  ·intro b;have c:d.Pairwise (· < ·):=by
    grind [amx,B8]
   exact c.imp (λb=>by omega)
  grind [apy]
 grind [cw,aoV,List.length_filter_eq_length_iff,an5,am4]
def ah0 (a:amv) (e:a.length<=12):D2 (a,())=Y (bw (¬a.Nodup),()):=by obtain⟨c,g,h,b⟩:=VE a e;have f:=b.length_eq;unfold D2 CE;simp only[g,jT,aM];rw[show b5 a.length 1000000=bt from arQ aa];simp only[bI];rw[show b5 c.1.length 1000000=bt from arQ aa];simp only[bI,jT];have d:bw ((anq c.1).length<a.length)=bw (¬a.Nodup):=(by rw[amD,<-f,Xm h,b.nodup_iff]);rw[d]
def iB (a:X) (b:X->X->bD):ew:=aA a λc=>aA a (b c)
theorem BP (a:X) (b:X->X->bD):(iB a b).length=a:=cI a _
def QS (d:∀b c,b<a->c<a->g b c=n b c):iB a g=iB a n:=db λb e=>db λc f=>d b c e f
theorem Nc (a:X) (e:a<=4294967296):AC ((a:Z),())=Y (iB a λ_ _=>bu,()):=by
 unfold AC;simp only[];rw[jq e];simp only[aM];refine aq (y:=(iB a λ_ _=>bu,())) (BL a (λd=>(aA a (λb=>if b<d then bM a bu else[]),())) 0 bq ?_ (eU _) ?_ ?_) rfl
 ·rw[jV];simp
 ·intro d _ f;simp(disch:=omega) only[cI,rT,de,ay,aM,e4,hb,hq,lV];congr 4;refine db λb c=>?_;simp only[eK];grind
 simp only[rT,de];rw[aw aa];congr 2;refine b9 (·,()) (db λb c=>?_);rw[ay c,jV]
theorem M8 {n:X} {B:X->X->bD} {i j:X} (k:i<n) (l:j<n):AF (iB n B,(i:Z),(j:Z),())=Y (iB n (λa b=>B a b||(bw (i≠j)&&((bw (a=i)&&bw (b=j))||(bw (a=j)&&bw (b=i))))),()):=by
 unfold AF;simp only[fZ];by_cases e:i=j
 ·simp_all
 rw[aG (aa:¬((i:Z)=(j:Z)))];unfold iB;simp(disch:=omega) only[oK,bI,cI,e4,aM,hb,jT,hq];rw[show eK (λg=>aA n (B g)) i (aA n (eK (B i) j bt)) j=aA n (B j) from gS _ _ (λd=>e d.symm)];simp(disch:=omega) only[cI,e4,aM,hb,jT,hq];congr 2;refine db λa h=>?_;simp only[eK];by_cases c:a=j
 ·rw[ay c,c];grind [db,eK]
 rw[aw c];by_cases f:a=i
 ·subst f;rw[ay bq];grind [db,eK]
 simp_all
theorem Vl (j:b<=4294967296) (f:a<b):DZ (iB b g,(a:Z),())=Y (c8 ((bK b).filter (g a)),()):=by
 unfold DZ;simp only[];rw[show az (iB b g) (a:Z)=Y (aA b (g a)) from sv f];simp only[aM];refine aq (y:=(c8 ((bK b).filter (g a)),())) (BL b (λc=>(c8 ((bK c).filter (g a)),())) 0 bq rfl (eU _) ?_ ?_) rfl
 ·intro c _ h;have i:(c8 ((bK c).filter (g a))).length<=c:=(by grind [am4,jX]);have e:c8 ((bK (c+1)).filter (g a))=if g a c=bt then c8 ((bK c).filter (g a))++[(c:Z)] else c8 ((bK c).filter (g a)):=by
   grind [am7,wB,c8]
  simp(disch:=omega) only[cI,de,ay,sv,aM,lV];rw[e];by_cases d:g a c=bt
  ·rw[ay d,d,fe ae];rfl
  grind
 simp_all [cI,de,aw]
def kI (a:X) (b:X->X->bD):ez:=aA a λc=>c8 ((bK a).filter (b c))
theorem M6 (e:a<=4294967296):AE (iB a g,())=Y ((kI a g,()),()):=by
 unfold AE;simp only[BP];rw[jq e];simp only[aM];refine aq (y:=(([],()),(kI a g,()),())) (BL a (λd=>(([],()),(aA a (λb=>if b<d then c8 ((bK a).filter (g b)) else[]),()),())) 0 bq ?_ (eU _) ?_ ?_) rfl
 ·rw[jV];simp
 ·intro d _ f;simp(disch:=omega) only[de,ay,Vl,aM,cI,e4,hb,jT,hq,lV];congr 6;refine db λb c=>?_;simp only[eK];grind
 simp only[de];rw[aw aa];have:(aA a λb=>if b<a then c8 ((bK a).filter (g b)) else[])=kI a g:=db λb c=>(by rw[ay c]);grind
end
section
open Go
def fX (a:amv) (b:X):Prop:=a.length=b/\(∀c∈a,0<=c/\c<(b:Z))/\a.Nodup
open Classical in
theorem Vu (a:amv) (c:X) (s:c<=4294967296):EU (a,(c:Z),())=Y (bw (fX a c),()):=by
 unfold EU;simp only[fZ];by_cases m:a.length=c
 ·rw[aJ (aa:(((a.length:X):Z)=(c:Z)))];simp only[iI,bQ,jq s,aM,jV];rw[<-bR];refine bJ (P:=λu=>match u with|.inl _=>fX a c|.inr v=>v=(bu,())/\¬fX a c) ?_ ?_
  ·refine ah.for c (λb w=>w=(aA c (λp=>bw ((p:Z)∈a.take b)),())/\(∀e,(d:e<a.length)->e<b->0<=a[e]/\a[e]<(c:Z))/\(a.take b).Nodup) (i0:=0) rfl ⟨ac,λe _ d=>by omega,ac⟩ (eU _) ?_ ?_
   ·rintro b _ _ x ⟨rfl,t,q⟩;have l:b<a.length:=aa;have k:az a (b:Z)=Y a[b]:=gj (cH l);have o:a[b]∈a:=cT l;simp(disch:=omega) only[de,ay,k,aM,DB];by_cases i:a[b]<0
    ·rw[ay i];exact bA.2 ⟨bq,λd=>by have:=d.2.1 _ o;omega⟩
    rw[aw i];by_cases j:a[b]>=(c:Z)
    ·rw[ay j];exact bA.2 ⟨bq,λd=>by have:=d.2.1 _ o;omega⟩
    rw[aw j];obtain⟨f,h⟩:∃f:X,a[b]=(f:Z):=⟨a[b].toNat,aa⟩;have B:f<c:=aa;rw[h];simp(disch:=omega) only[cI,e4,aM,hb,de];by_cases g:(f:Z)∈a.take b
    ·rw[ay g];refine bA.2 ⟨bq,λd=>?_⟩;obtain⟨D,r,n⟩:=hN.1 g;simp only[hz] at r;simp only[List.getElem_take] at n;have:=(vd d.2.2).1 (n.trans h.symm);omega
    rw[aw g];simp(disch:=omega) only[aM,k,h,cI,e4,hb,hq,lV];have A:a.take (b+1)=a.take b++[(f:Z)]:=(by grind [uS]);refine bA.2 ⟨bq,?_,λe y z=>?_,?_⟩
    ·show((_,()):_×bz)=_;refine b9 (·,()) (db λp _=>?_);simp only[eK];grind
    ·grind
    grind
   rintro _ ⟨rfl,t,q⟩;simp(disch:=omega) only[de,aw];refine bA.2 ⟨m,λE C=>?_,?_⟩
   ·grind [ani]
   grind
  grind [bA,aJ,aG]
 rw[aG (aa:¬(((a.length:X):Z)=(c:Z)))];simp only[oK,bI];rw[aG (λd=>m d.1)]
def nm (a:ez) (b:amv):Z:=open Classical in if jl a≠0 then jl a else if b.length≠a.length then 2 else if fX b a.length then 0 else 90
theorem L6 (d:∀h∈q,h.length<4611686018427387904) (a:amv):tR ((q,()),a,())=Y (if nm q a=0 then((ku (kJ q a),()),0,()) else(([],()),nm q a,())):=by
 classical
 unfold tR nm;simp only[L5 q d,aM,fZ];by_cases c:jl q=0
 ·obtain⟨g,e⟩:=vE.1 c;rw[aJ c];simp only[iI,bQ,c,ne_eq,aoq,if_false];by_cases f:a.length=q.length
  ·rw[aJ (aa:(((a.length:X):Z)=((q.length:X):Z)))];simp only[iI,bQ,f,aoq,if_false];rw[Vu a q.length aa];simp only[aM];by_cases b:fX a q.length
   ·rw[aJ b];simp only[iI,bQ,ay b,cq];rw[Vk e d g b.2.1 b.2.2 aa];rfl
   grind
  grind
 grind
theorem ait (b:ez) (a:Z):D3 ((b,()),a,())=Y (bw (0<=a/\a<(b.length:Z)),()):=by unfold D3;grind
theorem aeg (d:ez) (a:amv) (j:a.length<4611686018427387904):EG (a,(Y (d,()),()),())=Y (bw (¬∀c∈a,0<=c/\c<(d.length:Z)),()):=by
 classical
 unfold EG I8;simp only[];rw[<-bR];have i:(∀c∈a,0<=c/\c<(d.length:Z))↔∀b,b<a.length->∀e:b<a.length,0<=a[b]/\a[b]<(d.length:Z):=
  ⟨λe b _ f=>e _ (cT f),λe c k=>by grind [ani]⟩
 refine bJ (P:=λg=>bw (g.1>=0)=bw (¬∀c∈a,0<=c/\c<(d.length:Z))) ?_ (λg h=>bA.2 (by rw[h]));refine bJ (KK a.length (λb=>∀e:b<a.length,0<=a[b]/\a[b]<(d.length:Z)) ?_ ?_) ?_
 ·intro b f;simp(disch:=omega) only[de,ay,gj (cH f),aM,lV];unfold IT;simp only[aM,ait];grind
 ·grind
 grind [bA,aG,aJ]
theorem Vv (i:∀m∈q,m.length<4611686018427387904) (a:amv) (k:q.length<=200->fL q->q.length<=12) (l:a.length<4611686018427387904):DY ((q,()),a,())=Y (nm q a,()):=by
 classical
 unfold DY nm;simp only[Hz q i,aM,fZ];by_cases e:jl q=0
 ·obtain⟨j,h⟩:=vE.1 e;have n:=k j h;rw[aJ e];simp only[iI,bQ,e,ne_eq,aoq,if_false];by_cases f:a.length=q.length
  ·rw[aJ (aa:(((a.length:X):Z)=((q.length:X):Z)))];simp only[iI,bQ,f,aoq,if_false];rw[aeg q a l];simp only[aM];by_cases b:∀g∈a,0<=g/\g<(q.length:Z)
   ·rw[aG (anb b)];simp only[am2,bI];rw[ah0 a aa];simp only[aM,de];by_cases c:a.Nodup
    ·rw[aw (anb c),ay ⟨f,b,c⟩]
    rw[ay c,aw (λd=>c d.2.2)]
   rw[aJ b,aw (λd=>b d.2.1)];rfl
  grind
 grind
end
section
open Go
def q9 (c:ez) (a:amv) (b d:X):bD:=bw (a.getD d 0∈c.getD (a.getD b 0).toNat [])
theorem Qb (k:fL q) (i:∀c∈d,0<=c/\c<(q.length:Z)) (l:a<d.length) (m:b<d.length):q9 q d a b=q9 q d b a:=by have n:=i _ (cT l);have o:=i _ (cT m);have u:∀c e:Z,0<=c/\c<(q.length:Z)->0<=e/\e<(q.length:Z)->e∈q.getD c.toNat []->c∈q.getD e.toNat []:=λc e s t h=>(by obtain⟨f,rfl⟩:∃f:X,c=(f:Z):=⟨c.toNat,aa⟩;obtain⟨g,rfl⟩:∃g:X,e=(g:Z):=⟨e.toNat,aa⟩;simp only[fV] at h|-;have j:f<q.length:=aa;have r:g<q.length:=aa;rw[yw j] at h;obtain⟨_,p⟩:=kE.symm k f g ⟨j,h⟩;grind);unfold q9;grind
theorem Y7 (f:fL q) (g:∀e∈d,0<=e/\e<(q.length:Z)):kI d.length (λa b=>bw (a≠b)&&q9 q d a b)=ku (kJ q d):=by unfold kI ku;rw[yB];refine iY λi c=>?_;have c:=gN.1 c;unfold c8 nl;refine b9 _ (qx λj h=>?_);grind [Bool.or_self,Qb,Iq,q9]
theorem Zw (s:fL q) (t:∀d∈q,d.length<4611686018427387904) (x:∀o∈d,0<=o/\o<(q.length:Z)) (G:d.length<=400):D1 ((q,()),d,())=Y ((ku (kJ q d),()),()):=by
 generalize m:d.length=c at*
 let h:X->X->X->X->bD:=λa b e f=>bw (e≠f)&&(q9 q d e f&&((bw (e<a)&&bw (f<a))||((bw (e=a)&&bw (f<b))||(bw (f=a)&&bw (e<b)))))
 unfold D1;simp only[m];rw[Nc c aa];simp only[aM];refine aq (y:=(([],()),iB c (h c 0),())) (BL c (λa=>(([],()),iB c (h a 0),())) 0 bq ?_ (eU _) ?_ ?_) ?_
 ·grind
 ·intro a _ w;have l:a<d.length:=aa;have u:az d (a:Z)=Y d[a]:=gj (cH l);have k:=x _ (cT l);obtain⟨g,n⟩:∃g:X,d[a]=(g:Z):=⟨d[a].toNat,aa⟩;have i:g<q.length:=aa;simp(disch:=omega) only[de,ay,u,aM,yV,m,yG,jT,n,nC];have z:(d.take a).length=a:=ae;refine aq (y:=(([],()),iB c (h a a),())) (BL a (λb=>(([],()),iB c (h a b),())) 0 bq rfl (eU _) ?_ ?_) ?_
  ·intro b _ E;have F:b<d.length:=aa;have v:az (d.take a) (b:Z)=Y d[b]:=gj ae;simp(disch:=omega) only[z,de,ay,v,aM,lV];rw[Km q g d[b] i (t _ (cT i)) ((H4 q).1 s g i).1];simp only[aM,de];have p:q9 q d a b=bw (d[b]∈q[g]):=by
    grind [yw,am8,q9]
   have r:q9 q d b a=bw (d[b]∈q[g]):=(by grind [Qb]);by_cases j:d[b]∈q[g]
   ·rw[ay j,M8 w aa];simp only[aM];refine b9 (λA=>Y (Sum.inl (((b+1:X):Z),([],()),A,()))) (QS λe f _ _=>?_);rw[aJ j] at p r;simp only[h];rw[xc];simp only[j4,cJ,amV];constructor
    ·rintro(⟨k,C,D⟩|⟨k,⟨rfl,rfl⟩|⟨rfl,rfl⟩⟩)
     ·grind
     ·grind
     grind
    grind
   grind
  ·grind
  simp(disch:=omega) only[lV];grind
 ·grind
 rw[M6 aa];simp only[aM];have B:kI c (h c 0)=kI c (λe f=>bw (e≠f)&&q9 q d e f):=(by refine db λg n=>b9 c8 (qx λI H=>?_);grind);grind [Y7]
theorem VA (c:∀j∈q,j.length<4611686018427387904) (a:amv) (g:q.length<=200->fL q->q.length<=12) (h:a.length<4611686018427387904):AD ((q,()),a,())=Y (if nm q a=0 then((ku (kJ q a),()),0,()) else(([],()),nm q a,())):=by
 classical
 unfold AD;simp only[Vv c a g h,aM,fZ];by_cases b:nm q a=0
 ·rw[aJ b,ay b];simp only[iI,bQ];have e:jl q=0:=by
   by_cases i:jl q=0
   ·exact i
   simp_all [ay,nm,absurd]
  obtain⟨k,f⟩:=vE.1 e;have d:fX a q.length:=(by unfold nm at b;grind);rw[Zw f c d.2.1 (by have:=d.1;omega)];rfl
 grind
end
def kw (E:bp c4) (b c:X):bD:=E.any λa=>bw (a.1≠a.2.1)&&((bw ((b:Z)=a.1)&&bw ((c:Z)=a.2.1))||(bw ((b:Z)=a.2.1)&&bw ((c:Z)=a.1)))
def mq (E:bp c4) (b c:X):bD:=E.any λa=>bw ((b:Z)=a.1)&&bw ((c:Z)=a.2.1)
theorem Ic {b:k->bD} {E:bp k} (c:a<E.length):(E.take (a+1)).any b=((E.take a).any b||b E[a]):=by grind [amG,bZ]
theorem aau (a:X) (b:X->X->bD) (e:∀c d,b c d=bu):(bM a (bM a bu))=iB a b:=by grind [db,jV,iB]
theorem Wv (c:b<a) (d:i<a):hX (iB a g) b i=g b i:=by grind [gu,aA,hX,iB]
theorem PJ (d:X) (b:X->X->bD):ku (iB d b)=kI d λa c=>a !=c&&(b a c||b c a):=by unfold ku;rw[BP];refine db λa e=>?_;grind [Wv,List.filter_congr,nl,c8]
theorem Qf {E:bp c4} (a b:X):(a !=b&&(mq E a b||mq E b a))=kw E a b:=by
 induction E with
 |nil=>simp[mq,kw]
 |cons h E g=>
  unfold mq kw at*;simp only[List.any_cons];rw[<-g,xc];simp only[cJ,j4,bne_iff_ne,amV];constructor
  ·rintro⟨f,(⟨d,e⟩|c)|(⟨d,e⟩|c)⟩
   ·omega
   ·grind
   ·omega
   grind
  rintro(⟨f,⟨d,e⟩|⟨d,e⟩⟩|⟨f,c|c⟩)
  ·omega
  ·omega
  ·grind
  grind
theorem Vi (f:j7 a a s d t) (m:hZ a a s d t=0):AB (((a:Z),(a:Z),s,d,t,()),())=Y ((kI a (kw (c5 s d t a)),()),0,()):=by
 have k:=(lF.1 m).1;have u:=tY k;have y:(c5 s d t a).length<=10000:=(by rw[Bn k a (cj _)];have:=k.sx a (cj _);have:=f.hi;omega);unfold AB;refine aq f.check ?_;dsimp only;rw[m,fZ,aJ bq,fZ,aJ bq];have x:=f.hc;refine aq (Nc a aa) (aq (Vb f m) ?_);dsimp only;generalize c5 s d t a=E at*;refine bR.1 ?_;refine bJ (P:=λv=>v=(([],()),iB a (kw E),())) ?_ ?_
 ·refine bS E.length (λb w=>w=((b:Z),([],()),iB a (kw (E.take b)),E,())) rfl ?_ ?_
  ·rintro b _ l rfl;dsimp only;rw[a5 (aJ (ae:(b:Z)<au E)),ky l,bk aa];have r:=u E[b] (ca l);obtain⟨c,o⟩:=cD r.1;obtain⟨e,p⟩:=cD r.2.2.1;have q:=M8 (n:=a) (B:=kw (E.take b)) (i:=c) (j:=e) aa aa;rw[<-o,<-p] at q;refine bC q (bA.2 ?_);dsimp only;have:iB a (λg h=>kw (E.take b) g h||(bw (c≠e)&&((bw (g=c)&&bw (h=e))||(bw (g=e)&&bw (h=c)))))=iB a (kw (E.take (b+1))):=by
    refine QS λz A _ _=>?_;unfold kw;rw[Ic l,o,p];grind
   grind
  rintro _ rfl;dsimp only;rw[a2 (aG (ae:¬((E.length:Z)<au E))),amz (cj _)];grind [bA]
 grind [bC,M6,bA]
theorem afT (f:j7 a a s d t) (j:hZ a a s d t=0):vV (((a:Z),(a:Z),s,d,t,()),())=Y ((kI a (kw (c5 s d t a)),()),0,()):=by
 have h:=(lF.1 j).1;have o:=tY h;have y:(c5 s d t a).length<=10000:=(by rw[Bn h a (cj _)];have:=h.sx a (cj _);have:=f.hi;omega);unfold vV;refine aq f.GN ?_;dsimp only;rw[j,fZ,aJ bq,fZ,aJ bq];have x:=f.hc;refine aq (Pb a aa) (aq (SZ f j) ?_);dsimp only;generalize c5 s d t a=E at*;refine bR.1 ?_;refine bJ (P:=λv=>v=(([],()),iB a (mq E),())) ?_ ?_
 ·refine bS E.length (λc w=>w=((c:Z),([],()),iB a (mq (E.take c)),())) ?_ ?_ ?_
  ·rw[aau a (mq (E.take 0)) λb g=>rfl];rfl
  ·rintro c _ i rfl;dsimp only;rw[a5 (aJ (ae:(c:Z)<au E)),bk aa];have n:=o E[c] (ca i);obtain⟨e,p⟩:=cD n.1;obtain⟨k,q⟩:=cD n.2.2.1;have m:e<a:=aa;have r:k<a:=aa;refine bC (fc i) ?_;rw[p];refine bC (e4 (by grind [BP])) (bC (fc i) ?_);rw[q];unfold iB;rw[hb m,bT];refine bC (e4 (by grind [cI])) ?_;rw[hb m,hb r,hq,aoS,bT,hq];refine bA.2 ?_;have:aA a (eK (λb=>aA a (mq (E.take c) b)) e (aA a (eK (mq (E.take c) e) k bt)))=aA a λb=>aA a (mq (E.take (c+1)) b):=by
    refine db λb z=>?_;by_cases l:b=e
    ·subst l;grind [gS,aG,gw,Ic,db,mq]
    rw[gS _ _ l];grind [Ic,aG,db,mq]
   grind
  rintro _ rfl;dsimp only;rw[a2 (aG (ae:¬((E.length:Z)<au E))),amz (cj _)];grind [bA]
 rintro _ rfl;dsimp only;refine bC (M5 _ (λA u=>?_) (by grind [BP])) (bA.2 ?_)
 ·rw[BP];unfold iB aA at u;grind
 dsimp only;rw[PJ];have:(λb g=>b !=g&&(mq E b g||mq E g b))=kw E:=(by grind [Qf]);grind
section
open Go
def aez (b:d.Perm (c8 (bK a))):fX d a:=by
 refine⟨by rw[b.length_eq,jX,oU],λj e=>?_,?_⟩
 ·obtain⟨k,f,rfl⟩:=eT.1 (b.mem_iff.1 e);have:=gN.1 f;omega
 rw[b.nodup_iff];exact ass _ (λg h c i=>c aa) rU
end
section
open Go
def hT (b:amv) (a:X):X:=(b.getD a 0).toNat
theorem fX.get {n:X} (b:fX d n) (c:a<n):az d (a:Z)=Y ((hT d a:X):Z)/\hT d a<n:=by have e:a<d.length:=(by rw[b.1];exact c);have f:=b.2.1 _ (cT e);grind [gj,bZ,yw,hT]
theorem fX.inj (c:fX d b) {j:X} (h:j<b) (i:a<b) (e:hT d j=hT d a):j=a:=by have f:j<d.length:=(by rw[c.1];exact h);have g:a<d.length:=(by rw[c.1];exact i);have k:=c.2.1 _ (cT f);have l:=c.2.1 _ (cT g);unfold hT at e;rw[yw f,yw g] at e;exact(vd c.2.2).1 aa
end
section
open Go
theorem abb:∀{n:X} {a:amu},a.Nodup->(∀d∈a,d<n)->a.length<=n:=by
 intro n
 induction n with
 |zero=>intro a _ b;cases a with
  |nil=>grind
  |cons e a=>grind [aop]
 |succ n g=>
  intro a c b;have f:(a.erase n).Nodup:=c.erase n;grind
section
variable {A:ez} (B:fL A)
include B
end
end
section
open Go
def Fk (A:ez) (a:Z):X:=(A.getD a.toNat []).length
section
variable {A:ez} (B:fL A) (C:A.length<=200)
include B C
end
end
section
open Go
def FW (k:Z->Z->amt) (l:amv) (f j:Z):bv ej:=
 (loop (σ:=eb) (ρ:=ej) (λ(d,g,_)=>
  bif bw (d<j) then
 (loop (σ:=eb) (ρ:=ej) (λ(a,c,_)=>
 bE (α:=ej⊕dI) (bif bw (a>f)==bt then(bn c.length a).bind λv=>
 (be c v λo=>Y o).bind λz=>
 (bn c.length (bN.wrap (a-(1:Z)))).bind λs=>
 (be c s λp=>Y p).bind λA=>
 (k z A).bind λ(y,_)=>
  bif bw (y<(0:Z)) then
 Y (.inl (c,())) else
 Y (.inr (.inr (c,()))) else Y (.inr (.inr (c,())))) λw=>match w with
 |.inl (b,_)=>(
 (bn b.length (bN.wrap (a-(1:Z)))).bind λt=>
 (be b t λq=>Y q).bind λB=>
 (bn b.length a).bind λu=>
 (be b u λr=>Y r).bind λC=>
 (bn b.length a).bind λh=>
 (be b h λ_=>Y (b.set h B)).bind λe=>
 (bn e.length (bN.wrap (a-(1:Z)))).bind λi=>
 (be e i λ_=>Y (e.set i C)).bind λD=>
 Y (.inl (bN.wrap (a-(1:Z)),D,())))
 |.inr x=>Y x) (d,g,())).bind λ(m,_)=>
 Y (.inl (bN.wrap (d+(1:Z)),m,())) else
 Y (.inr (g,()))) (bN.wrap (f+(1:Z)),l,())).bind λ(n,_)=>
 Y (n,())
def ZA {cmp:Z->Z->amt} {h:Z->Z->bD} (m:pL h) (c:amv) (A:∀r s,r∈c->s∈c->∃d,cmp r s=Y (d,())/\(d<0↔h r s=bt)) (I:c.length<=1000):ah (FW cmp c 0 (c.length:Z)) (λd=>∃a,d.1=aA c.length a/\pN h a c.length/\d.1.Perm c):=by
 unfold FW;generalize o:c.length=e at*;have z:bN.wrap (0+1)=((1:X):Z):=(by rw[cA]<;>omega);rw[z];rcases rX e with G|C
 ·subst G;refine bJ (P:=λd=>d.1=c) ?_ ?_
  ·refine am3 (λj=>j=(((1:X):Z),c,())) (λ_=>0) rfl ?_;rintro _ rfl;simp only[de];rw[aw aa];exact bA.2 bq
  rintro⟨d,_⟩ rfl;refine bA.2 ⟨λ_=>0,?_,λp q t u=>by omega,aoU _⟩;show d=[];exact qv o
 refine bJ (P:=λd=>∃a,d.1=aA e a/\pN h a e/\d.1.Perm c) ?_ (λd E=>bA.2 E);refine ah.for e (λg H=>∃a,H=(aA e a,())/\pN h a g/\(aA e a).Perm c) rfl ⟨λg=>c[g]?.getD default,?_,λp q t u=>by omega,?_⟩ C ?_ ?_
 ·rw[<-o,<-Fy]
 ·rw[<-o,<-Fy]
 ·rintro g _ t u ⟨a,rfl,i,f⟩;simp only[de];rw[ay aa];refine bJ (P:=λd=>∃a,d=(aA e a,())/\pN h a (g+1)/\(aA e a).Perm c) ?_ ?_
  ·refine am3 (λj=>∃(b:X) (a:X->Z),j=((b:Z),aA e a,())/\b<=g/\u1 h a g b/\(aA e a).Perm c) (λj=>j.1.toNat) ⟨g,a,bq,bf _,λp q D K J=>i p q D aa,f⟩ ?_;rintro _ ⟨b,a,rfl,n,l,f⟩;simp only[IM];by_cases v:0<b
   ·have B:b-1<e:=aa;have w:b<e:=aa;obtain⟨d,F,x⟩:=A (a b) (a (b-1)) (f.mem_iff.1 (QT.2 ⟨b,w,bq⟩)) (f.mem_iff.1 (QT.2 ⟨b-1,B,bq⟩));simp(disch:=omega) only[ay,cI,CN,e4,hb,aM,F,de];by_cases k:h (a b) (a (b-1))=bt
    ·rw[ay (x.2 k)];simp(disch:=omega) only[aM,cI,CN,e4,hb,hq];refine bA.2 ⟨⟨b-1,swp a b,bq,aa,l.swp m v n k,(T9 v w).trans f⟩,?_⟩;show((b-1:X):Z).toNat<((b:X):Z).toNat;omega
    rw[aw (λy=>k (x.1 y))];exact bA.2 ⟨a,bq,l.done m n (.inr (by simpa using k)),f⟩
   rw[aw aa];exact bA.2 ⟨a,bq,l.done m n (.inl aa),f⟩
  rintro _ ⟨a,rfl,i,f⟩;simp(disch:=omega) only[lV];exact bA.2 ⟨bq,a,bq,i,f⟩
 rintro _ ⟨a,rfl,i,f⟩;simp only[de];rw[aw aa];exact bA.2 ⟨a,bq,i,f⟩
def Qy (a:ez) (b c:Z):Prop:=Fk a b<Fk a c\/(Fk a b=Fk a c/\b<c)
instance(a:ez) (b c:Z):am9 (Qy a b c):=by unfold Qy;exact inferInstance
end
section
open Go
def hg (o:amv) (a:X):X:=o.idxOf (a:Z)
section
variable {o:amv} {n:X} (A:fX o n)
include A
theorem fX.mem (j:a<n):(a:Z)∈o:=by
 apply Classical.byContradiction;intro d;obtain⟨g,h,i⟩:=A;have e:o=c8 (o.map amZ):=by
  unfold c8;rw[qD]
  conv=>lhs;rw[<-List.map_id o]
  grind [amU]
 have b:(o.map amZ).Nodup:=(by grind [amx,ca]);have c:a∉o.map amZ:=λf=>d ae;have:=abb (n:=n) (kS.2 ⟨c,b⟩) (λl k=>by
  grind)
 grind
theorem fX.pos (d:a<n):hg o a<n/\hT o (hg o a)=a:=by have b:=A.mem d;have c:hg o a<o.length:=C1.2 b;refine⟨by rw[<-A.1];exact c,?_⟩;grind [yw,hg,hT]
theorem fX.LQ (b:a<n):hg o (hT o a)=a:=by have c:=(A.get b).2;obtain⟨d,e⟩:=A.pos c;exact A.inj d b e
end
section
variable {B:ez} (C:fL B) {o:amv} (A:fX o B.length)
include C A
end
end
def mY (E:bp c4) (b c:Z):Z:=match E.find? λa=>bw (a.1=b)&&bw (a.2.1=c) with
 |some a=>a.2.2.1
 |none=>0
theorem Yc {E:bp c4} (j:E.Pairwise hj) {a b:c4} (d:a∈E) (e:b∈E) (h:a.1=b.1) (i:a.2.1=b.2.1):a=b:=by
 obtain⟨f,k,rfl⟩:=hN.1 d;obtain⟨g,l,rfl⟩:=hN.1 e;rcases vi f g with c|c|c
 ·grind [amx,hj]
 ·grind
 grind [amx,hj]
theorem aim {E:bp c4} (f:E.Pairwise hj) {a:c4} (g:a∈E):mY E a.1 a.2.1=a.2.2.1:=by
 unfold mY;cases c:E.find? λb=>bw (b.1=a.1)&&bw (b.2.1=a.2.1) with
 |none=>
  grind
 |some b=>
  have d:=List.find?_some c;have e:=HM c;simp only[cJ,amV] at d;grind [Yc]
theorem ain {E:bp c4} (b:∀a∈E,¬(a.1=c/\a.2.1=j)):mY E c j=0:=by grind [List.find?_eq_none,mY]
theorem Ht {E:bp c4} {a:c4} (e:(E++[a]).Pairwise hj) (c d:Z):mY (E++[a]) c d=if a.1=c/\a.2.1=d then a.2.2.1 else mY E c d:=by
 by_cases b:a.1=c/\a.2.1=d
 ·rw[ay b,<-b.1,<-b.2,aim e ac]
 rw[aw b];unfold mY;grind
theorem ail {E:bp c4} (d:∀c∈E,bo c.2.2.1≠2047) (a b:Z):bo (mY E a b)≠2047:=by grind [arR,decide,bo,mY]
theorem aeM (e:a<d.length) (g:d[a]=(b:Z)) (f:(b:Z)∉d.take a):hg d b=a:=by unfold hg;have c:d=d.take a++(d[a]::d.drop (a+1)):=(by rw[List.getElem_cons_drop,kC]);grind
theorem aeA (B:a<=10000) (C:d.length<=1000000):Fj (d,(a:Z),())=Y (open Classical in if fX d a then(aA a (λb=>(hg d b:Z)),bt,()) else([],bu,())):=by
 classical
 unfold Fj;dsimp only;by_cases p:d.length=a
 ·rw[a2 ae];refine aq (jq aa) (aq (jq aa) ?_);refine bR.1 ?_;refine bJ (P:=λo=>(o=.inl (aA a (λb=>(hg d b:Z)),())/\fX d a)\/(o=.inr ([],bu,())/\¬fX d a)) ?_ ?_
  ·refine bS a (λc x=>x=((c:Z),aA a (λb=>if(b:Z)∈d.take c then(hg d b:Z) else 0),aA a (λb=>bw ((b:Z)∈d.take c)),())/\(∀g∈d.take c,0<=g/\g<(a:Z))/\(d.take c).Nodup) ?_ ?_ ?_
   ·grind [jV]
   ·rintro c _ A ⟨rfl,m,n⟩;dsimp only;rw[a5 (aJ (ae:(c:Z)<au d)),fc (aa:c<d.length)];have q:d[c]'(by omega)∈d:=ca _
    have u:d.take (c+1)=d.take c++[d[c]'(by omega)]:=by simp_all
    have j:∀g,g∈d.take (c+1)↔g∈d.take c\/g=d[c]'(by omega):=λg=>by rw[u,hl,gI]
    have t:(d.take (c+1)).Sublist d:=apv _ _;have s:∀f:X,d[c]'(by omega)=(f:Z)->(f:Z)∉d.take c->hg d f=c:=λf=>aeM aa
    generalize r:d[c]'(by omega)=b at*
    simp only[aM];by_cases y:b<0
    ·rw[a2 (ae:(bw (b<0)==bu)=bu)];refine bA.2 (.inr ⟨bq,λh=>?_⟩);have:=h.2.1 b q;omega
    rw[a5 (ae:(bw (b<0)==bu)=bt)];by_cases z:b>=(a:Z)
    ·rw[a2 (ae:(bw (b>=(a:Z))==bu)=bu)];refine bA.2 (.inr ⟨bq,λh=>?_⟩);have:=h.2.1 b q;omega
    rw[a5 (ae:(bw (b>=(a:Z))==bu)=bt)];obtain⟨f,rfl⟩:=gd (aa:0<=b);rw[ky (by grind [cI]),lK];by_cases l:(f:Z)∈d.take c
    ·simp only[aM];rw[a5 (aJ l)];refine bA.2 (.inr ⟨bq,λh=>?_⟩);have:=arS t h.2.2;grind
    simp only[aM];rw[a2 (aG l)];simp only[aM];rw[nw (by grind [cI]),hq,nw (by grind [cI]),hq];refine bA.2 ⟨?_,?_,?_⟩
    ·rw[bk aa];have:aA a (eK (λb=>bw ((b:Z)∈d.take c)) f bt)=aA a (λb=>bw ((b:Z)∈d.take (c+1))):=by
      refine db λk v=>?_;by_cases i:k=f
      ·grind [gw,aJ]
      rw[gS _ _ i];refine amD.2 ⟨λe=>(j _).2 (.inl e),λe=>((j _).1 e).resolve_right λe=>i aa⟩
     rw[this];have:aA a (eK (λb=>if(b:Z)∈d.take c then(hg d b:Z) else 0) f (c:Z))=aA a (λb=>if(b:Z)∈d.take (c+1) then(hg d b:Z) else 0):=by
      refine db λk v=>?_;by_cases i:k=f
      ·subst i;rw[gw,ay ((j _).2 (.inr bq)),s k bq l]
      rw[gS _ _ i];have:(k:Z)∈d.take (c+1)↔(k:Z)∈d.take c:=⟨λe=>((j _).1 e).resolve_right λe=>i aa,λe=>(j _).2 (.inl e)⟩;simp_all
     grind
    ·intro g w;rcases(j g).1 w with e|e
     ·grind
     omega
    grind [ap0,amF]
   rintro _ ⟨rfl,m,n⟩;dsimp only;rw[a2 (aG (ae:¬((a:Z)<au d)))];rw[amz aa] at m n|-;have h:fX d a:=⟨p,m,n⟩;refine bA.2 (.inl ⟨?_,h⟩);have:aA a (λb=>if(b:Z)∈d then(hg d b:Z) else 0)=aA a (λb=>(hg d b:Z)):=db λb r=>cc (h.mem r);grind
  rintro o (⟨rfl,e⟩|⟨rfl,e⟩)
  ·simp_all [ay,bA]
  simp_all [bA,aw]
 rw[a5 ae,aw (λe=>p e.1)]
def zp (a b:X) (d c e f:amv):Z:=open Classical in if hZ a b d c e≠0 then hZ a b d c e else if a≠b then 5 else if fX f a then 0 else 90
theorem T2 (c:zp a b t d O s=0):hZ a b t d O=0/\a=b/\fX s a:=by unfold zp at c;grind
def md (a:X) (E:bp c4) (b:amv):ez:=ku (kJ (kI a (kw E)) b)
theorem J2 (b:X) (c:X->X->bD):∀a∈kI b c,a.length<=b:=by intro a d;unfold kI aA at d;grind [am4,jX]
theorem Bx (a:X) (b:X->X->bD):(kI a b).length=a:=cI _ _
theorem Y8 (c:X) (E:bp c4):kI c (kw E)=ku (iB c (mq E)):=by rw[PJ];have:(λa b=>a !=b&&(mq E a b||mq E b a))=kw E:=(by grind [Qf]);grind
theorem Sx (e:a<=12) {E:bp c4} (b:fX d a):nm (kI a (kw E)) d=0:=by unfold nm;have c:jl (kI a (kw E))=0:=vE.2 ⟨by grind [Bx],by grind [JW,Y8]⟩;rw[aw (anb c),aw (anb (by rw[Bx];exact b.1)),Bx,ay b]
theorem VB (e:a<=12) {E:bp c4} (b:fX d a):AD ((kI a (kw E),()),d,())=Y ((md a E d,()),0,()):=by rw[VA (λf c=>by have:=J2 a _ f c;omega) d (λ_ _=>by grind [Bx]) (by rw[b.1];omega),ay (Sx e b)];rfl
def afV (c:a<=12) {E:bp c4} (e:fX d a):tR ((kI a (kw E),()),d,())=Y ((md a E d,()),0,()):=by rw[L6 (λf b=>by have:=J2 a _ f b;omega) d,ay (Sx c e)];rfl
def yx {E:bp c4} (b:fX d a):(md a E d).length=a:=by unfold md;rw[YW,yB,b.1]
def FP (a:X) (E:bp c4) (b:amv):fL (md a E b):=JW _
def Ze (f:a<=12) {E:bp c4} (e:fX d a):∀b∈md a E d,b.length<4611686018427387904:=λb c=>by have:=YX _ b c;rw[yB,e.1] at this;omega
def Vj (f:ny a s d t) (p:j7 a a s d t) (h:hZ a a s d t=0):AB (sB a a (ht (c5 s d t a)),())=Y ((kI a (kw (ht (c5 s d t a))),()),0,()):=by have b:=(lF.1 h).1;have k:=(lF.1 h).2;have j:=tZ b a (bf _);have l:=tY b;have r:=f.el;have u:=f.BU;have m:=ua b p.hw;have n:=ua b (JL k);have i:=BO j;have g:=BN l;have q:=TY (rows:=a) (e0:=a) (E:=ht (c5 s d t a)) aa aa aa (λe c=>m e (hV.1 c).1);have o:=Oo i g (λe c=>n e (hV.1 c).1);have:=Vi q o;rw[Pm i g] at this;exact this
def tV:fB:=(bu,((bu,([],())),((0:Z),())))
def XT:tV=aE (Y 0):=by rw[hd];rfl
def B0:aV 0=Y 0:=by decide
theorem F9 {j:Type}:∀(i:bp (Z×j)) (c:Z) (d:j) (b:Z),gk (kK i c d) b=if b=c then Y d else gk i b
 |[],c,d,b=>by
  show(if c=b then Y d else br)=_;by_cases e:b=c
  ·rw[ay e,ay e.symm]
  rw[aw e,aw (λf=>e f.symm)];rfl
 |(a,u)::r,c,d,b=>by
  unfold kK;by_cases g:c<a
  ·rw[ay g];show(if c=b then Y d else gk ((a,u)::r) b)=_;grind
  rw[aw g];by_cases h:c=a
  ·rw[ay h];show(if c=b then Y d else gk r b)=_;by_cases e:b=c
   ·rw[ay e,ay e.symm]
   rw[aw e,aw (λf=>e f.symm)];show _=(if a=b then Y u else gk r b);grind
  rw[aw h];show(if a=b then Y u else gk (kK r c d) b)=_;rw[F9 r c d b];show _=if b=c then Y d else(if a=b then Y u else gk r b)
  grind
abbrev oX:=bv (bp (Z×fB)×X)
variable{y:bp oX}
def me (a b:Z):Z:=if b>a then b else a
def mf (a b:Z):Z:=if b<a then b else a
def kc (E:bp c4) (a:amv) (b c:X):amp:=aV (mY E (me (a.getD b 0) (a.getD c 0)) (mf (a.getD b 0) (a.getD c 0)))
theorem X9 (E:bp c4) (a:amv) (b c:X):kc E a b c=kc E a c b:=by grind [me,mf,kc]
structure lD (n:X) (o:amv) (D:bp c4) (M:bp oX):Prop where
 len:M.length=n
 get:∀p,p<n->∃l c,M[p]?=Y (Y (l,c))/\∀q,q<n->p<=q->(gk l (q:Z)).getD tV=aE (kc D o p q)
def lD.nil:lD a d [] (aA a λ_=>Y ([],0)) where
 len:=cI _ _
 get:=λc b=>⟨[],0,gu b,λe _ _=>by
  show tV=aE (aV 0);rw[B0,XT]⟩
theorem y3 (c:fX d b) (e:a<b):d.getD a 0=(hT d a:Z)/\hT d a<b:=by have f:a<d.length:=(by rw[c.1];exact e);have:=c.2.1 d[a] (cT f);grind [k1,hT]
theorem aeN (c:fX d b) {e:X} (j:e<b) (h:a<b) (n:a<=e) (f:i<b) (g:u<b) (o:i<=u):(mf (hg d e:Z) (hg d a:Z)=(i:Z)/\me (hg d e:Z) (hg d a:Z)=(u:Z))↔(e:Z)=me (d.getD i 0) (d.getD u 0)/\(a:Z)=mf (d.getD i 0) (d.getD u 0):=by
 obtain⟨k,p⟩:=y3 c f;obtain⟨aB,r⟩:=y3 c g;obtain⟨t,v⟩:=c.pos j;obtain⟨l,m⟩:=c.pos h;have q:=c.LQ f;have s:=c.LQ g;rw[k,aB];constructor
 ·grind [ar,me,mf,hg]
 grind [hT,mf,me,ar]
theorem lD.skip {c:bp c4} (e:lD a d c y) {b:c4} (l:(c++[b]).Pairwise hj) (p:b.1<b.2.1):lD a d (c++[b]) y where
 len:=e.len
 get:=λn i=>by obtain⟨m,f,g,h⟩:=e.get n i;refine⟨m,f,g,λo k j=>?_⟩;rw[h o k j];unfold kc;rw[Ht l,aw];grind [mf,me]
theorem lD.add (z:fX d u) {g:bp c4} (h:lD u d g y) {j:X} (B:(g++[((b:Z),(a:Z),c,())]).Pairwise hj) (A:b<u) (t:a<u) (v:a<=b) (H:(i:Z)=mf (hg d b:Z) (hg d a:Z)) (G:(j:Z)=me (hg d b:Z) (hg d a:Z)) {n:bp (Z×fB)} {C D:X} (w:y[i]?=Y (Y (n,C))):lD u d (g++[((b:Z),(a:Z),c,())]) (y.set i (Y (kK n (j:Z) (aE (aV c)),D))) where
 len:=by rw[zO,h.len]
 get:=λf k=>by
  have x:i<y.length:=(iv.1 w).1;have E:∀e,e<u->f<=e->aE (kc (g++[((b:Z),(a:Z),c,())]) d f e)=if i=f/\j=e then aE (aV c) else aE (kc g d f e):=by intro e m l;have:=aeN z A t v k m l;unfold kc;rw[Ht B];grind
  by_cases p:f=i
  ·subst p;refine⟨_,_,List.getElem?_set_self x,λe m l=>?_⟩;rw[F9,E e m l];by_cases q:j=e
   ·grind
   rw[aw aa,aw (λh=>q h.2)];obtain⟨F,o,r,s⟩:=h.get f k;grind
  obtain⟨F,o,r,s⟩:=h.get f k;grind
theorem Nd (w:ny a t s d) (n:j7 a a t s d) (x:hZ a a t s d=0) (o:fX O a):∃c,lD a O (c5 t s d a) c/\tS (((a:Z),(a:Z),t,s,d,()),O,())=Y (Y ((a:Z),(md a (ht (c5 t s d a)) O,()),c,()),0,()):=by
 have Q:=w.BU;have h:=(lF.1 x).1;have ap:=tZ h a (bf _);have a0:=tY h;have ce:=o.1;have a3:=ua h n.hw;suffices C:ah (tS (((a:Z),(a:Z),t,s,d,()),O,())) λf=>∃c,lD a O (c5 t s d a) c/\f=(Y ((a:Z),(md a (ht (c5 t s d a)) O,()),c,()),0,()) by obtain⟨f,am,c,an,rfl⟩:=C;grind
 unfold tS;refine bC n.check ?_;dsimp only;rw[a2 ae,a2 ae];refine bC (aeA aa aa) ?_;rw[cc o];dsimp only;rw[Bool.not_true,bQ];refine bC (Vm w n x) (bC (Vj w n x) (bC (VB (cC Q ab) o) ?_));dsimp only;generalize av:md a (ht (c5 t s d a)) O=l;refine bC (jq aa) ?_;generalize N:(((a:Z),(a:Z),t,s,d,()):gq)=I;refine bJ (P:=λf=>f=(I,((a:Z),(l,()),aA a (λ_=>(Y ([],0):oX)),()),())) ?_ ?_
 ·refine bS a (λk p=>p=((k:Z),I,((a:Z),(l,()),aA a (λj=>if j<k then(Y ([],0):oX) else br),()),())) ?_ ?_ ?_
  ·rw[jV];rfl
  ·rintro k _ L rfl;dsimp only;rw[a5 (aJ (ae:(k:Z)<au (bM a (br:oX)))),bk aa];refine bC (e4 (by grind [cI])) ?_;rw[hb L,hq];refine bA.2 ?_;have:aA a (eK (λj=>if j<k then(Y ([],0):oX) else br) k (Y ([],0)))=aA a (λj=>if j<k+1 then(Y ([],0):oX) else br):=by
    refine db λj A=>?_;by_cases v:j=k
    ·simp_all [gw,ay]
    rw[gS _ _ v];grind
   grind
  rintro _ rfl;dsimp only;rw[a2 (aG (ae:¬((a:Z)<au (bM a (br:oX)))))];have:aA a (λj=>if j<a then(Y ([],0):oX) else br)=aA a (λ_=>(Y ([],0):oX)):=db λj A=>cc A;grind [bA]
 rintro _ rfl;dsimp only;refine bJ (P:=λf=>∃c,lD a O (c5 t s d a) c/\f=(((a:Z),(l,()),c,()),())) ?_ (by grind [bA]);subst N;refine bS a (λb p=>∃c,lD a O (c5 t s d b) c/\p=((b:Z),((a:Z),(a:Z),t,s,d,()),((a:Z),(l,()),c,()),())) ⟨_,lD.nil,bq⟩ ?_ ?_
 ·rintro b _ r ⟨c,m,rfl⟩;have u:=h.len;obtain⟨e,M⟩:=cD (h.pos b aa);obtain⟨i,F⟩:=cD (h.pos (b+1) aa);have bl:i<=s.length:=(by have:=h.sx (b+1) aa;omega);have bx:e<=i:=(by have:=h.mono b r;omega);have A:=h.val;have a4:=n.hi;dsimp only;rw[a5 (aJ (aa:(b:Z)<(a:Z))),bk aa];refine bC (y:=(e:Z)) (by rw[hF aa,M]) ?_;have R:c5 t s d (b+1)=c5 t s d b++hI s d (b:Z) e (i-e):=by
   grind [c5]
  have T:(c5 t s d (b+1)).Pairwise hj:=tZ h (b+1) aa;refine bJ (P:=λf=>∃c,lD a O (c5 t s d (b+1)) c/\f=(((a:Z),(a:Z),t,s,d,()),((a:Z),(l,()),c,()),())) ?_ (by grind [bA]);refine bS (i-e) (λg p=>∃c,lD a O (c5 t s d b++hI s d (b:Z) e g) c/\p=(((e+g:X):Z),((a:Z),(a:Z),t,s,d,()),((a:Z),(l,()),c,()),())) ⟨c,by grind [hI],bq⟩ ?_ ?_
  ·rintro g _ ci ⟨c,m,rfl⟩;dsimp only;refine bC (y:=(i:Z)) (by rw[hF aa,F]) ?_;rw[a5 (aJ (aa:((e+g:X):Z)<(i:Z)))];have S:=h.rng b (e+g) r aa aa;obtain⟨f,z⟩:=cD S.1;have H:(c5 t s d b++hI s d (b:Z) e g++[((f:Z),(b:Z),d.getD (e+g) 0,())]).Pairwise hj:=by
    refine arO ?_ T;rw[R,lC];refine ast (asu _) ?_;have:hI s d (b:Z) e g++[((f:Z),(b:Z),d.getD (e+g) 0,())]=hI s d (b:Z) e (g+1):=(by rw[hI,z]);rw[this,JA,JA,<-Fz (i-e) (g+1) _ aa];grind
   have K:c5 t s d b++hI s d (b:Z) e (g+1)=c5 t s d b++hI s d (b:Z) e g++[((f:Z),(b:Z),d.getD (e+g) 0,())]:=(by rw[lC,hI,z]);rw[K];refine bJ (P:=λad=>∃c,lD a O (c5 t s d b++hI s d (b:Z) e g++[((f:Z),(b:Z),d.getD (e+g) 0,())]) c/\ad=(((a:Z),(a:Z),t,s,d,()),((a:Z),(l,()),c,()),())) ?_ ?_
   ·refine bC (y:=(f:Z)) (by rw[hF aa,z]) ?_;rw[de];refine anH (λv=>?_) (λv=>?_)
    ·have G:f<a:=aa;refine bC (by rw[fc (by grind [cI]),lK]) (bC (by rw[fc (by grind [cI]),lK]) ?_);obtain⟨q,D,J⟩:∃q:X,(q:Z)=mf (hg O f:Z) (hg O b:Z)/\q<a:=by
      have:=(o.pos G).1;have:=(o.pos r).1;unfold mf;split
      ·grind
      grind
     obtain⟨B,E⟩:∃B:X,(B:Z)=me (hg O f:Z) (hg O b:Z):=(by unfold me;grind);change ah ((bn c.length (mf (hg O f:Z) (hg O b:Z))).bind _) _;rw[<-D];refine bC (e4 (by rw[m.len];omega)) ?_;refine bC (hF aa) ?_;refine bC (oz (n.hw _ ae)) ?_;dsimp only;obtain⟨V,U,u,_⟩:=m.get q J;refine bC (gP u) ?_;change ah ((uy (Y (V,U)) (me (hg O f:Z) (hg O b:Z)) _).bind _) _;rw[<-E];refine bC bq ?_;rw[gP u];exact bA.2 ⟨_,m.add o H G r aa D E u,bq⟩
    exact bA.2 ⟨c,m.skip H ae,bq⟩
   rintro _ ⟨c,C,rfl⟩;dsimp only;rw[bk aa];grind [bA]
  rintro _ ⟨c,m,rfl⟩;dsimp only;refine bC (y:=(i:Z)) (by rw[hF aa,F]) ?_;rw[a2 (aG (aa:¬((e+(i-e):X):Z)<(i:Z)))];grind [bA]
 rintro _ ⟨c,m,rfl⟩;dsimp only;rw[a2 (aG (aa:¬((a:Z)<(a:Z))))];grind [bA]
def Vq (f:a<=5) (e:j7 a a s d t) (c:hZ a a s d t=0) (g:fX O a):∃b,lD a O (c5 s d t a) b/\tS (((a:Z),(a:Z),s,d,t,()),O,())=Y (Y ((a:Z),(md a (ht (c5 s d t a)) O,()),b,()),0,()):=Nd (ny.Lh f c) e c g
theorem TH {E:bp c4} (g:lD a d E y) (p:b<a) (r:i<a):vX (Y ((a:Z),(q,()),y,()),(b:Z),(i:Z),())=Y (aE (kc E d b i),()):=by
 unfold vX;dsimp only;rw[bT];have s:∀c e:X,c<a->e<a->c<=e->((az y (c:Z)).bind λn=>Y (((gW (α:=fB) n (e:Z)).getD (bu,((bu,([],())),((0:Z),())))),()))=Y (aE (kc E d c e),()):=(by intro c e k m l;obtain⟨t,o,h,j⟩:=g.get c k;refine aq (gj h) ?_;have:=j e m l;rw[<-this];rfl);by_cases f:(i:Z)<(b:Z)
 ·rw[ay f,aw aa,X9];grind
 grind
theorem Gm (a:bo c≠2047):∃d,aV c=Y d:=by
 have ar:=Bo c;have g:=yo c;unfold aV;rw[aw a];unfold gQ;generalize f:(if c<9223372036854775808 then if bo c=0 then gA c else gA c+4503599627370496 else-(if bo c=0 then gA c else gA c+4503599627370496))=b;have e:aP b.natAbs<=53:=fY.2 (by
  omega)
 split
 ·grind
 rw[aw aa];grind
def ahL (a:X->X->Z) (c d b:X):amp:=dk (cK (aV (a b c)) (aV (a b d)))
def Me (c:X->X->amp) (d:X->X->Z) (a b:X):amp:=sW (c b a::(bK a).map (ahL d b a))
def Xc (b:X->X->amp) (e:X->X->bD) (d:X->X->Z) (a c:X):Z:=
 if c=a then GX (Me b d a a) 0 else if e a c=bt then g6 (Me b d a c) (aV (GX (Me b d a a) 0)) 0 else 0
def KM (a:X->X->amp) (b:X->X->bD):X->X->X->Z
 |0=>λ_ _=>0
 |j+1=>λd c=>if d=j then Xc a b (KM a b j) j c else KM a b j d c
def KL (b:X->X->amp) (d:X->X->bD) (a c:X):Z:=KM b d (a+1) a c
def SI (a:fM c) (b:fM j):Ff (c,j,())=Y (aE (cK (aV c) (aV j)),()):=by unfold Ff;refine aq (Tm a) (aq (Tm b) ?_);exact aq (age (kL _) (kL _)) rfl
theorem Gk {k:X} (b:c.natAbs=2*a+1):cO (c*2^k)=c/\eD (c*2^k)=(k:Z)-65536:=by have d:(c*2^k).natAbs=(2*a+1)*2^k:=(by rw[jr,b]);have e:=zu d;unfold cO eD;grind [Int.mul_ediv_cancel,Int.pow_pos]
def SE (b:c≠0) (a:X):c*2^a≠0:=arT b (by have:(0:Z)<2^a:=l0 ab;omega)
theorem Q0 (e:c.natAbs=2*i+1) (o:j+a+65536=(b:Z)) (m:-65536<=j) (n:j+a+aP c.natAbs<=65536):gQ (c*2^a) j=Y (c*2^b):=by have l:c≠0:=aa;have f:(c*2^a).natAbs=(2*i+1)*2^a:=(by rw[jr,e]);have g:=zu f;have h:aP (c*2^a).natAbs=aP c.natAbs+a:=(by grind [jr,r9]);unfold gQ;rw[aw (SE l a),g,h,aw aa];obtain⟨d,k⟩:=gd (aa:0<=j+65536);rw[k];show Y (rB (c*2^a) (d:Z))=_;rw[pu,ju,<-nB,(aa:a+d=b)]
def JG {m:Z} {a t k:X} (d:c=m*2^t) (b:m.natAbs=2*a+1) (f:(t:Z)+65536=(k:Z)) (e:t+aP m.natAbs<=65536):jD c=Y (m*2^k):=by unfold jD;rw[d];exact Q0 b aa ab aa
def JH {a:X} (e:c.natAbs=2*a+1) (f:0<c) (d:Z):mT (Y (c*2^b)) d=mU bu c.natAbs ((b:Z)-65536) bu d:=by obtain⟨g,h⟩:=Gk (k:=b) e;show qg (c*2^b) d=_;unfold qg;rw[aw (SE aa b),g,h,aG];have:(0:Z)<c*2^b:=tb f (l0 ab);omega
theorem Yu {a:X} (d:c.natAbs=2*a+1) (e:0<c):GX (Y (c*2^b)) 0=To (Tn c.natAbs ((b:Z)-65536)) c.natAbs ((b:Z)-65536) 0:=by obtain⟨f,g⟩:=Gk (k:=b) d;have:(0:Z)<c*2^b:=tb e (l0 ab);show(if c*2^b<0 then(9221120237041090560:Z) else if c*2^b=0 then 0 else L8 (c*2^b) 0)=_;rw[aw aa,aw aa];grind [L8]
theorem Yt {a b:X} (f:c.natAbs=2*a+1) (g:0<c) (d:j.natAbs=2*b+1) (e:0<j):g6 (Y (c*2^i)) (Y (j*2^u)) 0=GL (sM c.natAbs j.natAbs) c.natAbs j.natAbs bu ((i:Z)-65536-((u:Z)-65536)) 0:=by obtain⟨h,l⟩:=Gk (k:=i) f;obtain⟨m,n⟩:=Gk (k:=u) d;have o:(0:Z)<c*2^i:=tb g (l0 ab);have p:(0:Z)<j*2^u:=tb e (l0 ab);show(if j*2^u=0 then(9221120237041090560:Z) else if c*2^i=0 then 0 else zd (c*2^i) (j*2^u) 0)=_;rw[aw aa,aw aa];grind [aG,zd]
def Fw {a t:X} (d:j.natAbs=2*a+1) (g:(if c<9223372036854775808 then if bo c=0 then gA c else gA c+4503599627370496 else-(if bo c=0 then gA c else gA c+4503599627370496))=j*2^t) (f:bo c≠2047) (h:(if bo c=0 then-1074 else bo c-1075)+(t:Z)+65536=(b:Z)) (e:(if bo c=0 then-1074 else bo c-1075)+(t:Z)+aP j.natAbs<=65536):aV c=Y (j*2^b):=by unfold aV;rw[aw f,g];refine Q0 d h ?_ e;have:=Bo c;omega
def f4:mT (jD 4) 0=4616189618054758400:=by rw[JG (m:=1) (a:=0) (t:=2) (k:=65538) ab ab ab ab,JH (a:=0) ab ab];decide
def f2:mT (jD 2) 0=4611686018427387904:=by rw[JG (m:=1) (a:=0) (t:=1) (k:=65537) ab ab ab ab,JH (a:=0) ab ab];decide
def f5:mT (jD 5) 0=4617315517961601024:=by rw[JG (m:=5) (a:=2) (t:=0) (k:=65536) ab ab ab ab,JH (a:=2) ab ab];decide
def v4:aV 4616189618054758400=Y (1*2^65538):=Fw (a:=0) (t:=52) ab ab ab ab ab
def fy:aV 4611686018427387904=Y (1*2^65537):=Fw (a:=0) (t:=52) ab ab ab ab ab
def MJ:aV 4617315517961601024=Y (5*2^65536):=Fw (a:=2) (t:=50) ab ab ab ab ab
def v1:aV 4607182418800017408=Y (1*2^65536):=Fw (a:=0) (t:=52) ab ab ab ab ab
def aY:GX (Y (1*2^65538)) 0=4611686018427387904:=by rw[Yu (a:=0) ab ab];decide+kernel
def aB:g6 (Y (1*2^65537)) (Y (1*2^65537)) 0=4607182418800017408:=by rw[Yt (a:=0) (b:=0) ab ab ab ab];decide
def oY (g f e:X) (h a d:amv):Prop:=∃c,c<=a.length/\g1 g f h (a.take c) (d.take c)/\d.length=a.length/\(∀b,c<=b->b<a.length->0<=a.getD b 0/\a.getD b 0<(e:Z))/\(∀b,c<b->b<a.length->a.getD (b-1) 0<a.getD b 0)
def g1.open (c:g1 b a s d t):oY b a 0 s d t:=
 ⟨d.length,bf _,by rw[gJ (bf _),gJ (Nat.le_of_eq c.val)];exact c,c.val,λg f e=>absurd e aa,λg f e=>absurd e aa⟩
theorem oY.skip (f:oY i b a s d t):oY i b (a+1) s d t:=by obtain⟨m,g,h,j,k,l⟩:=f;exact⟨m,g,h,j,λn c e=>by have:=k n c e;omega,l⟩
def By (b:a<d.length):(d++[c]).getD a 0=d.getD a 0:=by rw[ji,qy b,<-ji]
def J4:(d++[c]).getD d.length 0=c:=by rw[ji,qz (bf _)];simp
theorem oY.add (j:oY i b a s d t) (o:Z):oY i b (a+1) s (d++[(a:Z)]) (t++[o]):=by
 obtain⟨n,k,l,p,h,m⟩:=j;refine⟨n,by simp;omega,?_,by simp;omega,λe f g=>?_,λe f g=>?_⟩
 ·rw[vh k,vh aa];exact l
 ·rw[hM,oV] at g;rcases c6 e d.length with c|c
  ·rw[By c];have:=h e f c;omega
  obtain rfl:e=d.length:=aa;rw[J4];omega
 rw[hM,oV] at g;rcases c6 e d.length with c|c
 ·rw[By c,By aa];exact m e f c
 obtain rfl:e=d.length:=aa;rw[J4,By aa];exact(h (d.length-1) aa aa).2
def J5 (c:a<b):(d.take b).getD a 0=d.getD a 0:=by rw[ji,te c,<-ji]
def oY.close (q:oY b a b s d t):g1 b (a+1) (s++[(d.length:Z)]) d t:=by
 obtain⟨x,m,i,r,u,v⟩:=q;have n:=i.len;have o:=i.last;rw[hz,iZ m] at o;have l:(s++[(d.length:Z)]).getD (a+1) 0=(d.length:Z):=(by rw[<-n];exact J4);have e:∀c,c<=a->(s++[(d.length:Z)]).getD c 0=s.getD c 0:=λc j=>By aa;have p:∀c,c<=a->s.getD c 0<=(x:Z):=λc j=>(by have:=i.sx c j;rw[hz,iZ m] at this;exact this);refine⟨by simp[n],by rw[e 0 aa];exact i.first,λc j=>?_,l,r,λc k j g h=>?_,λc k j g h=>?_⟩
 ·rcases c6 c a with f|f
  ·rw[e c aa,e (c+1) aa];exact i.mono c f
  obtain rfl:c=a:=aa;rw[e c aa,l,o];omega
 ·rcases c6 c a with f|f
  ·rw[e c aa] at g;rw[e (c+1) aa] at h;have w:=p (c+1) aa;have:=i.rng c k f g h;rw[J5 aa] at this;exact this
  obtain rfl:c=a:=aa;rw[e c aa] at g;rw[l] at h;exact u k aa aa
 rcases c6 c a with f|f
 ·rw[e c aa] at g;rw[e (c+1) aa] at h;have w:=p (c+1) aa;have:=i.asc c k f g h;rw[J5 aa,J5 aa] at this;exact this
 obtain rfl:c=a:=aa;rw[e c aa] at g;rw[l] at h;exact v k aa aa
def g1.empty (d:X):g1 d 0 [0] [] []:=⟨bq,bq,λb a=>absurd a aa,bq,bq,λb c a=>absurd a aa,λb c a=>absurd a aa⟩
structure CY (P:Z->Prop) (rows e0:X) (m:gq):Prop where
 ex:∃st jb n0,m=((rows:Z),(e0:Z),st,jb,n0,())/\g1 rows e0 st jb n0/\(∀v∈n0,P v)/\jb.length<=e0*rows
abbrev CX:=CY fM
def CX.ahh (g:b<=6) (f:a<=6) (c:g1 b a t d s) (e:∀h∈s,fM h) (i:d.length<=a*b):j7 b a t d s:=by have j:a*b<=6*6:=n8 f g;exact⟨aa,aa,aa,by rw[c.len];omega,by rw[c.val];omega,e⟩
def CX.small (h:b<=5) (g:a<=5) (c:g1 b a t d s) (e:∀i∈s,fM i) (f:d.length<=a*b):j7 b a t d s:=
 CX.ahh (eE h ab) (eE g ab) c e f
theorem UD {a:Z->Prop} (f:a 0) {E:bp c4} (e:∀d∈E,a d.2.2.1) (b c:Z):a (mY E b c):=by grind [arR,decide,mY]
theorem Vr (i:d.length<=9223372036854775807) {n:X} (q:n<=12):ah (ER (d,(n:Z),())) λb=>b.1.Perm ((bK n).map (λe:X=>(e:Z))):=by
 unfold ER;dsimp only;refine bJ (P:=λb=>b.1.Perm ((bK n).map (λe:X=>(e:Z)))) ?_ (by grind [bA]);refine bS n (λc o=>∃a,o=(a,(c:Z),())/\a.Perm ((bK c).map (λe:X=>(e:Z)))) ⟨[],bq,aoU _⟩ ?_ ?_
 ·rintro c _ p ⟨a,rfl,k⟩;have j:a.length=c:=(by have:=k.length_eq;grind);dsimp only;rw[a5 (aJ (aa:(c:Z)<(n:Z))),bk aa];refine bJ (UM d i _) ?_;rintro⟨h,_⟩ m;dsimp only at m|-;rw[Cx ab ab,bT];refine bC (KZ _ (n:=c+1) aa aa) ?_;have r:=Gg (aD (h/2^(1:Z).toNat)) (n:=c+1) aa;dsimp only;generalize wA (aD (h/2^(1:Z).toNat)) (c+1)=b at*;refine bC (G8 aa) ?_;dsimp only;rw[fe ae,bT,fe ae,bT];have l:((hS (b:Z)).bind λf=>(Y a.length).bind λg=>(iA f g a.length).map λ_=>(f,g))=Y (b,a.length):=by
   have:hS (b:Z)=Y b:=(by simp_all [ay,fV,hS]);rw[this];show(iA b a.length a.length).map _=_;unfold iA;grind
  refine bC l ?_;dsimp only;rw[fe ae,bT];refine bA.2 ⟨_,bq,?_⟩;rw[am7,aqD,amy];have s:a.take b++a.drop b=a:=List.take_append_drop b a;grind
 rintro _ ⟨a,rfl,j⟩;simp_all [bA,a2,aG]
theorem Rk (a:X):hS (a:Z)=Y a:=by simp_all [ay,fV,hS]
theorem ahg (e:b<=a) (f:a<=i):((hS (b:Z)).bind λc=>(hS (a:Z)).bind λd=>(iA c d i).map λ_=>(c,d))=Y (b,a):=by simp_all [ay,Rk,iA]
def ah7 (e:a*2^i=b*2^u) (g:0<a) (f:0<b):cV a+i=cV b+u/\aP a+i=aP b+u:=by have c:=b9 cV e;have d:=b9 aP e;rw[CF aa,CF f] at c;rw[r9 aa,r9 f] at d;exact⟨c,d⟩
theorem Re (a:j*c=w*2^65536) (q:gb w):cK (Y j) (Y c)=Y w:=by
 show gQ (cO j*cO c) (eF j+eF c)=Y w;have f:∀g:X,(2:Z)^g≠0:=λg=>(by have:(0:Z)<2^g:=l0 ab;omega);by_cases b:j=0
 ·rw[b,n4] at a;rw[b,Gj,n4,(zI.1 a.symm).resolve_right (f _)];rfl
 by_cases d:c=0
 ·rw[d,Int.mul_zero] at a;rw[d,Gj,Int.mul_zero,(zI.1 a.symm).resolve_right (f _)];rfl
 have t:=oy j;have u:=oy c;have aT:=k4 b;have s:=k4 d;have x:=BZ.1 ⟨aa,Ry b⟩;have y:=BZ.1 ⟨aa,Ry d⟩;have o:cO j*cO c≠0:=arT aT s;have k:cV (cO j*cO c).natAbs=0:=(by refine(BZ.2 ?_).2;rw[pE,Nat.mul_mod,x,y]);have ar:cO j*cO c*2^(cV j.natAbs+cV c.natAbs)=w*2^65536:=by
  rw[<-a,nB]
  conv=>rhs;rw[<-t,<-u]
  rw[ju,ju,Int.mul_left_comm (cO c)]
 have m:eF j=(cV j.natAbs:Z)-65536:=(by rw[eF,aw b];rfl);have n:eF c=(cV c.natAbs:Z)-65536:=(by rw[eF,aw d];rfl);rw[m,n];generalize cV j.natAbs=h at*;generalize cV c.natAbs=i at*;generalize cO j*cO c=B at*;have e:=b9 aqI ar;rw[jr,jr] at e;have r:0<w.natAbs:=aeO e aa;obtain⟨l,z⟩:=ah7 e aa r;rw[k] at l;have A:aP w.natAbs<=131072:=q;unfold gQ;rw[aw o,k,aw aa];obtain⟨v,p⟩:=gd (aa:0<=(h:Z)-65536+((i:Z)-65536)+65536);rw[p,pu];congr 1;have:h+i=v+65536:=aa;rw[this,nB,<-ju] at ar;exact HD (f _)|>.1 ar
def lq (a:Z):Z:=if a<9223372036854775808 then if bo a=0 then gA a else gA a+4503599627370496 else-(if bo a=0 then gA a else gA a+4503599627370496)
def ma (a:Z):Z:=if bo a=0 then-1074 else bo a-1075
def JF (a:bo c≠2047):-1074<=ma c/\ma c<=971:=by have:=Bo c;unfold ma;split<;>omega
def Q9 (a:Z):aP (lq a).natAbs<=53:=fY.2 (by
 have b:=yo a;have:(2:X)^53=9007199254740992:=ab;rw[this];unfold lq;split<;>split<;>omega)
theorem rk (b:bo c≠2047):aV c=Y (lq c*2^(ma c+65536).toNat):=by
 have h:=JF b;have g:=Q9 c;unfold aV;rw[aw b];change gQ (lq c) (ma c)=_;generalize lq c=f at*;generalize ma c=d at*;unfold gQ;by_cases a:f=0
 ·rw[ay a,a,n4]
 rw[aw a,aw aa];obtain⟨i,e⟩:=gd (aa:0<=d+65536);rw[e,pu,fV]
section
section
variable {A:X->X->amp} {G:ez} {o:amv} {n:X}
def ZJ (u:n<=200) (h:fX o n):OK (o,())=Y (bt,()):=by
 have l:=h.1;unfold OK;dsimp only;rw[show au o=(n:Z) by rw[a8,l]];refine aq (jq aa) ?_;refine bR.1 ?_;refine bJ (P:=λq=>q=.inl ()) ?_ (by rintro _ rfl;exact bA.2 bq);refine bS n (λa r=>r=((a:Z),aA n (λb=>bw ((b:Z)∈o.take a)),())) ?_ ?_ ?_
 ·rw[jV];simp
 ·rintro a _ t rfl;dsimp only;rw[a5 (aJ (aa:(a:Z)<(n:Z))),fc (aa:a<o.length)];have j:o.take (a+1)=o.take a++[o[a]'(by omega)]:=by rw[amG,bZ aa];rfl
  have p:=h.2.1 _ (cT (aa:a<o.length));have i:=arS (apv (a+1) o) h.2.2;rw[j,jR] at i;have m:o[a]'(by omega)∉o.take a:=λk=>i.2.2 _ k _ (gI.2 bq) rfl
  have g:∀e,e∈o.take (a+1)↔e∈o.take a\/e=o[a]'(by omega):=λe=>by rw[j,hl,gI]
  clear i j;generalize w:o[a]'(by omega)=b at*
  obtain⟨d,rfl⟩:=gd p.1;simp only[aM];rw[a5 (show(bw ((d:Z)<0)==bu)=bt by rw[aG aa];rfl),a5 (show(bw ((d:Z)>=(n:Z))==bu)=bt by rw[aG aa];rfl)];rw[ky (by rw[cI];omega),lK,a2 (aG m)];simp only[aM];rw[nw (by rw[cI];omega),hq];refine bA.2 ?_;rw[bk aa];have:aA n (eK (λb=>bw ((b:Z)∈o.take a)) d bt)=aA n (λb=>bw ((b:Z)∈o.take (a+1))):=by
   refine db λs v=>?_;by_cases f:s=d
   ·subst f;rw[gw,aJ ((g _).2 (.inr bq))]
   rw[gS _ _ f];exact amD.2 ⟨λc=>(g _).2 (.inl c),λc=>((g _).1 c).resolve_right λc=>f aa⟩
  rw[this]
 rintro _ rfl;dsimp only;rw[a2 (aG (aa:¬((n:Z)<(n:Z))))];exact bA.2 bq
end
end
section
section
variable {A:X->X->amp} {G:ez} {o:amv} {n:X}
def Fl {n j:X} (b:a<n):(j*n+a)/n=j/\(j*n+a) %n=a:=by
 constructor
 ·rw[nG,aqE aa,apt b,m4]
 rw[nG,Nat.mul_add_mod,Nat.mod_eq_of_lt b]
def Af {n:X} (c:a<n) (d:b<n):a*n+b<n*n:=by have:(a+1)*n<=n*n:=hW _ c;rw[la,iL] at this;omega
def zq {n:X} (a:n<=5):n*n<=25:=n8 a a
def aiw {n:X} (f:n<=5) (e:a<n) (d:b<n):aD (aD ((a:Z)*(n:Z))+(b:Z))=((a*n+b:X):Z):=by have h:=Af e d;have i:=zq f;have c:(a:Z)*(n:Z)=((a*n:X):Z):=(by rw[pF]);rw[c];generalize a*n=g at*;generalize n*n=j at*;rw[cG (x:=(g:Z)) aa aa,cG aa aa];omega
def aix {n:X} (b:n<=5):aD ((n:Z)*(n:Z))=((n*n:X):Z):=by have c:=zq b;have a:(n:Z)*(n:Z)=((n*n:X):Z):=(by rw[pF]);rw[a];generalize n*n=d at*;rw[cG aa aa]
end
end
section
def qd (A:X->X->amp) (n:X):bp fB:=aA (n*n) λa=>aE (A (a %n) (a/n))
section
variable {n:X} {st C D o:amv}
def Vw (i:n<=5) (r:j7 n n st C D) (q:hZ n n st C D=0) (s:fX o n):As (((n:Z),(n:Z),st,C,D,()),o,())=Y (((n:Z),(n:Z),qd (kc (c5 st C D n) o) n,()),0,()):=by
 obtain⟨t,m,p⟩:=Vq i r q s;have v:=zq i;unfold As;refine aq p ?_;dsimp only;rw[a2 af];refine aq bq ?_;dsimp only;rw[a2 (aG (aa:¬(n:Z)>64))];refine aq bq (aq bq (aq bq ?_));generalize c5 st C D n=E at*;generalize md n (ht E) o=G at*;refine bR.1 ?_;dsimp only;generalize w:(((0:Z),(0:Z),[],()):xD)=d;refine bJ (P:=λe=>e=(d,((n:Z),(n:Z),qd (kc E o) n,()),())) ?_ (by rintro _ rfl;exact bA.2 bq);refine bS n (λa f=>f=((a:Z),d,((n:Z),(n:Z),aA (a*n) (λb=>aE (kc E o (b %n) (b/n))),()),())) ?_ ?_ ?_
 ·rw[Nat.zero_mul];rfl
 ·rintro a _ h rfl;dsimp only;rw[a5 (aJ (aa:(a:Z)<(n:Z))),bk aa];have u:a*n+n<=n*n:=by
   have:(a+1)*n<=n*n:=hW _ h;rw[la,iL] at this;omega
  refine bC bq ?_;refine bJ (P:=λe=>e=(d,((n:Z),(n:Z),aA (a*n+n) (λb=>aE (kc E o (b %n) (b/n))),()),())) ?_ (by rintro _ rfl;exact bA.2 (by rw[la,iL]));refine bS n (λc f=>f=((c:Z),d,((n:Z),(n:Z),aA (a*n+c) (λb=>aE (kc E o (b %n) (b/n))),()),())) rfl ?_ ?_
  ·rintro c _ g rfl;dsimp only;rw[a5 (aJ (aa:(c:Z)<(n:Z))),bk aa];refine bC (TH m g h) ?_;dsimp only;refine bC (ym (kL _)) ?_;dsimp only;rw[fe (by rw[cI];simp;omega),bT];refine bA.2 ?_;obtain⟨k,l⟩:=Fl (n:=n) (j:=a) g;rw[<-apz,om (a*n+c),k,l]
  rintro _ rfl;dsimp only;rw[a2 (aG (aa:¬((n:Z)<(n:Z))))];exact bA.2 bq
 rintro _ rfl;dsimp only;rw[a2 (aG (aa:¬((n:Z)<(n:Z))))];exact bA.2 bq
end
section
variable {A B:X->X->amp} {G:ez} {o:amv} {n:X}
def Ov (a b:Z):gh a b>0↔b<a:=by
 unfold gh;split
 ·omega
 split<;>omega
def ZF:jD 0=Y 0:=rfl
end
end
def St {b:bD} (n:a<=9007199254740992) (o:-1074<=c) (m:4503599627370496<=a\/c=-1074) (d:bo (ls b a c 0)≠2047):lq (ls b a c 0)*2^(ma (ls b a c 0)+65536).toNat=(if b then-(a:Z) else(a:Z))*2^(c+65536).toNat:=by
 have l:bo (rq b 0)=2047:=(by cases b<;>decide);have j:∀(f k i:Z),bo f≠2047->lq f=k->ma f=i->k*2^(i+65536).toNat=(if b then-(a:Z) else(a:Z))*2^(c+65536).toNat->lq f*2^(ma f+65536).toNat=(if b then-(a:Z) else(a:Z))*2^(c+65536).toNat:=(by intro f k i _ h g e;rw[h,g];exact e);unfold ls at d|-;by_cases h:a<4503599627370496
 ·rw[ay h] at d|-;obtain rfl:c=-1074:=aa;refine j _ (if b then-(a:Z) else(a:Z)) (-1074) d ?_ ?_ bq
  ·unfold lq bo gA j0;cases b<;>simp<;>omega
  unfold ma bo j0;cases b<;>simp<;>omega
 rw[aw h] at d|-;by_cases g:a=9007199254740992
 ·rw[ay g] at d|-;by_cases e:c+1+1075>=2047
  ·rw[ay e] at d;exact absurd l d
  rw[aw e] at d|-;refine j _ (if b then-(4503599627370496:Z) else 4503599627370496) (c+1) d ?_ ?_ ?_
  ·unfold lq bo gA j0;cases b<;>simp<;>omega
  ·unfold ma bo j0;cases b<;>simp<;>omega
  have ar:(c+1+65536).toNat=(c+65536).toNat+1:=aa;rw[ar,Int.pow_succ,g];generalize(2:Z)^(c+65536).toNat=p;cases b<;>simp<;>omega
 rw[aw g] at d|-;by_cases e:c+1075>=2047
 ·rw[ay e] at d;exact absurd l d
 rw[aw e] at d|-;refine j _ (if b then-(a:Z) else(a:Z)) c d ?_ ?_ bq
 ·unfold lq bo gA j0;cases b<;>simp<;>omega
 unfold ma bo j0;cases b<;>simp<;>omega
theorem oA (a b:X):(2:Z)^(a+b)=2^a*2^b:=nB 2 a b
def abt (b:-65536<=eD c):c=cO c*2^(eD c+65536).toNat:=by have a:=oy c;have:(eD c+65536).toNat=cV c.natAbs:=(by unfold eD;omega);rw[this,a]
def Yr (a:Z):-65536<=eD a:=by unfold eD;omega
def abq (a:Z):cO a=(if bw (a<0)=bt then-1 else 1)*((cO a).natAbs:Z):=by
 have:=BY (v:=a);by_cases b:a<0
 ·simp[b];omega
 simp[b];omega
section
def wT (b:amp) (n:Z):amp:=b.bind λa=>if a=0 then Y 0 else gQ (cO a) (eD a+n)
def agF (c:da x) {n:Z} (k:-262144<=n) (l:n<=262144):E4 (aE x,n,())=Y (aE (wT x n),()):=by
 unfold E4;refine aq (wM c) ?_;cases x with
 |none=>rfl
 |some a=>
  have d:=c a bq;have j:=k5 d;have f:=kO d;rw[hd];have h:=qh (z:=cO a) aa;dsimp only;rw[a5 af,h,bT,bT];dsimp only;rw[ly,de];by_cases b:a=0
  ·rw[ay (Rx.2 b)];subst b;rfl
  have i:=λe=>b (Rx.1 e);rw[b6 i,bT];dsimp only;rw[a5 (by rw[aG aa];rfl),bT];dsimp only;rw[aG aa,bQ,bT];dsimp only;have g:eF a=eD a:=(by unfold eF;rw[b6 b]);rw[g] at f|-;rw[cG aa aa];refine aq (zg aa aa aa) ?_;show Y (aE (gQ (cO a) (eD a+n)),())=Y (aE (if a=0 then Y 0 else gQ (cO a) (eD a+n)),());rw[b6 b]
section
variable {A:X->X->amp} {G:ez} {o:amv} {n:X}
end
end
def gx (a:X) (b:Z):Prop:=∃c,b=c*2^a
theorem gx.zero (a:X):gx a 0:=⟨0,by rw[n4]⟩
theorem gx.add (d:gx a c) (b:gx a j):gx a (c+j):=by obtain⟨e,rfl⟩:=d;obtain⟨f,rfl⟩:=b;exact⟨e+f,by rw[Int.add_mul]⟩
def gx.neg (b:gx a c):gx a (-c):=by obtain⟨d,rfl⟩:=b;exact⟨-d,by rw[Int.neg_mul]⟩
theorem gx.mono (e:gx b c) (d:a<=b):gx a c:=by obtain⟨g,rfl⟩:=e;obtain⟨f,rfl⟩:=Nat.exists_eq_add_of_le d;exact⟨g*2^f,by rw[anO,oA,ju]⟩
def gx.shl (a:X) (b:Z):gx a (b*2^a):=⟨b,bq⟩
theorem gx.ME (d:c≠0):gx a c↔a<=cV c.natAbs:=by
 rw[ur aa];constructor
 ·rintro⟨e,rfl⟩;rw[jr,Nat.mul_mod_left]
 intro b;exact⟨c/2^a,(Fm b).symm⟩
def gx.ex (d:c≠0) (b:gx a c):(a:Z)-65536<=eD c:=by have:=(gx.ME d).1 b;unfold eD;omega
def GB {neg:bD} (b:Z) (d:a<=9007199254740992) (e:-1074<=c) (f:c<=900):ls neg a c b=ls neg a c 0/\bo (ls neg a c 0)≠2047:=by
 unfold ls;rw[aw (aa:¬c+1+1075>=2047),aw (aa:¬c+1075>=2047),aw (aa:¬c+1+1075>=2047),aw (aa:¬c+1075>=2047)];refine⟨bq,?_⟩;split
 ·unfold bo j0;cases neg<;>simp<;>omega
 split
 ·unfold bo j0;cases neg<;>simp<;>omega
 unfold bo j0;cases neg<;>simp<;>omega
theorem agw (f:Z) (l:c≠0) (F:gx (65536-1074) c) (Q:aP c.natAbs<=65536+900):bo (qg c f)≠2047/\∃p,aV (qg c f)=Y p/\(∀m,gx m c->gx m p)/\p.natAbs<=2*c.natAbs/\c.natAbs<=2*p.natAbs:=by
 have ad:=F.ex l;have r:0<(cO c).natAbs:=(by have:=k4 l;omega);have S:=Lf l;have V:=sZ (n:=c.natAbs) aa;have q:c=(if bw (c<0)=bt then-1 else 1)*((cO c).natAbs:Z)*2^(eD c+65536).toNat:=(by rw[<-abq];exact abt (Yr c));have C:(eD c+65536).toNat=cV c.natAbs:=(by unfold eD;omega);have O:eD c=(cV c.natAbs:Z)-65536:=rfl;unfold qg;rw[aw l];generalize R:(cO c).natAbs=a at*;generalize T:bw (c<0)=d at*;have g:=CH (neg:=d) (sF:=bu) (sE:=f) (e:=eD c) r;have M:eH a (eD c)=eD c+aP a-53\/eH a (eD c)=-1074:=(by unfold eH;omega);have o:eD c+aP a-53<=eH a (eD c)/\-1074<=eH a (eD c):=(by unfold eH;omega);have y:eH a (eD c)<=900:=aa;have H:=xM r;unfold mU;generalize eH a (eD c)=h at*;by_cases u:h<=eD c
 ·rw[ay u] at g|-;obtain⟨k,w⟩:=gd (aa:0<=eD c-h);rw[w,fV] at g|-;obtain⟨aB,j⟩:=GB (neg:=d) f g o.2 y;have s:4503599627370496<=a*2^k\/h=-1074:=by
   rcases M with t|t
   ·left;have ar:aP (a*2^k)=53:=(by rw[r9 r];omega);have:=tB.1 (aa:52<aP (a*2^k));exact this
   exact .inr t
  rw[aB];refine⟨j,c,?_,λm E=>E,aa,aa⟩;rw[rk j,St g o.2 s j];congr 1;have N:(eD c+65536).toNat=k+(h+65536).toNat:=aa;rw[N,oA] at q;refine Eq.trans ?_ q.symm
  push_cast
  generalize(2:Z)^k=am;generalize(2:Z)^(h+65536).toNat=an;cases d<;>simp<;>grind
 rw[aw u] at g|-;obtain⟨b,L⟩:=gd (aa:0<=h-eD c);rw[L,fV] at g|-;obtain⟨aB,j⟩:=GB (neg:=d) f g o.2 y;have U:b+53=aP a:=aa;have K:iO d a b bu f<=a/2^b+1:=by
  unfold iO;split
  ·omega
  split<;>omega
 have G:2^52*2^b<=a:=(by rw[<-kk];exact eE (wK _ _ aa) H.1);have x:=kD b;have J:4503599627370496<=a/2^b:=(aqq x).2 G;have v:a/2^b<=iO d a b bu f:=by
  unfold iO;split
  ·exact bf _
  split<;>omega
 have s:=eE J v;have w:=Nat.div_mul_le_self a (2^b);rw[aB];generalize iO d a b bu f=i at*;refine⟨j,(if d=bt then-(i:Z) else(i:Z))*2^(h+65536).toNat,?_,?_,?_⟩
 ·rw[rk j,St g o.2 (.inl s) j]
 ·intro m I;have:=(gx.ME l).1 I;exact(gx.shl _ _).mono aa
 have ar:(h+65536).toNat=b+cV c.natAbs:=aa;have z:c.natAbs=a*2^cV c.natAbs:=(by have:=b9 aqI q;have B:(if d=bt then(-1:Z) else 1).natAbs=1:=(by cases d<;>rfl);rw[jr,pE,aqB,C,B,iL] at this;exact this);have A:(if d=bt then-(i:Z) else(i:Z)).natAbs=i:=(by cases d<;>simp);rw[jr,ar,kk,<-tj,A];have D:i*2^b<=(a/2^b+1)*2^b:=hW _ K;rw[la,iL] at D;have f2:2^b<=2^52*2^b:=Nat.le_mul_of_pos_left _ ab;have P:a/2^b*2^b<=i*2^b:=hW _ v;have f4:=zT a (2^b);have f5:=anT a x;rw[nG] at f4;generalize cV c.natAbs=t at*;rw[z];constructor
 ·rw[<-tj];exact hW _ aa
 rw[<-tj];exact hW _ aa
section
def SN (B:X):(2:Z)^B≠0:=by have:(0:Z)<2^B:=l0 ab;omega
def YP {B:X} (d:B=65536) (b:bo j≠2047) (a:aV j=Y c):gx (B-1074) c:=by rw[rk b] at a;cases a;have e:=JF b;exact(gx.shl _ _).mono aa
section
variable {A:X->X->amp} {G:ez} {o:amv} {n J:X}
variable {B b:X}
end
end
section
def bd (A e k c:X) (b:amp):Prop:=∃a,b=Y a/\gx (A-e) a/\a.natAbs<=c*2^(A+k)
section
variable {A e k c B D C:X} {a b:amp}
theorem bd.rng (g:A=65536) (i:k<=60000) (h:c<1048576) (a:j.natAbs<=c*2^(A+k)):gb j:=by have e:=kq a;have b:aP c<=20:=fY.2 aa;have d:aP (2^(A+k))<=A+k+1:=fY.2 (GA _ _ aa);have f:=vy b d;grind [gb]
theorem bd.mono (b:bd A e k c a) (i:e<=B) (j:k<=D) (g:c<=C):bd A B D C a:=by obtain⟨h,rfl,d,f⟩:=b;exact⟨h,bq,d.mono aa,eE f (n8 g (wK _ _ aa))⟩
theorem bd.zero:bd A e k c (Y 0):=⟨0,bq,gx.zero _,eU _⟩
def bd.neg (b:bd A e k c a):bd A e k c (dk a):=by obtain⟨f,rfl,d,g⟩:=b;exact⟨-f,bq,d.neg,aa⟩
theorem bd.add (m:A=65536) (o:k<=60000) (j:bd A e k c a) (h:bd A e k C b) (n:c+C<1048576):bd A e k (c+C) (cZ a b)/\cZ a b=Y (a.getD 0+b.getD 0):=by obtain⟨d,rfl,l,q⟩:=j;obtain⟨f,rfl,i,p⟩:=h;have g:(d+f).natAbs<=(c+C)*2^(A+k):=ae;have e:cZ (Y d) (Y f)=Y (d+f):=(by show nb (d+f)=_;unfold nb;rw[ay (bd.rng m o n g)]);exact⟨⟨_,e,l.add i,g⟩,e⟩
theorem bd.mul (q:A=65536) (o:bd A e k c a) (m:bd A B D C b) (v:e+B<=60000) (s:k+D<=60000) (r:c*C<1048576):bd A (e+B) (k+D) (c*C) (cK a b)/\∃d f l,a=Y d/\b=Y f/\cK a b=Y l/\l*2^A=d*f:=by obtain⟨d,rfl,⟨g,t⟩,p⟩:=o;obtain⟨f,rfl,⟨h,u⟩,n⟩:=m;have ar:g*h*2^(A-(e+B))*2^A=d*f:=(by rw[t,u,ju (g*h),<-oA,(aa:A-(e+B)+A=(A-e)+(A-B)),oA];grind);have i:(g*h*2^(A-(e+B))).natAbs<=c*C*2^(A+(k+D)):=(by refine Nat.le_of_mul_le_mul_right (c:=2^A) ?_ (kD A);rw[<-jr,ar,pE];refine eE (n8 p n) (Nat.le_of_eq ?_);grind);have j:cK (Y d) (Y f)=Y (g*h*2^(A-(e+B))):=(by refine Re ?_ (bd.rng q s r i);grind);exact⟨⟨_,j,gx.shl _ _,i⟩,d,f,_,bq,bq,j,ar⟩
def bd.kG (c:A=65536) (a:bo j≠2047):bd A 1074 1024 1 (aV j):=by obtain⟨e,b⟩:=Gm a;refine⟨e,b,YP c a b,?_⟩;rw[rk a] at b;obtain rfl:=gn b;have f:=JF a;have d:(lq j).natAbs<2^53:=fY.1 (Q9 j);rw[jr,iL];refine eE (hW _ (Nat.le_of_lt d)) ?_;rw[<-kk];exact wK _ _ aa
def bd.val (h:bd A e k c a):a=Y (a.getD 0):=by obtain⟨b,rfl,_⟩:=h;rfl
end
end
section
def kQ (a c b:Z):amp:=cK (cK (aV a) (aV c)) (aV b)
section
variable {A c:X}
def bd.kQ (a:A=65536) {b d c:Z} (e:bo b≠2047) (g:bo d≠2047) (f:bo c≠2047):bd A 3222 3072 1 (kQ b d c):=
 (bd.mul a (bd.mul a (bd.kG a e) (bd.kG a g) ab ab ab).1 (bd.kG a f) ab ab ab).1
def bd.sub (g:A=65536) {a:amp} (d:bd A 3222 3072 c x) (b:bd A 3222 3072 1 a) (h:c+1<1048576):bd A 3222 3072 (c+1) (cZ x (dk a))/\cZ x (dk a)=Y (x.getD 0-a.getD 0):=by obtain⟨e,f⟩:=bd.add g ab d b.neg h;refine⟨e,f.trans ?_⟩;obtain⟨i,rfl,_⟩:=b;rfl
def bd.ahy (a:A=65536) {f b d e:amp} (g:bd A 3222 3072 c f) (h:bd A 3222 3072 1 x) (i:bd A 3222 3072 1 b) (j:bd A 3222 3072 1 d) (k:bd A 3222 3072 1 e) (D:c+4<1048576):cZ (cZ (cZ (cZ f (dk x)) (dk b)) (dk d)) (dk e)=cZ f (dk (cZ (cZ (cZ x b) d) e))/\bd A 3222 3072 (c+4) (cZ f (dk (cZ (cZ (cZ x b) d) e))):=by obtain⟨m,p⟩:=bd.sub a g h aa;obtain⟨n,q⟩:=bd.sub a m i aa;obtain⟨o,r⟩:=bd.sub a n j aa;obtain⟨C,s⟩:=bd.sub a o k aa;obtain⟨t,y⟩:=bd.add a ab h i ab;obtain⟨u,z⟩:=bd.add a ab t j ab;obtain⟨v,d3⟩:=bd.add a ab u k ab;obtain⟨w,B⟩:=bd.add a ab g v.neg aa;refine⟨?_,w⟩;rw[s,B,r,q,p,d3,z,y];obtain⟨l,rfl,_⟩:=g;show Y (l-x.getD 0-b.getD 0-d.getD 0-e.getD 0)=Y (l+-(x.getD 0+b.getD 0+d.getD 0+e.getD 0));congr 1;omega
end
structure bh where
 rows:amu
 full:X
 s:X->X->amp
def bh.cM (c:bh) (a b:X):Z:=mT (c.s a b) 0
def bh.av (c:bh) (a b:X):Z:=((aV (c.cM a b)).getD 0).natAbs
def bh.fin (a:bh) (c:X):Prop:=∀b∈a.rows,bo (a.cM b c)≠2047
instance(b:bh) (a:X):am9 (b.fin a):=arU ..
def h5 (b:X->Z) (c:X):amu->Z×amq->Z×amq
 |[],a=>a
 |i::d,a=>h5 b c d (if i=c then a else if a.2=br\/a.1<b i then(b i,Y i) else a)
def bh.cU (b:bh) (a:X):Z×amq:=h5 (λc=>b.av c a) a b.rows (0,br)
def bh.jx (a:bh):amu->bv amu
 |[]=>Y []
 |p::c=>if¬a.fin p then br else
  if(a.cU p).1=0\/41*(a.cU p).1<=64*a.av p p then Y [p] else
  match(a.cU p).2 with
  |none=>Y [p]
  |some b=>if b∉a.rows.take a.full then a.jx c else if¬a.fin b then br else
   if 41*((a.cU p).1*(a.cU p).1)<=64*(a.av p p*(a.cU b).1) then Y [p] else
   if 41*(a.cU b).1<=64*a.av b b then Y [b] else Y [p,b]
def bh.choose (a:bh):bv amu:=a.jx (a.rows.take a.full)
structure aN where
 a7:amu
 d:amv
 rows:amu
 l:bp (X->Z)
def jz (a:amv):amp:=cZ (cK (aV (a.getD 0 0)) (aV (a.getD 2 0))) (dk (cK (aV (a.getD 1 0)) (aV (a.getD 1 0))))
def bh.kZ (a:bh):amu->amv
 |[p]=>[a.cM p p]
 |[p,r]=>[a.cM p p,a.cM r p,a.cM r r]
 |_=>[]
def bh.lc (a:bh):amu->bp (X->Z)
 |[p]=>[λb=>if ov (a.cM p p)=0 then 0 else g6 (a.s b p) (aV (a.cM p p)) 0]
 |[p,r]=>[λb=>g6 (cZ (cK (a.s b p) (aV (a.cM r r))) (dk (cK (a.s b r) (aV (a.cM r p))))) (jz (a.kZ [p,r])) 0,λb=>g6 (cZ (cK (a.s b r) (aV (a.cM p p))) (dk (cK (a.s b p) (aV (a.cM r p))))) (jz (a.kZ [p,r])) 0]
 |_=>[]
def Bw (e:amv) (f:bp (X->Z)) (b d:X):amp:=match e,f with
 |[d0],[a]=>kQ (a b) d0 (a d)
 |[d0,d1,d2],[a,c]=>cZ (cZ (cZ (kQ (a b) d0 (a d)) (kQ (a b) d1 (c d))) (kQ (c b) d1 (a d))) (kQ (c b) d2 (c d))
 |_,_=>Y 0
def bh.elim (a:bh) (c:amu):bh:=⟨a.rows.filter λb=>bw (b∉c),a.full-c.length,λb d=>cZ (a.s b d) (dk (Bw (a.kZ c) (a.lc c) b d))⟩
def bh.e7 (b:bh) (a:amu):aN:=⟨a,b.kZ a,b.rows.filter λc=>bw (c∉a),b.lc a⟩
def aN.fin (a:aN):Prop:=∀b∈a.l,∀c∈a.rows,bo (b c)≠2047
instance(a:aN):am9 a.fin:=arU ..
def bh.run:X->bh->bv (bh×bp aN)
 |0,a=>Y (a,[])
 |n+1,a=>match a.choose with
  |none=>br
  |some []=>Y (a,[])
  |some b=>if(a.e7 b).fin then(bh.run n (a.elim b)).map λc=>(c.1,a.e7 b::c.2) else br
end
def bh.okd (a:bh):Prop:=∀b∈a.rows,∀c∈a.rows,da (a.s b c)
def bh.NV (c:bh) (d:bo (c.cM a b)≠2047):z8 (aV (c.cM a b))=Y (c.av a b):=by obtain⟨f,e⟩:=Gm d;unfold bh.av;rw[e];rfl
theorem BB {n:Z} (c:n.natAbs<1024) (d:a=65536):jD n=Y (n*2^a):=by
 have e:aP n.natAbs<=10:=fY.2 aa;unfold jD;rw[BT (v:=n*2^a) ab (by rw[(aa:((0:Z)+65536).toNat=a)])];unfold nb;rw[ay];unfold gb;rw[jr];rcases rX n.natAbs with b|b
 ·grind
 grind [r9]
theorem Rh (b:c.natAbs<1024) (e:gb (c*j)):cK (jD c) (Y j)=Y (c*j):=by obtain⟨a,d⟩:∃a:X,a=65536:=⟨_,bq⟩;rw[BB b d];grind [Int.mul_assoc,aon,Re]
def PV (d:X->Z) (c:X):∀(a b:amu) (e:Z×amq),h5 d c (a++b) e=h5 d c b (h5 d c a e)
 |[],_,_=>rfl
 |i::a,b,e=>PV d c a b _
def Ae:amq->Z
 |none=>-1
 |some a=>a
theorem gx.VT (b:gx a c):gx a (c.natAbs:Z):=by
 rcases Int.natAbs_eq c with d|d
 ·grind
 have:=b.neg;grind
def bd.abs (d:bd a i u b (Y c)):bd a i u b (Y (c.natAbs:Z)):=by obtain⟨h,f,e,g⟩:=d;cases f;exact⟨_,bq,gx.VT e,aa⟩
def bh.Ag (f:a=65536) (e:bh) (c:bo (e.cM b i)≠2047):bd a 1074 1024 1 (Y (e.av b i)):=by have:=bd.kG f c;obtain⟨g,d⟩:=Gm c;rw[d] at this;unfold bh.av;rw[d];exact this.abs
theorem J7 {a:X} {e:X->Z} {h:X}:∀{c:amu} {b:Z×amq},(∀i∈c,bd a 1074 1024 1 (Y (e i)))->bd a 1074 1024 1 (Y b.1)->bd a 1074 1024 1 (Y (h5 e h c b).1)
 |[],_,_,d=>d
 |i::c,b,f,d=>by rw[h5];refine J7 (λg j=>f g ae) ?_;grind
def bh.PZ (e:a=65536) (c:bh) (d:c.fin b):bd a 1074 1024 1 (Y (c.cU b).1):=J7 (λg f=>c.Ag e (d g f)) bd.zero
theorem bd.cF (f:a=65536) (d:bd a u i b (Y c)) (h:i<=60000) (g:b<1048576):gb c:=by obtain⟨k,j,_,e⟩:=d;grind [bd.rng]
def bd.zk (f:i=65536) (d:bd i u a b (Y w)) (g:a<=60000) (m:b<=1024) (h:j.natAbs<=100):gb (j*w):=by obtain⟨n,l,_,e⟩:=d;cases l;refine bd.rng (c:=102400) f g ab (k:=a) ?_;rw[pE];refine eE (n8 h e) ?_;rw[<-tj];exact hW _ aa
theorem PY {e:X->Z} {d:X}:∀{c:amu} {a:Z×amq},(h5 e d c a).2=br->a.2=br/\(h5 e d c a).1=a.1
 |[],_,b=>⟨b,bq⟩
 |i::c,a,b=>by rw[h5] at b|-;obtain⟨f,g⟩:=PY b;grind
theorem Rg {b d e:Z} (f:c*2^a=w*b) (g:j*2^a=d*e):41*c<=64*j↔41*(w*b)<=64*(d*e):=by have h:(0:Z)<2^a:=l0 ab;rw[<-f,<-g,<-ju,<-ju];simp_all
def afR (b:fM j) (a:fM c) (d:fM w):Jl ([j,c,w],())=Y (aE (jz [j,c,w]),()):=by unfold Jl;refine aq (y:=j) rfl (aq (y:=w) rfl (aq (SI b d) (aq (y:=c) rfl (aq (y:=c) rfl (aq (SI a a) ?_)))));refine aq (agh (ox _ _) (ox _ _)) rfl
def bh.zi (c:bh) (a b:X):fM (c.cM a b):=GV _ _
def lf (a b:X->Rat):X->Rat
 |0=>0
 |n+1=>lf a b n+a n*b n
def QC {c d e f:X->Rat}:∀{n},(∀a,a<n->c a=d a/\e a=f a)->lf c e n=lf d f n
 |0,_=>rfl
 |n+1,b=>by rw[lf,lf,QC λa g=>b a aa,(b n aa).1,(b n aa).2]
theorem QE {d c:X->Rat}:∀{n},(∀a,a<n->c a=0)->lf d c n=0
 |0,_=>rfl
 |n+1,b=>by rw[lf,QE λa e=>b a aa,b n aa];grind
theorem QD (b c a:X->Rat) (d:Rat):∀n,lf (λe=>b e-d*c e) a n=lf b a n-d*lf c a n
 |0=>by simp only[lf];grind
 |n+1=>by simp only[lf];rw[QD b c a d n];grind
theorem yz:∀(n:X) (g:bp (X->Rat)),g.length<n->∃c:X->Rat,(∃a,a<n/\c a≠0)/\∀b∈g,lf b c n=0
 |0,_,h=>absurd h aa
 |n+1,g,h=>by
  by_cases l:∀b∈g,b n=0
  ·refine⟨λa=>if a=n then 1 else 0,⟨n,aa,ac⟩,λb e=>?_⟩;rw[lf,l b e,QE (λa k=>aw aa)];grind
  obtain⟨d,e⟩:=Classical.not_forall.1 l;obtain⟨e,q⟩:=Classical.not_imp.1 e;obtain⟨i,j,rfl⟩:=xl e;obtain⟨c,⟨a,k,p⟩,o⟩:=yz n ((i++j).map λb a=>b a-b n/d n*d a) (by simp at h|-;omega);have m:∀b:X->Rat,lf b (λa=>if a=n then-(lf d c n)/d n else c a) n=lf b c n:=λb=>QC λa k=>⟨bq,aw aa⟩;refine⟨λa=>if a=n then-(lf d c n)/d n else c a,⟨a,aa,?_⟩,λb f=>?_⟩
  ·show(if a=n then _ else c a)≠0;rw[aw aa];exact p
  rw[lf,m,ay bq];have f:b=d\/b∈i++j:=(by simp only[hl,fH] at f|-;grind);rcases f with rfl|f
  ·grind
  have:=o _ (eT.2 ⟨b,f,bq⟩);rw[QD] at this;grind
def iE (a:X) (b:X->Rat):bp (Rat×(X->Rat))->Rat
 |[]=>0
 |r::c=>r.1*(lf r.2 b a*lf r.2 b a)+iE a b c
def rr (a:bp (Rat×(X->Rat))):X:=(a.filter λb=>bw (0<b.1)).length
theorem oG (c:Rat):0<=c*c:=by
 rcases Std.le_total (a:=(0:Rat)) (b:=c) with d|d
 ·exact kT d d
 have:0<=-c:=ae;have:=kT this this;grind
def hU (a:X->Rat):amu->Rat
 |[]=>0
 |i::b=>a i+hU a b
theorem Co {b c:X->Rat}:∀{a:amu},(∀i∈a,b i=c i)->hU b a=hU c a
 |[],_=>rfl
 |i::a,d=>by rw[hU,hU,d i ac,Co λf e=>d f (by simp[e])]
theorem agP (b:X->Rat) (a c:amu):hU b (a++c)=hU b a+hU b c:=by
 induction a with
 |nil=>simp only[hU,h3];grind
 |cons e a d=>simp only[hU,kR,d];grind
def n1 (c:X) (b:amu):amu:=b.filter λa=>bw (a≠c)
def aaG:a∈n1 b f↔a∈f/\a≠b:=by simp[n1]
def abc (b:f.Nodup):(n1 a f).Nodup:=b.sublist vc
def aiz (c:a∉f):n1 a f=f:=nE.2 λe d=>amA λb=>c (b▸d)
def UL {b:X}:∀{a:amu},a.Nodup->b∈a->(n1 b a).length+1=a.length
 |[],_,d=>by simp at d
 |i::a,e,d=>by
  rw[kS] at e;by_cases c:i=b
  ·subst c;have:n1 i (i::a)=n1 i a:=(by simp[n1]);rw[this,aiz e.1,iK]
  have:n1 b (i::a)=i::n1 b a:=(by simp[n1,c]);rw[this,iK,iK,UL e.2 (by simpa[Ne.symm c] using d)]
def sK (e:X->X->Rat) (c:amu) (d:X->Rat):Rat:=hU (λa=>d a*hU (λb=>e a b*d b) c) c
theorem BI (b c a:X->Rat) (d:Rat):∀n,lf (λe=>b e+d*c e) a n=lf b a n+d*lf c a n
 |0=>by simp only[lf];grind
 |n+1=>by simp only[lf];rw[BI b c a d n];grind
theorem PX {e:X->Z} {b:X}:∀{d:amu} {a:Z×amq},a.2≠Y b->(h5 e b d a).2≠Y b
 |[],_,c=>c
 |i::d,a,c=>by rw[h5];refine PX ?_;grind
def uZ (c b:amu):Prop:=b=[]\/(∃a,b=[a]/\a∈c)\/∃a d,b=[a,d]/\a∈c/\d∈c/\a≠d
def On {c:bh}:∀{g d:amu},(∀p∈g,p∈c.rows.take c.full)->c.jx g=Y d->uZ (c.rows.take c.full) d
 |[],d,_,b=>by rw[bh.jx] at b;cases b;exact .inl bq
 |p::g,d,h,b=>by
  have f:=h p ac;rw[bh.jx] at b;split at b
  ·cases b
  split at b
  ·cases b;exact .inr (.inl ⟨p,bq,f⟩)
  split at b
  ·cases b;exact .inr (.inl ⟨p,bq,f⟩)
  rename_i i k;split at b
  ·exact On (λl m=>h l ae) b
  rename_i e;have e:=arV.1 e;split at b
  ·cases b
  split at b
  ·cases b;exact .inr (.inl ⟨p,bq,f⟩)
  split at b
  ·cases b;exact .inr (.inl ⟨i,bq,e⟩)
  cases b;refine .inr (.inr ⟨p,i,bq,f,e,λj=>?_⟩);subst j;exact PX (a:=(0,br)) ac k
structure mu (x:bh):Prop where
 okd:x.okd
 nd:x.rows.Nodup
 full:x.full<=x.rows.length
theorem FC:∀{S:amu},S.Nodup->f.Nodup->(∀a∈f,a∈S)->(S.filter λb=>bw (b∉f)).length+f.length=S.length:=by
 induction f with
 |nil=>simp_all
 |cons a f i=>
  intro S d c e;rw[kS] at c;have k:=i (S:=n1 a S) (abc d) c.2 λj h=>aaG.2 ⟨e j ae,λg=>c.1 (g▸h)⟩;have l:=UL d (e a ac);have m:(n1 a S).filter (λb=>bw (b∉f))=S.filter λb=>bw (b∉a::f):=(by unfold n1;rw[zK];grind);grind
theorem mu.elim {a:bh} (d:mu a) {b:amu} (h:uZ (a.rows.take a.full) b):mu (a.elim b) where
 okd:=λg _ l _=>pV _ _
 nd:=d.nd.sublist vc
 full:=by
  show a.full-b.length<=(a.rows.filter λg=>bw (g∉b)).length;have k:∀{c},c∈a.rows.take a.full->c∈a.rows:=λe=>ve e;have f:b.Nodup/\∀c∈b,c∈a.rows:=by
   rcases h with rfl|⟨c,rfl,e⟩|⟨c,m,rfl,e,j,i⟩
   ·grind
   ·grind
   grind
  have:=FC d.nd f.1 f.2;have:=d.full;omega
theorem Cn {b:bh} (d:b.choose=Y f) (e:0<f.length):bh.run (a+1) b=if(b.e7 f).fin then(bh.run a (b.elim f)).map (λc=>(c.1,b.e7 f::c.2)) else br:=by grind [bh.run]
theorem G2 {b:bh} (c:b.choose=br):bh.run (a+1) b=br:=by rw[bh.run,c]
theorem G1 {b:bh} (c:b.choose=Y []):bh.run (a+1) b=Y (b,[]):=by rw[bh.run,c]
def Dy {a:bh} (b:a.choose=Y f):uZ (a.rows.take a.full) f:=On (λd c=>c) b
theorem uZ.props (b:uZ N f):f.Nodup/\∀a∈f,a∈N:=by
 rcases b with rfl|⟨a,rfl,c⟩|⟨a,g,rfl,c,e,d⟩
 ·grind
 ·grind
 grind
def YF (b:∀e∈f,e∉N):(f.filter λd=>bw (d∉N))=f:=
 nE.2 λa c=>amA (b a c)
theorem mu.XZ {a:bh} (e:mu a) (i:uZ (a.rows.take a.full) f):(a.elim f).rows.take (a.elim f).full=((a.rows.take a.full).filter λb=>bw (b∉f))/\(a.elim f).rows.drop (a.elim f).full=a.rows.drop a.full:=by obtain⟨l,g⟩:=i.props;have c:=e.nd;rw[<-kC a.full a.rows,jR] at c;have k:=FC c.1 l g;have j:=e.full;rw[hz,iZ j] at k;have ar:(a.elim f).full=((a.rows.take a.full).filter λb=>bw (b∉f)).length:=(by show a.full-f.length=_;omega);have o:(a.elim f).rows=((a.rows.take a.full).filter λb=>bw (b∉f))++a.rows.drop a.full:=(by show(a.rows.filter λb=>bw (b∉f))=_;have h:(a.rows.drop a.full).filter (λb=>bw (b∉f))=a.rows.drop a.full:=YF λd m n=>c.2.2 d (g d n) d m bq;exact(b9 (aoI λb=>bw (b∉f)) (kC a.full a.rows).symm).trans ((qw ..).trans (by rw[h])));grind
theorem aey (d:N.Nodup) (c:f.Nodup) (e:∀b∈f,b∈N):(f++N.filter λa=>bw (a∉f)).Perm N:=by grind
structure xx (S:amu) (q:aN):Prop where
 nd:q.rows.Nodup
 sub:∀i∈q.rows,i∈S
 len:q.l.length=q.a7.length
 at1:q.a7.length=1\/q.a7.length=2
 dl:q.d.length=2*q.a7.length-1
 fin:q.fin
def mu.SM {a:bh} (h:mu a) (c:uZ (a.rows.take a.full) f) (e:0<f.length) (j:(a.e7 f).fin) {S:amu} (i:∀d∈a.rows,d∈S):xx S (a.e7 f) where
 nd:=h.nd.sublist vc
 sub:=λd k=>i d (hV.1 k).1
 len:=by rcases c with rfl|⟨b,rfl,_⟩|⟨b,g,rfl,_⟩<;>rfl
 at1:=by
  rcases c with rfl|⟨b,rfl,_⟩|⟨b,g,rfl,_⟩
  ·cases e
  ·exact .inl bq
  exact .inr bq
 dl:=by
  rcases c with rfl|⟨b,rfl,_⟩|⟨b,g,rfl,_⟩
  ·cases e
  ·rfl
  rfl
 fin:=j
structure HW (x y:bh) (ps:bp aN):Prop where
 w:mu y
 rest:y.rows.drop y.full=x.rows.drop x.full
 perm:(ps.flatMap aN.a7++y.rows.take y.full).Perm (x.rows.take x.full)
 e7:∀q∈ps,xx x.rows q
 sub:∀i∈y.rows,i∈x.rows
 done:y.choose=Y []
theorem TB:∀{n:X} {a m:bh} {k:bp aN},mu a->a.full<n->bh.run n a=Y (m,k)->HW a m k
 |0,a,m,k,_,v,_=>by omega
 |n+1,a,m,k,g,v,d=>by
  match hc:a.choose with
  |none=>grind [G2]
  |some []=>
   rw[G1 hc] at d;cases d;exact⟨g,bq,aoU _,λl f=>(by cases f),λb c=>c,hc⟩
  |some (
   j::h)=>
   rw[Cn hc ac] at d;split at d
   case isFalse=>cases d
   rename_i u;have i:=Dy hc;obtain⟨x,q⟩:=i.props;cases p:bh.run n (a.elim (j::h)) with
   |none=>grind
   |some l=>
    obtain⟨s,y⟩:=l;rw[p] at d;cases d;have z:0<a.full:=(by have:=arW (q j ac);grind);have e:=TB (g.elim i) (aa:a.full-(h.length+1)<n) p;obtain⟨ar,t⟩:=g.XZ i;have r:∀b∈(a.elim (j::h)).rows,b∈a.rows:=λb c=>(hV.1 c).1;refine⟨e.w,e.rest.trans t,?_,?_,λb c=>r b (e.sub b c),e.done⟩
    ·have o:=e.perm;rw[ar] at o;show((j::h)++y.flatMap aN.a7++s.rows.take s.full).Perm _;rw[lC];exact(apg _ o).trans (aey (g.nd.sublist (apv ..)) x q)
    intro l f;rcases fH.1 f with rfl|f
    ·exact g.SM i ac u λb c=>c
    have:=e.e7 l f;exact{this with sub:=λb c=>r b (this.sub b c)}
theorem W1 {c:bh} (i:c.full=c.rows.length):∀{L:amu},(∀p∈L,p∈c.rows)->c.jx L=Y []->L=[]
 |[],_,_=>rfl
 |p::L,k,d=>by
  exfalso;rw[bh.jx] at d;split at d
  ·cases d
  split at d
  ·cases d
  split at d
  ·cases d
  rename_i f h;have m:f∈c.rows.take c.full:=by
   rw[i,ik];have:∀{l:amu} {a:Z×amq},(∀b,a.2=Y b->b∈c.rows)->(∀b∈l,b∈c.rows)->∀b,(h5 (λb=>c.av b p) p l a).2=Y b->b∈c.rows:=by
    intro l
    induction l with
    |nil=>intro a g _ b e;exact g b e
    |cons j l n=>
     grind [h5]
   exact this (l:=c.rows) (a:=(0,br)) ac (λb e=>e) f h
  grind
theorem HW.whole {b a:bh} {h:bp aN} (c:HW b a h) (j:mu b) (g:b.full=b.rows.length):a.rows=[]/\a.full=0:=by have d:a.rows.drop a.full=[]:=(by rw[c.rest,g,List.drop_length]);have e:a.full=a.rows.length:=(by have:=List.drop_eq_nil_iff.1 d;have:=c.w.full;omega);have i:=W1 e (L:=a.rows.take a.full) (λk f=>ve f) c.done;grind
theorem Zv (j:d.length<=1000000) (g:d[a]?=Y c) (k:∀b,b<a->d[b]?≠Y c):AV (d,c,())=Y ((a:Z),()):=by
 obtain⟨l,i⟩:=anL.1 g;unfold AV;refine bR.1 ?_;dsimp only;refine bJ (P:=λb=>b=.inr ((a:Z),())) ?_ (by grind [bA]);refine bS (a+1) (λe h=>e<=a/\h=((e:Z),())) ⟨Nat.zero_le _,bq⟩ ?_ ?_
 ·rintro e _ m ⟨n,rfl⟩;dsimp only;rw[a5 (aJ (ae:(e:Z)<au d)),bk aa];refine bC (y:=d[e]'(by omega)) (fc aa) ?_
  rw[gV,de];refine anH (λf=>?_) (λf=>?_)
  ·refine bA.2 ?_;rcases c6 e a with b|b
   ·grind
   grind
  grind [bA,cw]
 omega
section
def iD (l:bp eS) (t:X):X:=cN l (t+1)-cN l t
def iC (l:bp eS) (t:X):X:=(ir l (t:Z)).length
def mm (l:bp eS) (t a:X):X:=((ir l (t:Z)).getD a 0).toNat
def gR (l:bp eS) (t:X):Z:=((l[t]?).map λ(a:eS)=>a.2.2.2.1).getD 0
def FV (l:bp eS) (t b:X):Prop:=∃a,iD l t<=a/\a<iC l t/\mm l t a=b
structure ki (n:X) (l:bp eS) (t:X):Prop where
 lt:t<l.length
 g:l[t]?=Y ((cN l t:Z),(cN l (t+1):Z),ir l (t:Z),gR l t,())
 Ix:cN l t<cN l (t+1)
 Iy:cN l (t+1)<=n
 abm:iD l t<=iC l t
 HN:iC l t<=n
 get:∀i,i<iC l t->(ir l (t:Z))[i]?=Y ((mm l t i:X):Z)
 ro:∀i,i<iD l t->mm l t i=cN l t+i
 LZ:∀i,iD l t<=i->i<iC l t->cN l (t+1)<=mm l t i
 Cj:∀i,i<iC l t->mm l t i<n
 afX:∀i j,i<j->j<iC l t->mm l t i<mm l t j
theorem ki.of {G:ez} {l:bp eS} {n t:X} (k:jg G l) (z:G.length=n) (c:t<l.length):ki n l t:=by
 obtain⟨j,m,A,_⟩:=k;obtain⟨v,w,h,x⟩:=(j.1 t c).at c;have e:=m t c;have g:ir l (t:Z)=l[t].2.2.1:=zj c;have B:=e.asc aa aa;have r:(l[t].2.1-l[t].1).toNat=iD l t:=(by grind [iD]);have q:iD l t<=iC l t:=(by unfold iC;rw[g,<-r];exact e.1);have o:∀a,(b:a<l[t].2.2.1.length)->(a<iD l t->l[t].2.2.1[a]=(cN l t:Z)+a)/\(iD l t<=a->(cN l (t+1):Z)<=l[t].2.2.1[a]/\l[t].2.2.1[a]<(n:Z)):=λa b=>(by have f:=e.2 a (eU _) b b;omega);have F:∀a,(b:a<l[t].2.2.1.length)->0<=l[t].2.2.1[a]/\l[t].2.2.1[a]<(n:Z):=λa b=>(by obtain⟨f,i⟩:=o a b;omega);have p:∀a,a<iC l t->(ir l (t:Z))[a]?=Y ((mm l t a:X):Z):=λa b=>(by grind [bZ,mm,iC]);have H:∀a,(b:a<l[t].2.2.1.length)->((mm l t a:X):Z)=l[t].2.2.1[a]:=λa b=>(by grind [am0,bZ,iC]);have E:∀a,a<iC l t->a<l[t].2.2.1.length:=λa b=>ae;have s:∀a d,a<d->d<iC l t->mm l t a<mm l t d:=λa d C D=>(by grind [amx]);have u:∀a,a<iC l t->mm l t a<n:=λa b=>ae;refine⟨c,?_,h,aa,q,?_,p,λa b=>?_,λa f i=>?_,u,s⟩
 ·rw[cH c,g];have y:gR l t=l[t].2.2.2.1:=(by simp_all [cH,gR]);grind
 ·have:=K5 ((bK (iC l t)).map (mm l t)) n ?_ ?_
  ·simp_all
  ·rw[n6];refine rQ ?_ aqo;grind
  simp_all
 ·grind
 grind
section
variable {n:X} {l:bp eS} {t:X}
theorem ki.own (a:ki n l t):cN l t+iD l t=cN l (t+1):=by have:=a.Ix;grind [iD]
def ki.pos (d:ki n l t) (g:(a:Z)∈ir l (t:Z)):∃b,b<iC l t/\mm l t b=a:=by obtain⟨b,c,f⟩:=hN.1 g;have e:=d.get b c;rw[cH c,f] at e;exact⟨b,c,ae⟩
end
section
variable {G:ez} {l:bp eS} {n:X}
theorem WL (d:jg G l) (g:b<=a) (h:a<=l.length):cN l b<=cN l a:=by
 induction a with
 |zero=>grind
 |succ a e=>
  rcases c6 a b with c|c
  ·grind
  have:=e c aa;obtain⟨_,_,f,_⟩:=(d.1.1 a aa).at aa;omega
theorem GD (b:jg G l) (s:G.length=n) {t:X} (d:t<l.length):(gR l t=-1/\∀e,¬FV l t e)\/∃a:X,gR l t=(a:Z)/\t<a/\a<l.length/\∀e,FV l t e->(e:Z)∈ir l (a:Z):=by
 have f:=ki.of b s d;have k:gR l t=l[t].2.2.2.1:=(by grind [bZ,gR]);have v:ir l (t:Z)=l[t].2.2.1:=zj d;obtain⟨w,x,y,z⟩:=(b.1.1 t d).at d;have u:(l[t].2.1-l[t].1).toNat=iD l t:=(by grind [iD]);have C:=b.parent d;rcases b.2.2.1 t d with⟨h,c⟩|⟨h,c,A⟩
 ·refine .inl ⟨by rw[k,c],?_⟩;rintro e ⟨j,aB,p,_⟩;grind [iC]
 right;simp only[u] at h c;have i:iD l t<iC l t:=(by grind [iC]);have g:=f.get (iD l t) i;rw[v,cH h] at g;have g:=gn g;rw[g,fV] at c;have E:=f.Cj _ i;have D:=f.LZ _ (bf _) i;obtain⟨a,m,q,r⟩:=Du b.1 (aa:mm l t (iD l t)<G.length);rw[xh.last b.1 (⟨m,q,r⟩:xh l _ a)] at c;refine⟨a,by rw[k,c],?_,m,?_⟩
 ·rcases c6 t a with o|o
  ·exact o
  have:=WL b (aa:a+1<=t+1) aa;omega
 rintro e ⟨j,aB,p,rfl⟩;have B:j<l[t].2.2.1.length:=(by grind [iC]);have F:=f.get j p;grind
end
end
section
def FX:X->X
 |0=>0
 |t+1=>FX t+(FX t+5)
def fj (l:bp eS) (t b:X):amu:=(bK t).filter λa=>bw (gR l a=(b:Z))
section
variable {A:X->X->amp} {n:X} {l:bp eS} {B:X->X->X->Z} {t:X}
end
end
section
def PE {e:Type} {l:bp k} {b c:k->bp e} (d:∀a∈l,b a=c a):l.flatMap b=l.flatMap c:=by rw[arX,arX,iY d]
def LH:da (Y 0):=λb a=>by cases a;exact(by decide:aP 0<=131072)
def im:bh:=⟨[],0,λ_ _=>Y 0⟩
def bh.plus (c d:bh):bh:=⟨c.rows,c.full,λa b=>if a∈d.rows/\b∈d.rows then cZ (c.s a b) (d.s a b) else c.s a b⟩
def mV (l:bp eS) (a:X):amu:=(amP (iD l a) (iC l a-iD l a)).map (mm l a)
def qU (l:bp eS) (b:X->bh) (a:X):amu:=((fj l a a).flatMap λc=>(b c).rows.take (b c).full)++amP (cN l a) (iD l a)
def Ah (d:X->X->amp) (l:bp eS) (c a b:X):amp:=if cN l c<=min a b/\min a b<cN l (c+1) then d a b else Y 0
def na (c:X->X->amp) (l:bp eS) (b:X->bh) (a:X):bh:=⟨qU l b a++mV l a,(qU l b a).length,Ah c l a⟩
def jw (c:X->X->amp) (l:bp eS) (b:X->bh) (a:X):bh:=(fj l a a).foldl (λe d=>e.plus (b d)) (na c l b a)
def GH (b:X->bh):∀(cs:amu) (a:bh),(cs.foldl (λa c=>a.plus (b c)) a).rows=a.rows/\(cs.foldl (λa c=>a.plus (b c)) a).full=a.full
 |[],_=>⟨bq,bq⟩
 |c::cs,a=>GH b cs (a.plus (b c))
theorem LO (e:X->bh):∀(cs:amu) (a:bh),(∀b d,da (a.s b d))->∀b d,da ((cs.foldl (λa c=>a.plus (e c)) a).s b d)
 |[],_,f=>f
 |c::cs,a,f=>LO e cs (a.plus (e c)) λb d=>by show da (if _ then _ else _);grind [pV]
def kt (b:X->X->amp) (l:bp eS):X->bv (bp bh×bp aN)
 |0=>Y ([],[])
 |t+1=>(kt b l t).bind λa=>(bh.run ((jw b l (λc=>a.1.getD c im) t).full+1) (jw b l (λc=>a.1.getD c im) t)).map λd=>(a.1++[d.1],a.2++d.2)
def qS (l:bp eS) (b:X):amu:=(bK b).filter λa=>bw (gR l a=-1\/(b:Z)<=gR l a)
def re (a:X->bh) (b:X):amu:=(a b).rows.take (a b).full
structure mx (l:bp eS) (n t:X) (L:X->bh) (ps:bp aN):Prop where
 w:∀c,c<t->mu (L c)
 rest:∀c,c<t->(L c).rows.drop (L c).full=mV l c
 perm:(ps.flatMap aN.a7++(qS l t).flatMap (re L)).Perm (bK (cN l t))
 root:∀c,c<t->gR l c=-1->(L c).rows=[]/\(L c).full=0
 e7:∀q∈ps,xx (bK n) q
 Cj:∀c,c<t->∀i∈(L c).rows,i<n
section
variable {G:ez} {l:bp eS} {n:X}
theorem yQ:b∈mV l a↔FV l a b:=by unfold mV FV;grind
theorem Gc:a∈fj l i b↔a<i/\gR l a=(b:Z):=by unfold fj;grind
theorem VV (a:X):(fj l a a++(bK a).filter λb=>bw (gR l b=-1\/(a:Z)<gR l b)).Perm (qS l a):=by have e:=aqJ (λb=>bw (gR l b=(a:Z))) (qS l a);have ar:(qS l a).filter (λb=>bw (gR l b=(a:Z)))=fj l a a:=(by unfold qS fj;rw[zK];refine qx λb _=>?_;grind);have d:(qS l a).filter (λc=>!bw (gR l c=(a:Z)))=(bK a).filter λb=>bw (gR l b=-1\/(a:Z)<gR l b):=(by unfold qS;rw[zK];refine qx λb _=>?_;rw[xc];simp only[cJ,uY,aqK,amV];omega);grind
theorem VU (c:gR l a=-1\/(a:Z)<gR l a):qS l (a+1)=((bK a).filter λb=>bw (gR l b=-1\/(a:Z)<gR l b))++[a]:=by grind [am7,an5,amF,amA,decide,gR,qS]
def agE (e:ki n l a):(mV l a).Nodup:=by unfold mV apA;rw[n6];have d:=List.pairwise_lt_range' (s:=iD l a) (n:=iC l a-iD l a);refine(rQ ?_ d);intro b c f h g;rw[List.mem_range'_1] at f h;have:=e.afX b c g aa;omega
theorem mx.Dp {b:X->bh} {d:bp aN} (h:mx l n a b d) (f:ki n l a):((d.flatMap aN.a7++(((bK a).filter λc=>bw (gR l c=-1\/(a:Z)<gR l c)).flatMap (re b)))++qU l b a).Perm (bK (cN l (a+1))):=by
 have i:=h.perm;have e:=(VV (l:=l) a).flatMap_right (re b);rw[n5] at e;have g:bK (cN l (a+1))=bK (cN l a)++amP (cN l a) (iD l a):=(by have:=f.own;rw[aqL,aqL,<-f.own];have:=List.range'_append (s:=0) (m:=cN l a) (n:=iD l a) (step:=1);grind);rw[g];have j:(d.flatMap aN.a7++(((bK a).filter λc=>bw (gR l c=-1\/(a:Z)<gR l c)).flatMap (re b)++(fj l a a).flatMap (re b))).Perm (bK (cN l a)):=
  (apg _ (List.perm_append_comm.trans e)).trans i
 unfold qU;rw[<-lC];refine List.Perm.append_right _ ?_;rw[lC];exact j
theorem mx.Ai {c:X->X->amp} (w:∀d g,da (c d g)) {b:X->bh} {r:bp aN} (k:mx l n a b r) (h:ki n l a):mu (jw c l b a):=by
 have i:=k.Dp h;have p:=i.nodup_iff.2 rU;obtain⟨ar,j⟩:=GH b (fj l a a) (na c l b a);refine⟨λd _ g _=>LO b _ _ (λd g=>?_) d g,?_,?_⟩
 ·show da (if _ then _ else _);split
  ·grind
  exact LH
 ·show((fj l a a).foldl (λf e=>f.plus (b e)) (na c l b a)).rows.Nodup;rw[ar];refine jR.2 ⟨(jR.1 p).2.1,agE h,λs m t o u=>?_⟩;have v:=gN.1 (i.mem_iff.1 (kB _ m));obtain⟨d,i1,q,x⟩:=yQ.1 o;have:=h.LZ d i1 q;omega
 show((fj l a a).foldl (λf e=>f.plus (b e)) (na c l b a)).full<=((fj l a a).foldl (λf e=>f.plus (b e)) (na c l b a)).rows.length;rw[ar,j];show(qU l b a).length<=(qU l b a++mV l a).length;grind
def Aj (c:X->X->amp) (b:X->bh) (a:X):(jw c l b a).rows=qU l b a++mV l a/\(jw c l b a).full=(qU l b a).length:=GH b (fj l a a) (na c l b a)
def mx.Dq (f:X->X->amp) {c:X->bh} {j:bp aN} (h:mx l n b c j) (d:ki n l b) (g:a∈(jw f l c b).rows):a<n:=by
 rw[(Aj f c b).1,hl] at g;have:=d.Iy;rcases g with e|e
 ·have k:=gN.1 ((h.Dp d).mem_iff.1 (kB _ e));omega
 obtain⟨a,i1,i,m⟩:=yQ.1 e;have:=d.Cj a i;omega
theorem mx.N0 (b:X->X->amp) (g:∀f i,da (b f i)) {c:X->bh} {j:bp aN} (d:mx l n a c j) (e:ki n l a):(jw b l c a).rows.length<=n:=by have:=(d.Ai g e).nd.length_le_of_subset (l₂:=bK n) λf h=>gN.2 (d.Dq b e h);grind
theorem mx.child (g:X->X->amp) (k:jg G l) (j:G.length=n) (s:a<l.length) {c:X->bh} {v:bp aN} (q:mx l n a c v) (r:b∈fj l a a) (m:i∈(c b).rows):i∈(jw g l c a).rows:=by
 have h:=ki.of k j s;obtain⟨p,x⟩:=Gc.1 r;rw[(Aj g c a).1];unfold qU;rw[<-kC (c b).full (c b).rows,hl] at m;rcases m with d|d
 ·grind
 rw[q.rest b p] at d;have d:=yQ.1 d;rcases GD k j (aa:b<l.length) with⟨y,_⟩|⟨o,z,A,B,w⟩
 ·omega
 obtain rfl:o=a:=aa;obtain⟨f,t,u⟩:=h.pos (w i d);rcases c6 f (iD l o) with e|e
 ·have:=h.ro f e;grind
 exact kB _ (yQ.2 ⟨f,e,t,u⟩)
theorem Bq {h:X->X->amp} (C:∀k M,da (h k M)) (y:jg G l) (x:G.length=n):∀{t:X},t<=l.length->∀{o:bp bh} {u:bp aN},kt h l t=Y (o,u)->o.length=t/\mx l n t (λa=>o.getD a im) u
 |0,_,o,u,e=>by rw[kt] at e;cases e;refine⟨bq,⟨λa g=>by omega,λa g=>by omega,?_,λa g=>by omega,λb A=>(by cases A),λa g=>by omega⟩⟩;show List.Perm [] (bK (cN l 0));have:cN l 0=0:=rfl;grind
 |t+1,R,o,u,e=>by
  rw[kt] at e;cases D:kt h l t with
  |none=>grind
  |some N=>
   obtain⟨c,S⟩:=N;obtain⟨i1,f⟩:=Bq C y x aa D;have p:=ki.of y x (aa:t<l.length);rw[D] at e;dsimp only[bT] at e;have z:=f.Ai C p;generalize s:jw h l (λa=>c.getD a im) t=m at e;rw[s] at z;cases E:bh.run (m.full+1) m with
   |none=>grind
   |some b=>
    obtain⟨d,T⟩:=b;rw[E] at e;cases e;have j:=TB z (xu _) E;have L:=(Aj h (λa=>c.getD a im) t (l:=l));rw[s] at L;have K:m.rows.take m.full=qU l (λa=>c.getD a im) t:=ae;have H:m.rows.drop m.full=mV l t:=ae;have q:∀a,a<t->(c++[d]).getD a im=c.getD a im:=λa g=>(by rw[ji,ji,qy aa]);have r:(c++[d]).getD t im=d:=ae;have Q:=GD y x (aa:t<l.length);refine⟨ae,⟨?_,?_,?_,?_,?_,?_⟩⟩
    ·intro a g;dsimp only;rcases cw a t with b|b
     ·rw[q a b];exact f.w a b
     obtain rfl:a=t:=aa;rw[r];exact j.w
    ·intro a g;dsimp only;rcases cw a t with b|b
     ·rw[q a b];exact f.rest a b
     obtain rfl:a=t:=aa;rw[r,j.rest,H]
    ·rw[VU ae,n5,n5];have ar:((bK t).filter λa=>bw (gR l a=-1\/(t:Z)<gR l a)).flatMap (re λa=>(c++[d]).getD a im)=((bK t).filter λa=>bw (gR l a=-1\/(t:Z)<gR l a)).flatMap (re λa=>c.getD a im):=by
      refine PE λa g=>?_;show((c++[d]).getD a im).rows.take ((c++[d]).getD a im).full=(c.getD a im).rows.take (c.getD a im).full;grind
     have F:apB (re λa=>(c++[d]).getD a im) [t]=d.rows.take d.full:=(by show(((c++[d]).getD t im).rows.take ((c++[d]).getD t im).full)++[]=_;grind);rw[ar,F];have I:=j.perm;rw[K] at I;refine List.Perm.trans ?_ (f.Dp p);grind
    ·intro a g J;dsimp only;rcases cw a t with b|b
     ·rw[q a b];exact f.root a b J
     obtain rfl:a=t:=aa;rw[r];refine j.whole z ?_;have:mV l a=[]:=arY.2 λO P=>(by grind [yQ]);grind
    ·intro b A;rcases hl.1 A with v|v
     ·exact f.e7 b v
     have B:=j.e7 b v;exact{B with sub:=λk i=>gN.2 (f.Dq h p (by rw[s];exact B.sub k i))}
    intro a g k i;dsimp only at i;rcases cw a t with b|b
    ·rw[q a b] at i;exact f.Cj a b k i
    obtain rfl:a=t:=aa;rw[r] at i;exact f.Dq h p (by rw[s];exact j.sub k i)
theorem mx.fl {c:X->bh} {h:bp aN} (d:mx l n b c h) (e:a<b):(c a).full<=n/\(c a).rows.length<=n:=by have i:=(d.w a e).nd.length_le_of_subset (l₂:=bK n) λg f=>gN.2 (d.Cj a e g f);have j:=(d.w a e).full;grind
def mx.all {b:X->bh} {h:bp aN} (g:jg G l) (f:G.length=n) (d:mx l n l.length b h):(h.flatMap aN.a7).Perm (bK n):=by
 have e:=d.perm;have j:(qS l l.length).flatMap (re b)=[]:=List.flatMap_eq_nil_iff.2 λi k=>by
  obtain⟨a,c⟩:=hV.1 k;have a:=gN.1 a;have c:=aoH c;rcases GD g f a with⟨m,_⟩|⟨o,p,_,q,_⟩
  ·unfold re;rw[(d.root i a m).1,List.take_nil]
  omega
 rw[j,pG,g.1.2,f] at e;exact e
end
def JV {G:ez} {l:bp eS} (c:jg G l):l.length<=G.length:=by
 have:∀a,a<=l.length->a<=cN l a:=by
  intro a
  induction a with
  |zero=>omega
  |succ a d=>
   intro e;have:=d aa;have:=(ki.of c bq (aa:a<l.length)).Ix;omega
 have b:=this l.length (bf _);rw[c.1.2] at b;exact b
end
theorem OZ (b:da x):DU (aE x,c,())=Y (mT x c,()):=by
 unfold DU;refine aq (ym b) ?_;dsimp only;rw[Bk];cases x with
 |none=>rfl
 |some a=>
  have d:=b a bq;have i:=k5 d;have f:=kO d;refine aq (nM b) ?_;dsimp only;show(bif gE a==0 then _ else _)=_;rw[ly];unfold mT qg;by_cases e:a=0
  ·grind
  rw[aG e];simp only;rw[aw e,bQ];have h:0<(cO a).natAbs:=(by grind [k4]);refine aq (y:=(p4 (bw (a<0)) (cO a).natAbs (eD a) bu,())) ?_ ?_
  ·unfold IR;rw[hd];refine aq (z9 (jA aa)) ?_;simp_all [aw,Gl,p4,eF]
  have g:eF a=eD a:=(by unfold eF;omega);rw[g] at f;exact aq (Tr aa h aa aa) rfl
theorem V8 (a:fM c):Dj bG c 9223372036854775808=c %9223372036854775808:=by obtain⟨b,rfl⟩:=gd a.1;have d:b<18446744073709551616:=(by have:=a.2;omega);unfold Dj;rw[show bG.bits=64 from rfl,BitVec.toNat_and,WK d,(ab:(~~~cl 64 9223372036854775808).toNat=2^63-1),aqp];grind [CM,anT]
theorem Pt (a:fM c) (e:bo c≠2047):fM (c %9223372036854775808)/\aV (c %9223372036854775808)=z8 (aV c):=by have g:=a.1;have h:=a.2;have ar:bo (c %9223372036854775808)=bo c:=(by grind [bo]);have f:gA (c %9223372036854775808)=gA c:=(by grind [gA]);refine⟨⟨aa,aa⟩,?_⟩;rw[rk aa,rk e];have b:ma (c %9223372036854775808)=ma c:=(by grind [ma]);have i:=yo c;have d:lq (c %9223372036854775808)=((lq c).natAbs:Z):=(by unfold lq;omega);rw[b,d];show Y _=Y (((lq c*2^(ma c+65536).toNat).natAbs:X):Z);grind [jr]
theorem YQ (b:fM c) (f:bo c≠2047):DV ([c],())=Y (bu,()):=by
 unfold DV;refine bR.1 ?_;dsimp only;refine bJ (P:=λd=>d=.inl ()) ?_ (by grind [bA]);refine bS 1 (λa e=>e=((a:Z),())) rfl ?_ ?_
 ·rintro a _ g rfl;obtain rfl:a=0:=aa;dsimp only;rw[a5 af];refine bC (y:=c) rfl (bC (Qn b) ?_);dsimp only;rw[a2 (by
   rw[gV];refine aG ?_;unfold ov;omega)]
  exact bA.2 bq
 rintro _ rfl;dsimp only;rw[a2 af];grind [bA]
theorem JJ (b:fM c) (a:bo c≠2047):xU (c,())=Y (c %9223372036854775808,()):=by simp_all [bQ,V8,aq,YQ,xU]
section
def fw (R:amu) (lf:amr) (b:X):amu:=((bK b).filter λa=>lf.getD a bu).map λa=>R.getD a 0
theorem yJ (R:amu) (lf:amr) (a:X):fw R lf (a+1)=if lf.getD a bu=bt then fw R lf a++[R.getD a 0] else fw R lf a:=by unfold fw;rw[kj,qw,nD,apw];grind
structure jP (R:amu) (full:X) (lf:amr) (M:bp (bp gG)) (x:bh):Prop where
 ll:lf.length=R.length
 nd:R.Nodup
 sm:R.length<=1000
 fl:full<=R.length
 rows:x.rows=fw R lf R.length
 full:x.full=(fw R lf full).length
 okd:x.okd
 ent:∀i j,i<R.length->j<R.length->lf.getD i bu=bt->lf.getD j bu=bt->∃row,M[i]?=Y row/\row[j]?=Y (aE (x.s (R.getD i 0) (R.getD j 0)))
section
variable {R:amu} {full:X} {lf:amr} {M:bp (bp gG)} {x:bh}
def cL (R:amu) (full:X) (lf:amr) (M:bp (bp gG)):dd:=(c8 R,(full:Z),lf,M,())
theorem KD (d:a<b) (c:lf.getD a bu=bt):R.getD a 0∈fw R lf b:=eT.2 ⟨a,hV.2 ⟨gN.2 d,c⟩,bq⟩
theorem jP.mem (b:jP R full lf M x) (c:a<R.length) (d:lf.getD a bu=bt):R.getD a 0∈x.rows:=by rw[b.rows];grind [KD]
theorem jP.value (c:jP R full lf M x) (d:a<R.length) (e:b<R.length) (f:lf.getD a bu=bt) (g:lf.getD b bu=bt):tO (Y (cL R full lf M),(a:Z),(b:Z),())=Y (x.cM (R.getD a 0) (R.getD b 0),()):=by
 obtain⟨i,h,j⟩:=c.ent a b d e f g;unfold tO;refine aq (y:=cL R full lf M) rfl (aq (y:=i) ?_ (aq (y:=aE (x.s (R.getD a 0) (R.getD b 0))) ?_ (aq (OZ (c.okd _ (c.mem d f) _ (c.mem e g))) rfl)))
 ·rw[ie];exact h
 grind [ie]
theorem jP.inj (a:jP R full lf M x) {i j:X} (b:i<R.length) (c:j<R.length):R.getD i 0=R.getD j 0↔i=j:=by rw[ji,cH b,ji,cH c];exact vd a.nd
theorem W6:bw (gh c j>0)=bw (j<c):=by rw[amD];grind [absurd,gh]
theorem jP.P0 (i:jP R full lf M x) (H:a<R.length) (T:lf.getD a bu=bt):ah (AR (Y (cL R full lf M),(a:Z),())) λr=>
  (x.fin (R.getD a 0)/\∃e:amq,r=(aE (Y (x.cU (R.getD a 0)).1),Ae e,0,())/\(∀c,e=Y c->c<R.length/\lf.getD c bu=bt/\(x.cU (R.getD a 0)).2=Y (R.getD c 0))/\(e=br->(x.cU (R.getD a 0)).2=br))\/
  (¬x.fin (R.getD a 0)/\r.2.2.1=233):=by
 obtain⟨s,o⟩:∃s:X,s=65536:=⟨_,bq⟩;have F:au (cL R full lf M).1=(R.length:Z):=(by rw[a8];exact b9 _ (jX _));have ap:=i.sm;have an:=i.ll;generalize B:R.getD a 0=d;unfold AR;refine bC (vY ab ab) ?_;have J:jD 0=Y 0:=rfl;rw[J];refine bC (y:=cL R full lf M) rfl ?_;refine bJ (P:=λf=>(x.fin d/\∃(e:amq) (g:cY),f=.inl (Ae e,g,aE (Y (x.cU d).1),())/\(∀c,e=Y c->c<R.length/\lf.getD c bu=bt/\(x.cU d).2=Y (R.getD c 0))/\(e=br->(x.cU d).2=br))\/(¬x.fin d/\∃j t,f=.inr (j,t,233,()))) ?_ ?_
 rotate_left
 ·grind [bA]
 refine bS R.length (λb f=>(∀h∈fw R lf b,bo (x.cM h d)≠2047)/\∃(e:amq) (g:cY),f=(Ae e,(b:Z),g,aE (Y (h5 (λc=>x.av c d) d (fw R lf b) (0,br)).1),())/\(∀c,e=Y c->c<R.length/\lf.getD c bu=bt/\(h5 (λc=>x.av c d) d (fw R lf b) (0,br)).2=Y (R.getD c 0))/\(e=br->(h5 (λc=>x.av c d) d (fw R lf b) (0,br)).2=br)) ?_ ?_ ?_
 ·refine⟨by simp[fw],br,_,bq,?_,λ_=>rfl⟩;grind
 rotate_left
 ·rintro _ ⟨q,e,g,rfl,n,k⟩;dsimp only;rw[F,a2 (aG (aa:¬(R.length:Z)<(R.length:Z)))];rw[<-i.rows] at q n k|-;exact bA.2 (.inl ⟨q,e,g,bq,n,k⟩)
 rintro b _ u ⟨q,e,g,rfl,n,k⟩;dsimp only;rw[F,a5 (aJ (aa:(b:Z)<(R.length:Z))),bk aa];have N:az (cL R full lf M).2.2.1 (b:Z)=Y (lf.getD b bu):=(by rw[ie];show lf[b]?=_;grind);have C:bd s 1074 1024 1 (Y (h5 (λc=>x.av c d) d (fw R lf b) (0,br)).1):=J7 (λh E=>x.Ag o (q h E)) bd.zero;rw[yJ];refine bJ (P:=λf=>((∀h∈(if lf.getD b bu=bt then fw R lf b++[R.getD b 0] else fw R lf b),bo (x.cM h d)≠2047)/\∃(e:amq) (g:cY),f=.inl (Ae e,g,aE (Y (h5 (λc=>x.av c d) d (if lf.getD b bu=bt then fw R lf b++[R.getD b 0] else fw R lf b) (0,br)).1),())/\(∀c,e=Y c->c<R.length/\lf.getD c bu=bt/\(h5 (λc=>x.av c d) d (if lf.getD b bu=bt then fw R lf b++[R.getD b 0] else fw R lf b) (0,br)).2=Y (R.getD c 0))/\(e=br->(h5 (λc=>x.av c d) d (if lf.getD b bu=bt then fw R lf b++[R.getD b 0] else fw R lf b) (0,br)).2=br))\/(¬x.fin d/\∃j t,f=.inr (.inr (.inr (j,t,233,()))))) ?_ ?_
 rotate_left
 ·grind [bA]
 refine bC (y:=cL R full lf M) rfl (bC N ?_);cases A:lf.getD b bu with
 |false=>
  rw[a5 af,aw ab];grind [bA]
 |true=>
 rw[a2 af,cc bq];have I:=i.value u H A T;rw[B] at I;have p:=x.zi (R.getD b 0) d;refine bC I (bC (BC p) ?_);dsimp only;by_cases f:bo (x.cM (R.getD b 0) d)=2047
 ·rw[a5 ae];exact bA.2 (.inr ⟨λS=>S _ (i.mem u A) f,_,_,bq⟩)
 rw[a2 ae];have L:∀h∈fw R lf b++[R.getD b 0],bo (x.cM h d)≠2047:=λh E=>ae;have O:h5 (λc=>x.av c d) d (fw R lf b++[R.getD b 0]) (0,br)=if R.getD b 0=d then h5 (λc=>x.av c d) d (fw R lf b) (0,br) else if(h5 (λc=>x.av c d) d (fw R lf b) (0,br)).2=br\/(h5 (λc=>x.av c d) d (fw R lf b) (0,br)).1<x.av (R.getD b 0) d then(x.av (R.getD b 0) d,Y (R.getD b 0)) else h5 (λc=>x.av c d) d (fw R lf b) (0,br):=by rw[PV,h5,h5]
 rw[O];generalize h5 (λc=>x.av c d) d (fw R lf b) (0,br)=j at*;obtain⟨l,w⟩:=j;dsimp only at n k C|-;have D:R.getD b 0=d↔b=a:=(by rw[<-B];exact i.inj u H);by_cases z:b=a
 ·rw[a5 ae,ay (D.2 z)];grind [bA]
 rw[a2 ae,b6 (mt D.1 z)];obtain⟨U,V⟩:=Pt p f;have ad:=x.NV f;have K:=x.Ag o f;have G:kb (x.cM (R.getD b 0) d %9223372036854775808,())=Y (aE (Y (x.av (R.getD b 0) d)),()):=(by grind [oz]);refine bC (JJ p f) (bC G (bC (Jp (K.cF o ab ab) (C.cF o ab ab)) ?_));dsimp only;have Q:e=br↔w=br:=by
  constructor
  ·exact k
  intro am;cases e with
  |none=>rfl
  |some c=>
   grind
 refine bJ (P:=λr=>r=(bw (w=br\/l<x.av (R.getD b 0) d),g,aE (Y l),())) ?_ ?_
 ·rw[W6];by_cases m:l<x.av (R.getD b 0) d
  ·simp_all [aJ,bA,a2]
  rw[a5 ae];refine bA.2 ?_;have:bw (Ae e<0)=bw (w=br\/l<x.av (R.getD b 0) d):=by
   rw[amD];cases e with
   |none=>exact⟨λ_=>.inl (Q.1 bq),λ_=>by decide⟩
   |some c=>
    constructor
    ·intro v;have:((c:X):Z)<0:=v;omega
    grind
  grind
 rintro _ rfl;dsimp only;rw[de];refine anH (λm=>?_) (λm=>?_)
 ·rw[ay m];refine bC (JJ p f) (bC G ?_);refine bA.2 (.inl ⟨L,Y b,g,bq,?_,λv=>by cases v⟩);grind
 rw[aw m];grind [bA]
end
end
section
theorem Kw (d:da (Y c)) (e:da (Y j)) (a:gb (64*c)) (b:gb (41*j)):x3 (aE (Y c),aE (Y j),())=Y (bw (41*j<=64*c),()):=by unfold x3;refine aq (vY ab ab) (aq (pd (Ki _) d) (aq (vY ab ab) (aq (pd (Ki _) e) ?_)));rw[Rh ab a,Rh ab b];refine aq (Jp a b) ?_;dsimp only;have:bw (gh (64*c) (41*j)>=0)=bw (41*j<=64*c):=(by rw[amD];grind [absurd,gh]);grind
section
variable {R:amu} {full:X} {lf:amr} {M:bp (bp gG)} {x:bh}
def nr (R:amu) (lf:amr) (c b:X):amu:=((amP c b).filter λa=>lf.getD a bu).map λa=>R.getD a 0
theorem agZ (R:amu) (lf:amr) (a b:X):nr R lf a (b+1)=if lf.getD a bu=bt then R.getD a 0::nr R lf (a+1) b else nr R lf (a+1) b:=by grind [List.range'_succ,nr]
theorem KB (R:amu) (lf:amr) (a:X):∀d,∃b,fw R lf (a+d)=fw R lf a++b
 |0=>⟨[],ac⟩
 |d+1=>by obtain⟨b,c⟩:=KB R lf a d;grind [aoo,apz,yJ]
def jP.take (a:jP R full lf M x):x.rows.take x.full=fw R lf full:=by have:=a.fl;obtain⟨c,b⟩:=KB R lf full (R.length-full);rw[a.rows,a.full,(aa:R.length=full+(R.length-full)),b,List.take_left'];rfl
theorem jP.QU (a:jP R full lf M x) {k:X} (e:k<R.length) (f:lf.getD k bu=bt):R.getD k 0∈x.rows.take x.full↔k<full:=by
 have:=a.fl;rw[a.take];constructor
 ·intro c;unfold fw at c;obtain⟨g,b,d⟩:=eT.1 c;have b:=gN.1 (hV.1 b).1;have:=(a.inj aa e).1 d;omega
 grind [KD]
def jP.OV (h:jP R full lf M x) (d:a<R.length) (e:lf.getD a bu=bt) (b:bo (x.cM (R.getD a 0) (R.getD a 0))≠2047):AO (Y (cL R full lf M),(a:Z),())=Y (aE (Y (x.av (R.getD a 0) (R.getD a 0))),()):=by have c:=x.zi (R.getD a 0) (R.getD a 0);obtain⟨f,g⟩:=Pt c b;unfold AO;refine aq (h.value d d e e) (aq (JJ c b) (aq (y:=(aE (Y (x.av (R.getD a 0) (R.getD a 0))),())) ?_ bq));rw[oz f,g,x.NV b]
def Hy (x:bh) (R:amu) (full:X) (lf:amr) (c:amu) (d:amv×Z×bz):Prop:=(d.2.1=233/\x.jx c=br)\/∃b:amu,d=(c8 b,0,())/\(∀a∈b,a<full/\lf.getD a bu=bt)/\x.jx c=Y (b.map λa=>R.getD a 0)
theorem jP.choose (e:jP R full lf M x):ah (Ei (Y (cL R full lf M),())) λk=>Hy x R full lf (x.rows.take x.full) k:=by
 obtain⟨D,c⟩:∃D:X,D=65536:=⟨_,bq⟩;have d1:=e.sm;have dl:=e.fl;have ds:=e.ll;rw[e.take];have a0:fw R lf full=nr R lf 0 full:=(by unfold fw nr;rw[aqL]);rw[a0];unfold Ei;refine bC (y:=cL R full lf M) rfl ?_;refine bJ (P:=λd=>(d=.inl ()/\x.jx (nr R lf 0 full)=Y [])\/∃k,d=.inr k/\Hy x R full lf (nr R lf 0 full) k) ?_ ?_
 rotate_left
 ·rintro _ (⟨rfl,e⟩|⟨k,rfl,e⟩)
  ·exact bA.2 (.inr ⟨[],bq,ac,e⟩)
  grind [bA]
 refine bS full (λb cs=>cs=((b:Z),())/\x.jx (nr R lf 0 full)=x.jx (nr R lf b (full-b))) ⟨bq,bq⟩ ?_ ?_
 rotate_left
 ·rintro _ ⟨rfl,l⟩;dsimp only;rw[a2 (aG (show¬(full:Z)<(cL R full lf M).2.1 from arZ _))];refine bA.2 (.inl ⟨bq,?_⟩);rw[l,Nat.sub_self];rfl
 rintro b _ d0 ⟨rfl,l⟩;dsimp only;have z:b<R.length:=aa;rw[a5 (aJ (show(b:Z)<(cL R full lf M).2.1 by show(b:Z)<(full:Z);omega)),bk aa];rw[(aa:full-b=full-(b+1)+1),agZ] at l;refine bJ (P:=λd=>(d=.inl ()/\x.jx (nr R lf 0 full)=x.jx (nr R lf (b+1) (full-(b+1))))\/∃k,d=.inr (.inr (.inr k))/\Hy x R full lf (nr R lf 0 full) k) ?_ ?_
 rotate_left
 ·grind [bA]
 have bl:az (cL R full lf M).2.2.1 (b:Z)=Y (lf.getD b bu):=(by rw[ie];show lf[b]?=_;grind);refine bC (y:=cL R full lf M) rfl (bC bl ?_);cases o:lf.getD b bu with
 |false=>
  rw[o,aw ab] at l;rw[a5 af];grind [bA]
 |true=>
 rw[o,ay bq] at l;rw[a2 af];refine bJ (e.P0 z o) ?_;have G:=e.mem z o;generalize F:R.getD b 0=a at*;rintro⟨am,an,ap,_⟩ (⟨j,cv,i,ci,co⟩|⟨j,i⟩)
 rotate_left
 ·dsimp only at i;subst i;dsimp only;rw[a5 af];refine bA.2 (.inr ⟨_,bq,.inl ⟨bq,?_⟩⟩);rw[l,bh.jx,cc j]
 cases i;dsimp only;rw[a2 af];have I:=e.OV z o (by rw[F];exact j a G);rw[F] at I;refine bC I ?_;dsimp only;have t:=x.PZ c j;have w:=x.Ag c (j a G);have u:da (Y (x.cU a).1):=λp g=>(by cases g;exact t.cF c ab ab);have K:da (Y (x.av a a)):=λp g=>(by cases g;exact w.cF c ab ab);refine bJ (P:=λd=>d=if(x.cU a).1=0\/41*(x.cU a).1<=64*x.av a a then .inr (.inr (.inr (.inr ([(b:Z)],0,())))) else .inl (aE (Y (x.cU a).1),aE (Y (x.av a a)),())) ?_ ?_
 ·refine bJ (P:=λd=>d=(bw ((x.cU a).1=0\/41*(x.cU a).1<=64*x.av a a),aE (Y (x.cU a).1),aE (Y (x.av a a)),())) ?_ ?_
  ·refine bC (nM u) ?_;dsimp only;by_cases q:(x.cU a).1=0
   ·rw[a2 (by show((gE (x.cU a).1==0)==bu)=bu;grind [ly,aJ])];grind [aJ,bA]
   rw[a5 (by show((gE (x.cU a).1==0)==bu)=bt;grind [ly,aG])];refine bC (Kw K u (w.zk c ab ab ab) (t.zk c ab ab ab)) ?_;simp_all [amD,bA]
  rintro _ rfl;dsimp only;rw[de];refine anH (λq=>?_) (λq=>?_)
  ·rw[ay q];grind [bA]
  rw[aw q];grind [bA]
 rintro _ rfl;by_cases r:(x.cU a).1=0\/41*(x.cU a).1<=64*x.av a a
 ·rw[ay r];refine bA.2 (.inr ⟨_,bq,.inr ⟨[b],bq,ae,?_⟩⟩);simp_all [aw,anb,ay,zP,bh.jx]
 rw[b6 r];dsimp only;refine bC (y:=cL R full lf M) rfl ?_;cases cv with
 |none=>exact absurd (.inl (PY (co bq)).2) r
 |some h=>
  obtain⟨s,v,bx⟩:=ci h bq;have J:=e.QU s v;have H:=e.mem s v;have a4:=e.P0 s v;have a3:=λj=>e.OV s v j;generalize dg:R.getD h 0=f at*;have m:x.jx (a::nr R lf (b+1) (full-(b+1)))=if f∉x.rows.take x.full then x.jx (nr R lf (b+1) (full-(b+1))) else if¬x.fin f then br else
   if 41*((x.cU a).1*(x.cU a).1)<=64*(x.av a a*(x.cU f).1) then Y [a] else
   if 41*(x.cU f).1<=64*x.av f f then Y [f] else Y [a,f]:=by
   rw[bh.jx,aw (anb j),aw r,bx]
  replace m:=l.trans m;show ah (bif bw ((h:Z)>=(cL R full lf M).2.1) then _ else _) _;by_cases E:h<full
  rotate_left
  ·rw[a5 (aJ (show(h:Z)>=(cL R full lf M).2.1 by show(full:Z)<=(h:Z);omega))];exact bA.2 (.inl ⟨bq,m.trans (ay (mt J.1 E))⟩)
  rw[a2 (aG (show¬(h:Z)>=(cL R full lf M).2.1 by show¬(full:Z)<=(h:Z);omega))];rw[aw (anb (J.2 E))] at m;refine bJ a4 ?_;rintro⟨am,an,ap,_⟩ (⟨n,d2,i,_,_⟩|⟨n,i⟩)
  rotate_left
  ·dsimp only at i;subst i;dsimp only;rw[a5 af];exact bA.2 (.inr ⟨_,bq,.inl ⟨bq,m.trans (cc n)⟩⟩)
  cases i;dsimp only;rw[a2 af];rw[b6 (anb n)] at m;have A:=x.PZ c n;have L:=x.Ag c (n f H);have N:da (Y (x.cU f).1):=λp g=>(by cases g;exact A.cF c ab ab);have ce:da (Y (x.av f f)):=λp g=>(by cases g;exact L.cF c ab ab);obtain⟨B,_,_,c1,ar,U,O,Q⟩:=bd.mul c w A ab ab ab;obtain⟨C,_,_,c2,V,ad,S,T⟩:=bd.mul c t t ab ab ab;cases ar;cases U;cases V;cases ad;rw[O] at B;rw[S] at C;refine bC (pd K N) (bC (pd u u) ?_);rw[O,S];refine bC (Kw (λp g=>by cases g;exact B.cF c ab ab) (λp g=>by cases g;exact C.cF c ab ab) (B.zk c ab ab ab) (C.zk c ab ab ab)) ?_;dsimp only;rw[de];refine anH (λd=>?_) (λd=>?_)
  ·rw[Rg T Q] at d;refine bA.2 (.inr ⟨_,bq,.inr ⟨[b],bq,ae,?_⟩⟩);grind
  rw[Rg T Q] at d;rw[b6 d] at m;refine bC (a3 (n f H)) (bC (Kw ce N (L.zk c ab ab ab) (A.zk c ab ab ab)) ?_);dsimp only;rw[de];refine anH (λd=>?_) (λd=>?_)
  ·refine bA.2 (.inr ⟨_,bq,.inr ⟨[h],bq,ae,?_⟩⟩);grind
  refine bA.2 (.inr ⟨_,bq,.inr ⟨[b,h],bq,?_,?_⟩⟩)
  ·grind
  grind
end
end
def fa (lf:amr) (a:X):amu:=(bK a).filter λb=>lf.getD b bu
theorem F4 (lf:amr) (a:X):fa lf (a+1)=if lf.getD a bu=bt then fa lf a++[a] else fa lf a:=by unfold fa;rw[kj,qw,nD,apw];grind
def KA (lf:amr) (a:X):(fa lf a).length<=a:=eE (mA _ _) ac
theorem F5 (a:amu) (lf:amr) (b:X):fw a lf b=(fa lf b).map λc=>a.getD c 0:=rfl
theorem S5 {lf:amr} (i:lf.length=f.length) (j:f.length<=1000):AS (Y (cL f a lf o),())=Y (c8 (fa lf f.length),()):=by
 have d:au (cL f a lf o).1=(f.length:Z):=(by rw[a8];exact b9 _ (jX _));unfold AS;refine bR.1 ?_;refine bC (y:=cL f a lf o) rfl ?_;refine bJ (P:=λc=>c=(c8 (fa lf f.length),())) ?_ (by grind [bA]);refine bS f.length (λb c=>c=((b:Z),c8 (fa lf b),())) rfl ?_ ?_
 ·rintro b _ h rfl;dsimp only;rw[d,a5 (aJ (aa:(b:Z)<(f.length:Z))),bk aa];have e:az (cL f a lf o).2.2.1 (b:Z)=Y (lf.getD b bu):=by
   rw[ie];show lf[b]?=_;grind
  refine bJ (P:=λc=>c=(c8 (fa lf (b+1)),())) ?_ (by grind [bA]);refine bC (y:=cL f a lf o) rfl (bC e ?_);have:=KA lf b;rw[F4];cases g:lf.getD b bu with
  |false=>
   rw[bQ,aw ab];grind [bA]
  |true=>
   rw[bI,ay bq,fe (by grind [jX]),aM];refine bA.2 ?_;rw[wB];rfl
 rintro _ rfl;dsimp only;rw[d,a2 (aG (aa:¬(f.length:Z)<(f.length:Z)))];grind [bA]
theorem agT {a:ev} (e:∀b∈a,da b) (f:da x) (h:a.length<=1000):p1 (a.map aE,aE x,())=Y (a.map (λb=>aE (cK b x)),()):=by
 unfold p1;refine bR.1 ?_;dsimp only;refine bJ (P:=λd=>d=(a.map (λb=>aE (cK b x)),())) ?_ (by grind [bA]);refine bS a.length (λc d=>d=((c:Z),(a.take c).map (λb=>aE (cK b x)),())) rfl ?_ ?_
 ·rintro c _ g rfl;dsimp only;rw[a5 (aJ (ae:(c:Z)<au (a.map aE))),bk aa];refine bC (y:=aE a[c]) (by grind [ie,bZ]) ?_;refine bC (pd (e _ (ca g)) f) ?_;grind [amG,bZ,bA,fe]
 rintro _ rfl;dsimp only;rw[a2 (aG (ae:¬(a.length:Z)<au (a.map aE))),amy];grind [bA]
def eX (a:X) (E:X->X->gG):bp (bp gG):=aA a λb=>aA a (E b)
theorem aaT {E:X->X->gG} (j:a<i) (k:b<i) (f:gG):∃e,(eX i E)[a]?=Y e/\e.length=i/\e[b]?=Y (E a b)/\(eX i E).set a (e.set b f)=eX i λc d=>if c=a/\d=b then f else E c d:=by
 refine⟨_,gu j,cI _ _,gu k,?_⟩;unfold eX;rw[hq,hq];refine db λc l=>?_;by_cases g:c=a
 ·subst g;rw[gw];refine db λd m=>?_;by_cases h:d=b
  ·subst h;rw[gw];grind
  simp_all [gS,aw]
 simp_all [gS,db,aw]
def k6 (c:amu) (f:X->X->amp) (g h:X->amp) (E:X->X->gG) (d e:X):X->X->gG:=λa b=>
 if(a∈c.take d/\b∈c)\/(c[d]?=Y a/\b∈c.take e) then aE (cZ (f a b) (dk (cK (g a) (h b)))) else E a b
theorem T5 {R:amu} {full:X} {lf:amr} {E:X->X->gG} {l:amu} {s:X->X->amp} {u v:X->amp} (S:a<=1000) (w:∀J∈l,J<a) (T:l.Nodup) (O:l.length<=1000) (N:∀c∈l,∀e∈l,E c e=aE (s c e)) (G:∀c∈l,∀e∈l,da (s c e)) (H:∀c∈l,da (u c)) (I:∀c∈l,da (v c)):q0 (cL R full lf (eX a E),c8 l,l.map (λc=>aE (u c)),l.map (λc=>aE (v c)),())=Y (cL R full lf (eX a λc e=>if c∈l/\e∈l then aE (cZ (s c e) (dk (cK (u c) (v e)))) else E c e),()):=by
 have x:au (c8 l)=(l.length:Z):=(by rw[a8,jX]);have q:∀b,(z:b<l.length)->az (c8 l) (b:Z)=Y ((l[b]:X):Z):=λb g=>(by rw[ie];show(l.map λ(M:X)=>(M:Z))[b]?=_;grind);have y:∀(h:X->amp) b,(z:b<l.length)->az (l.map λc=>aE (h c)) (b:Z)=Y (aE (h l[b])):=λh b g=>(by grind [ie,bZ]);unfold q0;refine bR.1 ?_;dsimp only;refine bJ (P:=λf=>f=(cL R full lf (eX a (k6 l s u v E l.length 0)),())) ?_ ?_
 rotate_left
 ·rintro _ rfl;refine bA.2 ?_;have:eX a (k6 l s u v E l.length 0)=eX a λc e=>if c∈l/\e∈l then aE (cZ (s c e) (dk (cK (u c) (v e)))) else E c e:=by
   unfold eX k6;grind
  grind
 refine bS l.length (λb f=>f=((b:Z),cL R full lf (eX a (k6 l s u v E b 0)),())) ?_ ?_ ?_
 ·grind [db,eX,k6]
 rotate_left
 ·rintro _ rfl;dsimp only;rw[x,a2 (aG (aa:¬(l.length:Z)<(l.length:Z)))];grind [bA]
 rintro b _ g rfl;dsimp only;rw[x,a5 (aJ (aa:(b:Z)<(l.length:Z))),bk aa];have k:=ca g;have B:=w _ k;refine bC (q b g) ?_;refine bJ (P:=λf=>f=(cL R full lf (eX a (k6 l s u v E b l.length)),())) ?_ ?_
 rotate_left
 ·rintro _ rfl;refine bA.2 ?_;have:eX a (k6 l s u v E b l.length)=eX a (k6 l s u v E (b+1) 0):=by
   unfold eX k6;refine db λc _=>db λe _=>?_;have:(c∈l.take b/\e∈l\/l[b]?=Y c/\e∈l.take l.length)↔(c∈l.take (b+1)/\e∈l\/l[b+1]?=Y c/\e∈l.take 0):=(by rw[ik,j6,cH g];grind);grind
  grind
 refine bS l.length (λd f=>f=((d:Z),cL R full lf (eX a (k6 l s u v E b d)),())) rfl ?_ ?_
 rotate_left
 ·rintro _ rfl;dsimp only;rw[a2 (aG (aa:¬(l.length:Z)<(l.length:Z)))];grind [bA]
 rintro d _ j rfl;dsimp only;rw[a5 (aJ (aa:(d:Z)<(l.length:Z))),bk aa];have m:=ca j;have C:=w _ m;have V:l[b]∉l.take b:=λD=>(by grind [apy,aoT]);have U:l[d]∉l.take d:=λD=>(by grind [apy,aoT]);have F:k6 l s u v E b d l[b] l[d]=aE (s l[b] l[d]):=(by simp_all [b6,k6]);obtain⟨K,o,ad,eY,L⟩:=aaT (E:=k6 l s u v E b d) B C (aE (cZ (s l[b] l[d]) (dk (cK (u l[b]) (v l[d])))));rw[F] at eY;have Q:(eX a (k6 l s u v E b d)).length=a:=cI _ _;have A:(cL R full lf (eX a (k6 l s u v E b d))).2.2.2.1=eX a (k6 l s u v E b d):=rfl;have r:=e4 (n:=(eX a (k6 l s u v E b d)).length) (i:=l[b]) aa;have t:=e4 (n:=K.length) (i:=l[d]) aa;refine bC (q d j) ?_;rw[A];refine bC r (bC r ?_);rw[gP o,bT];refine bC t ?_;rw[gP o,gP eY,bT];refine bC (y u b g) (bC (y v d j) (bC (pd (H _ k) (I _ m)) (bC (Bh (G _ k _ m) (ox _ _)) ?_)));refine bC t ?_;rw[gP o,gP eY];refine bA.2 ?_;dsimp only;rw[L];have:(eX a λc e=>if c=l[b]/\e=l[d] then aE (cZ (s l[b] l[d]) (dk (cK (u l[b]) (v l[d])))) else k6 l s u v E b d c e)=eX a (k6 l s u v E b (d+1)):=by
  unfold eX k6;refine db λc _=>db λe _=>?_;dsimp only;by_cases p:c=l[b]/\e=l[d]
  ·obtain⟨rfl,rfl⟩:=p;rw[ay (show l[b]=l[b]/\l[d]=l[d] from⟨bq,bq⟩),ay];grind [ape,amF,amG,bZ]
  rw[aw p];grind [amG,bZ,amF,anV]
 rw[<-this];rfl
section
def h4 {α:Type} (l:amu) (f g:X->X->α) (c d a b:X):α:=if(a∈l.take c/\b∈l)\/(l[c]?=Y a/\b∈l.take d) then f a b else g a b
section
variable {α:Type} {l:amu} {f g:X->X->α}
theorem OS:h4 l f g 0 0=g:=by grind [h4]
theorem OR (c:a<l.length):h4 l f g a l.length=h4 l f g (a+1) 0:=by funext i b;unfold h4;have:(i∈l.take a/\b∈l\/l[a]?=Y i/\b∈l.take l.length)↔(i∈l.take (a+1)/\b∈l\/l[a+1]?=Y i/\b∈l.take 0):=(by rw[ik,j6,cH c];grind);grind
theorem OO:h4 l f g l.length 0=λa b=>if a∈l/\b∈l then f a b else g a b:=by grind [h4]
theorem OQ (e:l.Nodup) (c:a<l.length) (d:b<l.length):h4 l f g a b l[a] l[b]=g l[a] l[b]:=by unfold h4;rw[aw];grind [aoT,apy]
theorem OP (h:a<l.length) (i:b<l.length):h4 l f g a (b+1)=λc d=>if c=l[a]/\d=l[b] then f l[a] l[b] else h4 l f g a b c d:=by
 funext c d;unfold h4;by_cases e:c=l[a]/\d=l[b]
 ·obtain⟨rfl,rfl⟩:=e;rw[ay (show l[a]=l[a]/\l[b]=l[b] from⟨bq,bq⟩),ay];grind [ape,amF,amG,bZ]
 rw[aw e];grind [amG,bZ,amF,anV]
end
def g8 (a:amu) (b:X->X->gG):bp (bp gG):=a.map λc=>a.map λd=>b c d
theorem Ug (a:amu) (b:X->X->gG):(g8 a b).length=a.length:=eL _
theorem Mx (d:X->X->gG) (e:f[i]?=Y a) (g:f[u]?=Y b):∃c,(g8 f d)[i]?=Y c/\c.length=f.length/\c[u]?=Y (d a b):=by simp_all [jv,eL,g8]
theorem TP (j:f.Nodup) (h:f[a]?=Y b) (g:X->k) (d:k):(f.map g).set a d=f.map λc=>if c=b then d else g c:=by
 refine iJ λi=>?_;rw[zN,jv,jv,eL];have l:a<f.length:=(iv.1 h).1;by_cases e:a=i
 ·grind
 rw[aw e];grind [ao7]
theorem Uh (h:f.Nodup) (c:X->X->gG) (l:f[b]?=Y a) (m:f[u]?=Y i) (j:gG) {g:bp gG} (n:(g8 f c)[b]?=Y g):(g8 f c).set b (g.set u j)=g8 f λe d=>if e=a/\d=i then j else c e d:=by have k:g=f.map λd=>c a d:=(by grind [am0,g8]);subst k;rw[TP h m];unfold g8;rw[TP h l];refine iY λe _=>?_;grind
theorem Uf {a b:X->X->gG} (e:∀c∈f,∀d∈f,a c d=b c d):g8 f a=g8 f b:=by grind [amU,g8]
theorem Pr (a:amu) (g:X->k):aA a.length (λb=>g (a.getD b 0))=a.map g:=by unfold aA;refine iJ λc=>?_;grind
theorem aaU (a:amu) (b:X->X->gG):eX a.length (λc d=>b (a.getD c 0) (a.getD d 0))=g8 a b:=by grind [amU,Pr,g8,aA,eX]
end
section
section
variable {G:ez} {l:bp eS} {n t:X} {L:X->bh} {ps:bp aN} {A:X->X->amp}
theorem Oq (l:bp eS) (t a:X):fj l (t+1) a=if gR l t=(a:Z) then fj l t a++[t] else fj l t a:=by grind [am7,gR,fj]
theorem ri (c:a<f.length):az (c8 f) (a:Z)=Y ((f[a]:X):Z):=by rw[ie];show(f.map λ(b:X)=>(b:Z))[a]?=_;grind
theorem zf (c:a<f.length) (b:Z->bv k):rd (c8 f) (a:Z) b=b ((f[a]:X):Z):=by simp_all [jX,e4,aM,gP,ri,ie,c8,rd]
end
end
theorem QX {c:Type} {p:c->bD} {d:c}:∀{e:bp c},d∈e.takeWhile p->p d=bt
 |[],a=>by cases a
 |b::e,a=>by
  rw[List.takeWhile_cons] at a;split at a
  ·rcases fH.1 a with rfl|a
   ·omega
   exact QX a
  grind
def rc (a:X->X) (c:X) (d:amu):amu:=d.takeWhile (λb=>bw (a b<a c))++c::d.dropWhile (λb=>bw (a b<a c))
def rF (a:X->X) (b:amu):amu:=b.foldl (λd c=>rc a c d) []
abbrev iW:=amu×(X->Z)
def aN.e0 (a:aN):bp iW:=a.l.map λb=>(a.rows,b)
def l8 (a:iW->amv) (cs:bp iW):amv:=(bK (cs.length+1)).map λb=>(((cs.take b).flatMap a).length:Z)
def gC (a:X->X) (b:iW):amv:=(rF a b.1).map λc=>(a c:Z)
def ks (b:X->X) (a:iW):amv:=(rF b a.1).map a.2
def wd (c:amv) (a:bp aN) (del:Z):fA:=
 ((
  a.flatMap aN.a7).map (λb=>c.getD b 0),(a.map (λe=>(e.a7.length:Z)),(a.flatMap (·.d),
  (l8 (gC λb=>(a.flatMap aN.a7).idxOf b) (a.flatMap aN.e0),((a.flatMap aN.e0).flatMap (gC λb=>(a.flatMap aN.a7).idxOf b),((a.flatMap aN.e0).flatMap (ks λb=>(a.flatMap aN.a7).idxOf b),(del,())))))))
theorem WR (a:iW->amv) (cs:bp iW) (b:iW):l8 a (cs++[b])=l8 a cs++[(((cs++[b]).flatMap a).length:Z)]:=by
 unfold l8;rw[hM,oV,kj,kA];congr 1
 ·grind [amU]
 grind
theorem ZB (a:X->X) (c:X) (b:amu):(rc a c b).length=b.length+1:=by unfold rc;have e:=b9 cE (aqM (p:=λd=>bw (a d<a c)) (l:=b));grind
def T3 (c:X->X):∀(b a:amu),(b.foldl (λa p=>rc c p a) a).length=a.length+b.length
 |[],a=>rfl
 |p::b,a=>by rw[apC,T3 c b,ZB,iK];omega
theorem Ha (b:X->X) (a:amu):(rF b a).length=a.length:=by unfold rF;rw[T3,qC,l3]
theorem YK (b:iW->bp k) {cs:bp iW} (c:∀a∈cs,(b a).length<=100):(cs.flatMap b).length<=100*cs.length:=by
 induction cs with
 |nil=>grind
 |cons a cs d=>
  grind
theorem MM (c:X->Z) (f:a<b) (e:Z) (d:amv->bv k):wr (aA b c) (a:Z) e d=d (aA b (eK c a e)):=by simp_all [cI,e4,aM,gP,gu,hq,wr]
def Cf (c:X->Z) (d:a<b) (e:Z->bv k):rd (aA b c) (a:Z) e=e (c a):=by unfold rd;rw[cI,e4 d,aM,gP (gu d),aM]
theorem SK {a:bp aN} (e:∀b∈a,xx f b):a.length<=(a.flatMap aN.a7).length/\(a.flatMap aN.d).length<=3*a.length/\(a.flatMap aN.e0).length=(a.flatMap aN.a7).length:=by
 induction a with
 |nil=>grind
 |cons b a h=>
  obtain⟨i,j,k⟩:=h λg o=>e g ae;have c:=e b ac;have l:=c.at1;have m:=c.dl;have n:b.e0.length=b.a7.length:=(by unfold aN.e0;rw[eL,c.len]);grind
structure l1 where
 R:amu
 full:X
 lf:amr
 M:bp (bp gG)
def l1.enc (a:l1):bv dd:=Y (cL a.R a.full a.lf a.M)
def l1.ok (a:l1):Prop:=a.lf.length=a.R.length/\a.full<=a.R.length/\a.R.length<=100
def li (b:bp l1):amu:=b.flatMap λa=>fw a.R a.lf a.full
theorem KC (b:amu) (lf:amr) (a:X):(fw b lf a).length<=a:=by grind [cC,am4,cb,fw]
theorem Ok {l:bp l1} (b:∀a∈l,a.ok):(li l).length<=100*l.length:=by
 induction l with
 |nil=>exact bf _
 |cons a l d=>
  have f:=d λc j=>b c ae;obtain⟨_,g,h⟩:=b a ac;have i:=KC a.R a.lf a.full;have e:li (a::l)=fw a.R a.lf a.full++li l:=rfl;grind
theorem agy {l:bp l1} (e:∀a∈l,a.ok) (w:l.length<=100) {F L:X} {rows:amv} {par:Z} (s:F<=L) (t:L<=1000) (z:L-F<=rows.length) (A:rows.length<=1000):Eo (((F:Z),((L:Z),(rows,(par,())))),l.map l1.enc,())=Y (c8 (li l++amP F (L-F))++rows.drop (L-F),((li l++amP F (L-F)).length:Z),()):=by
 have u:=Ok e;unfold Eo;refine bR.1 ?_;dsimp only;refine bJ (P:=λd=>d=(c8 (li l),())) ?_ ?_
 ·refine bS l.length (λc d=>d=((c:Z),c8 (li (l.take c)),())) rfl ?_ ?_
  rotate_left
  ·rintro _ rfl;dsimp only;rw[a2 (aG (ae:¬(l.length:Z)<au (l.map l1.enc))),amy];grind [bA]
  rintro c _ k rfl;dsimp only;rw[a5 (aJ (ae:(c:Z)<au (l.map l1.enc))),bk aa];have f:=e _ (ca k);have v:=Ok (l:=l.take c) λa f=>e a (ar0 f);have B:(l.take c).length<=c:=ae;have j:li (l.take (c+1))=li (l.take c)++fw l[c].R l[c].lf l[c].full:=(by grind [amG,bZ,li]);rw[j];refine bC (y:=l[c].enc) (by grind [ie,bZ]) ?_;generalize l[c]=a at*;obtain⟨o,p,q⟩:=f;refine bC (y:=cL a.R a.full a.lf a.M) rfl ?_;refine bJ (P:=λd=>d=(c8 (li (l.take c)++fw a.R a.lf a.full),())) ?_ (by grind [bA]);refine bS a.full (λb d=>d=((b:Z),c8 (li (l.take c)++fw a.R a.lf b),())) ?_ ?_ ?_
  ·rw[show fw a.R a.lf 0=[] from rfl,pG];rfl
  rotate_left
  ·rintro _ rfl;dsimp only;rw[a2 (aG (show¬(a.full:Z)<(cL a.R a.full a.lf a.M).2.1 from arZ _))];grind [bA]
  rintro b _ i rfl;dsimp only;rw[a5 (aJ (show(b:Z)<(cL a.R a.full a.lf a.M).2.1 by show(b:Z)<(a.full:Z);omega)),bk aa];have g:az (cL a.R a.full a.lf a.M).2.2.1 (b:Z)=Y (a.lf.getD b bu):=(by rw[ie];show a.lf[b]?=_;grind);have h:az (cL a.R a.full a.lf a.M).1 (b:Z)=Y ((a.R.getD b 0:X):Z):=(by rw[ie];show(a.R.map λ(n:X)=>(n:Z))[b]?=_;grind);have x:=KC a.R a.lf b;refine bJ (P:=λd=>d=(c8 (li (l.take c)++fw a.R a.lf (b+1)),())) ?_ (by grind [bA]);refine bC (y:=cL a.R a.full a.lf a.M) rfl (bC g ?_);rw[yJ];cases r:a.lf.getD b bu with
  |false=>
   rw[bQ,aw ab];grind [bA]
  |true=>
   rw[bI,ay bq];refine bC (y:=cL a.R a.full a.lf a.M) rfl (bC h ?_);rw[fe (by grind [jX]),aM];refine bA.2 ?_;rw[<-lC,wB (li (l.take c)++fw a.R a.lf b)];rfl
 rintro _ rfl;dsimp only;refine bJ (P:=λd=>d=(c8 (li l++amP F (L-F)),())) ?_ ?_
 ·refine bS (L-F) (λb d=>d=(((F+b:X):Z),c8 (li l++amP F b),())) ?_ ?_ ?_
  ·grind
  ·rintro b _ i rfl;dsimp only;rw[a5 (aJ (aa:((F+b:X):Z)<(L:Z))),bk aa];rw[fe (by grind [jX]),bT];refine bA.2 ?_;rw[ar1,<-aoo,wB (li l++amP F b),Nat.one_mul];rfl
  rintro _ rfl;dsimp only;rw[a2 (aG (aa:¬(((F+(L-F):X):Z)<(L:Z))))];grind [bA]
 rintro _ rfl;dsimp only;have m:aD ((L:Z)-(F:Z))=((L-F:X):Z):=(by grind [cG]);rw[m];refine bC (y:=(L-F,rows.length)) ?_ ?_
 ·simp_all [ay,bf,Rk,iA]
 dsimp only;rw[amy,fe (by grind [jX]),bT];grind [a8,jX,bA]
section
def Qz (R:amu) (lf:amr) (a:X):(fw R lf a).length=(fa lf a).length:=by rw[F5,eL]
theorem aac (R:amu) (lf:amr) (d:a<b) (h:lf.getD a bu=bt):(fw R lf b)[(fa lf a).length]?=Y (R.getD a 0):=by obtain⟨e,c⟩:=KB R lf (a+1) (b-(a+1));rw[(aa:a+1+(b-(a+1))=b)] at c;simp_all [yJ,ay,lC,qz,Qz,bf,vl]
theorem Gi {R:amu} (h:R[a]?=Y b):(c8 R)[a]?=Y (b:Z):=by show(R.map λ(c:X)=>(c:Z))[a]?=_;grind
theorem LN {R:amu} (i:R.Nodup) (j:R.length<=1000) (h:a∈R):AV (c8 R,(a:Z),())=Y (((R.idxOf a:X):Z),())/\R[R.idxOf a]?=Y a:=by have b:R[R.idxOf a]?=Y a:=ae;refine⟨Zv (by grind [jX]) (Gi b) λc k e=>?_,b⟩;have f:c<R.length:=ae;have d:=Gi (cH f);rw[d] at e;have g:R[c]=a:=ae;grind
section
variable {R:amu} {full:X} {lf:amr} {h:X->X->gG}
theorem Z4 (z:R.Nodup) (D:R.length<=1000) {c:amr} {e:bh} (r:jP N a c o e) (dl:∀b∈e.rows,b∈R) {g:X->X->amp} (cs:∀b d,da (g b d)):Eh (cL R full lf (g8 R λb d=>aE (g b d)),Y (cL N a c o),())=Y (cL R full lf (g8 R λb d=>if b∈e.rows/\d∈e.rows then aE (cZ (g b d) (e.s b d)) else aE (g b d)),()):=by
 have d6:=r.sm;have d9:=r.ll;have av:=r.rows;have dg:e.rows.Nodup:=(by rw[av];unfold fw;rw[apA,List.pairwise_map];refine(asv ?_ ((aqN (n:=N.length)).sublist List.filter_sublist));intro d3 d4 A B bx a0;exact bx ((r.inj (aor.1 (apD.1 A).1) (aor.1 (apD.1 B).1)).1 a0));have E:∀b,b<N.length->c.getD b bu=bt->N.getD b 0∈R:=λb j l=>dl _ (r.mem j l);have L:au (cL N a c o).1=(N.length:Z):=(by rw[a8];exact b9 _ (jX _));have c1:∀b,b<N.length->az (cL N a c o).1 (b:Z)=Y ((N.getD b 0:X):Z):=λb j=>(by rw[ie];show(c8 N)[b]?=_;grind [Gi,bZ]);have V:∀b,b<N.length->az (cL N a c o).2.2.1 (b:Z)=Y (c.getD b bu):=λb j=>(by rw[ie];show c[b]?=_;grind);unfold Eh;refine bR.1 ?_;dsimp only;refine bC (y:=cL N a c o) rfl ?_;rw[L,jq aa,bT];refine bC (y:=cL N a c o) rfl ?_;generalize O:cL R full lf (g8 R λb d=>aE (g b d))=x;generalize d7:(λb=>if c.getD b bu=bt then(R.idxOf (N.getD b 0):Z) else 0)=k;refine bJ (P:=λm=>m=(x,aA N.length k,())) ?_ ?_
 ·refine bS N.length (λb m=>m=((b:Z),x,aA N.length (λh=>if h<b then k h else 0),())) ?_ ?_ ?_
  ·grind [jV]
  rotate_left
  ·rintro _ rfl;simp_all [db,ay,bA,a2,aG,aA]
  rintro b _ j rfl;dsimp only;rw[L,a5 (aJ (aa:(b:Z)<(N.length:Z))),bk aa];refine bJ (P:=λm=>m=(x,aA N.length (λh=>if h<b+1 then k h else 0),())) ?_ (by grind [bA]);refine bC (c1 b j) (bC (y:=cL N a c o) rfl (bC (V b j) ?_));have an:∀I,I=k b->aA N.length (eK (λh=>if h<b then k h else(0:Z)) b I)=aA N.length λh=>if h<b+1 then k h else 0:=λI ex=>db λh c2=>by
   by_cases g:h=b
   ·simp_all [gw,ay]
   rw[gS _ _ g];omega
  cases l:c.getD b bu with
  |true=>
   rw[bI];have bl:x.1=c8 R:=(by rw[<-O];rfl);refine bC (by rw[bl];exact(LN z D (E b j l)).1) ?_;dsimp only;rw[MM _ j,an _ ae];grind [bA]
  |false=>
   rw[bQ];refine bA.2 ?_;have a3:k b=0:=ae;have:=an 0 a3.symm;rw[<-this];have:(aA N.length λh=>if h<b then k h else(0:Z))=aA N.length (eK (λh=>if h<b then k h else(0:Z)) b 0):=db λh c2=>by
    by_cases g:h=b
    ·simp_all [gw,aw]
    grind [gS]
   grind
 rintro _ rfl;subst O;dsimp only;generalize co:(λb d=>aE (cZ (g b d) (e.s b d)))=p;generalize cv:(λb d=>aE (g b d))=q;have d8:(λb d=>if b∈e.rows/\d∈e.rows then aE (cZ (g b d) (e.s b d)) else aE (g b d))=h4 e.rows p q e.rows.length 0:=(by grind [OO]);have ap:e.rows.length=(fa c N.length).length:=(by rw[av,Qz]);have T:au (aA N.length k)=(N.length:Z):=(by rw[a8,cI]);have H:∀b,b<N.length->c.getD b bu=bt->∃ek:(fa c b).length<e.rows.length,e.rows[(fa c b).length]=N.getD b 0:=λb j l=>(by have d5:=aac N c j l;grind);refine bJ (P:=λm=>m=(cL R full lf (g8 R (h4 e.rows p q e.rows.length 0)),())) ?_ (by grind [bA]);refine bS N.length (λb m=>m=((b:Z),cL R full lf (g8 R (h4 e.rows p q (fa c b).length 0)),aA N.length k,())) ?_ ?_ ?_
 ·rw[show(fa c 0).length=0 from rfl,OS];rfl
 rotate_left
 ·rintro _ rfl;dsimp only;rw[T,a2 (aG (aa:¬(N.length:Z)<(N.length:Z))),ap];grind [bA]
 rintro b _ j rfl;dsimp only;rw[T,a5 (aJ (aa:(b:Z)<(N.length:Z))),bk aa];refine bJ (P:=λm=>m=(cL R full lf (g8 R (h4 e.rows p q (fa c (b+1)).length 0)),aA N.length k,())) ?_ (by grind [bA]);refine bS N.length (λd m=>m=((d:Z),cL R full lf (g8 R (h4 e.rows p q (fa c b).length (if c.getD b bu=bt then(fa c d).length else 0))),aA N.length k,())) ?_ ?_ ?_
 ·simp_all [fa]
 rotate_left
 ·rintro _ rfl;dsimp only;rw[a2 (aG (aa:¬(N.length:Z)<(N.length:Z)))];refine bA.2 ?_;rw[F4];by_cases l:c.getD b bu=bt
  ·rw[ay l,ay l,hM,oV,<-ap];rw[OR (H b j l).1]
  grind
 rintro d _ t rfl;dsimp only;rw[a5 (aJ (aa:(d:Z)<(N.length:Z))),bk aa];refine bJ (P:=λm=>m=(cL R full lf (g8 R (h4 e.rows p q (fa c b).length (if c.getD b bu=bt then(fa c (d+1)).length else 0))),aA N.length k,())) ?_ (by grind [bA]);generalize M:g8 R (h4 e.rows p q (fa c b).length (if c.getD b bu=bt then(fa c d).length else 0))=v;refine bC (y:=(c.getD b bu&&c.getD d bu,cL R full lf v,aA N.length k,())) ?_ ?_
 ·refine aq (y:=cL N a c o) rfl (aq (V b j) ?_);cases l:c.getD b bu with
  |true=>
   grind
  |false=>
   grind
 dsimp only;by_cases l:c.getD b bu=bt
 rotate_left
 ·simp_all [aw,bA,ap5,bQ]
 by_cases u:c.getD d bu=bt
 rotate_left
 ·simp_all [F4,aw,bA,Bool.and_false,bQ]
 rw[l,u,aoF,bI];obtain⟨A,Q⟩:=H b j l;obtain⟨B,U⟩:=H d t u;rw[cc l] at M;obtain⟨_,F⟩:=LN z D (E b j l);obtain⟨_,G⟩:=LN z D (E d t u);have S:k b=((R.idxOf (N.getD b 0):X):Z):=ae;have ci:k d=((R.idxOf (N.getD d 0):X):Z):=ae;have em:=(anL.1 F).1;have eq:=(anL.1 G).1;generalize R.idxOf (N.getD b 0)=d0 at*;generalize R.idxOf (N.getD d 0)=m at*;obtain⟨d1,w,fn,eY⟩:=Mx (h4 e.rows p q (fa c b).length (fa c d).length) F G;have C:=Uh z (h4 e.rows p q (fa c b).length (fa c d).length) F G (p (N.getD b 0) (N.getD d 0)) w;have J:=OP (f:=p) (g:=q) A B;rw[Q,U] at J;rw[<-J] at C;have K:=OQ (f:=p) (g:=q) dg A B;rw[Q,U] at K;rw[K] at eY;have el:v.length=R.length:=(by grind [Ug]);rw[M] at w C;have ad:=e4 (n:=v.length) (i:=d0) aa;have am:=e4 (n:=d1.length) (i:=m) aa;obtain⟨d2,ds,fl⟩:=r.ent b d j t l u;have ce:=ON (cs (N.getD b 0) (N.getD d 0)) (r.okd _ (r.mem j l) _ (r.mem t u));subst co cv;have a4:(cL R full lf v).2.2.2.1=v:=rfl;rw[Cf _ j,a4,S];refine bC ad ?_;rw[Cf _ t,Cf _ j,S];refine bC ad ?_;rw[Cf _ t,ci,gP w,bT];refine bC am ?_;rw[gP w,gP eY,bT];refine bC (y:=cL N a c o) rfl (bC (y:=d2) (by rw[ie];exact ds) (bC (y:=aE (e.s (N.getD b 0) (N.getD d 0))) (by grind [ie]) (bC ce ?_)));dsimp only;refine bC am ?_;rw[gP w,gP eY];refine bA.2 ?_;dsimp only;rw[C,F4,cc u,amX,aoW,cc bq];rfl
end
end
theorem aaY (b:∀a∈d,0<=a):c8 (d.map amZ)=d:=by
 unfold c8;rw[qD]
 conv=>rhs;rw[<-List.map_id d]
 refine iY λa c=>?_;grind
theorem Qc (c:X->X) (a:X) (b:amu):(rc c a b).Perm (a::b):=by grind [aqM,rc]
theorem T4 (c:X->X):∀(b a:amu),(b.foldl (λa p=>rc c p a) a).Perm (b++a)
 |[],a=>aoU _
 |p::b,a=>by rw[apC];refine(T4 c b _).trans ?_;grind [List.perm_middle,apg,Qc]
def CA (b:X->X) (a:amu):(rF b a).Perm a:=by have:=T4 b a [];rwa[pG] at this
theorem ZC (j:f.Pairwise λb c=>r b<r c) (n:∀b∈f,r b≠r a):(rc r a f).Pairwise λb c=>r b<r c:=by
 unfold rc;have k:∀b∈f.takeWhile (λb=>bw (r b<r a)),r b<r a:=λb d=>aoH (QX (p:=λb=>bw (r b<r a)) d);have l:∀b∈f.dropWhile (λb=>bw (r b<r a)),r a<r b:=by
  intro b d;have i:f.dropWhile (λb=>bw (r b<r a))≠[]:=List.ne_nil_of_mem d;have h:=List.head_dropWhile_not (λb=>bw (r b<r a)) i;rw[aqK] at h;have m:(f.dropWhile λb=>bw (r b<r a)).Pairwise λb c=>r b<r c:=j.sublist (ar2 _);have o:∀c∈f.dropWhile (λb=>bw (r b<r a)),c∈f:=λc g=>(ar2 _).subset g;generalize f.dropWhile (λb=>bw (r b<r a))=e at*;cases e with
  |nil=>cases d
  |cons c e=>
   grind [aoz]
 grind [aoz,aqM]
theorem Mo {b:X->X}:∀{e d:amu},d.Pairwise (λa c=>b a<b c)->(∀a∈d,∀c∈e,b a≠b c)->e.Pairwise (λa c=>b a≠b c)->(e.foldl (λd p=>rc b p d) d).Pairwise λa c=>b a<b c
 |[],d,f,_,_=>f
 |p::e,d,f,i,g=>by rw[apC];rw[nF] at g;refine Mo (ZC f λa h=>i a h p ac) (λa h c j=>?_) g.2;grind [Qc]
def T0 {e:X->X}:∀{a b:amu},a.Perm b->a.Pairwise (λx d=>e x<e d)->b.Pairwise (λx d=>e x<e d)->a=b
 |[],b,c,_,_=>c.nil_eq
 |x::a,[],c,_,_=>absurd c.length_eq ac
 |x::a,d::b,c,f,g=>by rw[nF] at f g;have h:x=d:=ae;subst h;rw[T0 (List.perm_cons x|>.1 c) f.2 g.2]
theorem pL.key (a:Z->Z):pL λd e=>bw (a d<a e):=⟨λb c g=>by grind,λb c f h i=>by grind⟩
def ZD (c:amv) (a b:Z) (d:bv aU) (e:bv eV):Jb (c,a,b,(d,e,()),())=FW (λf g=>vQ (f,g,d,e,())) c a b:=rfl
def aet (a:amv) (e:Z) (c:bv aU) (d:bv eV) (i:a.length<=12) {b:amv×bz} (f:FW (λg h=>vQ (g,h,c,d,())) a 0 (a.length:Z)=Y b):EO (a,0,(a.length:Z),e,(c,d,()),())=Y b:=by obtain⟨b,_⟩:=b;unfold EO;dsimp only;rw[QK];dsimp only;rw[a5 (aJ (show aD ((a.length:Z)-0)<=12 by rw[apo,cG aa aa];omega)),ZD,f];rfl
def W4 (h:∀c∈f,c<a) (e:b<f.length) (g:i<f.length):vQ ((b:Z),(i:Z),Y (aA a λc=>(r c:Z)),Y (c8 f,d,()),())=Y (gh (r f[b]:Z) (r f[i]:Z),()):=by unfold vQ;refine aq (y:=aA a λc=>(r c:Z)) rfl (aq (y:=(c8 f,d,())) rfl (aq (ri e) (aq (sv (h _ (cT e))) ?_)));refine aq (y:=aA a λc=>(r c:Z)) rfl (aq (y:=(c8 f,d,())) rfl (aq (ri g) (aq (sv (h _ (cT g))) ?_)));exact aq (DA _ _) rfl
theorem W5:gh c j<0↔c<j:=by grind [gh]
theorem ahj {n:X} {f:X->X} {rows:amu} (N:∀g∈rows,g<n) (M:rows.length<=12) (o:rows.Pairwise λd c=>f d≠f c) (w:amv):∃b:amu,EL (c8 (bK rows.length),(Y (aA n λg=>(f g:Z)),Y (c8 rows,w,()),()),())=Y (c8 b,())/\(∀a∈b,a<rows.length)/\b.length=rows.length/\b.map (λa=>rows.getD a 0)=rF f rows:=by
 have s:(c8 (bK rows.length)).length=rows.length:=(by rw[jX,oU]);obtain⟨⟨b,⟨⟩⟩,G,y,C,B,e⟩:=ZA (cmp:=λh x=>vQ (h,x,Y (aA n λg=>(f g:Z)),Y (c8 rows,w,()),())) (pL.key λh=>(f (rows.getD h.toNat 0):Z)) (c8 (bK rows.length)) (by
  intro h x j I;obtain⟨d,l,rfl⟩:=eT.1 j;obtain⟨c,m,rfl⟩:=eT.1 I;simp_all [ji,cH,W5,amV,W4,gN]) aa
 dsimp only at C e;obtain⟨c,m⟩:=M9 rows.length aa;have P:b=c8 (b.map amZ):=(aaY λh j=>by
  obtain⟨Q,_,rfl⟩:=eT.1 (e.mem_iff.1 j);omega).symm
 have F:(b.map amZ).Perm (bK rows.length):=(by have:=e.map amZ;rwa[show(c8 (bK rows.length)).map amZ=bK rows.length by simp[c8,Function.comp_def]] at this);have D:∀a∈b.map amZ,a<rows.length:=λa i=>aor.1 (F.mem_iff.1 i);have E:(b.map amZ).map (λa=>rows.getD a 0)=rF f rows:=(by have J:((bK rows.length).map λa=>rows.getD a 0)=rows:=(by refine List.ext_getElem? λa=>?_;grind);have k:((b.map amZ).map λa=>rows.getD a 0).Perm rows:=ae;have t:((b.map amZ).map λa=>rows.getD a 0).Pairwise λd c=>f d≠f c:=(k.symm.pairwise o λz=>z.symm);refine T0 (k.trans (CA f rows).symm) ?_ (Mo aoy (λd l=>by cases l) o);rw[amx] at t|-;intro u v p r q;have O:b.length=rows.length:=(by rw[e.length_eq,s]);have K:=t u v p r q;simp only[cb] at p r;have A:=B u v q aa;rw[aqK] at A;have L:∀a,(i:a<b.length)->y a=b[a]:=λa i=>(by grind [am0,gu,bZ,aA,c8,bK]);grind);refine⟨b.map amZ,?_,D,by rw[cb,e.length_eq,s],E⟩;unfold EL;have H:aS (au (c8 (bK rows.length)))=(rows.length:Z):=(by grind [MR,a8]);dsimp only;rw[H];refine aq m ?_;dsimp only;rw[a8];refine aq (aet _ c _ _ aa G) ?_;grind
def ia (a:iW):eV:=(c8 a.1,a.1.map a.2,())
theorem aeB (a4:s.length=a) (em:a<=12) {p:bp aN} (E:(p.flatMap aN.a7).Perm (bK a)) (F:∀k∈p,xx (bK a) k) (del:Z) (ci:bv (Z×((bp aU×bz)×(bp (bv (bp (Z×cY)×X))×bz)))):Er (Y (ci,(c8 (p.flatMap aN.a7),(p.map (λk=>(k.a7.length:Z)),(p.flatMap (·.d),((p.flatMap aN.e0).map ia,(del,())))))),s,())=Y (wd s p del,()):=by
 obtain⟨fp,fr,fs⟩:=SK F;have S:(p.flatMap aN.a7).length=a:=(by rw[E.length_eq,aoV]);have d5:(p.flatMap aN.a7).Nodup:=E.nodup_iff.2 aqN;have H:∀e,e∈p.flatMap aN.a7↔e<a:=λe=>(by rw[E.mem_iff,aor]);have B:∀r∈p.flatMap aN.e0,r.1.Nodup/\∀o∈r.1,o<a:=λr t=>(by obtain⟨k,M,t⟩:=aoX.1 t;obtain⟨j,_,rfl⟩:=apE.1 t;exact⟨(F k M).nd,λo w=>aor.1 ((F k M).sub o w)⟩);unfold Er wd;refine bR.1 ?_;dsimp only;generalize d4:p.flatMap aN.a7=i at*;generalize d2:p.flatMap aN.e0=h at*;generalize p.map (λk=>(k.a7.length:Z))=ig;generalize p.flatMap (·.d)=u;rw[show au s=(a:Z) by rw[a8,a4],jq aa,bT,bT,bT,bT,bT];dsimp only;have T:au (c8 i)=(a:Z):=(by rw[a8,jX,S]);refine bJ (P:=λk=>k=(([],([],([],([],([],([],((0:Z),()))))))),aA a (λe=>(i.idxOf e:Z)),(i.map (λe=>s.getD e 0),(ig,(u,([0],(([]:aU),(([]:aU),(del,()))))))),())) ?_ ?_
 ·refine bS a (λb k=>k=((b:Z),([],([],([],([],([],([],((0:Z),()))))))),aA a (λe=>if e∈i.take b then(i.idxOf e:Z) else 0),((i.take b).map (λe=>s.getD e 0),(ig,(u,([0],(([]:aU),(([]:aU),(del,()))))))),())) ?_ ?_ ?_
  ·grind [jV,db]
  ·rintro b _ A rfl;dsimp only;have L:b<i.length:=aa;rw[T,a5 (aJ (aa:(b:Z)<(a:Z))),bk aa];have bl:i[b]<a:=(H _).1 (ca L);have a0:i.idxOf i[b]=b:=by
    grind
   refine bC (ri L) ?_;rw[MM _ bl];refine bC (hF aa) ?_;rw[fe ae,aM];refine bA.2 ?_;have ar:i.take (b+1)=i.take b++[i[b]]:=ag;have d0:(aA a (eK (λe=>if e∈i.take b then(i.idxOf e:Z) else 0) i[b] (b:Z)))=aA a λe=>if e∈i.take (b+1) then(i.idxOf e:Z) else 0:=by
    refine db λe eq=>?_;rw[ar];by_cases z:e=i[b]
    ·rw[z,gw,ay (kB _ (gI.2 bq)),a0]
    grind [gS,amF]
   grind
  rintro _ rfl;simp_all [db,ay,bA,a2,aG,gJ,aA]
 rintro _ rfl;dsimp only;have el:∀j y,j<a->y<a->i.idxOf j=i.idxOf y->j=y:=λj y U d7 dl=>(by have R:=apF (List.idxOf_lt_length_iff.2 ((H j).2 U));grind);generalize ad:(λe=>i.idxOf e)=g at*;have am:(λe=>(i.idxOf e:Z))=λe=>(g e:Z):=ae;have d9:∀e,i.idxOf e=g e:=λe=>(by rw[<-ad]);rw[am];generalize i.map (λe=>s.getD e 0)=x;rw[bT];dsimp only;have I:au (h.map ia)=(h.length:Z):=ae;have bx:∀r∈h,r.1.length<=12:=λr t=>(by have:=(B r t).1.length_le_of_subset (l₂:=bK a) λo w=>aor.2 ((B r t).2 o w);grind);have V:∀cs:bp iW,(∀r∈cs,r∈h)->cs.length<=100->(cs.flatMap (gC g)).length<=10000/\(cs.flatMap (ks g)).length<=10000:=λcs R d1=>(by grind [YK,cb,Ha,ks,gC]);refine bJ (P:=λk=>k=(([],([],([],([],([],([],((0:Z),()))))))),(x,(ig,(u,(l8 (gC g) h,(h.flatMap (gC g),(h.flatMap (ks g),(del,()))))))),())) ?_ (by grind [bA]);refine bS h.length (λb k=>k=((b:Z),([],([],([],([],([],([],((0:Z),()))))))),aA a (λe=>(g e:Z)),(x,(ig,(u,(l8 (gC g) (h.take b),((h.take b).flatMap (gC g),((h.take b).flatMap (ks g),(del,()))))))),())) rfl ?_ ?_
 rotate_left
 ·rintro _ rfl;dsimp only;rw[I,a2 (aG (aa:¬(h.length:Z)<(h.length:Z))),amy];grind [bA]
 rintro b _ A rfl;dsimp only;rw[I,a5 (aJ (aa:(b:Z)<(h.length:Z))),bk aa];have J:=ca A;have a3:h.take (b+1)=h.take b++[h[b]]:=ag;have an:az (h.map ia) (b:Z)=Y (ia h[b]):=(by grind [ie,bZ]);obtain⟨c2,dg⟩:=V (h.take b) (λr t=>ar0 t) ae;have v:=B _ J;have C:=bx _ J;have fl:(l8 (gC g) (h.take b)).length<=1000:=(by grind [cb,aoV,am5,l8]);have ex:=WR (gC g) (h.take b) h[b];rw[a3];generalize h[b]=r at*;generalize h.take b=cs at*;refine bC an ?_;obtain⟨c,j⟩:=r;have C:c.length<=12:=C;have v:c.Nodup/\∀o∈c,o<a:=v;have ce:au (ia (c,j)).1=(c.length:Z):=(by rw[a8];exact b9 _ (jX _));rw[ce,jq aa,bT];have N:au (bM c.length (0:Z))=(c.length:Z):=ae;generalize d8:((x,(ig,(u,(l8 (gC g) cs,(cs.flatMap (gC g),(cs.flatMap (ks g),(del,()))))))):fA)=G;refine bJ (P:=λk=>k=(([],([],([],([],([],([],((0:Z),()))))))),aA a (λe=>(g e:Z)),G,ia (c,j),c8 (bK c.length),())) ?_ ?_
 ·refine bS c.length (λo k=>k=((o:Z),([],([],([],([],([],([],((0:Z),()))))))),aA a (λe=>(g e:Z)),G,ia (c,j),aA c.length (λb=>if b<o then(b:Z) else 0),())) ?_ ?_ ?_
  ·grind [jV]
  ·rintro o _ w rfl;dsimp only;rw[N,a5 (aJ (aa:(o:Z)<(c.length:Z))),bk aa,MM _ w];refine bA.2 ?_;have:aA c.length (eK (λb:X=>if b<o then(b:Z) else 0) o (o:Z))=aA c.length λb=>if b<o+1 then(b:Z) else 0:=db λb _=>by
    by_cases z:b=o
    ·subst z;rw[gw,ay aa]
    rw[gS _ _ z];omega
   grind
  rintro _ rfl;dsimp only;rw[N,a2 (aG (aa:¬(c.length:Z)<(c.length:Z)))];refine bA.2 ?_;have:(aA c.length λb:X=>if b<c.length then(b:Z) else 0)=c8 (bK c.length):=db λb A=>cc A;grind
 rintro _ rfl;dsimp only;obtain⟨q,co,cv,c1,aY⟩:=ahj (n:=a) (f:=g) (rows:=c) v.2 C (by
  refine rQ ?_ v.1;grind) (c.map j)
 refine bC co ?_;dsimp only;have Q:au (c8 q)=(c.length:Z):=(by rw[a8,jX,c1]);have d3:∀m,m<q.length->(gC g (c,j))[m]?=Y (g (c.getD (q.getD m 0) 0):Z):=λm K=>(by grind [bZ,gC]);have d6:∀m,m<q.length->(ks g (c,j))[m]?=Y (j (c.getD (q.getD m 0) 0)):=λm K=>(by grind [bZ,ks]);have ek:(gC g (c,j)).length=c.length:=(by grind [cb,Ha,gC]);have fn:(ks g (c,j)).length=c.length:=(by grind [cb,Ha,ks]);refine bJ (P:=λk=>k=(([],([],([],([],([],([],((0:Z),()))))))),aA a (λe=>(g e:Z)),(x,(ig,(u,(l8 (gC g) cs,(cs.flatMap (gC g)++gC g (c,j),(cs.flatMap (ks g)++ks g (c,j),(del,()))))))),())) ?_ ?_
 ·refine bS c.length (λm k=>k=((m:Z),([],([],([],([],([],([],((0:Z),()))))))),aA a (λe=>(g e:Z)),(x,(ig,(u,(l8 (gC g) cs,(cs.flatMap (gC g)++(gC g (c,j)).take m,(cs.flatMap (ks g)++(ks g (c,j)).take m,(del,()))))))),ia (c,j),c8 q,())) ?_ ?_ ?_
  ·grind
  ·rintro m _ K rfl;dsimp only;have D:m<q.length:=aa;rw[Q,a5 (aJ (aa:(m:Z)<(c.length:Z))),bk aa,zf D];have O:=cv _ (ca D);have ap:az (ia (c,j)).1 ((q[m]:X):Z)=Y ((c[q[m]]:X):Z):=ri O;have av:az (ia (c,j)).2.1 ((q[m]:X):Z)=Y (j c[q[m]]):=by
    rw[ie];show(c.map j)[q[m]]?=_;grind
   refine bC ap ?_;rw[Cf _ (v.2 _ (cT O)),fe ae,aM];refine bC av ?_;rw[fe ae,aM];refine bA.2 ?_;have ds:c.getD (q.getD m 0) 0=c[q[m]]:=(by rw[ji (l:=q),cH D];grind);grind [aoo,amG]
  rintro _ rfl;dsimp only;rw[Q,a2 (aG (aa:¬(c.length:Z)<(c.length:Z))),amz aa,amz aa];grind [bA]
 rintro _ rfl;dsimp only;rw[fe ae,bT];grind [a8,bA]
section
def QB (b:amu):∀{a},a<=b.length->fw b (bM b.length bt) a=b.take a:=by
 intro a
 induction a with
 |zero=>intro _;rfl
 |succ a c=>
  intro d;rw[yJ,c aa,ay ae,j6,cH aa,ji,cH aa];rfl
theorem jP.start {a:bh} (b:mu a) (g:a.rows.length<=1000):jP a.rows a.full (bM a.rows.length bt) (g8 a.rows λc d=>aE (a.s c d)) a where
 ll:=rT ..
 nd:=b.nd
 sm:=g
 fl:=b.full
 rows:=by rw[QB _ (bf _),ik]
 full:=by rw[QB _ b.full,hz];have:=b.full;omega
 okd:=b.okd
 ent:=λc d e f _ _=>by obtain⟨j,h,_,i⟩:=Mx (λc d=>aE (a.s c d)) (cH e) (cH f);grind
section
variable {G:ez} {l:bp eS} {n t:X} {L:X->bh} {ps:bp aN} {A:X->X->amp}
theorem XP (d:ki n l t):(ir l (t:Z)).drop (iD l t)=c8 (mV l t):=by
 refine iJ λa=>?_;have c:(c8 (mV l t))[a]?=((mV l t)[a]?).map λ(b:X)=>(b:Z):=(by show((mV l t).map λ(b:X)=>(b:Z))[a]?=_;grind);rw[qA,c];unfold mV;rw[jv];by_cases e:iD l t+a<iC l t
 ·rw[d.get _ e,List.getElem?_range' aa];simp
 grind [aoi,ar3,iC]
structure Ni (n:X) (c:l1) (y:bh):Prop where
 r:jP c.R c.full c.lf c.M y
 len:c.R.length<=n
theorem Wp (K:jg G l) (S:G.length=n) (av:t<l.length) (I:mx l n t L ps) (R:∀b d,da (A b d)) (fp:n<=64) {x:X->l1} (J:∀e,e<t->Ni n (x e) (L e)) (bl:∀b d:X,b<n->d<n->vX (m,(b:Z),(d:Z),())=Y (aE (A b d),())):Ef (m,((cN l t:Z),(cN l (t+1):Z),ir l (t:Z),gR l t,()),(fj l t t).map (λe=>(x e).enc),())=Y (cL (jw A l L t).rows (jw A l L t).full (bM (jw A l L t).rows.length bt) (g8 (jw A l L t).rows λb d=>aE ((jw A l L t).s b d)),0,()):=by
 have u:=ki.of K S av;have ex:l.length<=n:=(by have:=JV K;omega);have V:=Aj A L t (l:=l);have T:∀b∈(jw A l L t).rows,b<n:=λb o=>I.Dq A u o;have d6:=I.N0 A R u;have M:=(I.Ai R u).nd;have d8:=u.Iy;have fs:=u.own;have N:∀e∈fj l t t,e<t:=λe C=>(Gc.1 C).1;have d9:(fj l t t).length<=t:=(by grind [cC,am4,fj]);have dl:(cN l (t+1)-cN l t)=iD l t:=rfl;have O:=agy (l:=(fj l t t).map x) (F:=cN l t) (L:=cN l (t+1)) (rows:=ir l (t:Z)) (par:=gR l t) (λe C=>by
  obtain⟨c,B,rfl⟩:=eT.1 C;have:=J c (N c B);exact⟨this.r.ll,this.r.fl,by have:=this.len;omega⟩) ae aa aa (by have:=u.abm;grind [iC]) (by have:=u.HN;grind [iC])
 have ci:li ((fj l t t).map x)=(fj l t t).flatMap λe=>(L e).rows.take (L e).full:=(by unfold li;rw[List.flatMap_map];refine PE λe C=>?_;exact(J e (N e C)).r.take.symm);rw[List.map_map,ci,dl,XP u] at O;have ar:c8 ((fj l t t).flatMap (λe=>(L e).rows.take (L e).full)++amP (cN l t) (iD l t))++c8 (mV l t)=c8 (jw A l L t).rows:=(by rw[<-wB,V.1];rfl);have a3:((fj l t t).flatMap (λe=>(L e).rows.take (L e).full)++amP (cN l t) (iD l t)).length=(jw A l L t).full:=V.2.symm;rw[ar,a3] at O;unfold Ef;refine bR.1 ?_;refine bC O ?_;dsimp only;generalize d5:(jw A l L t).rows=a at*;generalize em:(jw A l L t).full=j at*;have bx:au (c8 a)=(a.length:Z):=(by rw[a8,jX]);rw[bx,a2 (aG (aa:¬(a.length:Z)>64)),jq aa,bT,bT];generalize a0:bM a.length ((bu,((bu,(([]:amv),())),((0:Z),()))):cY)=q;refine bJ (P:=λi=>i=(cL a j (bM a.length bt) (g8 a λ_ _=>aE (Y 0)),())) ?_ ?_
 ·refine bS a.length (λb i=>i=((b:Z),cL a j (aA a.length λc=>bw (c<b)) (aA a.length λc=>if c<b then q else[]),())) ?_ ?_ ?_
  ·have z:(aA a.length λc=>bw (c<0))=bM a.length bu:=(by grind [db,amT,jV]);have E:(aA a.length λc=>if c<0 then q else[])=bM a.length []:=(by simp_all [db,aw,jV]);rw[z,E];rfl
  ·rintro b _ o rfl;dsimp only;rw[a5 (aJ (aa:(b:Z)<(a.length:Z))),bk aa,bT];have c1:(cL a j (aA a.length λc=>bw (c<b)) (aA a.length λc=>if c<b then q else[])).2.2.1=aA a.length λc=>bw (c<b):=rfl;rw[c1];refine bC (e4 (by grind [cI])) ?_;rw[gP (gu o),hq];refine bC bq ?_;dsimp only;have c2:(cL a j (aA a.length λc=>bw (c<b)) (aA a.length λc=>if c<b then q else[])).2.2.2.1=aA a.length λc=>if c<b then q else[]:=rfl
   rw[c2];refine bC (e4 (by grind [cI])) ?_;rw[gP (gu o),hq];refine bC bq ?_;refine bA.2 ?_;have z:aA a.length (eK (λc=>bw (c<b)) b bt)=aA a.length λc=>bw (c<b+1):=db λc _=>by
    by_cases v:c=b
    ·grind [gw,amA]
    rw[gS _ _ v,amD];omega
   have E:aA a.length (eK (λc=>if c<b then q else[]) b q)=aA a.length λc=>if c<b+1 then q else[]:=db λc _=>by
    by_cases v:c=b
    ·simp_all [gw,ay]
    rw[gS _ _ v];grind
   rw[a0,z,E];rfl
  rintro _ rfl;dsimp only;rw[a2 (aG (aa:¬(a.length:Z)<(a.length:Z)))];refine bA.2 ?_;have z:(aA a.length λc=>bw (c<a.length))=bM a.length bt:=(by grind [db,amA,jV]);have E:(aA a.length λc=>if c<a.length then q else[])=g8 a λ_ _=>aE (Y 0):=(by have a4:(aA a.length λc=>if c<a.length then q else[])=aA a.length λ_=>q:=db λc B=>cc B;have H:q=a.map λ_=>aE (Y 0):=(by rw[<-a0];exact(List.map_const' ..).symm);rw[a4,Pr a λ_=>q,H];rfl);grind
 rintro _ rfl;dsimp only;generalize eq:bM a.length bt=lf;refine bJ (P:=λi=>i=(cL a j lf (g8 a λb d=>aE (Ah A l t b d)),())) ?_ ?_
 ·generalize am:(λb d=>aE (Ah A l t b d))=h;generalize cv:(λ(_ _:X)=>aE (Y 0))=k;have co:g8 a h=g8 a (h4 a h k a.length 0):=by
   rw[OO];simp_all [Uf,ay]
  rw[co];refine bS a.length (λb i=>i=((b:Z),cL a j lf (g8 a (h4 a h k b 0)),())) ?_ ?_ ?_
  ·rw[OS];rfl
  rotate_left
  ·rintro _ rfl;dsimp only;rw[a2 (aG (aa:¬(a.length:Z)<(a.length:Z)))];grind [bA]
  rintro b _ o rfl;dsimp only;rw[a5 (aJ (aa:(b:Z)<(a.length:Z))),bk aa];refine bJ (P:=λi=>i=(cL a j lf (g8 a (h4 a h k b a.length)),())) ?_ (by grind [bA,OR]);refine bS a.length (λd i=>i=((d:Z),cL a j lf (g8 a (h4 a h k b d)),())) rfl ?_ ?_
  rotate_left
  ·rintro _ rfl;dsimp only;rw[a2 (aG (aa:¬(a.length:Z)<(a.length:Z)))];grind [bA]
  rintro d _ w rfl;dsimp only;rw[a5 (aJ (aa:(d:Z)<(a.length:Z))),bk aa];refine bJ (P:=λi=>i=(cL a j lf (g8 a (h4 a h k b (d+1))),())) ?_ (by grind [bA]);have fr:=OQ (f:=h) (g:=k) M o w;have ap:=OP (f:=h) (g:=k) o w;obtain⟨ft,Q,fz,eY⟩:=Mx (h4 a h k b d) (bZ o) (bZ w);have H:=Uh M (h4 a h k b d) (bZ o) (bZ w) (h a[b] a[d]) Q;rw[<-ap] at H;have fn:(g8 a (h4 a h k b d)).length=a.length:=Ug _ _;have d0:h a[b] a[d]=k a[b] a[d]->g8 a (h4 a h k b d)=g8 a (h4 a h k b (d+1)):=λek=>(by rw[ap];refine Uf λd3 _ d4 _=>?_;grind);generalize d7:g8 a (h4 a h k b d)=D at*;have U:(cL a j lf D).1=c8 a:=rfl;have ce:(cL a j lf D).2.2.2.1=D:=rfl;rw[U,zf o,zf w];have dg:(if((a[d]:X):Z)<((a[b]:X):Z) then((a[d]:X):Z) else((a[b]:X):Z))=((min a[b] a[d]:X):Z):=aa;rw[dg];refine bC (y:=(bw (cN l t<=min a[b] a[d]/\min a[b] a[d]<cN l (t+1)),cL a j lf D,())) ?_ ?_
  ·by_cases v:cN l t<=min a[b] a[d]
   ·rw[a5 ae];rw[amD.2 (aa:((min a[b] a[d]:X):Z)<(cN l (t+1):Z)↔cN l t<=min a[b] a[d]/\min a[b] a[d]<cN l (t+1))]
   grind
  dsimp only;by_cases v:cN l t<=min a[b] a[d]/\min a[b] a[d]<cN l (t+1)
  ·rw[a5 (aJ v),ce];have d2:aE (A a[b] a[d])=h a[b] a[d]:=(by rw[<-am];dsimp only;unfold Ah;grind);refine bC (e4 aa) ?_;rw[U,zf o,zf w];refine bC (bl _ _ (T _ (ca o)) (T _ (ca w))) ?_;dsimp only;rw[gP Q,bT];refine bC (e4 aa) ?_;rw[gP Q,gP eY,d2];refine bC bq ?_;refine bA.2 ?_;dsimp only;rw[H];rfl
  rw[a2 (aG v)];refine bA.2 ?_;rw[d0 (by rw[<-am,<-cv];dsimp only;unfold Ah;grind)]
 rintro _ rfl;dsimp only;have el:∀cs:amu,(cs.foldl (λp e=>p.plus (L e)) (na A l L t)).rows=a:=λcs=>(by simp_all [GH,na]);have ds:∀(cs:amu) b d,da ((cs.foldl (λp e=>p.plus (L e)) (na A l L t)).s b d):=λcs=>LO L _ _ λb d=>by
  show da (if _ then _ else _);split
  ·grind
  exact LH
 refine bJ (P:=λi=>i=(cL a j lf (g8 a λb d=>aE ((jw A l L t).s b d)),())) ?_ (by grind [bA]);have ad:au ((fj l t t).map λe=>(x e).enc)=((fj l t t).length:Z):=ae;refine bS (fj l t t).length (λc i=>i=((c:Z),cL a j lf (g8 a λb d=>aE ((((fj l t t).take c).foldl (λp e=>p.plus (L e)) (na A l L t)).s b d)),())) rfl ?_ ?_
 rotate_left
 ·rintro _ rfl;dsimp only;rw[ad,a2 (aG (aa:¬((fj l t t).length:Z)<((fj l t t).length:Z))),amy];exact bA.2 bq
 rintro c _ B rfl;dsimp only;rw[ad,a5 (aJ (aa:(c:Z)<((fj l t t).length:Z))),bk aa];have an:=ca B;refine bC (y:=(x (fj l t t)[c]).enc) (by grind [ie,bZ]) ?_;have d1:∀b∈(L (fj l t t)[c]).rows,b∈a:=λb o=>(by have:=I.child A K S av an o;grind);have z:=Z4 (full:=j) (lf:=lf) M aa (J _ (N _ an)).r d1 (g:=(((fj l t t).take c).foldl (λp e=>p.plus (L e)) (na A l L t)).s) (ds _);refine bC z ?_;refine bA.2 ?_;rw[amG,bZ B,List.foldl_append];have:(λb d=>if b∈(L (fj l t t)[c]).rows/\d∈(L (fj l t t)[c]).rows then aE (cZ ((((fj l t t).take c).foldl (λp e=>p.plus (L e)) (na A l L t)).s b d) ((L (fj l t t)[c]).s b d)) else aE ((((fj l t t).take c).foldl (λp e=>p.plus (L e)) (na A l L t)).s b d))=λb d=>aE (((((fj l t t).take c).foldl (λp e=>p.plus (L e)) (na A l L t)).plus (L (fj l t t)[c])).s b d):=(by funext b d;show _=aE (if _ then _ else _);grind);simp_all
end
end
def zc (l:Z->bv (cY×bz)) (r:bv dd) (f:aU) (q:cY):bv (eV×gU×Z×bz):=
 (loop (σ:=(Z×eV×eV×gU×bz)) (ρ:=((eV×eV×gU×bz)⊕(eV×gU×Z×bz))) (λ(e,h,a,d,_)=>
  bif bw (e<au f) then
 (az f e).bind λi=>
 (l i).bind λ(o,_)=>
 (tJ (o,q,0,())).bind λ(b,_)=>
 (pa (b,())).bind λ(p,_)=>
  bif !p then
 Y (.inr (.inr (a,[],233,()))) else
  r.bind λs=>
 (az s.1 i).bind λc=>
 (c3 ((a.1).length+([c]).length)).bind λ_=>
 (c3 ((a.2.1).length+([b]).length)).bind λ_=>
 (kb (b,())).bind λ(g,_)=>
 (c3 (d.length+([g]).length)).bind λ_=>
 Y (.inl (aT e,h,(((a.1++[c]),a.2).1,((((a.1++[c]),a.2).2.1++[b]),((a.1++[c]),a.2).2.2)),(d++[g]),())) else
 Y (.inr (.inl (h,a,d,())))) (0,([],([],())),([],([],())),[],())).bind λm=>match m with
 |.inl (_,j,k,_)=>(
 Y (j,k,0,()))
 |.inr n=>Y n
def aeV (c:bv dd) (a:aU) (b:cY):IW (c,a,(),b,())=zc (λd=>En (d,())) c a b:=rfl
def ae8 (e:bv dd) (c:aU) (d:cY) (a:bv (bv dd)) (b:amp):IX (e,c,(a,b,()),d,())=zc (λf=>Em (f,a,b,())) e c d:=rfl
def afD (g:bv dd) (e:aU) (f:cY) (a:bv (bv (bv dd)×bz)) (b c:amp) (d:bv gU):IY (g,e,(a,b,c,d,()),f,())=zc (λh=>Ej (h,a,b,c,d,())) g e f:=rfl
def afE (g:bv dd) (e:aU) (f:cY) (a:bv (bv (bv dd)×bz)) (b c:amp) (d:bv gU):IZ (g,e,(a,b,c,d,()),f,())=zc (λh=>Ek (h,a,b,c,d,())) g e f:=rfl
def sa (b:amu) (a:amu) (c:X->Z):eV:=(c8 (a.map λd=>b.getD d 0),a.map c,())
theorem GK {lf:amr} (w:N.length<=1000) {i:Z->bv (cY×bz)} {v:X->amp} (q:da x) (n:∀b∈f,b<N.length/\da (v b)/\i (b:Z)=Y (aE (v b),())) (A:f.length<=1000):ah (zc i (Y (cL N a lf o)) (c8 f) (aE x)) λj=>((∀b∈f,bo (g6 (v b) x 0)≠2047)/\j=(sa N f λb=>g6 (v b) x 0,f.map (λb=>aE (aV (g6 (v b) x 0))),0,()))\/((∃b∈f,bo (g6 (v b) x 0)=2047)/\j.2.2.1=233):=by
 have h:au (c8 f)=(f.length:Z):=(by rw[a8,jX]);unfold zc;refine bJ (P:=λd=>((∀b∈f,bo (g6 (v b) x 0)≠2047)/\d=.inl (([],([],())),sa N f λb=>g6 (v b) x 0,f.map (λb=>aE (aV (g6 (v b) x 0))),()))\/((∃b∈f,bo (g6 (v b) x 0)=2047)/\∃k,d=.inr (k,[],233,()))) ?_ ?_
 ·refine bS f.length (λc d=>(∀b∈f.take c,bo (g6 (v b) x 0)≠2047)/\d=((c:Z),([],([],())),sa N (f.take c) λb=>g6 (v b) x 0,(f.take c).map (λb=>aE (aV (g6 (v b) x 0))),())) ⟨ac,bq⟩ ?_ ?_
  ·rintro c _ g ⟨e,rfl⟩;dsimp only;rw[h,a5 (aJ (aa:(c:Z)<(f.length:Z))),bk aa];have p:=ca g;obtain⟨u,l,m⟩:=n _ p;have B:(f.take c).length<=1000:=ae;have r:f.take (c+1)=f.take c++[f[c]]:=ag;refine bC (ri g) (bC m (bC (YR l q) (bC (BC (GJ 0)) ?_)));dsimp only;by_cases t:bo (g6 (v f[c]) x 0)=2047
   ·rw[a5 ae];grind [bA]
   rw[a2 ae];refine bC (y:=cL N a lf o) rfl (bC (y:=((N.getD f[c] 0:X):Z)) ?_ ?_)
   ·rw[ie];exact Gi ae
   have ar:(sa N (f.take c) λb=>g6 (v b) x 0).1.length<=1000:=(by show(c8 _).length<=1000;grind [jX,cb]);have s:(sa N (f.take c) λb=>g6 (v b) x 0).2.1.length<=1000:=(by show((f.take c).map _).length<=1000;grind);rw[fe ae,bT,fe ae,bT];refine bC (oz (GJ 0)) ?_;dsimp only;rw[fe ae,bT];refine bA.2 ⟨λb z=>?_,?_⟩
   ·grind
   unfold sa;rw[r,kA,kA,kA,wB];rfl
  rintro _ ⟨e,rfl⟩;dsimp only;rw[amy] at e;rw[h,a2 (aG (aa:¬(f.length:Z)<(f.length:Z))),amy];grind [bA]
 grind [bA]
section
def xf (c:X) (x:bh):Prop:=∀a:X,a=65536->∀b∈x.rows,∀d∈x.rows,bd a 3222 3072 c (x.s b d)
structure jh (R:amu) (full:X) (lf:amr) (E:X->X->gG) (x:bh) (c:X):Prop where
 r:jP R full lf (eX R.length E) x
 ex:xf c x
section
variable {R:amu} {full:X} {lf lf':amr} {E:X->X->gG} {x:bh} {c:X}
theorem jh.e (d:jh R full lf E x c) (f:a<R.length) (g:b<R.length) (h:lf.getD a bu=bt) (i:lf.getD b bu=bt):E a b=aE (x.s (R.getD a 0) (R.getD b 0)):=by obtain⟨l,j,k⟩:=d.r.ent a b f g h i;grind [am0,gu,eX]
theorem jP.rest (b:jP R full lf o x) {p:amu} (h:∀a∈p,a<full) (g:∀a,a<R.length->lf'.getD a bu=(lf.getD a bu&&bw (a∉p))) {i:X} (l:i<=R.length):fw R lf' i=(fw R lf i).filter λd=>bw (d∉p.map λa=>R.getD a 0):=by
 have k:=b.fl;unfold fw;rw[apS,zK];congr 1;refine qx λa c=>?_;have c:=gN.1 c;rw[g a aa,Bool.and_comm];congr 1;show _=bw (R.getD a 0∉p.map λa=>R.getD a 0);refine amD.2 (not_congr ?_);rw[eT];constructor
 ·grind
 rintro⟨j,f,e⟩;have m:=h j f;have:=(b.inj (i:=j) (j:=a) aa aa).1 e;grind
theorem jh.next (b:jh R full lf E x c) {p:amu} (B:∀a∈p,a<full/\lf.getD a bu=bt) (A:p.Nodup) (z:lf'.length=lf.length) (o:∀a,a<R.length->lf'.getD a bu=(lf.getD a bu&&bw (a∉p))) {E':X->X->gG} {c':X} (D:∀d e,d<R.length->e<R.length->lf'.getD d bu=bt->lf'.getD e bu=bt->E' d e=aE ((x.elim (p.map λa=>R.getD a 0)).s (R.getD d 0) (R.getD e 0))) (C:xf c' (x.elim (p.map λa=>R.getD a 0))):jh R full lf' E' (x.elim (p.map λa=>R.getD a 0)) c':=by
 have m:=b.r.fl;have f:∀a∈p,a<full:=λa y=>(B a y).1;refine⟨⟨z.trans b.r.ll,b.r.nd,b.r.sm,m,?_,?_,λd _ e _=>pV _ _,λd e w F J K=>?_⟩,C⟩
 ·rw[b.r.rest f o (bf _),<-b.r.rows];rfl
 ·rw[b.r.rest f o m];show x.full-(p.map _).length=_;have u:(p.map λa=>R.getD a 0).Nodup:=by
   rw[apA,n6];refine rQ ?_ A;intro k l h j i g;have q:=f k h;have t:=f l j;exact i ((b.r.inj aa aa).1 g)
  have v:(fw R lf full).Nodup:=(by unfold fw;rw[apA,n6];refine rQ ?_ ((rU (n:=full)).sublist vc);intro k l h j i g;have q:=gN.1 (hV.1 h).1;have t:=gN.1 (hV.1 j).1;exact i ((b.r.inj aa aa).1 g));have G:=FC v u (λL H=>by
   grind [KD])
  have I:=b.r.full;omega
 refine⟨aA R.length (E' d),gu w,?_⟩;grind [gu]
theorem Oz {b:X->Z}:sa R f (λa=>b (R.getD a 0))=ia (f.map (λa=>R.getD a 0),b):=by simp_all [qD,sa,ia]
theorem yI {lf:amr}:a∈fa lf b↔a<b/\lf.getD a bu=bt:=by grind [fa]
def QA (lf:amr) (a:X):(fa lf a).Nodup:=(rU (n:=a)).sublist vc
end
theorem aiT (b:bo c≠2047):aV c=Y 0↔ov c=0:=by
 constructor
 ·intro a;rw[rk b] at a;have a:=gn a;have e:(2:Z)^(ma c+65536).toNat≠0:=Int.ne_of_gt (l0 ab);have d:lq c=0:=(zI.1 a).resolve_right e;have h:=yo c;have g:0<=gA c:=aa;unfold ov;rw[aw b];have f:bo c=0/\gA c=0:=by
   unfold lq at d;omega
  omega
 intro a;unfold ov at a;rw[aw b] at a;by_cases i:bo c=0/\gA c=0
 ·simp_all [n4,ay,rk,lq]
 omega
end
section
section
variable {R:amu} {full:X} {lf lf':amr} {E:X->X->gG} {x:bh} {c:X}
theorem Yv (c:amu) (b:X->Z):c.map (λa=>aE (aV (b a)))=(c.map λa=>aV (b a)).map aE:=by simp_all
theorem TM {l:amu} {f:X->Z} {d:amp} (b:da d) (g:l.length<=1000):p1 (l.map (λa=>aE (aV (f a))),aE d,())=Y (l.map (λa=>aE (cK (aV (f a)) d)),()):=by
 rw[Yv,agT (λc e=>by
  grind [kL]) b ae,qD]
 rfl
theorem ag9 (i:jh R full lf E x c) (d6:c+4<1048576) {p:X} (eq:p<full) (H:lf.getD p bu=bt) (P:lf'.length=lf.length) (O:∀a,a<R.length->lf'.getD a bu=(lf.getD a bu&&bw (a∉[p]))) (an:x.fin (R.getD p 0)):ah (El (cL R full lf' (eX R.length E),(p:Z),x.cM (R.getD p 0) (R.getD p 0),())) λq=>
  ((x.e7 [R.getD p 0]).fin/\∃E',q=(cL R full lf' (eX R.length E'),(x.e7 [R.getD p 0]).e0.map ia,0,())/\jh R full lf' E' (x.elim [R.getD p 0]) (c+4))\/(¬(x.e7 [R.getD p 0]).fin/\q.2.2.1=233/\q.2.1=[]):=by
 have d9:=i.r.fl;have A:=i.r.sm;have I:p<R.length:=aa;have a0:lf'.length=R.length:=P.trans i.r.ll;generalize C:R.getD p 0=b at*;have G:bo (x.cM b b)≠2047:=(by have:=an (R.getD p 0) (i.r.mem I H);grind);have j:∀a∈fa lf' R.length,a<R.length/\lf.getD a bu=bt/\a≠p:=λa h=>(by obtain⟨L,d4⟩:=yI.1 h;grind);have z:(fa lf' R.length).length<=1000:=eE (KA _ _) aa;have a3:=QA lf' R.length;have bl:(fa lf' R.length).map (λa=>R.getD a 0)=x.rows.filter λd=>bw (d∉[b]):=(by have:=i.r.rest (lf':=lf') (p:=[p]) (λa h=>by grind) O (bf _);rw[<-i.r.rows] at this;grind [F5,ar4]);have U:∀o,(x.e7 [b]).rows=(fa lf' R.length).map (λa=>R.getD a 0)/\(o∈(x.e7 [b]).l↔o=λd=>if ov (x.cM b b)=0 then 0 else g6 (x.s d b) (aV (x.cM b b)) 0):=λo=>⟨bl.symm,by
  show o∈[_]↔_;grind⟩
 generalize D:(λd=>if ov (x.cM b b)=0 then(0:Z) else g6 (x.s d b) (aV (x.cM b b)) 0)=f at U;have M:∀d,f d=if ov (x.cM b b)=0 then(0:Z) else g6 (x.s d b) (aV (x.cM b b)) 0:=λd=>by rw[<-D]
 have a4:(x.e7 [b]).l=[f]:=(by rw[<-D];rfl);have d8:(x.e7 [b]).e0=[((fa lf' R.length).map (λa=>R.getD a 0),f)]:=(by simp_all [aN.e0]);have ap:(x.e7 [b]).fin↔∀a∈fa lf' R.length,bo (f (R.getD a 0))≠2047:=by
  unfold aN.fin;rw[a4,<-(U f).1.symm];constructor
  ·exactλav a h=>av f ac _ (eT.2 ⟨a,h,bq⟩)
  grind
 obtain⟨V,am⟩:=Gm G;have F:da (aV (x.cM b b)):=kL _;unfold El;dsimp only;refine bC (S5 a0 A) ?_;dsimp only;refine bC (oz (x.zi _ _)) ?_;dsimp only;refine bC (nM F) ?_;dsimp only;have bx:(iF (aV (x.cM b b))==0)=bw (ov (x.cM b b)=0):=(by rw[gV,amD,<-aiT G,am];show gE V=0↔_;grind [anV,gE]);rw[bx];have fn:(∀a∈fa lf' R.length,bo (f (R.getD a 0))≠2047)->
  ah ((p1 ((fa lf' R.length).map (λa=>aE (aV (f (R.getD a 0)))),aE (aV (x.cM b b)),())).bind λ(ds,_)=>
   (q0 (cL R full lf' (eX R.length E),c8 (fa lf' R.length),ds,(fa lf' R.length).map (λa=>aE (aV (f (R.getD a 0)))),())).bind λ(dl,_)=>
   Y (dl,[sa R (fa lf' R.length) λa=>f (R.getD a 0)],(0:Z),())) λq=>((x.e7 [b]).fin/\∃E',q=(cL R full lf' (eX R.length E'),(x.e7 [b]).e0.map ia,0,())/\jh R full lf' E' (x.elim [b]) (c+4))\/(¬(x.e7 [b]).fin/\q.2.2.1=233/\q.2.1=[]):=by
  intro t;refine bC (TM F z) ?_;dsimp only;have ce:=T5 (R:=R) (full:=full) (lf:=lf') (E:=E) (l:=fa lf' R.length) (s:=λd g=>x.s (R.getD d 0) (R.getD g 0)) (u:=λa=>cK (aV (f (R.getD a 0))) (aV (x.cM b b))) (v:=λa=>aV (f (R.getD a 0))) A (λa h=>(j a h).1) a3 z
   (λd k g m=>i.e (j d k).1 (j g m).1 (j d k).2.1 (j g m).2.1) (λd k g m=>i.r.okd _ (i.r.mem (j d k).1 (j d k).2.1) _ (i.r.mem (j g m).1 (j g m).2.1)) (λd _=>ox _ _) (λd _=>kL _)
  refine bC ce ?_;refine bA.2 (.inl ⟨ap.2 t,(λd g=>if d∈fa lf' R.length/\g∈fa lf' R.length then aE (cZ (x.s (R.getD d 0) (R.getD g 0)) (dk (cK (cK (aV (f (R.getD d 0))) (aV (x.cM b b))) (aV (f (R.getD g 0)))))) else E d g),?_,?_⟩)
  ·grind [Oz]
  have N:∀d J,Bw (x.kZ [b]) (x.lc [b]) d J=kQ (f d) (x.cM b b) (f J):=λd J=>(by rw[<-D];rfl);have em:=i.next (lf':=lf') (p:=[p]) (λa h=>by grind) ac P O (E':=λd g=>if d∈fa lf' R.length/\g∈fa lf' R.length then aE (cZ (x.s (R.getD d 0) (R.getD g 0)) (dk (cK (cK (aV (f (R.getD d 0))) (aV (x.cM b b))) (aV (f (R.getD g 0)))))) else E d g) (c':=c+4) (λd g k m cv c1=>by
   rw[ay ⟨yI.2 ⟨k,cv⟩,yI.2 ⟨m,c1⟩⟩,zP,C];show _=aE (cZ _ (dk (Bw (x.kZ [b]) (x.lc [b]) _ _)));rw[N];rfl) (by
   rw[zP,C];intro K B d k g m;have ek:=k;have el:=m;change d∈x.rows.filter _ at k;change g∈x.rows.filter _ at m;have Q:∀o,o∈x.rows.filter (λd=>bw (d∉[b]))->o∈x.rows/\bo (f o)≠2047:=λo d5=>ae;obtain⟨i1,ci⟩:=Q d k;obtain⟨co,cs⟩:=Q g m;show bd K 3222 3072 (c+4) (cZ _ (dk (Bw (x.kZ [b]) (x.lc [b]) _ _)));rw[N];exact(bd.sub B (i.ex K B d i1 g co) (bd.kQ B ci G cs) aa).1.mono (bf _) (bf _) aa)
  grind
 by_cases w:ov (x.cM b b)=0
 ·rw[a5 (aJ w)];have ad:∀d,f d=0:=λd=>(by rw[M d,cc w]);have L:pZ (1,())=Y (aE (jD 1),()):=vY ab ab;refine bC L ?_;dsimp only;rw[aeV];have S:∀a:X,g6 (Y 0) (jD 1) 0=0:=λ_=>by
   rw[BB (n:=1) ab bq];unfold g6;grind
  refine bJ (GK (v:=λ_=>Y 0) A (Ki 1) (λa h=>⟨(j a h).1,LH,?_⟩) z) ?_
  ·unfold En;dsimp only;exact aq (vY ab ab) rfl
  rintro q (⟨t,rfl⟩|⟨⟨a,h,t⟩,_⟩)
  ·dsimp only;rw[a2 af];have ar:(λa:X=>g6 (Y 0) (jD 1) 0)=λa=>f (R.getD a 0):=ag;have d3:(fa lf' R.length).map (λa=>aE (aV (g6 (Y 0) (jD 1) 0)))=(fa lf' R.length).map λa=>aE (aV (f (R.getD a 0))):=amU λa _=>(by rw[S a,ad]);grind
  rw[S a] at t;exact absurd t ab
 rw[a2 (aG w)];have d7:∀d,f d=g6 (x.s d b) (aV (x.cM b b)) 0:=λd=>(by rw[M d,aw w]);rw[ae8];refine bJ (GK (v:=λa=>x.s (R.getD a 0) b) A F (λa h=>⟨(j a h).1,?_,?_⟩) z) ?_
 ·have:=i.r.okd _ (i.r.mem (j a h).1 (j a h).2.1) _ (i.r.mem I H);grind
 ·unfold Em;dsimp only;obtain⟨d0,c2,dg⟩:=i.r.ent a p (j a h).1 I (j a h).2.1 H;rw[C] at dg;refine aq (y:=Y (cL R full lf' (eX R.length E))) rfl (aq (y:=cL R full lf' (eX R.length E)) rfl ?_);refine aq (y:=d0) (by rw[ie];exact c2) (aq (y:=(p:Z)) rfl (aq (y:=aE (x.s (R.getD a 0) b)) (by grind [ie]) rfl))
 rintro q (⟨t,rfl⟩|⟨⟨a,h,t⟩,T⟩)
 ·grind
 obtain⟨o,d1,d2,_⟩:=q;dsimp only at T;subst T;dsimp only;rw[a5 af];grind [bA]
end
end
section
theorem OU:vP ([aE (aV j),aE (aV c),aE (aV w)],())=Y (aE (jz [j,c,w]),()):=by unfold vP;dsimp only;refine aq (y:=aE (aV j)) rfl (aq (y:=aE (aV w)) rfl (aq (pd (kL _) (kL _)) (aq (y:=aE (aV c)) rfl (aq (y:=aE (aV c)) rfl (aq (pd (kL _) (kL _)) (aq (Bh (ox _ _) (ox _ _)) ?_))))));rfl
section
variable {R:amu} {full:X} {lf lf':amr} {E:X->X->gG} {x:bh} {c:X}
theorem QY (a:jh R full lf E x c) {lf':amr} {k p q:X} (b:k<R.length) (f:p<R.length) (g:q<R.length) (ax:lf.getD k bu=bt) (h:lf.getD p bu=bt) (i:lf.getD q bu=bt) {d e:amp} (j:da d) (l:da e):AQ ((k:Z),(p:Z),(q:Z),aE d,aE e,Y (Y (cL R full lf' (eX R.length E))),())=Y (aE (cZ (cK (x.s (R.getD k 0) (R.getD p 0)) d) (dk (cK (x.s (R.getD k 0) (R.getD q 0)) e))),()):=by obtain⟨u,m,w⟩:=a.r.ent k p b f ax h;obtain⟨v,n,z⟩:=a.r.ent k q b g ax i;have o:=a.r.okd _ (a.r.mem b ax) _ (a.r.mem f h);have t:=a.r.okd _ (a.r.mem b ax) _ (a.r.mem g i);unfold AQ;dsimp only;refine aq (y:=Y (cL R full lf' (eX R.length E))) rfl (aq (y:=cL R full lf' (eX R.length E)) rfl (aq (y:=u) (by rw[ie];exact m) (aq (y:=aE _) (by grind [ie]) (aq (pd o j) ?_))));refine aq (y:=Y (cL R full lf' (eX R.length E))) rfl (aq (y:=cL R full lf' (eX R.length E)) rfl (aq (y:=v) (by rw[ie];exact n) (aq (y:=aE _) (by grind [ie]) (aq (pd t l) (aq (Bh (ox _ _) (ox _ _)) rfl)))))
theorem XO (A:jh R full lf E x c) (gf:c+4<1048576) {p:X} (mz:p<full) (a0:lf.getD p bu=bt) (ne:a<full) (a3:lf.getD a bu=bt) (nd:p≠a) (d4:lf'.length=lf.length) (d3:∀g,g<R.length->lf'.getD g bu=(lf.getD g bu&&bw (g∉[p,a]))) (d1:x.fin (R.getD p 0)) (gl:x.fin (R.getD a 0)):ah (AP (cL R full lf' (eX R.length E),(p:Z),(a:Z),x.kZ [R.getD p 0,R.getD a 0],())) λJ=>
  ((x.e7 [R.getD p 0,R.getD a 0]).fin/\∃E',J=(cL R full lf' (eX R.length E'),(x.e7 [R.getD p 0,R.getD a 0]).e0.map ia,0,())/\jh R full lf' E' (x.elim [R.getD p 0,R.getD a 0]) (c+4))\/(¬(x.e7 [R.getD p 0,R.getD a 0]).fin/\J.2.2.1=233/\J.2.1=[]):=by
 have mo:=A.r.fl;have V:=A.r.sm;have bl:p<R.length:=aa;have bx:a<R.length:=aa;have hw:lf'.length=R.length:=d4.trans A.r.ll;have B:∀g∈fa lf' R.length,g<R.length/\lf.getD g bu=bt:=λg n=>(by obtain⟨f8,f9⟩:=yI.1 n;grind);have U:(fa lf' R.length).length<=1000:=eE (KA _ _) aa;have id:=QA lf' R.length;have ib:=λ(g:X) (n:g∈fa lf' R.length) (L K:amp) (Q:da L) (S:da K)=>QY A (lf':=lf') (k:=g) (p:=p) (q:=a) (B g n).1 bl bx (B g n).2 a0 a3 Q S;have ic:=λ(g:X) (n:g∈fa lf' R.length) (L K:amp) (Q:da L) (S:da K)=>QY A (lf':=lf') (k:=g) (p:=a) (q:=p) (B g n).1 bx bl (B g n).2 a3 a0 Q S;have ge:=A.r.mem bl a0;have ds:=A.r.mem bx a3;generalize lk:R.getD p 0=j at*;generalize lo:R.getD a 0=i at*;have a4:[p,a].map (λg=>R.getD g 0)=[j,i]:=ae;have f7:bo (x.cM j j)≠2047:=d1 j ge;have dg:bo (x.cM i j)≠2047:=d1 i ds;have f2:bo (x.cM i i)≠2047:=gl i ds;have d7:(fa lf' R.length).map (λg=>R.getD g 0)=x.rows.filter λb=>bw (b∉[j,i]):=by
  have:=A.r.rest (lf':=lf') (p:=[p,a]) (λg n=>by
   grind) d3 (bf _)
  rw[<-A.r.rows,a4] at this;grind [F5]
 generalize ap:(λb=>g6 (cZ (cK (x.s b j) (aV (x.cM i i))) (dk (cK (x.s b i) (aV (x.cM i j))))) (jz (x.kZ [j,i])) 0)=o;generalize av:(λb=>g6 (cZ (cK (x.s b i) (aV (x.cM j j))) (dk (cK (x.s b j) (aV (x.cM i j))))) (jz (x.kZ [j,i])) 0)=t;have d6:(x.e7 [j,i]).l=[o,t]:=(by rw[<-ap,<-av];rfl);have hv:x.lc [j,i]=[o,t]:=d6;have ii:(x.e7 [j,i]).rows=(fa lf' R.length).map (λg=>R.getD g 0):=d7.symm;have lt:(x.e7 [j,i]).e0=[((fa lf' R.length).map (λg=>R.getD g 0),o),((fa lf' R.length).map (λg=>R.getD g 0),t)]:=(by grind [aN.e0]);have hc:(x.e7 [j,i]).fin↔(∀g∈fa lf' R.length,bo (o (R.getD g 0))≠2047)/\∀g∈fa lf' R.length,bo (t (R.getD g 0))≠2047:=by
  unfold aN.fin;rw[d6,ii];constructor
  ·exactλd2=>⟨λg n=>d2 o ac _ (eT.2 ⟨g,n,bq⟩),λg n=>d2 t ac _ (eT.2 ⟨g,n,bq⟩)⟩
  rintro⟨f8,f9⟩ H N b C;obtain⟨g,n,rfl⟩:=eT.1 C;rcases fH.1 N with rfl|N
  ·grind
  grind
 have d0:da (jz (x.kZ [j,i])):=pV _ _;have gi:x.kZ [j,i]=[x.cM j j,x.cM i j,x.cM i i]:=rfl;unfold AP;dsimp only;refine bC (S5 hw V) ?_;dsimp only;refine bC (y:=x.cM j j) rfl (bC (oz (x.zi _ _)) (bC (y:=x.cM i j) rfl (bC (oz (x.zi _ _)) (bC (y:=x.cM i i) rfl (bC (oz (x.zi _ _)) ?_)))));dsimp only;refine bC OU ?_;dsimp only;rw[afD,<-gi];refine bJ (GK (v:=λg=>cZ (cK (x.s (R.getD g 0) j) (aV (x.cM i i))) (dk (cK (x.s (R.getD g 0) i) (aV (x.cM i j))))) V d0 (λg n=>⟨(B g n).1,pV _ _,?_⟩) U) ?_
 ·unfold Ej;dsimp only;refine aq (y:=(Y (Y (cL R full lf' (eX R.length E))),())) rfl (aq (y:=(p:Z)) rfl (aq (y:=(a:Z)) rfl (aq (y:=[aE (aV (x.cM j j)),aE (aV (x.cM i j)),aE (aV (x.cM i i))]) rfl (aq (y:=aE (aV (x.cM i i))) rfl (aq (y:=[aE (aV (x.cM j j)),aE (aV (x.cM i j)),aE (aV (x.cM i i))]) rfl (aq (y:=aE (aV (x.cM i j))) rfl ?_))))));exact aq (ib g n _ _ (kL _) (kL _)) rfl
 rintro J (⟨l2,rfl⟩|⟨⟨g,n,go⟩,P⟩)
 rotate_left
 ·obtain⟨H,f0,f1,_⟩:=J;dsimp only at P;subst P;dsimp only;rw[a5 af];grind [bA]
 dsimp only;rw[a2 af,afE];refine bJ (GK (v:=λg=>cZ (cK (x.s (R.getD g 0) i) (aV (x.cM j j))) (dk (cK (x.s (R.getD g 0) j) (aV (x.cM i j))))) V d0 (λg n=>⟨(B g n).1,pV _ _,?_⟩) U) ?_
 ·unfold Ek;dsimp only;refine aq (y:=(Y (Y (cL R full lf' (eX R.length E))),())) rfl (aq (y:=(a:Z)) rfl (aq (y:=(p:Z)) rfl (aq (y:=[aE (aV (x.cM j j)),aE (aV (x.cM i j)),aE (aV (x.cM i i))]) rfl (aq (y:=aE (aV (x.cM j j))) rfl (aq (y:=[aE (aV (x.cM j j)),aE (aV (x.cM i j)),aE (aV (x.cM i i))]) rfl (aq (y:=aE (aV (x.cM i j))) rfl ?_))))));exact aq (ic g n _ _ (kL _) (kL _)) rfl
 rintro J (⟨mc,rfl⟩|⟨⟨g,n,go⟩,P⟩)
 rotate_left
 ·obtain⟨H,f0,f1,_⟩:=J;dsimp only at P;subst P;dsimp only;rw[a5 af];grind [bA]
 dsimp only;rw[a2 af];have f3:(λg=>g6 (cZ (cK (x.s (R.getD g 0) j) (aV (x.cM i i))) (dk (cK (x.s (R.getD g 0) i) (aV (x.cM i j))))) (jz (x.kZ [j,i])) 0)=λg=>o (R.getD g 0):=(by rw[<-ap]);have f5:(λg=>g6 (cZ (cK (x.s (R.getD g 0) i) (aV (x.cM j j))) (dk (cK (x.s (R.getD g 0) j) (aV (x.cM i j))))) (jz (x.kZ [j,i])) 0)=λg=>t (R.getD g 0):=(by rw[<-av]);have f4:(λg=>aE (aV (g6 (cZ (cK (x.s (R.getD g 0) j) (aV (x.cM i i))) (dk (cK (x.s (R.getD g 0) i) (aV (x.cM i j))))) (jz (x.kZ [j,i])) 0)))=λg=>aE (aV (o (R.getD g 0))):=(by rw[<-ap]);have f6:(λg=>aE (aV (g6 (cZ (cK (x.s (R.getD g 0) i) (aV (x.cM j j))) (dk (cK (x.s (R.getD g 0) j) (aV (x.cM i j))))) (jz (x.kZ [j,i])) 0)))=λg=>aE (aV (t (R.getD g 0))):=(by rw[<-av]);have gs:∀g∈fa lf' R.length,bo (o (R.getD g 0))≠2047:=λg n=>ae;have gt:∀g∈fa lf' R.length,bo (t (R.getD g 0))≠2047:=λg n=>ae;rw[f3,f5,f4,f6];generalize mp:fa lf' R.length=m at*;have am:=λ(E:X->X->gG) (an:X->X->amp) (L K:X->amp) (gc:∀b∈m,∀h∈m,E b h=aE (an b h)) (io:∀b∈m,∀h∈m,da (an b h)) (Q:∀b,da (L b)) (S:∀b,da (K b))=>
  T5 (R:=R) (full:=full) (lf:=lf') (E:=E) (l:=m) (s:=an) (u:=L) (v:=K) V (λg n=>(B g n).1) id U gc io (λb _=>Q b) (λb _=>S b)
 have ci:∀{E:X->X->gG} {s':X->X->amp},∀b∈m,∀h∈m,(if b∈m/\h∈m then aE (s' b h) else E b h)=aE (s' b h):=λb C h F=>ay ⟨C,F⟩;generalize ce:(λb h=>x.s (R.getD b 0) (R.getD h 0))=z;generalize d8:(λg=>cK (aV (o (R.getD g 0))) (aV (x.cM j j)))=w;generalize d9:(λg=>cK (aV (o (R.getD g 0))) (aV (x.cM i j)))=D;generalize ek:(λg=>cK (aV (t (R.getD g 0))) (aV (x.cM i j)))=G;generalize el:(λg=>cK (aV (t (R.getD g 0))) (aV (x.cM i i)))=T;generalize em:(λg=>aV (o (R.getD g 0)))=v1;generalize eq:(λg=>aV (t (R.getD g 0)))=fy;have ft:∀b,da (v1 b):=λb=>(by grind [kL]);have fz:∀b,da (fy b):=λb=>(by grind [kL]);have ix:∀b,da (w b):=λb=>(by grind [ox]);have i0:∀b,da (D b):=λb=>(by grind [ox]);have i2:∀b,da (G b):=λb=>(by grind [ox]);have i3:∀b,da (T b):=λb=>(by grind [ox]);have lb:m.map (λg=>aE (aV (o (R.getD g 0))))=m.map λg=>aE (v1 g):=(by rw[<-em]);have le:m.map (λg=>aE (aV (t (R.getD g 0))))=m.map λg=>aE (fy g):=(by rw[<-eq]);have ad:=λ(fT:X->Z) (c2:Z)=>TM (l:=m) (f:=fT) (d:=aV c2) (kL c2) U;have i8:=am E z w v1 (λb C h F=>by rw[<-ce];exact A.e (B b C).1 (B h F).1 (B b C).2 (B h F).2) (λb C h F=>by rw[<-ce];exact A.r.okd _ (A.r.mem (B b C).1 (B b C).2) _ (A.r.mem (B h F).1 (B h F).2)) ix ft;have jp:=am _ (λb h=>cZ (z b h) (dk (cK (w b) (v1 h)))) D fy (ci (E:=E) (s':=λb h=>cZ (z b h) (dk (cK (w b) (v1 h))))) (λb _ h _=>pV _ _) i0 fz;have kd:=am _ (λb h=>cZ (cZ (z b h) (dk (cK (w b) (v1 h)))) (dk (cK (D b) (fy h)))) G v1 (ci (E:=λb h=>if b∈m/\h∈m then aE (cZ (z b h) (dk (cK (w b) (v1 h)))) else E b h) (s':=λb h=>cZ (cZ (z b h) (dk (cK (w b) (v1 h)))) (dk (cK (D b) (fy h))))) (λb _ h _=>pV _ _) i2 ft;have kg:=am _ (λb h=>cZ (cZ (cZ (z b h) (dk (cK (w b) (v1 h)))) (dk (cK (D b) (fy h)))) (dk (cK (G b) (v1 h)))) T fy (ci (E:=λb h=>if b∈m/\h∈m then aE (cZ (cZ (z b h) (dk (cK (w b) (v1 h)))) (dk (cK (D b) (fy h)))) else if b∈m/\h∈m then aE (cZ (z b h) (dk (cK (w b) (v1 h)))) else E b h) (s':=λb h=>cZ (cZ (cZ (z b h) (dk (cK (w b) (v1 h)))) (dk (cK (D b) (fy h)))) (dk (cK (G b) (v1 h))))) (λb _ h _=>pV _ _) i3 fz;have co:=ad (λg=>o (R.getD g 0)) (x.cM j j);have cs:=ad (λg=>o (R.getD g 0)) (x.cM i j);have cv:=ad (λg=>t (R.getD g 0)) (x.cM i j);have c1:=ad (λg=>t (R.getD g 0)) (x.cM i i);rw[show m.map (λg=>aE (cK (aV (o (R.getD g 0))) (aV (x.cM j j))))=m.map λg=>aE (w g) by rw[<-d8]] at co;rw[show m.map (λg=>aE (cK (aV (o (R.getD g 0))) (aV (x.cM i j))))=m.map λg=>aE (D g) by rw[<-d9]] at cs;rw[show m.map (λg=>aE (cK (aV (t (R.getD g 0))) (aV (x.cM i j))))=m.map λg=>aE (G g) by rw[<-ek]] at cv;rw[show m.map (λg=>aE (cK (aV (t (R.getD g 0))) (aV (x.cM i i))))=m.map λg=>aE (T g) by rw[<-el]] at c1;rw[lb] at co cs|-;rw[le] at cv c1|-;refine bC (y:=aE (aV (x.cM j j))) rfl (bC co (bC i8 ?_));refine bC (y:=aE (aV (x.cM i j))) rfl (bC cs (bC jp ?_));refine bC (y:=aE (aV (x.cM i j))) rfl (bC cv (bC kd ?_));refine bC (y:=aE (aV (x.cM i i))) rfl (bC c1 (bC kg ?_));refine bA.2 (.inl ⟨hc.2 ⟨gs,gt⟩,(λb h=>if b∈m/\h∈m then aE (cZ (cZ (cZ (cZ (z b h) (dk (cK (w b) (v1 h)))) (dk (cK (D b) (fy h)))) (dk (cK (G b) (v1 h)))) (dk (cK (T b) (fy h)))) else(λb h=>if b∈m/\h∈m then aE (cZ (cZ (cZ (z b h) (dk (cK (w b) (v1 h)))) (dk (cK (D b) (fy h)))) (dk (cK (G b) (v1 h)))) else(λb h=>if b∈m/\h∈m then aE (cZ (cZ (z b h) (dk (cK (w b) (v1 h)))) (dk (cK (D b) (fy h)))) else if b∈m/\h∈m then aE (cZ (z b h) (dk (cK (w b) (v1 h)))) else E b h) b h) b h),?_,?_⟩)
 ·grind [Oz]
 have hi:∀b O,Bw (x.kZ [j,i]) (x.lc [j,i]) b O=cZ (cZ (cZ (kQ (o b) (x.cM j j) (o O)) (kQ (o b) (x.cM i j) (t O))) (kQ (t b) (x.cM i j) (o O))) (kQ (t b) (x.cM i i) (t O)):=λb O=>(by rw[hv];rfl);have dl:∀M:X,M=65536->∀b∈x.rows.filter (λb=>bw (b∉[j,i])),∀h∈x.rows.filter (λb=>bw (b∉[j,i])),
  cZ (cZ (cZ (cZ (x.s b h) (dk (kQ (o b) (x.cM j j) (o h)))) (dk (kQ (o b) (x.cM i j) (t h)))) (dk (kQ (t b) (x.cM i j) (o h)))) (dk (kQ (t b) (x.cM i i) (t h)))=(x.elim [j,i]).s b h/\bd M 3222 3072 (c+4) ((x.elim [j,i]).s b h):=by
  intro M I b C h F;have d5:∀H,H∈x.rows.filter (λb=>bw (b∉[j,i]))->H∈x.rows/\bo (o H)≠2047/\bo (t H)≠2047:=λH N=>(by refine⟨(hV.1 N).1,?_⟩;rw[<-d7] at N;obtain⟨g,n,rfl⟩:=eT.1 N;grind);obtain⟨i1,fn,fp⟩:=d5 b C;obtain⟨is,fr,fs⟩:=d5 h F;have:=bd.ahy I (A.ex M I b i1 h is) (bd.kQ I fn f7 fr) (bd.kQ I fn dg fs) (bd.kQ I fp dg fr) (bd.kQ I fp f2 fs) gf;rw[<-hi] at this;exact this
 have mt:=A.next (lf':=lf') (p:=[p,a]) (λg n=>by
  rcases fH.1 n with rfl|n
  ·grind
  grind) ae d4 d3 (E':=λb h=>if b∈m/\h∈m then aE (cZ (cZ (cZ (cZ (z b h) (dk (cK (w b) (v1 h)))) (dk (cK (D b) (fy h)))) (dk (cK (G b) (v1 h)))) (dk (cK (T b) (fy h)))) else(λb h=>if b∈m/\h∈m then aE (cZ (cZ (cZ (z b h) (dk (cK (w b) (v1 h)))) (dk (cK (D b) (fy h)))) (dk (cK (G b) (v1 h)))) else(λb h=>if b∈m/\h∈m then aE (cZ (cZ (z b h) (dk (cK (w b) (v1 h)))) (dk (cK (D b) (fy h)))) else if b∈m/\h∈m then aE (cZ (z b h) (dk (cK (w b) (v1 h)))) else E b h) b h) b h) (c':=c+4) (λb h C F nn no=>by
   have hr:b∈m:=(by grind [yI]);have hs:h∈m:=(by grind [yI]);rw[a4];dsimp only;rw[cc ⟨hr,hs⟩,<-(dl 65536 bq (R.getD b 0) ae (R.getD h 0) ae).1,<-ce,<-d8,<-d9,<-ek,<-el,<-em,<-eq];rfl) (by
   rw[a4];intro M I b C h F;exact(dl M I b C h F).2)
 grind
end
end
section
theorem Ol {x:bh}:∀{d b:amu},x.jx d=Y b->∀c∈b,x.fin c
 |[],b,a,c,f=>by grind [bh.jx]
 |q::d,b,a,c,f=>by
  rw[bh.jx] at a;split at a
  ·cases a
  rename_i e;have e:=arV.1 e;split at a
  ·grind
  split at a
  ·grind
  rename_i h g;split at a
  ·exact Ol a c f
  grind
abbrev xq:=bv (Z×((bp aU×bz)×(bp (bv (bp (Z×cY)×X))×bz)))
abbrev HV:=xq×(aU×(aU×(aU×(bp eV×eN))))
def l9 (b:xq) (a:bp aN) (del:X):HV:=(b,(c8 (a.flatMap aN.a7),(a.map (λc=>(c.a7.length:Z)),(a.flatMap aN.d,((a.flatMap aN.e0).map ia,((del:Z),()))))))
def HU (a:bp aN):Prop:=(a.flatMap aN.a7).length<=1000/\a.length<=1000/\(a.flatMap aN.d).length<=10000/\(a.flatMap aN.e0).length<=10000
def iQ (lf:amr) (c:amu):amr:=c.foldl (λb a=>b.set a bu) lf
theorem abx (lf:amr) (b:amu) (a:X):iQ lf (b++[a])=(iQ lf b).set a bu:=by grind [iQ]
theorem Lj (a:amu):∀lf:amr,(iQ lf a).length=lf.length:=by
 induction a with
 |nil=>intro lf;rfl
 |cons c a b=>
  grind [List.length_set,iQ,lf]
theorem abw (b:amu):∀(lf:amr) {a:X},a<lf.length->(iQ lf b).getD a bu=(lf.getD a bu&&bw (a∉b)):=by
 induction b with
 |nil=>grind [iQ,lf]
 |cons c b e=>
  intro lf a d;show(iQ (lf.set c bu) b).getD a bu=_;grind
section
variable {R:amu} {full:X} {lf:amr} {E:X->X->gG} {x:bh} {c:X}
def mK (x:bh) (a:amu) (c:X):amv:=(bK c).flatMap λb=>(bK (b+1)).map λd=>x.cM (a.getD b 0) (a.getD d 0)
def jh.value (d:jh R full lf E x c) (e:a<R.length) (f:b<R.length) (h:lf.getD a bu=bt) (i:lf.getD b bu=bt) (g:amr):tO (Y (cL R full g (eX R.length E)),(a:Z),(b:Z),())=Y (x.cM (R.getD a 0) (R.getD b 0),()):=by obtain⟨l,j,k⟩:=d.r.ent a b e f h i;unfold tO;dsimp only;refine aq (y:=cL R full g (eX R.length E)) rfl (aq (y:=l) (by rw[ie];exact j) (aq (y:=aE _) (by rw[ie];exact k) ?_));exact aq (OZ (d.r.okd _ (d.r.mem e h) _ (d.r.mem f i))) rfl
theorem X0 (u:jh R full lf E x c) (M:c+4<1048576) (p:∀b∈f,b<full/\lf.getD b bu=bt) (dl:0<f.length) (N:x.choose=Y (f.map λb=>R.getD b 0)) (n:xq) {g:bp aN} (am:HU g) (del:X):ah (Ep (l9 n g del,cL R full lf (eX R.length E),c8 f,())) λh=>
  ((x.e7 (f.map λb=>R.getD b 0)).fin/\∃B j,h=(l9 n (g++[x.e7 (f.map λb=>R.getD b 0)]) del,cL R full B (eX R.length j),0,())/\jh R full B j (x.elim (f.map λb=>R.getD b 0)) (c+4))\/(¬(x.e7 (f.map λb=>R.getD b 0)).fin/\h.2.2.1=233):=by
 have d2:=u.r.fl;have a0:=u.r.ll;have F:=Ol N;have O:=Dy N;have S:∀b∈f,b<R.length:=λb o=>ae;have d6:f.length<=2:=by rcases O with k|⟨e,k,_⟩|⟨e,s,k,_⟩<;>have:=b9 cE k<;>simp only[eL,iK,qC] at this<;>omega
 have G:au (c8 f)=(f.length:Z):=(by rw[a8,jX]);have d9:=u.r.sm;obtain⟨cs,cv,c1,c2⟩:=am;have d3:∀e,e<f.length->(f.map λb=>R.getD b 0).getD e 0=R.getD (f.getD e 0) 0:=λe q=>ae;have d7:∀e,(q:e<f.length)->f.getD e 0=f[e]:=λe q=>ae;generalize v:(f.map λb=>R.getD b 0)=a at*;have w:a.length=f.length:=ae;unfold Ep l9;dsimp only;refine bJ (P:=λi=>i=((n,(c8 (g.flatMap aN.a7++a),(g.map (λi=>(i.a7.length:Z)),(g.flatMap aN.d,((g.flatMap aN.e0).map ia,((del:Z),())))))),cL R full (iQ lf f) (eX R.length E),mK x a f.length,())) ?_ ?_
 ·refine bS f.length (λe i=>i=((e:Z),(n,(c8 (g.flatMap aN.a7++a.take e),(g.map (λi=>(i.a7.length:Z)),(g.flatMap aN.d,((g.flatMap aN.e0).map ia,((del:Z),())))))),cL R full (iQ lf (f.take e)) (eX R.length E),mK x a e,())) ?_ ?_ ?_
  ·rw[aoP,aoP,pG];rfl
  rotate_left
  ·rintro _ rfl;dsimp only;rw[G,a2 (aG (aa:¬(f.length:Z)<(f.length:Z))),amy,<-w,amy];grind [bA]
  rintro e _ q rfl;dsimp only;rw[G,a5 (aJ (aa:(e:Z)<(f.length:Z))),bk aa];have T:=ca q;have Q:=S _ T;have av:=(p _ T).2;refine bJ (P:=λi=>i=((n,(c8 (g.flatMap aN.a7++a.take e),(g.map (λi=>(i.a7.length:Z)),(g.flatMap aN.d,((g.flatMap aN.e0).map ia,((del:Z),())))))),cL R full (iQ lf (f.take e)) (eX R.length E),mK x a (e+1),())) ?_ ?_
  ·refine bS (e+1) (λs i=>i=((s:Z),(n,(c8 (g.flatMap aN.a7++a.take e),(g.map (λi=>(i.a7.length:Z)),(g.flatMap aN.d,((g.flatMap aN.e0).map ia,((del:Z),())))))),cL R full (iQ lf (f.take e)) (eX R.length E),mK x a e++(bK s).map (λm=>x.cM (a.getD e 0) (a.getD m 0)),())) ?_ ?_ ?_
   ·grind
   ·rintro s _ d1 rfl;dsimp only;rw[a5 (aJ (aa:(s:Z)<((e+1:X):Z))),bk aa];have L:s<f.length:=aa;have U:=ca L;refine bC (ri q) (bC (ri L) (bC (u.value Q (S _ U) av (p _ U).2 _) ?_));dsimp only;have an:(mK x a e).length<=100:=by
     have:e=0\/e=1:=aa;rcases this with rfl|rfl
     ·exact(by decide:(0:X)<=100)
     exact(by decide:(1:X)<=100)
    rw[fe ae,aM];grind [am7,aoo,ar4,bA]
   rintro _ rfl;dsimp only;rw[a2 (aG (aa:¬((e+1:X):Z)<((e+1:X):Z)))];grind [am7,bA,mK,bK]
  rintro _ rfl;dsimp only;refine bC (ri q) ?_;have a4:(cL R full (iQ lf (f.take e)) (eX R.length E)).2.2.1=iQ lf (f.take e):=rfl;have d5:(iQ lf (f.take e)).length=R.length:=(Lj _ _).trans a0;rw[a4];refine bC (e4 aa) ?_;rw[gP (bZ (aa:f[e]<(iQ lf (f.take e)).length))];refine bC bq (bC (ri q) ?_);dsimp only;have bl:(cL R full (iQ lf (f.take e)) (eX R.length E)).1=c8 R:=rfl;rw[bl,zf Q,fe (by grind [aoW,jX,amX,am5]),bT];refine bA.2 ?_;have ar:f.take (e+1)=f.take e++[f[e]]:=ag;have ad:a.take (e+1)=a.take e++[R[f[e]]]:=(by grind [amG,bZ]);rw[ar,ad,abx,<-aoo,wB (g.flatMap aN.a7++a.take e)];rfl
 rintro _ rfl;dsimp only;have an:(mK x a f.length).length<=100:=by
  have:f.length=1\/f.length=2:=aa;rcases this with k|k<;>rw[k]
  ·exact(by decide:(1:X)<=100)
  exact(by decide:(3:X)<=100)
 rw[G,fe ae,aM,fe aa,aM];have A:∀b,b<R.length->(iQ lf f).getD b bu=(lf.getD b bu&&bw (b∉f)):=λb o=>abw f lf aa;have t:∀(h:dd×bp eV×Z×bz),((x.e7 a).fin/\∃j,h=(cL R full (iQ lf f) (eX R.length j),(x.e7 a).e0.map ia,0,())/\jh R full (iQ lf f) j (x.elim a) (c+4))\/(¬(x.e7 a).fin/\h.2.2.1=233/\h.2.1=[])->mK x a f.length=x.kZ a->
  (h.2.1.length<=1000)->
  ah ((c3 (((g.flatMap aN.e0).map ia).length+h.2.1.length)).bind λ_=>Y (((n,(c8 (g.flatMap aN.a7++a),((g.map (λi=>(i.a7.length:Z))++[(f.length:Z)]),(g.flatMap aN.d++mK x a f.length,((g.flatMap aN.e0).map ia++h.2.1,((del:Z),())))))):HV),h.1,h.2.2.1,())) λh=>
  ((x.e7 a).fin/\∃B j,h=(l9 n (g++[x.e7 a]) del,cL R full B (eX R.length j),0,())/\jh R full B j (x.elim a) (c+4))\/(¬(x.e7 a).fin/\h.2.2.1=233):=by
  rintro h l z d8;rw[fe ae,aM];refine bA.2 ?_;rcases l with⟨J,j,rfl,K⟩|⟨J,K⟩
  ·refine .inl ⟨J,iQ lf f,j,?_,K⟩;unfold l9;rw[z,n5,n5,n5,kA,kA];simp only[oS,ar5,pG,hA,tg];show _=((n,(c8 (g.flatMap aN.a7++a),((g.map (λi=>(i.a7.length:Z))++[(a.length:Z)]),(g.flatMap aN.d++x.kZ a,((g.flatMap aN.e0).map ia++(x.e7 a).e0.map ia,((del:Z),())))))),_,_,());rw[w]
  grind
 rcases O with k|⟨V,k,_⟩|⟨V,co,k,ds,d0,d4⟩
 ·grind
 ·rw[k] at w
  match f,w,p,v,A,t with
  |[b],_,p,v,A,t=>
   obtain⟨H,I⟩:=p b ac;have o:a=[R.getD b 0]:=v.symm;rw[a5 af];have C:=ag9 u M H I (lf':=iQ lf [b]) (Lj _ _) A (F _ ae);rw[<-o] at C;have z:mK x a 1=[x.cM (R.getD b 0) (R.getD b 0)]:=(by rw[o];rfl);refine bJ (P:=λi=>∃h:dd×bp eV×Z×bz,(((x.e7 a).fin/\∃j,h=(cL R full (iQ lf [b]) (eX R.length j),(x.e7 a).e0.map ia,0,())/\jh R full (iQ lf [b]) j (x.elim a) (c+4))\/(¬(x.e7 a).fin/\h.2.2.1=233/\h.2.1=[]))/\i=(h.2.2.1,h.2.1,(n,(c8 (g.flatMap aN.a7++a),((g.map (λi=>(i.a7.length:Z))++[((1:X):Z)]),(g.flatMap aN.d++mK x a 1,((g.flatMap aN.e0).map ia,((del:Z),())))))),h.1,())) ?_ ?_
   ·refine bC (y:=(b:Z)) rfl ?_;have a3:∀{ci:Type} (D:Z->bv ci),rd (mK x a 1) 0 D=D (x.cM (R.getD b 0) (R.getD b 0)):=λD=>(by rw[z];rfl);show ah (rd (mK x a 1) 0 _) _;rw[a3];refine bJ C ?_;rintro h l;exact bA.2 ⟨h,l,bq⟩
   rintro _ ⟨h,l,rfl⟩;dsimp only;refine t h l (by rw[o];rfl) ?_;rcases l with⟨_,j,rfl,_⟩|⟨_,_,k⟩
   ·show((x.e7 a).e0.map ia).length<=1000;rw[o,eL];show 1<=1000;decide
   grind
 rw[k] at w
 match f,w,p,v,A,t with
 |[b,m],_,p,v,A,t=>
  obtain⟨H,I⟩:=p b ac;obtain⟨bx,ce⟩:=p m ac;have o:a=[R.getD b 0,R.getD m 0]:=v.symm;have ap:b≠m:=λdg=>ae;rw[a2 af];have C:=XO u M H I bx ce ap (lf':=iQ lf [b,m]) (Lj _ _) A (F _ ae) (F _ ae);rw[<-o] at C;have z:mK x a 2=x.kZ a:=(by rw[o];rfl);refine bJ (P:=λi=>∃h:dd×bp eV×Z×bz,(((x.e7 a).fin/\∃j,h=(cL R full (iQ lf [b,m]) (eX R.length j),(x.e7 a).e0.map ia,0,())/\jh R full (iQ lf [b,m]) j (x.elim a) (c+4))\/(¬(x.e7 a).fin/\h.2.2.1=233/\h.2.1=[]))/\i=(h.2.2.1,h.2.1,(n,(c8 (g.flatMap aN.a7++a),((g.map (λi=>(i.a7.length:Z))++[((2:X):Z)]),(g.flatMap aN.d++mK x a 2,((g.flatMap aN.e0).map ia,((del:Z),())))))),h.1,())) ?_ ?_
  ·refine bC (y:=(b:Z)) rfl (bC (y:=(m:Z)) rfl ?_);show ah ((AP (cL R full (iQ lf [b,m]) (eX R.length E),(b:Z),(m:Z),mK x a 2,())).bind _) _;rw[z];refine bJ C ?_;rintro h l;exact bA.2 ⟨h,l,ae⟩
  rintro _ ⟨h,l,rfl⟩;dsimp only;refine t h l z ?_;rcases l with⟨_,j,rfl,_⟩|⟨_,_,k⟩
  ·show((x.e7 a).e0.map ia).length<=1000;rw[o,eL];show 2<=1000;decide
  grind
end
end
section
section
variable {R:amu} {full:X}
structure Vx (R:amu) (full:X) (CO:bh) (n vA:X) (m:xq) (ps0:bp aN) (del:X) (lf:amr) (E:X->X->gG) (y:bh) (ps:bp aN) (k:X):Prop where
 x:jh R full lf E y (vA+4*ps.length)
 w:mu y
 lt:y.full<k
 pl:ps.length+y.full<=CO.full
 run:bh.run n CO=(bh.run k y).map λq=>(q.1,ps++q.2)
 b:(ps.flatMap aN.a7).length+y.full=CO.full/\(ps.flatMap aN.d).length<=3*ps.length/\(ps.flatMap aN.e0).length=(ps.flatMap aN.a7).length
theorem aeR {m:bh} {lf:amr} {E:X->X->gG} (D:jh R full lf E m i) (bs:mu m) (dg:i+4*m.full+4<1048576) (a3:m.full<a) (q:xq) {ps0:bp aN} (d1:m.full<=100) (c2:(ps0.flatMap aN.a7).length<=500/\ps0.length<=500/\(ps0.flatMap aN.d).length<=5000/\(ps0.flatMap aN.e0).length<=5000) {del:X} (d0:del<=1000000):ah (Es (l9 q ps0 del,cL R full lf (eX R.length E),())) λo=>
  (∃c h e f s,bh.run a m=Y (c,h)/\o=(l9 q (ps0++h) (del+c.full),cL R full e (eX R.length f),0,())/\jh R full e f c s/\s<=i+4*m.full)\/(bh.run a m=br/\o.2.2.1=233):=by
 have d2:=D.r.fl;have d9:=D.r.sm;unfold Es;dsimp only;refine bJ (P:=λj=>(∃c h e f s,bh.run a m=Y (c,h)/\j=.inl (l9 q (ps0++h) del,cL R full e (eX R.length f),())/\jh R full e f c s/\s<=i+4*m.full/\c.full<=m.full)\/(bh.run a m=br/\∃o:HV×dd×Z×bz,j=.inr o/\o.2.2.1=233)) ?_ ?_
 ·refine am3 (λj=>∃e f c h k,j=(l9 q (ps0++h) del,cL R full e (eX R.length f),())/\Vx R full m a i q ps0 del e f c h k) (λj=>(j.2.1.2.2.1.filter λp=>p).length) ⟨lf,E,m,[],a,by rw[List.append_nil],D,bs,a3,ac,ac,ac⟩ ?_;rintro _ ⟨e,f,c,h,k,rfl,l⟩;dsimp only;have d6:=l.lt;have d7:=l.pl;obtain⟨k,rfl⟩:∃co,k=co+1:=⟨k-1,aa⟩;refine bJ l.x.r.choose ?_;rintro o (⟨L,M⟩|⟨g,rfl,Q,t⟩)
  ·obtain⟨V,p,_⟩:=o;dsimp only at L;subst L;dsimp only;rw[a5 af];refine bA.2 (.inr ⟨?_,_,bq,bq⟩);rw[l.run,G2 M];rfl
  dsimp only;rw[a2 af,a8,jX];by_cases C:g=[]
  ·subst C;rw[a5 af];refine bA.2 (.inl ⟨c,h,e,f,_,?_,bq,l.x,aa,aa⟩);rw[l.run,G1 t];simp
  have T:0<g.length:=C2.2 C;rw[a2 (by rw[gV,aG aa])];obtain⟨i1,ek,el⟩:=l.b;have an:HU (ps0++h):=(by grind [amX,HU]);have u:=Dy t;have ci:0<c.full:=(by have a0:=Q _ (cT T);have:=l.x.r.QU (k:=g[0]) aa a0.2;grind);refine bJ (X0 l.x aa Q T t q an del) ?_;rintro o (⟨y,A,M2,rfl,v⟩|⟨y,z⟩)
  ·dsimp only;rw[a2 af];have N:∀(lf:amr) (c:bh) (K:X) (E:X->X->gG),jh R full lf E c K->(lf.filter λp=>p).length=c.rows.length:=λlf c K E U=>by
    rw[U.r.rows,F5,eL];unfold fa;rw[<-U.r.ll];have:lf=(bK lf.length).map λk=>lf.getD k bu:=by refine iJ λk=>?_;grind
    conv=>lhs;rw[this]
    rw[apS,eL];rfl
   have ad:(g.map λk=>R.getD k 0).length=g.length:=eL _;have d5:g.length<=c.full:=(by obtain⟨G,I⟩:=u.props;have:=G.length_le_of_subset I;grind);have d8:(c.elim (g.map λk=>R.getD k 0)).rows.length<c.rows.length:=(by obtain⟨G,I⟩:=u.props;have:=FC l.w.nd G λj a4=>ve (I j a4);show(c.rows.filter _).length<_;omega);refine bA.2 ⟨⟨A,M2,c.elim (g.map λk=>R.getD k 0),h++[c.e7 (g.map λk=>R.getD k 0)],k,by rw[lC],?_,l.w.elim u,?_,?_,?_,?_⟩,?_⟩
   ·grind
   ·show c.full-(g.map λk=>R.getD k 0).length<k;omega
   ·show(h++[_]).length+(c.full-(g.map λk=>R.getD k 0).length)<=_;grind
   ·rw[l.run,Cn t aa,ay y];cases bh.run k (c.elim (g.map λk=>R.getD k 0)) with
    |none=>rfl
    |some j=>simp
   ·have H:=l.w.SM u aa y (S:=c.rows) λn O=>O;have F:(c.e7 (g.map λk=>R.getD k 0)).a7.length=g.length:=ad;have ap:(c.e7 (g.map λk=>R.getD k 0)).e0.length=g.length:=by
     unfold aN.e0;rw[eL,H.len,F]
    have av:=H.dl;have am:=H.at1;simp only[n5,oS,ar5,pG,hM,oV];rw[F,ap];rw[F] at av am;refine⟨?_,?_,aa⟩
    ·show _+(c.full-(g.map λk=>R.getD k 0).length)=_;omega
    omega
   show(aoI _ (cL R full A _).2.2.1).length<(aoI _ (cL R full e _).2.2.1).length;have ar:=N A _ _ _ v;have c1:=N e _ _ _ l.x;show(A.filter λp=>p).length<(e.filter λp=>p).length;omega
  obtain⟨V,p,cv,_⟩:=o;dsimp only at z;subst z;dsimp only;rw[a5 af];refine bA.2 (.inr ⟨?_,_,bq,bq⟩);rw[l.run,Cn t ae,b6 y];rfl
 rintro j (⟨c,h,e,f,s,z,rfl,v,ds,ci⟩|⟨z,o,rfl,M⟩)
 rotate_left
 ·grind [bA]
 dsimp only;have bx:=v.r.full;refine bJ (P:=λj=>j=(l9 q (ps0++h) (del+c.full),cL R full e (eX R.length f),())) ?_ (by grind [bA]);rw[bx];refine bS full (λn j=>j=((n:Z),l9 q (ps0++h) (del+(fw R e n).length),cL R full e (eX R.length f),())) rfl ?_ ?_
 ·rintro n _ O rfl;dsimp only;have J:(cL R full e (eX R.length f)).2.1=(full:Z):=rfl;have ce:(cL R full e (eX R.length f)).2.2.1=e:=rfl;have d4:=v.r.ll;rw[J,a5 (aJ (aa:(n:Z)<(full:Z))),bk aa,ce];have bl:∀{cs:Type} (B:bD->bv cs),rd e (n:Z) B=B (e.getD n bu):=λB=>by
   grind [e4,gP,bZ,rd]
  rw[bl];have d3:=KC R e n;refine bJ (P:=λj=>j=(l9 q (ps0++h) (del+(fw R e (n+1)).length),cL R full e (eX R.length f),())) ?_ (by grind [bA]);rw[yJ];cases C:e.getD n bu with
  |true=>
   rw[bI,cc bq,amX,aoW];refine bA.2 ?_;unfold l9;dsimp only;rw[bk aa];rfl
  |false=>
   rw[bQ,aw ab];grind [bA]
 rintro _ rfl;dsimp only;have J:(cL R full e (eX R.length f)).2.1=(full:Z):=rfl;rw[J,a2 (aG (aa:¬(full:Z)<(full:Z)))];grind [bA]
end
end
def uE:fA:=([],([],([],([],([],([],(0,())))))))
def pc (a:bp bh):X:=(a.map bh.full).sum
def ue (c:X->X->amp) (d:amv) (a:bp eS):fA×Z×bz:=match kt c a a.length with
 |none=>(uE,233,())
 |some b=>(wd d b.2 (pc b.1:Z),0,())
def Pv {a:X->X->amp} {b:bp eS} {c:X} (e:kt a b c=br):∀d,kt a b (c+d)=br
 |0=>e
 |d+1=>by show(kt a b (c+d)).bind _=br;rw[Pv e d];rfl
theorem OT (a:bp bh) (b:bh):pc (a++[b])=pc a+b.full:=by grind [pc]
theorem Xz {n:X} {L:bp bh} (c:∀b,b<L.length->(L.getD b im).full<=n):pc L<=n*L.length:=by
 unfold pc;have:∀a∈L,a.full<=n:=λa d=>(by grind [bZ,ani]);clear c
 induction L with
 |nil=>grind
 |cons a L e=>
  grind [aqn,Nat.mul_succ]
section
def lH (n:X):X->X
 |0=>0
 |t+1=>lH n t+(1+lH n t+4*n)
theorem O0 (n:X):∀t,lH n t+(4*n+1)=(4*n+1)*2^t
 |0=>by simp[lH]
 |t+1=>by have:=O0 n t;grind [Nat.pow_succ,Nat.mul_assoc,lH]
def O1 {n t:X} (e:n<=12) (b:t<=12):lH n t<=200704:=by have c:=O0 n t;have a:2^t<=2^12:=vj ab b;have d:=n8 (aa:4*n+1<=49) a;omega
section
variable {l:bp eS} {n t:X} {L:X->bh} {A:X->X->amp}
theorem Pp {L:X->bh} {D:X->X}:∀{cs:amu} {x:bh} {k:X},(∀c∈cs,xf (D c) (L c))->k+(cs.map D).sum<1048576->(∀a:X,a=65536->∀b d,bd a 3222 3072 k (x.s b d))->∀a:X,a=65536->∀b d,bd a 3222 3072 (k+(cs.map D).sum) ((cs.foldl (λx c=>x.plus (L c)) x).s b d)
 |[],x,k,_,_,f=>by grind
 |c::cs,x,k,g,j,f=>by
  rw[hA,aqO] at j|-;rw[apC,<-rW];refine Pp (k:=k+D c) (λi l=>g i ae) aa λa e b d=>?_;show bd a 3222 3072 _ (if _ then _ else _);split
  ·rename_i h;exact(bd.add e ab (f a e b d) (g c ac a e b h.1 d h.2) aa).1
  exact(f a e b d).mono (bf _) (bf _) aa
theorem T7 (b:X->X) (c:X->bD):∀l:amu,((l.filter c).map b).sum<=(l.map b).sum
 |[]=>bf _
 |a::l=>by have:=T7 b c l;grind
def T6 (n:X):∀t,((bK t).map λa=>1+lH n a+4*n).sum=lH n t
 |0=>rfl
 |t+1=>by rw[kj,kA,ar6,T6 n t,lH];simp
theorem Ys (j:∀b:X,b=65536->∀c d,bd b 3222 3072 1 (A c d)) (h:n<=12) (i:t<=12) (f:∀a,a<t->xf (1+lH n a+4*n) (L a)):xf (1+lH n t) (jw A l L t):=by
 intro b e c _ d _;have o:((fj l t t).map λa=>1+lH n a+4*n).sum<=lH n t:=(by have:=T7 (λa=>1+lH n a+4*n) (λa=>bw (gR l a=(t:Z))) (bK t);rwa[T6] at this);have m:=O1 h i;have:=Pp (L:=L) (D:=λa=>1+lH n a+4*n) (cs:=fj l t t) (x:=na A l L t) (k:=1) (λa g=>f a (Gc.1 g).1) aa (λb e c d=>by
  show bd b 3222 3072 1 (if _ then _ else _);split
  ·grind
  exact bd.zero) b e c d
 exact this.mono (bf _) (bf _) aa
theorem YS (g:l.length<=1000) (f:∀d∈l,d.2.2.1.length<=64):EF (l,(),())=Y (bu,()):=by
 have c:EI (l,(),())=Y (-1,()):=by
  unfold EI;refine bR.1 ?_;dsimp only;refine bJ (P:=λb=>b=.inl ()) ?_ (by grind [bA]);refine bS l.length (λa b=>b=((a:Z),())) rfl ?_ ?_
  ·rintro a _ c rfl;dsimp only;rw[a8,a5 (aJ (aa:(a:Z)<(l.length:Z))),bk aa];refine bC (y:=l[a]) (by rw[ie,bZ c]) ?_;have e:Ec (l[a],())=Y (bu,()):=by
    grind [a8,aG,ca,Ec]
   refine bC e ?_;dsimp only;rw[bQ];grind [bA]
  rintro _ rfl;dsimp only;rw[a8,a2 (aG (aa:¬(l.length:Z)<(l.length:Z)))];grind [bA]
 unfold EF;grind
end
structure HR (n t:X) (U4:X->l1) (L:X->bh):Prop where
 p:∀c,c<t->Ni n (U4 c) (L c)
 ex:∀c,c<t->xf (1+lH n c+4*n) (L c)
theorem aej {l:bp eS} {n:X} {A:X->X->amp} (o:jg q l) (y:q.length=n) (J:∀w x,da (A w x)) (dl:∀M:X,M=65536->∀w x,bd M 3222 3072 1 (A w x)) (S:n<=12) {O:mE} (d8:d.length=n) (d2:tS (O,d,())=Y (Y (c,(q,()),v,()),0,())) (c2:∀w x:X,w<n->x<n->vX (Y (c,(q,()),v,()),(w:Z),(x:Z),())=Y (aE (A w x),())) (dg:vW ((q,()),l,())=Y (0,())):AM (O,d,l,())=Y (ue A d l):=by
 have f3:=JV o;have ds:∀t,(B:t<l.length)->az l (t:Z)=Y ((cN l t:Z),(cN l (t+1):Z),ir l (t:Z),gR l t,()):=λt B=>(by rw[ie];exact(ki.of o y B).g);have el:∀i∈l,i.2.2.1.length<=64:=λi fr=>(by obtain⟨t,u,rfl⟩:=ani.1 fr;have C:=ki.of o y u;have G:=C.g;rw[bZ u] at G;have H:=C.HN;grind [am0,ir,iC]);unfold AM;refine aq d2 ?_;dsimp only;rw[a2 af];refine aq bq (aq dg ?_);dsimp only;rw[a2 af];refine aq (YS aa el) ?_;dsimp only;rw[bQ,a8,jq aa,bT];refine bR.1 ?_;generalize f4:(Y (c,(q,()),v,()):xq)=I at*;refine bJ (P:=λf=>(kt A l l.length=br/\f=.inr (uE,233,()))\/∃L h,kt A l l.length=Y (L,h)/\f=.inl (uE,l9 I h (pc L),())) ?_ ?_
 ·refine bS l.length (λt f=>∃L h j,kt A l t=Y (L,h)/\HR n t j (λa=>L.getD a im)/\f=((t:Z),uE,l9 I h (pc L),aA l.length (λe=>(fj l t e).map λa=>(j a).enc),())) ?_ ?_ ?_
  ·refine⟨[],[],λ_=>⟨[],0,[],[]⟩,bq,⟨λa D=>by omega,λa D=>by omega⟩,?_⟩;rw[jV];rfl
  rotate_left
  ·rintro _ ⟨L,h,j,B,_,rfl⟩;dsimp only;rw[a2 (aG (aa:¬(l.length:Z)<(l.length:Z)))];grind [bA]
  rintro t _ u ⟨L,h,j,d4,R,rfl⟩;dsimp only;rw[a5 (aJ (aa:(t:Z)<(l.length:Z))),bk aa];obtain⟨d1,m⟩:=Bq J o y aa d4;have C:=ki.of o y u;have ad:=m.Ai J C;have fn:=m.N0 A J C;have eq:=Ys (l:=l) dl S (aa:t<=12) R.ex;have a3:=Wp o y u m J (aa:n<=64) R.p c2;have co:=jP.start ad aa;have f8:kt A l (t+1)=(bh.run ((jw A l (λa=>L.getD a im) t).full+1) (jw A l (λa=>L.getD a im) t)).map λf=>(L++[f.1],h++f.2):=(by grind [kt]);have fp:=ad.full;generalize f7:jw A l (λa=>L.getD a im) t=b at*;rw[<-aaU] at a3 co;have d3:jh b.rows b.full (bM b.rows.length bt) (λO cs=>aE (b.s (b.rows.getD O 0) (b.rows.getD cs 0))) b (1+lH n t):=⟨co,eq⟩;have f2:=O1 S (aa:t<=12);obtain⟨aB,f9,gc⟩:=SK m.e7;have f6:(h.flatMap aN.a7).length<=n:=(by have H:=m.perm.length_eq;rw[amX,aoV] at H;have cv:=C.Iy;have c1:=C.Ix;omega);have f1:=Xz (n:=n) (L:=L) λa D=>(m.fl aa).1;have f5:n*L.length<=12*12:=Nat.mul_le_mul S aa;have d9:=aeR d3 ad aa (aos _) I (ps0:=h) aa aa (del:=pc L) aa;refine bJ (P:=λf=>(kt A l (t+1)=br/\f=.inr (.inr (.inr (uE,233,()))))\/∃N am T,kt A l (t+1)=Y (N,am)/\HR n (t+1) T (λa=>N.getD a im)/\f=.inl (uE,l9 I am (pc N),aA l.length (λe=>(fj l (t+1) e).map λa=>(T a).enc),())) ?_ ?_
  rotate_left
  ·rintro _ (⟨G,rfl⟩|⟨N,am,T,G,H,rfl⟩)
   ·dsimp only;refine bA.2 (.inl ⟨?_,bq⟩);have H:=Pv G (l.length-(t+1));rwa[(aa:t+1+(l.length-(t+1))=l.length)] at H
   grind [bA]
  refine bC (ds t u) ?_;have ek:∀{ft:Type} (k:X->bp (bv dd)) (U:bp (bv dd)->bv ft),rd (aA l.length k) (t:Z) U=U (k t):=λk U=>(by unfold rd;rw[cI,e4 u,bT,gP (gu u),bT]);rw[ek];refine bC a3 ?_;dsimp only;refine bJ (P:=λf=>(∃i F E z Q,bh.run (b.full+1) b=Y (i,F)/\f=(0,uE,l9 I (h++F) (pc L+i.full),aA l.length (λe=>(fj l t e).map λa=>(j a).enc),((cN l t:Z),(cN l (t+1):Z),ir l (t:Z),gR l t,()),cL b.rows b.full E (eX b.rows.length z),())/\jh b.rows b.full E z i Q/\Q<=1+lH n t+4*b.full)\/(bh.run (b.full+1) b=br/\f.1=233)) ?_ ?_
  ·rw[a5 af];refine bJ d9 ?_;rintro ge (⟨i,F,E,z,Q,G,rfl,cv,c1⟩|⟨G,H⟩)
   ·grind [bA]
   grind [bA]
  rintro f (⟨i,F,E,z,Q,em,rfl,a0,fT⟩|⟨em,ci⟩)
  rotate_left
  ·obtain⟨fz,_⟩:=f;dsimp only at ci;subst ci;dsimp only;rw[a5 af];refine bA.2 (.inl ⟨ae,bq⟩)
  dsimp only;rw[a2 af];have a4:kt A l (t+1)=Y (L++[i],h++F):=ae;have bl:∀a,a<t->(L++[i]).getD a im=L.getD a im:=λa D=>(by rw[aoY,aoY,List.getElem?_append_left aa]);have bx:(L++[i]).getD t im=i:=ag;generalize ce:(⟨b.rows,b.full,E,eX b.rows.length z⟩:l1)=K;have d7:K.enc=Y (cL b.rows b.full E (eX b.rows.length z)):=(by rw[<-ce];rfl);have av:HR n (t+1) (λa=>if a=t then K else j a) (λa=>(L++[i]).getD a im):=by
   refine⟨λa D=>?_,λa D=>?_⟩
   ·by_cases k:a=t
    ·subst k;rw[ay bq,bx,<-ce];exact⟨a0.r,fn⟩
    rw[aw k,bl a aa];exact R.p a aa
   by_cases k:a=t
   ·subst k;rw[bx];intro M d0 w d5 x d6;have:=fp;exact(a0.ex M d0 w d5 x d6).mono (bf _) (bf _) aa
   rw[bl a aa];exact R.ex a aa
  have V:∀e,((fj l t e).map λa=>((if a=t then K else j a):l1).enc)=(fj l t e).map λa=>(j a).enc:=λe=>iY λa D=>(by have:=(Gc.1 D).1;rw[aw aa]);rcases GD o y u with⟨an,_⟩|⟨e,an,gf,ap,_⟩
  ·rw[a2 (aG (aa:¬gR l t>=0))];refine bA.2 (.inr ⟨L++[i],h++F,_,a4,av,?_⟩);rw[OT];have:(aA l.length λe=>(fj l (t+1) e).map λa=>((if a=t then K else j a):l1).enc)=aA l.length λe=>(fj l t e).map λa=>(j a).enc:=db λe _=>by
    rw[Oq,aw aa,V]
   grind
  rw[a5 (aJ (aa:gR l t>=0)),an];refine bC (e4 (by grind [cI])) ?_;rw[gP (gu ap),aM];have f0:((fj l t e).map λa=>(j a).enc).length<=1000:=(by rw[eL];have:(fj l t e).length<=t:=(by unfold fj;grind);omega);rw[fe ae,aM];refine bC (e4 (by grind [cI])) ?_;rw[a5 ac,gP (gu ap),aM,gP (gu ap),aM];refine bA.2 (.inr ⟨L++[i],h++F,_,a4,av,?_⟩);rw[OT,hq];have:(aA l.length λe=>(fj l (t+1) e).map λa=>((if a=t then K else j a):l1).enc)=aA l.length (eK (λe=>(fj l t e).map λa=>(j a).enc) e (((fj l t e).map λa=>(j a).enc)++[Y (cL b.rows b.full E (eX b.rows.length z))])):=db λfs _=>by
   rw[Oq];by_cases k:fs=e
   ·subst k;rw[gw,ay an,kA,V,zP,ay bq,d7]
   rw[gS _ _ k,aw aa,V]
  grind
 rintro f (⟨B,rfl⟩|⟨L,h,B,rfl⟩)
 ·unfold ue;grind [bA]
 dsimp only;unfold ue;rw[B];obtain⟨d1,m⟩:=Bq J o y (cj _) B;refine bC (aeB d8 S (m.all o y) m.e7 _ I) ?_;grind [bA]
end
section
def G5 (c:X->X->bD) (e d a b:X):bD:=c a b||(bw (a=e)&&bw (b=d))
theorem Ps {n:X}:aA b (eK (λc=>aA n (g c)) a (aA n (eK (g a) i bt)))=aA b (λc=>aA n (G5 g a i c)):=
 db λc _=>by grind [gS,db,gw,G5]
def mh (a:X->X) (b:X):eS:=((a b:Z),(a (b+1):Z),[],-1,())
structure oM (G:ez) (n j F:X) (c:X->X) (T:X->X->bD):Prop where
 z:c 0=0
 e:c F=j
 m:∀f,f<F->c f<c (f+1)
 t:∀f i,f<F->i<n->(T f i=bt↔∃m,c f<=m/\m<c (f+1)/\(i:Z)∈ho G m)
theorem aaS (e:∀d,d<a->r d<r (d+1)):∀c b,c<b->b<=a->r c<r b:=by
 intro c b f
 induction b with
 |zero=>omega
 |succ b g=>
  grind
theorem Qt (d:∀c,c<a->r c<r (c+1)):∀b,b<=a->r 0+b<=r b:=by
 intro b
 induction b with
 |zero=>omega
 |succ b e=>
  grind
section
variable {G:ez} {n:X} (D:G.length=n) (B:fL G) (H:n<=7) {A:amv} (C:A.length<=9223372036854775807)
include D B H C
theorem Xu:ah (loop (σ:=(Z×km×bp hD×bz)) (ρ:=kW) (λ(k,M,H,_)=>
 bif bw (k<au (aA n (ho G))) then
 bE (α:=kW) (
 bE (α:=kW) (
 bE (α:=(bD×km×bp hD×bz)) (bif (k==0)==bu then(yc (A,aD (900+k),())).bind λ(d0,_)=>
 (e8 bG d0 7).bind λd3=>
 (jH d3 3).bind λd4=>
 Y (bw (d4>0),M,H,()) else Y (bt,M,H,())) λ(d1,N,I,_)=>
  bif d1 then
 (c3 (N.length+([(k,(aT k,(([]:cR),((-1:Z),()))))]).length)).bind λ_=>
 (fR (au (aA n (ho G))) (au (aA n (ho G)))).bind λa0=>
 (c3 (I.length+([bM a0 bu]).length)).bind λ_=>
 Y ((N++[(k,(aT k,(([]:cR),((-1:Z),()))))]),(I++[bM a0 bu]),()) else
 Y (N,I,())) λ(D,bx,_)=>
 (bn D.length (aD (au D-1))).bind λV=>
 (be D V λQ=>Y (D.set V (Q.1,(aT k,Q.2.2)))).bind λd8=>
 (loop (σ:=(Z×km×bp hD×bz)) (ρ:=kW) (λ(L,av,x,_)=>
 (az (aA n (ho G)) k).bind λd5=>
  bif bw (L<au d5) then
 (bn x.length (aD (au D-1))).bind λK=>
 (az (aA n (ho G)) k).bind λd6=>
 (az d6 L).bind λd7=>
 ((be x K λa4=>Y a4).bind λbl=>bn bl.length d7).bind λam=>
 (be x K λR=>(be R am λ_=>Y (R.set am bt)).map λd9=>x.set K d9).bind λek=>
 Y (.inl (aT L,av,ek,())) else
 Y (.inr (av,x,()))) (0,d8,bx,())).bind λ(dg,ce,_)=>
 Y (dg,ce,())) λ(dl,ci,_)=>
 Y (.inl (aT k,dl,ci,())) else
 Y (.inr (M,H,()))) (0,[],[],())) (λds=>∃f h i,oM G n n f h i/\ds=(aA f (mh h),aA f (λa=>aA n (i a)),())):=by
 refine bS n (λc O=>∃f h i,oM G n c f h i/\O=((c:Z),aA f (mh h),aA f (λa=>aA n (i a)),())) ⟨0,λ_=>0,λ_ _=>bu,⟨bq,bq,λa u=>absurd u (pI _),λa g u=>absurd u (pI _)⟩,bq⟩ ?_ ?_
 ·rintro c _ J ⟨f,h,i,j,rfl⟩;have ex:=Qt j.m f (cj _);have fl:=j.z;have fn:=j.e;dsimp only;rw[a8,cI,a5 (aJ (aa:(c:Z)<(n:Z))),bk aa];refine bJ (P:=λs=>∃(b:X) (d:X->X) (l:X->X->bD),d 0=0/\(∀a,a<b->d a<d (a+1))/\d b<=c/\b<=c/\(∀a g,a<b+1->g<n->(l a g=bt↔∃r,d a<=r/\r<eK d (b+1) (c+1) (a+1)/\(g:Z)∈ho G r))/\s=(aA (b+1) (mh (eK d (b+1) (c+1))),aA (b+1) (λa=>aA n (l a)),())) ?_ ?_
  ·refine bJ (P:=λs=>∃(b:X) (d:X->X) (l:X->X->bD) (F:Z),d 0=0/\(∀a,a<b->d a<d (a+1))/\d b<=c/\b<=c/\(∀a g,a<b+1->g<n->(l a g=bt↔∃r,d a<=r/\r<eK d (b+1) c (a+1)/\(g:Z)∈ho G r))/\s=(aA (b+1) (eK (mh d) b ((d b:Z),F,[],-1,())),aA (b+1) (λa=>aA n (l a)),())) ?_ ?_
   ·refine bJ (P:=λs=>∃E:bD,s=(E,aA f (mh h),aA f (λa=>aA n (i a)),())/\(E=bu->0<c)) ?_ ?_
    ·rw[gV];by_cases o:c=0
     ·rw[a2 (by simp[o])];grind [bA]
     rw[a5 (by simp[o])];refine bJ (UM A C _) ?_;rintro⟨d2,_⟩ c1;dsimp only at c1|-;obtain⟨a3,c2⟩:∃a3,e8 bG d2 7=some a3:=⟨_,cc ab⟩;refine bC c2 ?_;unfold jH;rw[cc ab,bT];grind [bA]
    rintro _ ⟨E,rfl,co⟩;dsimp only;cases E with
    |true=>
     rw[bI,fe (by grind [cI]),aM];refine bC (jq aa) ?_;rw[fe (by grind [cI]),aM];refine bA.2 ⟨f,h,(λa g=>if a<f then i a g else bu),((c+1:X):Z),j.z,j.m,aa,aa,?_,?_⟩
     ·intro a g v q;dsimp only;by_cases o:a<f
      ·rw[ay o,gS _ _ aa];exact j.t a g o q
      obtain rfl:a=f:=aa;rw[aw o,gw];grind
     have ar:aA f (mh h)++[((c:Z),((c+1:X):Z),([]:amv),(-1:Z),())]=aA (f+1) (eK (mh h) f ((h f:Z),((c+1:X):Z),[],-1,())):=(by grind [db,gS,om,gw]);have el:aA f (λa=>aA n (i a))++[bM n bu]=aA (f+1) (λa=>aA n (λg=>if a<f then i a g else bu)):=(by simp_all [db,ay,rY,if_false,om,jV]);grind
    |false=>
     have fr:=co bq;rw[bQ];obtain⟨b,rfl⟩:∃b,f=b+1:=⟨f-1,by
      grind⟩
     have fs:=j.m b aa;refine bA.2 ⟨b,h,i,(c:Z),j.z,λa v=>j.m a aa,aa,aa,?_,?_⟩
     ·intro a g v q;rw[j.t a g v q];grind [gS,gw]
     grind [db,gw,gS,mh]
   rintro _ ⟨b,d,l,F,T,U,ad,an,ap,rfl⟩;dsimp only;rw[a8,cI,show aD (((b+1:X):Z)-1)=(b:Z) by rw[(aa:((b+1:X):Z)-1=(b:Z)),cG aa aa]];refine bC (e4 (aos b)) ?_;rw[hb (aos b),gw,hq];refine bC bq ?_;have ar:aA (b+1) (eK (eK (mh d) b ((d b:Z),F,[],-1,())) b ((d b:Z),((c+1:X):Z),[],-1,()))=aA (b+1) (mh (eK d (b+1) (c+1))):=db λa v=>by
    by_cases o:a=b
    ·simp_all [gw,gS,mh]
    grind [gS,mh]
   dsimp only;rw[ar];have cs:∀p,(u:p<(ho G c).length)->∃g:X,(ho G c)[p]=(g:Z)/\g<n:=λp u=>(by obtain⟨g,em,eq,_⟩:=OF B (ca u);grind);have fp:(ho G c).length<=n:=(by grind [Xf]);refine bJ (P:=λs=>s=(aA (b+1) (mh (eK d (b+1) (c+1))),aA (b+1) (λa=>aA n (λw=>l a w||(bw (a=b)&&bw ((w:Z)∈ho G c)))),())) ?_ ?_
   ·refine bS (ho G c).length (λp O=>O=((p:Z),aA (b+1) (mh (eK d (b+1) (c+1))),aA (b+1) (λa=>aA n (λw=>l a w||(bw (a=b)&&bw ((w:Z)∈(ho G c).take p)))),())) ?_ ?_ ?_
    ·simp
    ·rintro p _ S rfl;dsimp only;refine bC (sv J) ?_;rw[a8,a5 (aJ (aa:(p:Z)<((ho G c).length:Z))),cI];refine bC (e4 (aos b)) ?_;refine bC (sv J) (bC (fc S) ?_);obtain⟨g,q,cv⟩:=cs p S;rw[q,hb (aos b)];refine bC (y:=g) (by grind [e4,cI]) ?_;rw[hb (aos b),hb cv,hq,aoS,hq,Ps,bk aa];refine bC bq (bA.2 ?_);congr 3;refine db λa _=>db λw _=>?_;grind [amG,bZ,G5]
    rintro _ rfl;dsimp only;refine bC (sv J) ?_;rw[a8,a2 (aG (aa:¬(((ho G c).length:X):Z)<((ho G c).length:Z))),amy];grind [bA]
   rintro _ rfl;dsimp only;refine bA.2 ⟨b,d,_,T,U,ad,an,?_,bq⟩;intro a g v q;rw[Bool.or_eq_true,ap a g v q];by_cases o:a=b
   ·subst o;rw[gw,gw];grind
   grind [gS]
  rintro _ ⟨b,d,l,T,U,ad,an,ap,rfl⟩;dsimp only;refine bA.2 ⟨b+1,eK d (b+1) (c+1),l,⟨?_,gw _ _ _,?_,?_⟩,bq⟩
  ·grind [gS]
  ·grind [gS,gw]
  grind [gS]
 rintro _ ⟨f,h,i,j,rfl⟩;dsimp only;rw[a8,cI,a2 (aG (aa:¬((n:Z)<(n:Z))))];grind [bA]
end
end
section
theorem aif (a:X->k) (b:X):eK a b (a b)=a:=by grind [eK]
theorem UA (b:X->k) (a:X) (d c:k):eK (eK b a d) a c=eK b a c:=by grind [eK]
def h0 (a:X->X->bD) (b c:X):amv:=((bK c).filter (a b)).map λd:X=>(d:Z)
theorem TF:h0 g b (a+1)=if g b a=bt then h0 g b a++[(a:Z)] else h0 g b a:=by grind [am7,h0]
theorem TE {T:X->X->bD} {f i:X}:(h0 T f i).length<=i:=by grind [cC,am4,cb,h0]
def qI (c:X->X) (F:X) (e:X->X->bD) (b g:X) (h:Z):Prop:=
 (h=-1/\∀a,a<g->e b a=bt->a<c (b+1))\/
 (∃a d:X,a<g/\e b a=bt/\c (b+1)<=a/\(∀f,f<a->e b f=bt->f<c (b+1))/\h=(d:Z)/\b<d/\d<F/\c d<=a/\a<c (d+1))
def lu (c:X->X) (b:X->X->bD) (d f:X) (g:Z) (e a:X):bD:=b e a||(bw (g=(e:Z))&&bw (c (d+1)<=a)&&bw (a<f)&&b d a)
structure n3 (G:ez) (n F:X) (c:X->X) (xz:X->X->bD) (f:X) (T:X->X->bD) (g:X->eS):Prop where
 sub:∀m x,m<F->x<n->xz m x=bt->T m x=bt
 sup:∀m x,m<F->x<n->T m x=bt->c m<=x
 uL:∀m,m<f->∃q,qI c F T m n q/\g m=((c m:Z),(c (m+1):Z),h0 T m n,q,())/\∀p:X,q=(p:Z)->∀x,c (m+1)<=x->x<n->T m x=bt->T p x=bt
 new:∀m,f<=m->m<F->g m=mh c m
section
variable {G:ez} {n F:X} {c:X->X} {xz:X->X->bD} (C:G.length=n) (B:fL G) (D:n<=7) (A:oM G n n F c xz)
include C B D A
theorem oM.zE:F<=n:=by have:=Qt A.m F (bf _);have:=A.e;omega
theorem oM.le (f:b<=a) (e:a<=F):c b<=c a:=by
 rcases c6 b a with d|d
 ·exact Nat.le_of_lt (aaS A.m b a d e)
 grind
theorem oM.own (g:a<n):∃b,b<F/\c b<=a/\a<c (b+1):=by
 have h:∀d,d<=F->a<c d->∃b,b<d/\c b<=a/\a<c (b+1):=by
  intro d
  induction d with
  |zero=>intro _ f;rw[A.z] at f;omega
  |succ d i=>
   grind
 exact h F (bf _) (by rw[A.e];exact g)
theorem oM.sup (e:a<F) (f:b<n) (d:xz a b=bt):c a<=b:=by obtain⟨j,g,h,i⟩:=(A.t a b e f).1 d;grind [OF]
theorem oM.diag (g:a<F) (d:c a<=b) (f:b<c (a+1)):xz a b=bt:=by have h:=A.le C B D (aa:a+1<=F) (bf _);have i:=A.e;obtain⟨k,j,_⟩:=Xe B (aa:b<G.length);exact(A.t a b g aa).2 ⟨b,d,f,ae⟩
theorem aeo {T:X->X->bD} (ad:a<F) (G:b<n) (av:c (a+1)<=b) {g:X->eS} {has:bp hD} (z:∀d,d<F->(g d).1=(c d:Z)/\(g d).2.1=(c (d+1):Z)):ah (loop (σ:=(Z×km×bp hD×bz)) (ρ:=kW) (λ(i,f,p,_)=>
 bif bw (i<au f) then
 bE (α:=kW) (
 bE (α:=(bD×km×bp hD×bz)) (
 (bn f.length i).bind λH=>
 (be f H λw=>Y w.1).bind λO=>
  bif bw ((b:Z)>=O)==bt then(bn f.length i).bind λI=>
 (be f I λx=>Y x.2.1).bind λQ=>
 Y (bw ((b:Z)<Q),f,p,()) else Y (bu,f,p,())) λ(N,o,r,_)=>
  bif N then
 (bn o.length (a:Z)).bind λt=>
 (be o t λk=>Y (o.set t (k.1,(k.2.1,(k.2.2.1,(i,k.2.2.2.2)))))).bind λR=>
 Y (R,r,()) else
 Y (o,r,())) λ(J,y,_)=>
 Y (.inl (aT i,J,y,())) else
 Y (.inr (f,p,()))) (aT (a:Z),aA F g,has,())) (λL=>∃e:X,a<e/\e<F/\c e<=b/\b<c (e+1)/\L=(aA F (eK g a ((g a).1,(g a).2.1,(g a).2.2.1,(e:Z),())),has,())):=by
 have V:=A.zE C B D;obtain⟨e,K,a0,a3⟩:=A.own C B D G;have am:a<e:=by
  rcases c6 a e with h|h
  ·exact h
  have:=A.le C B D (aa:e+1<=a+1) aa;omega
 refine(bS (F-(a+1)) (λm M=>M=(((a+1+m:X):Z),aA F (if e<a+1+m then eK g a ((g a).1,(g a).2.1,(g a).2.2.1,(e:Z),()) else g),has,())) ?_ ?_ ?_)
 ·rw[bk aa,aw aa]
 ·rintro m _ an rfl;dsimp only;generalize ap:a+1+m=d;have j:d<F:=aa;rw[a8,cI,a5 (aJ (aa:(d:Z)<(F:Z)))];generalize E:(if e<d then eK g a ((g a).1,(g a).2.1,(g a).2.2.1,(e:Z),()) else g)=q;have s:(q d)=g d:=by
   rw[<-E];grind [gS]
  obtain⟨u,v⟩:=z d j;refine bJ (P:=λh=>h=(aA F (if e<d+1 then eK g a ((g a).1,(g a).2.1,(g a).2.2.1,(e:Z),()) else g),has,())) ?_ ?_
  ·refine bJ (P:=λh=>h=(bw (d=e),aA F q,has,())) ?_ ?_
   ·refine bC (e4 j) ?_;rw[hb j,s,u];refine bC bq ?_;by_cases S:c d<=b
    ·rw[a5 ae];refine bC (e4 j) ?_;rw[hb j,s,v];refine bC bq (bA.2 ?_);by_cases l:d=e
     ·rw[aJ l,aJ (ae:(b:Z)<(c (d+1):Z))]
     have:¬b<c (d+1):=λU=>by
      rcases c6 d e with h|h
      ·have:=A.le C B D (aa:d+1<=e) aa;omega
      have:=A.le C B D (aa:e+1<=d) aa;omega
     grind
    rw[a2 ae,aG (ae:¬d=e)];grind [bA]
   rintro _ rfl;dsimp only;by_cases l:d=e
   ·rw[a5 (aJ l)];simp_all [bC,bA,hb,hq,ay,e4,cI]
   rw[a2 (aG l)];grind [bA]
  grind [bk,bA]
 rintro _ rfl;dsimp only;rw[a8,cI,(aa:a+1+(F-(a+1))=F),a2 (aG (aa:¬((F:Z)<(F:Z)))),cc K];grind [bA]
theorem agz {d:X->X->bD} (p:a<F) (R:n3 G n F c xz a d z):ah (loop (σ:=(Z×km×bp hD×bz)) (ρ:=kW) (λ(r,s,u,_)=>
 bif bw (r<au (aA n (ho G))) then
 bE (α:=kW) (
 (bn u.length (a:Z)).bind λcs=>
 ((be u cs λd1=>Y d1).bind λd2=>bn d2.length r).bind λf1=>
 (be u cs λd3=>be d3 f1 λd4=>Y d4).bind λhi=>
  bif !hi then
 Y (s,u,()) else
 (bn s.length (a:Z)).bind λcv=>
 (be s cv λd5=>Y d5.2.2.1).bind λgo=>
 (c3 (go.length+([r]).length)).bind λ_=>
 (bn s.length (a:Z)).bind λU=>
  bif bL cv U&&bt then
 (be s U λd6=>Y d6.2.2.1).bind λgs=>
 (be s U λam=>Y (s.set U (am.1,(am.2.1,((gs++[r]),am.2.2.2))))).bind λE=>
 bE (α:=kW) (
 bE (α:=(bD×km×bp hD×bz)) (
 (bn E.length (a:Z)).bind λf2=>
 (be E f2 λd7=>Y d7.2.1).bind λhr=>
  bif bw (r>=hr)==bt then(bn E.length (a:Z)).bind λf3=>
 (be E f3 λd8=>Y d8.2.2.2.1).bind λhs=>
 Y (bw (hs<0),E,u,()) else Y (bu,E,u,())) λ(gi,c2,a4,_)=>
  bif gi then
 (loop (σ:=(Z×km×bp hD×bz)) (ρ:=kW) (λ(H,t,ap,_)=>
  bif bw (H<au t) then
 bE (α:=kW) (
 bE (α:=(bD×km×bp hD×bz)) (
 (bn t.length H).bind λf4=>
 (be t f4 λd9=>Y d9.1).bind λhv=>
  bif bw (r>=hv)==bt then(bn t.length H).bind λf5=>
 (be t f5 λek=>Y ek.2.1).bind λhw=>
 Y (bw (r<hw),t,ap,()) else Y (bu,t,ap,())) λ(gl,V,bl,_)=>
  bif gl then
 (bn V.length (a:Z)).bind λc1=>
 (be V c1 λQ=>Y (V.set c1 (Q.1,(Q.2.1,(Q.2.2.1,(H,Q.2.2.2.2)))))).bind λid=>
 Y (id,bl,()) else
 Y (V,bl,())) λ(f8,fn,_)=>
 Y (.inl (aT H,f8,fn,())) else
 Y (.inr (t,ap,()))) (aT (a:Z),c2,a4,())).bind λ(f6,ex,_)=>
 Y (f6,ex,()) else
 Y (c2,a4,())) λ(x,L,_)=>
 (bn x.length (a:Z)).bind λfT=>
 (be x fT λdg=>Y dg.2.1).bind λgt=>
  bif bw (r>=gt) then
 (bn x.length (a:Z)).bind λf0=>
 (be x f0 λdl=>Y dl.2.2.2.1).bind λhc=>
 (bn L.length hc).bind λa0=>
 ((be L a0 λds=>Y ds).bind λd0=>bn d0.length r).bind λco=>
 (be L a0 λa3=>(be a3 co λ_=>Y (a3.set co bt)).map λib=>L.set a0 ib).bind λic=>
 Y (x,ic,()) else
 Y (x,L,()) else br) λ(f7,fl,_)=>
 Y (.inl (aT r,f7,fl,())) else
 Y (.inr (s,u,()))) ((c a:Z),aA F z,aA F (λa=>aA n (d a)),())) (λw=>∃j,qI c F d a n j/\w=(aA F (eK z a ((c a:Z),(c (a+1):Z),h0 d a n,j,())),aA F (λh=>aA n (lu c d a n j h)),())):=by
 have ix:=A.zE C B D;have i2:=A.le C B D (aa:a+1<=F) (bf _);have i1:=A.e;have kd:=A.m a p;have fs:z a=mh c a:=R.new a (bf _) p;have i3:∀h,h<F->(z h).1=(c h:Z)/\(z h).2.1=(c (h+1):Z):=λh bx=>by
  rcases c6 h a with q|q
  ·obtain⟨j,_,K,_⟩:=R.uL h q;grind
  rw[R.new h q bx];exact⟨bq,bq⟩
 refine bS (n-c a) (λv gf=>∃j,qI c F d a (c a+v) j/\gf=(((c a+v:X):Z),aA F (eK z a ((c a:Z),(c (a+1):Z),h0 d a (c a+v),j,())),aA F (λh=>aA n (lu c d a (c a+v) j h)),())) ?_ ?_ ?_
 ·have ar:h0 d a (c a)=[]:=by
   unfold h0;rw[apu.2 λk S q=>?_]
   ·rfl
   have J:=gN.1 S;have:=R.sup a k p aa q;omega
  refine⟨-1,.inl ⟨bq,λk S q=>?_⟩,?_⟩
  ·omega
  rw[m4,ar];congr 2
  ·have:eK z a ((c a:Z),(c (a+1):Z),([]:amv),(-1:Z),())=z:=by
    rw[show((c a:Z),(c (a+1):Z),([]:amv),(-1:Z),())=z a from fs.symm,aif]
   grind
  simp_all [db,aG,lu]
 ·rintro v _ jp ⟨j,M,rfl⟩;dsimp only;generalize i8:c a+v=b at*;have av:b<n:=aa;rw[a8,cI,a5 (aJ (aa:(b:Z)<(n:Z))),(aa:c a+(v+1)=b+1)];have ft:lu c d a b j a b=d a b:=by
   grind [aG,lu]
  refine bJ (P:=λw=>∃o,qI c F d a (b+1) o/\w=(aA F (eK z a ((c a:Z),(c (a+1):Z),h0 d a (b+1),o,())),aA F (λh=>aA n (lu c d a (b+1) o h)),())) ?_ ?_
  ·refine bC (e4 (by grind [cI])) ?_;rw[hb p];refine bC (y:=b) (by grind [e4,cI]) ?_;rw[hb p,hb av,ft];refine bC bq ?_;cases an:d a b with
   |false=>
    rw[a5 af];refine bA.2 ⟨j,?_,?_⟩
    ·rcases M with⟨aB,o⟩|⟨k,l,aB,o⟩
     ·refine .inl ⟨aB,λk S q=>?_⟩;grind
     exact .inr ⟨k,l,aa,o⟩
    rw[TF,an,aw ab];congr 2;refine db λh _=>db λk _=>?_;grind [aJ,aG,lu]
   |true=>
    rw[a2 af];refine bC (e4 (by grind [cI])) ?_;rw[hb p,gw];refine bC bq ?_;have lb:=TE (T:=d) (f:=a) (i:=b);rw[fe ae,bT];refine bC (e4 (by grind [cI])) ?_;rw[a5 ag,hb p,gw];refine bC bq ?_;rw[hb p,gw,hq,UA];refine bC bq ?_;have fz:h0 d a b++[(b:Z)]=h0 d a (b+1):=(by rw[TF,cc an]);dsimp only;rw[fz];refine bJ (P:=λw=>∃o,w=(aA F (eK z a ((c a:Z),(c (a+1):Z),h0 d a (b+1),o,())),aA F (λh=>aA n (lu c d a b j h)),())/\((b<c (a+1)/\o=j)\/(c (a+1)<=b/\∃l:X,o=(l:Z)/\l<F/\(j=o\/(j=-1/\∀k,k<b->d a k=bt->k<c (a+1)))))/\qI c F d a (b+1) o) ?_ ?_
    ·refine bJ (P:=λw=>∃O:bD,w=(O,aA F (eK z a ((c a:Z),(c (a+1):Z),h0 d a (b+1),j,())),aA F (λh=>aA n (lu c d a b j h)),())/\(O=bt↔c (a+1)<=b/\j<0)) ?_ ?_
     ·refine bC (e4 (by grind [cI])) ?_;rw[hb p,gw];refine bC bq ?_;dsimp only;by_cases I:c (a+1)<=b
      ·rw[a5 ae];grind [bC,bA,hb,gw,e4,cI]
      rw[a2 ae];grind [bA]
     rintro _ ⟨O,rfl,fp⟩;dsimp only;cases O with
     |true=>
      obtain⟨ad,ii⟩:=fp.1 bq;rw[bI];have ci:j=-1/\∀k,k<b->d a k=bt->k<c (a+1):=by
       rcases M with q|⟨k,l,J,K,el,em,eq,_⟩
       ·exact q
       omega
      refine bJ (aeo (T:=d) C B D A p av ad (g:=eK z a ((c a:Z),(c (a+1):Z),h0 d a (b+1),j,())) (has:=aA F (λh=>aA n (lu c d a b j h))) (λh bx=>?_)) ?_
      ·grind [gS,gw]
      rintro _ ⟨l,f9,N,gc,ge,rfl⟩;dsimp only;refine bA.2 ⟨(l:Z),?_,.inr ⟨ad,l,bq,N,.inr ci⟩,.inr ⟨b,l,aa,an,ad,ci.2,bq,f9,N,gc,ge⟩⟩;rw[gw,UA]
     |false=>
      rw[bQ];refine bA.2 ⟨j,bq,?_,?_⟩
      ·rcases c6 b (c (a+1)) with I|I
       ·omega
       refine .inr ⟨I,?_⟩;rcases M with q|⟨k,l,J,K,el,em,eq,io,is,_⟩
       ·grind
       grind
      rcases M with⟨J,K⟩|⟨k,l,J,K⟩
      ·refine .inl ⟨J,λk S i0=>?_⟩;grind
      exact .inr ⟨k,l,aa,K⟩
    rintro _ ⟨o,rfl,fr,ce⟩;dsimp only;refine bC (e4 (by grind [cI])) ?_;rw[hb p,gw];refine bC bq ?_;dsimp only;rcases fr with⟨I,rfl⟩|⟨I,l,rfl,N,kg⟩
    ·rw[a2 (aG (aa:¬(b:Z)>=(c (a+1):Z)))];refine bA.2 ⟨o,ce,?_⟩;congr 2;refine db λh _=>db λk _=>?_;grind [aG,aJ,lu]
    rw[a5 (aJ (aa:(b:Z)>=(c (a+1):Z)))];refine bC (e4 (by grind [cI])) ?_;rw[hb p,gw];refine bC bq ?_;dsimp only;refine bC (e4 (by grind [cI])) ?_;rw[hb N];refine bC (y:=b) (by grind [e4,cI]) ?_;rw[hb N,hb av,hq,aoS,hq,Ps];refine bC bq (bA.2 ⟨(l:Z),ce,?_⟩);congr 2;refine db λh _=>db λk _=>?_;grind [G5,lu]
  grind [bk,bA]
 rintro _ ⟨j,M,rfl⟩;dsimp only;rw[(aa:c a+(n-c a)=n)] at*;rw[a8,cI,a2 (aG (aa:¬((n:Z)<(n:Z))))];grind [bA]
end
end
section
theorem qI.congr {c:X->X} {F:X} (d:g a=n a) (e:qI c F g a b j):qI c F n a b j:=by simp_all [qI]
theorem TD (c:g a=n a):h0 g a b=h0 n a b:=by grind [h0]
section
variable {G:ez} {n F:X} {c:X->X} {A:X->X->bD} (B:G.length=n) (C:fL G) (D:n<=7) (H:oM G n n F c A)
include B C D H
theorem n3.next (L:a<F) (i:n3 G n F c A a g z) (l:qI c F g a n j):n3 G n F c A (a+1) (lu c g a n j) (eK z a ((c a:Z),(c (a+1):Z),h0 g a n,j,())):=by
 have h:∀b,b<=a->lu c g a n j b=g b:=λb f=>by
  funext e;unfold lu;have:¬j=(b:Z):=by rcases l with⟨d,_⟩|⟨e,p,_,_,_,_,d,k,_⟩<;>omega
  grind
 have u:∀b e,g b e=bt->lu c g a n j b e=bt:=λb e d=>(by grind [lu]);refine⟨λb e f m d=>u _ _ (i.sub b e f m d),λb e f m d=>?_,λb f=>?_,λb f s=>?_⟩
 ·unfold lu at d;rw[j4] at d;rcases d with d|d
  ·exact i.sup b e f m d
  simp only[cJ,amV] at d;obtain⟨⟨⟨o,k⟩,r⟩,K⟩:=d;rcases l with⟨aB,_⟩|⟨M,p,x,y,B,C,D,E,H,I,J⟩
  ·omega
  grind
 ·rcases c6 b a with d|d
  ·obtain⟨aB,o,k,r⟩:=i.uL b d;refine⟨aB,o.congr (h b aa).symm,?_,λp t e v w q=>?_⟩
   ·rw[gS _ _ aa,k,TD (h b aa)]
   rw[h b aa] at q;grind
  obtain rfl:b=a:=aa;refine⟨j,l.congr (h b aa).symm,?_,λp t e v w q=>?_⟩
  ·rw[gw,TD (h b aa)]
  grind [aJ,lu]
 rw[gS _ _ aa];exact i.new b aa s
end
theorem J1 {k:gq} {aY:gq} {G:ez} {l:Z} {n:X} (B:G.length=n) (C:fL G) (D:n<=7) (r:s.length<=9223372036854775807) (m:vT (k,())=Y (aY,j,())) (o:vV (aY,())=Y ((q,()),w,())) (p:tR ((q,()),d,())=Y ((G,()),l,())):ah (ya (k,d,s,())) (λi=>∃F c A b a,oM G n n F c A/\n3 G n F c A F b a/\i=(aA F a,())):=by
 unfold ya;refine bC m (bC o (bC p ?_));refine bC (agj C aa) ?_;dsimp only;rw[B];refine bJ (Xu B C D r) ?_;rintro _ ⟨F,c,A,H,rfl⟩;dsimp only;have z:=H.zE B C D;refine bJ (P:=λi=>∃b a,n3 G n F c A F b a/\i=(aA F a,())) ?_ ?_
 ·refine bS F (λe y=>∃b a,n3 G n F c A e b a/\y=((e:Z),aA F a,aA F (λe=>aA n (b e)),())) ⟨A,mh c,⟨λ_ _ _ _ f=>f,λx I t v f=>H.sup B C D t v f,λx f=>absurd f (pI _),λ_ _ _=>rfl⟩,bq⟩ ?_ ?_
  ·rintro e _ g ⟨b,a,h,rfl⟩;dsimp only;rw[a8,cI F,a5 (aJ (aa:(e:Z)<(F:Z)))];refine bC (e4 g) ?_;rw[hb g,h.new e (cj _) g];refine bC bq ?_;refine bJ (agz B C D H g h) ?_;rintro _ ⟨E,u,rfl⟩;dsimp only;rw[bk aa];exact bA.2 ⟨_,_,h.next B C D H g u,bq⟩
  rintro _ ⟨b,a,h,rfl⟩;dsimp only;rw[a8,cI F,a2 (aG (aa:¬((F:Z)<(F:Z))))];grind [bA]
 grind [bA]
theorem YG {P:X->bD} {a b:X} (i:∀c,c<a->P c=bu) (j:∀c,a<=c->c<b->P c=bt) (k:a<=b):∀e,(bK (b+e)).filter P=amP a (b-a)++(((bK (b+e)).filter P).filter λc=>bw (b<=c)):=by
 have h:∀d,a+d<=b->(bK (a+d)).filter P=amP a d:=by
  intro d
  induction d with
  |zero=>
   simp_all
  |succ d f=>
   grind [apz,am7,List.filter_cons_of_pos,ar1]
 intro e
 induction e with
 |zero=>
  have:=h (b-a) aa;simp_all
 |succ e f=>
  rw[<-rW,kj,qw,qw,<-lC,<-f];congr 1;cases g:P (b+e)<;>simp[g]
end
section
section
variable {G:ez} {n F:X} {c:X->X} {I T:X->X->bD} {g:X->eS} (C:G.length=n) (D:fL G) (H:n<=7) (A:oM G n n F c I) (B:n3 G n F c I F T g)
include C D H A B
theorem n3.cN {a:X} (e:a<=F):cN (aA F g) a=c a:=by
 cases a with
 |zero=>exact A.z.symm
 |succ a=>
  obtain⟨f,_,d,_⟩:=B.uL a aa;show(Option.map (λb:eS=>b.2.1.toNat) (aA F g)[a]?).getD 0=c (a+1);grind [gu]
theorem KV {k x:X}:(x:Z)∈h0 T k n↔x<n/\T k x=bt:=by unfold h0;grind
theorem TC (a:X):(h0 T a n).Pairwise (· < ·):=by unfold h0;rw[n6];exact(aqo.filter _).imp λb=>by omega
theorem n3.rows (f:i<F):∃h:amu,h0 T i n=(amP (c i) (c (i+1)-c i)++h).map (λd:X=>(d:Z))/\∀d,d∈h↔c (i+1)<=d/\d<n/\T i d=bt:=by
 have q:=A.le C D H (aa:i+1<=F) (bf _);have r:=A.e;have s:=A.m i f;have:=YG (P:=λd=>bw (d<n)&&T i d) (a:=c i) (b:=c (i+1)) (λd g=>by
  by_cases p:d<n
  ·cases j:T i d with
   |false=>simp
   |true=>have:=B.sup i d f p j;omega
  omega) (λd l o=>by
   show(bw (d<n)&&T i d)=bt;rw[aJ (aa:d<n),B.sub i d f aa (A.diag C D H f l o)];rfl) aa (n-c (i+1))
 rw[(aa:c (i+1)+(n-c (i+1))=n)] at this;have k:(bK n).filter (λd=>bw (d<n)&&T i d)=(bK n).filter (T i):=qx λd g=>(by rw[aJ (gN.1 g),aoE]);rw[k] at this;refine⟨((bK n).filter (T i)).filter λd=>bw (c (i+1)<=d),?_,?_⟩
 ·grind [h0]
 grind
theorem n3.YT:jg G (aA F g):=by
 have d3:=A.zE C D H;have a0:=A.e;have O:∀a,a<=F->j5.cN (aA F g) a=c a:=λa b=>B.cN C D H A b;have N:oL n (aA F g):=by
  refine⟨λa b=>?_,by rw[cI,O F (bf _),a0]⟩;rw[cI] at b;obtain⟨z,_,j,_⟩:=B.uL a b;have s:=A.m a b;have d2:=A.le C D H (aa:a+1<=F) (bf _);refine⟨g a,gu b,?_,?_,?_⟩
  ·rw[j,O a aa]
  ·grind
  grind
 have ce:∀f,f<F->ir (aA F g) (f:Z)=h0 T f n:=λf R=>(by obtain⟨z,_,j,_⟩:=B.uL f R;grind [zj,cI,lK]);have bs:∀{f i:X},f<F->c f<=i->i<c (f+1)->iP (j5.cN (aA F g)) i (aA F g).length=(f:Z):=λ{f i} R d1 j=>(by have s:=cI F g;exact Dv (m:=(aA F g).length) (λa b=>⟨b,N.1 a b⟩) aa ae ae _ aa (bf _));unfold jg;rw[C];refine⟨N,λa b=>?_,λa b=>?_,λad d w=>?_⟩
 ·rw[cI] at b;rw[lK];obtain⟨z,_,j,_⟩:=B.uL a b;obtain⟨h,S,p⟩:=B.rows C D H A b;have s:=A.m a b;have bl:(h0 T a n).length=(c (a+1)-c a)+h.length:=ae;have u:=TC C D H A B a;have q:((c (a+1):Z)-(c a:Z)).toNat=c (a+1)-c a:=aa;rw[j];unfold m5;dsimp only;rw[q];refine⟨aa,λd _ P l=>⟨λQ=>?_,λv=>?_⟩⟩
  ·simp_all
  dsimp only at v l|-;rw[q] at v;have y:(h0 T a n)[d]=((h[d-(c (a+1)-c a)]'(by omega):X):Z):=by simp_all
  have o:=(p _).1 (cT (aa:d-(c (a+1)-c a)<h.length));refine⟨aa,aa,?_⟩;exact(iw.1 u) (d-1) d aa aa aa
 ·rw[cI] at b;rw[lK];obtain⟨z,bx,j,d5⟩:=B.uL a b;obtain⟨h,S,p⟩:=B.rows C D H A b;have s:=A.m a b;have bl:(h0 T a n).length=(c (a+1)-c a)+h.length:=ae;have u:=TC C D H A B a;have q:((c (a+1):Z)-(c a:Z)).toNat=c (a+1)-c a:=aa;have y:∀d (l:d<(h0 T a n).length),c (a+1)-c a<=d->∃i,i∈h/\(h0 T a n)[d]=(i:Z):=λd l v=>by
   refine⟨h[d-(c (a+1)-c a)]'(by omega),cT _,?_⟩
   simp_all
  rw[j];unfold oR;dsimp only;rw[q];rcases bx with⟨aB,d8⟩|⟨I,f,K,L,ap,cs,rfl,cv,c1,c2,dg⟩
  ·refine .inl ⟨?_,aB⟩;have:h=[]:=arY.2 λi d7=>by
    grind
   grind
  have co:=(p I).2 ⟨ap,K,L⟩;have d6:0<h.length:=arW co;refine .inr ⟨aa,?_,λd P l=>?_⟩
  ·obtain⟨J,V,a3⟩:=y (c (a+1)-c a) aa (bf _);obtain⟨dl,ds,d0⟩:=(p J).1 V;have d4:J<=I:=by
    obtain⟨E,ci,U⟩:=hN.1 ((KV (x:=I) C D H A B (k:=a)).2 ⟨K,L⟩);rcases c6 E (c (a+1)-c a) with av|av
    ·simp only[S,kA] at U;rw[List.getElem_append_left ae] at U;grind
    rcases c6 (c (a+1)-c a) E with M|M
    ·have:=(iw.1 u) _ E aa ci M;omega
    grind
   grind [am8,cw]
  obtain⟨J,V,a3⟩:=y d l P;grind [KV]
 intro Q;have a4:ad<n:=(by obtain⟨l,_⟩:=w;omega);have o:d<n:=(by have:=w.lt D;omega);obtain⟨f,r,am,an⟩:=A.own C D H a4;rw[bs r am an,ce f r];refine(KV C D H A B).2 ⟨o,B.sub f d r o ((A.t f d r o).2 ⟨ad,am,an,wy.2 ⟨aa,.inr ⟨Q,?_⟩⟩⟩)⟩;exact .one w
end
end
theorem afU (b:j7 a a s d t) (c:hZ a a s d t≠0):vT (((a:Z),(a:Z),s,d,t,()),())=Y ((0,0,[],[],[],()),hZ a a s d t,()):=by unfold vT;refine aq b.GN ?_;grind
def afS:vV ((0,0,[],[],[],()),())=Y (([],()),1,()):=by unfold vV;refine aq (y:=((1:Z),())) rfl ?_;rfl
def Hu:fL []:=JW []
theorem afW (a:amv):∃c,tR (([],()),a,())=Y (([],()),c,()):=by
 rw[L6 (λe d=>by cases d)];by_cases b:nm [] a=0
 ·rw[ay b];refine⟨0,?_⟩;have:a=[]:=by
   unfold nm at b;grind
  subst this;rfl
 simp_all
theorem n3.small (h:q.length=a) (i:fL q) (j:a<=7) (d:oM q a a b r g) (f:n3 q a b r g b n z):(aA b z).length<=a/\∀e∈aA b z,0<e.2.2.1.length/\e.2.2.1.length<=a:=by have s:=d.zE h i j;refine⟨by grind [cI],λe l=>?_⟩;obtain⟨k,c,rfl⟩:=hN.1 l;rw[cI] at c;rw[lK];obtain⟨u,_,o,_⟩:=f.uL k c;obtain⟨v,t,_⟩:=f.rows h i j d c;have p:=d.m k c;grind [TE]
theorem Y6 (y:a<=b) (Q:b<=7) (x:hZ a a s d t=0->ny a s d t) (r:j7 a a s d t) {K:amv} (m:K.length<=9223372036854775807):ah (ya (((a:Z),(a:Z),s,d,t,()),O,K,())) (λU=>∃j:km,U=(j,())/\j.length<=b/\(∀c∈j,0<c.2.2.1.length/\c.2.2.1.length<=b)/\(zp a a s d t O=0->jg (md a (ht (c5 s d t a)) O) j)):=by
 classical
 have u:a<=7:=eE y Q;by_cases e:hZ a a s d t=0
 ·have q:=(lF.1 e).1;have M:=(lF.1 e).2;have L:=tZ q a (bf _);have N:=tY q;have V:=(x e).el;have P:=ua q r.hw;have R:=ua q (JL M);have J:=BO L;have I:=BN N;have T:=TY (rows:=a) (e0:=a) (E:=ht (c5 s d t a)) aa aa aa (λA z=>P A (hV.1 z).1);have S:=Oo J I (λA z=>R A (hV.1 z).1);have w:=afT T S;rw[Pm J I] at w;by_cases o:fX O a
  ·refine(J1 (yx o) (FP a (ht (c5 s d t a)) O) u m (S0 (x e) r e) w (afV (eE u ab) o)).mono ?_;rintro _ ⟨B,F,D,C,H,h,i,rfl⟩;obtain⟨k,f⟩:=i.small (yx o) (FP a (ht (c5 s d t a)) O) u h;exact⟨_,bq,eE k y,λc g=>⟨(f c g).1,eE (f c g).2 y⟩,λ_=>i.YT (yx o) (FP a (ht (c5 s d t a)) O) u h⟩
  have l:∃v,tR ((kI a (kw (ht (c5 s d t a))),()),O,())=Y (([],()),v,()):=by
   rw[L6 (λj m=>by have:=J2 a (kw (ht (c5 s d t a))) j m;omega)];rw[aw (λp=>?_)]
   ·grind
   grind [Bx,nm]
  obtain⟨v,l⟩:=l;refine(J1 (G:=[]) (n:=0) rfl Hu (eU _) m (S0 (x e) r e) w l).mono ?_;rintro _ ⟨B,F,D,C,H,h,i,rfl⟩;obtain⟨k,f⟩:=i.small bq Hu (eU _) h;refine⟨_,bq,eE k (eU _),λc g=>⟨(f c g).1,eE (f c g).2 (eU _)⟩,λp=>absurd (T2 p).2.2 o⟩
 obtain⟨v,l⟩:=afW O;refine(J1 (G:=[]) (n:=0) rfl Hu (eU _) m (afU r e) afS l).mono ?_;rintro _ ⟨B,F,D,C,H,h,i,rfl⟩;obtain⟨k,f⟩:=i.small bq Hu (eU _) h;exact⟨_,bq,eE k (eU _),λc g=>⟨(f c g).1,eE (f c g).2 (eU _)⟩,λp=>absurd (T2 p).1 e⟩
def Y5 (c:a<=5) (h:j7 a a s d t) {e:amv} (g:e.length<=9223372036854775807):ah (ya (((a:Z),(a:Z),s,d,t,()),O,e,())) (λi=>∃b:km,i=(b,())/\b.length<=5/\(∀f∈b,0<f.2.2.1.length/\f.2.2.1.length<=5)/\(zp a a s d t O=0->jg (md a (ht (c5 s d t a)) O) b)):=
 Y6 c ab (ny.Lh c) h g
section
section
variable {n:X} {st A B o:amv} {l:bp eS}
theorem YU (j:fX o n) (q:n<=7) (a:jg (md n (ht (c5 st A B n)) o) l):l.length<=7/\(∀d∈l,d.2.2.1.length<=7)/\FA (md n (ht (c5 st A B n)) o) l=0:=by
 have f:=yx (E:=ht (c5 st A B n)) j;have h:=FP n (ht (c5 st A B n)) o;have p:=JV a;refine⟨aa,λd k=>?_,?_⟩
 ·obtain⟨r,c,rfl⟩:=hN.1 k;have b:=ki.of a f c;have e:=b.g;rw[cH c] at e;have m:=b.HN;grind [am0,ir,iC]
 have i:jl (md n (ht (c5 st A B n)) o)=0:=vE.2 ⟨aa,h⟩;unfold FA;rw[aw (anb i),ay a]
def Vg (e:ny n st A B) (t:j7 n n st A B) (b:hZ n n st A B=0) (a:fX o n) (d:jg (md n (ht (c5 st A B n)) o) l):AM (((n:Z),(n:Z),st,A,B,()),o,l,())=Y (ue (kc (c5 st A B n) o) o l):=by have f:=e.BU;obtain⟨z,m,p⟩:=Nd e t b a;obtain⟨C,v,w⟩:=YU a f d;have j:=Ze (E:=ht (c5 st A B n)) (eE f ab) a;have c:=Vh j (l:=l) aa (λx u=>by have:=v x u;omega);rw[w] at c;have q:=(lF.1 b).1;have i:=(lF.1 b).2;exact aej d (yx a) (λg h=>kL _) (λy k g h=>(bd.kG k (ail (ua q (JL i)) _ _)).mono ab ab ab) aa a.1 p (λg h r s=>TH m r s) c
end
end
structure vo (q:aN):Prop where
 Bg:∀d∈q.d,bo d≠2047
 lj:q.a7.length=2->jz q.d≠Y 0
 IQ:∀d∈q.d,fM d
 Qq:∀a∈q.l,∀i,fM (a i)
theorem y7 (f:bh):∀h:amu,(∀c∈(f.e7 h).d,fM c)/\∀b∈(f.e7 h).l,∀g,fM (b g)
 |[]=>⟨λc a=>absurd a (by show c∉([]:amv);simp),λb e=>absurd e (by show b∉([]:bp (X->Z));simp)⟩
 |[p]=>⟨λc a=>by rw[gI.1 (show c∈[_] from a)];exact GV _ _,λb e g=>by
  rw[amF.1 (show b∈[_] from e)];dsimp only;split
  ·exact⟨ab,ab⟩
  exact GJ _⟩
 |[p,r]=>⟨λc a=>by
  have a:c∈[f.cM p p,f.cM r p,f.cM r r]:=a;simp only[fH,xo,an1] at a;rcases a with rfl|rfl|rfl<;>exact GV _ _,λb e g=>by
  have e:b∈[_,_]:=e;simp only[fH,xo,an1] at e;grind [GJ]⟩
 |_::_::_::_=>⟨λc a=>absurd a (by show c∉([]:amv);simp),λb e=>absurd e (by show b∉([]:bp (X->Z));simp)⟩
theorem PW {v:X->Z} {p:X} {R:amu}:∀{l:amu} {a:Z×amq},(∀b,a.2=Y b->b∈R/\v b=a.1)->(∀b∈l,b∈R)->∀b,(h5 v p l a).2=Y b->b∈R/\v b=(h5 v p l a).1
 |[],_,d,_,b,c=>d b c
 |j::l,a,d,f,b,c=>by rw[h5] at c|-;refine PW ?_ (λg e=>f g (gH _ e)) b c;grind
theorem XE {a:Z} (f:(c.natAbs:Z)≠0) (e:¬41*((c.natAbs:Z)*c.natAbs)<=64*((j.natAbs:Z)*a)) (g:¬41*a<=64*(w.natAbs:Z)):j*w≠c*c:=by intro d;have b:(j.natAbs:Z)*w.natAbs=(c.natAbs:Z)*c.natAbs:=(by have:=b9 aqI d;rw[pE,pE] at this;omega);rw[<-b] at e;have h:(j.natAbs:Z)*(64*(w.natAbs:Z))<=(j.natAbs:Z)*(41*a):=mw aa aa;grind
theorem Ij {c:bh} (e:bo (c.cM a b)≠2047):∃d,aV (c.cM a b)=Y d/\c.av a b=(d.natAbs:Z):=⟨_,rk e,by grind [rk,bh.av]⟩
theorem XD {f d g:Z} (q:bo j≠2047) (k:bo c≠2047) (r:bo w≠2047) (n:aV j=Y f) (o:aV c=Y d) (p:aV w=Y g) (b:jz [j,c,w]=Y 0):f*g=d*d:=by obtain⟨e,a⟩:∃e:X,e=65536:=⟨_,bq⟩;obtain⟨t,z,B,v,ar,h,l,y⟩:=bd.mul a (bd.kG a q) (bd.kG a r) ab ab ab;obtain⟨u,A,C,x,i,f2,m,f4⟩:=bd.mul a (bd.kG a k) (bd.kG a k) ab ab ab;have s:=(bd.add a ab t u.neg ab).2;rw[n] at ar;rw[p] at h;rw[o] at i f2;cases ar;cases h;cases i;cases f2;have b:cZ (cK (aV j) (aV w)) (dk (cK (aV c) (aV c)))=Y 0:=b;rw[s,l,m] at b;have b:v+-x=0:=gn b;grind
theorem Om {b:bh}:∀{n k:amu},(∀p∈n,p∈b.rows)->b.jx n=Y k->vo (b.e7 k)
 |[],k,_,c=>by rw[bh.jx] at c;cases c;exact⟨λi e=>absurd e (by show i∉([]:amv);simp),λc=>absurd c (by show¬(0=2);decide),(y7 b _).1,(y7 b _).2⟩
 |p::n,k,u,c=>by
  rw[bh.jx] at c;split at c
  ·cases c
  rename_i f;have f:=ar7.1 f;have q:=u p ac;have I:∀g,g∈b.rows->b.fin g->vo (b.e7 [g]):=λg r C=>⟨λi e=>by
   rw[gI.1 (show i∈[_] from e)];exact C g r,λc=>absurd c (by show¬(1=2);decide),(y7 b _).1,(y7 b _).2⟩
  split at c
  ·grind
  rename_i o;split at c
  ·grind
  rename_i d E;obtain⟨h,s⟩:=PW (R:=b.rows) (l:=b.rows) (a:=(0,br)) (v:=λw=>b.av w p) (p:=p) ac (λw D=>D) d E;split at c
  ·exact Om (λg r=>u g (gH _ r)) c
  split at c
  ·cases c
  rename_i j;have j:=ar7.1 j;split at c
  ·grind
  rename_i m;split at c
  ·grind
  rename_i t;cases c;refine⟨λi e=>?_,λ_ e=>?_,(y7 b _).1,(y7 b _).2⟩
  ·have e:i∈[b.cM p p,b.cM d p,b.cM d d]:=e;simp only[fH,xo,an1] at e;rcases e with rfl|rfl|rfl
   ·exact f p q
   ·exact f d h
   exact j d h
  obtain⟨F,x,y⟩:=Ij (f p q);obtain⟨G,H6,cR⟩:=Ij (f d h);obtain⟨H,z,A⟩:=Ij (j d h);have s:b.av d p=(b.cU p).1:=s;rw[<-s] at o m;rw[cR] at o m;rw[y] at m;rw[A] at t;exact XE (λB=>o (.inl B)) m t (XD (f p q) (f d h) (j d h) x H6 z e)
theorem TA:∀{n:X} {d f:bh} {e:bp aN},bh.run n d=Y (f,e)->∀c∈e,vo c
 |0,d,f,e,a,c,b=>by grind [bh.run]
 |n+1,d,f,e,a,c,b=>by
  match hc:d.choose with
  |none=>grind [G2]
  |some []=>
   grind [G1]
  |some (i::h)=>
   rw[Cn hc ac] at a;split at a
   case isFalse=>cases a
   cases g:bh.run n (d.elim (i::h)) with
   |none=>grind
   |some j=>
    rw[g] at a;cases a;rcases fH.1 b with rfl|b
    ·exact Om (λc b=>ve b) hc
    exact TA g c b
def qq:amu->bp aN->Prop
 |_,[]=>True
 |D,a::c=>(∀b∈a.rows,b∉D/\b∉a.a7)/\qq (D++a.a7) c
theorem qq.app:∀{D:amu} {b a:bp aN},qq D b->qq (D++b.flatMap aN.a7) a->qq D (b++a)
 |D,[],a,_,c=>by grind
 |D,e::b,a,c,d=>⟨c.1,c.2.app (by rwa[lC])⟩
theorem Tz:∀{n:X} {b i:bh} {f:bp aN} {d:amu},mu b->(∀c∈b.rows,c∉d)->bh.run n b=Y (i,f)->qq d f
 |0,b,i,f,d,_,_,a=>by rw[bh.run] at a;cases a;trivial
 |n+1,b,i,f,d,m,p,a=>by
  match hc:b.choose with
  |none=>grind [G2]
  |some []=>
   rw[G1 hc] at a;cases a;trivial
  |some (h::g)=>
   rw[Cn hc ac] at a;split at a
   case isFalse=>cases a
   cases e:bh.run n (b.elim (h::g)) with
   |none=>grind
   |some q=>
    rw[e] at a;cases a;have j:∀c∈b.rows.filter (λo=>bw (o∉h::g)),c∉d/\c∉h::g:=λc e=>ae;refine⟨j,Tz (m.elim (Dy hc)) (λc e=>?_) e⟩;obtain⟨k,l⟩:=j c e;exactλa=>(hl.1 a).elim k l
theorem Pu {d:X->X->amp} (h:∀C D,da (d C D)) {p:ez} {b:bp eS} {H:X} (k:jg p b) (j:p.length=H):∀{t:X},t<=b.length->∀{g:bp bh} {e:bp aN},kt d b t=Y (g,e)->(∀c∈e,vo c)/\qq [] e
 |0,_,g,e,a=>by rw[kt] at a;cases a;exact⟨λc n=>(by cases n),trivial⟩
 |t+1,K,g,e,a=>by
  rw[kt] at a;cases m:kt d b t with
  |none=>grind
  |some I=>
   obtain⟨q,L⟩:=I;obtain⟨i1,s⟩:=Bq h k j aa m;obtain⟨F,G⟩:=Pu h k j aa m;have i:=ki.of k j (aa:t<b.length);rw[m] at a;dsimp only[bT] at a;have z:=s.Ai h i;have A:=s.Dp i;have B:=Aj d (λf=>q.getD f im) t (l:=b);generalize jw d b (λf=>q.getD f im) t=w at*;cases o:bh.run (w.full+1) w with
   |none=>grind
   |some c=>
    rw[o] at a;cases a;refine⟨λc n=>(hl.1 n).elim (F c) (TA o c),G.app (Tz z (λM v u=>?_) o)⟩;rw[h3] at u;rw[B.1,hl] at v;have J:=gN.1 (A.mem_iff.1 (oW _ (oW _ u)));rcases v with r|r
    ·grind [ap0,aqN,aqd]
    obtain⟨E,x,y,f⟩:=yQ.1 r;have:=i.LZ E x y;omega
section
def eR (ps:bp aN) (a:X):X:=((ps.take a).flatMap aN.a7).length
def jy (ps:bp aN) (a:X):X:=((ps.take a).flatMap aN.d).length
structure hP (n:X) (ps:bp aN):Prop where
 perm:(ps.flatMap aN.a7).Perm (bK n)
 e7:∀q∈ps,xx (bK n) q
 k:∀q∈ps,vo q
 FI:qq [] ps
theorem nY {b:bp k} (c:a<b.length):b.take (a+1)=b.take a++[b[a]]:=by simp_all
theorem JN {e:Type} (c:k->bp e) {b:bp k} (d:a<b.length):((b.flatMap c).take ((b.take (a+1)).flatMap c).length).drop ((b.take a).flatMap c).length=c b[a]:=by
 have f:b.flatMap c=((b.take a).flatMap c++c b[a])++(b.drop (a+1)).flatMap c:=by
  conv=>lhs;rw[<-kC (a+1) b,n5,nY d,n5]
  simp
 grind [List.take_left,List.drop_left,nY]
theorem yp {e:Type} (b:k->bp e) {c:bp k} {j:X} (d:a<c.length) (g:j<(b c[a]).length):(c.flatMap b)[((c.take a).flatMap b).length+j]?=Y (b c[a])[j]:=by have f:=JN b d;grind
theorem qq.at {ps:bp aN} (c:qq f ps):∀{b:X} (e:b<ps.length),∀a∈ps[b].rows,a∉f++(ps.take b).flatMap aN.a7/\a∉ps[b].a7:=by
 induction ps generalizing f with
 |nil=>grind
 |cons h ps g=>
  intro b e a d;cases b with
  |zero=>simpa using c.1 a d
  |succ b=>
   have:=g c.2 (b:=b) ae a d;grind
section
variable {n:X} {ps:bp aN}
theorem wl (b:a<ps.length):eR ps (a+1)=eR ps a+ps[a].a7.length:=by grind [nY,amX,eR]
theorem OJ (b:a<ps.length):jy ps (a+1)=jy ps a+ps[a].d.length:=by grind [nY,amX,jy]
theorem Kn:eR ps ps.length=(ps.flatMap aN.a7).length:=by grind [amy,eR]
theorem OI:jy ps ps.length=(ps.flatMap aN.d).length:=by grind [amy,jy]
theorem hP.len (a:hP n ps):(ps.flatMap aN.a7).length=n:=by rw[a.perm.length_eq,oU]
def hP.ig (b:hP n ps) (c:a<ps.length):(ps[a].a7.length=1\/ps[a].a7.length=2)/\ps[a].d.length=2*ps[a].a7.length-1/\ps[a].l.length=ps[a].a7.length:=
 have:=b.e7 _ (cT c)
 ⟨this.at1,this.dl,this.len⟩
theorem hP.Qo (b:hP n ps):∀{a:X},a<=ps.length->eR ps a<=n/\a<=eR ps a/\jy ps a+a=2*eR ps a:=by
 intro a e;refine⟨?_,?_⟩
 ·have c:=b9 cE (b9 (apB aN.a7) (kC a ps));rw[n5,hM,b.len] at c;grind [eR]
 induction a with
 |zero=>exact⟨bf _,bq⟩
 |succ a d=>
  obtain⟨i1,f⟩:=d aa;obtain⟨g,h,_⟩:=b.ig (aa:a<ps.length);grind [wl,OJ]
def hP.BG (b:hP n ps) (c:a<ps.length):eR ps a+ps[a].a7.length<=n:=by rw[<-wl c];exact(b.Qo aa).1
def hP.Ot (b:hP n ps):∀{a:X},a<=ps.length->((ps.take a).flatMap aN.e0).length=eR ps a:=by
 intro a d
 induction a with
 |zero=>rfl
 |succ a c=>
  rw[nY aa,n5,hM,c aa,wl aa,<-(b.ig (aa:a<ps.length)).2.2];simp[aN.e0]
def hP.call (a:hP n ps):(ps.flatMap aN.e0).length=n:=by have:=a.Ot (bf ps.length);rw[ik,Kn,a.len] at this;omega
theorem hP.xR (c:hP n ps) (d:a<ps.length) (g:b<ps[a].a7.length):∃e∈ps[a].l,(ps.flatMap aN.e0)[eR ps a+b]?=Y (ps[a].rows,e):=by have h:=(c.ig d).2.2;have f:=yp aN.e0 d (j:=b) (by grind [cb,aN.e0]);rw[c.Ot aa] at f;grind [ca,aN.e0]
theorem hP.after (c:hP n ps) (d:a<ps.length) (e:b∈ps[a].rows):eR ps a+ps[a].a7.length<=(ps.flatMap aN.a7).idxOf b/\(ps.flatMap aN.a7).idxOf b<n:=by have g:=(c.e7 _ (cT d)).sub b e;have i:=c.perm.mem_iff.2 g;obtain⟨f,f2⟩:=c.FI.at d b e;rw[h3] at f;refine⟨?_,by rw[<-c.len];grind⟩;rw[<-wl d];have h:ps.flatMap aN.a7=(ps.take (a+1)).flatMap aN.a7++(ps.drop (a+1)).flatMap aN.a7:=(by rw[<-n5,kC]);have j:b∉(ps.take (a+1)).flatMap aN.a7:=(by grind [nY]);simp_all [List.idxOf_append,aw,eR]
theorem hP.inj (c:hP n ps) (e:a<n) (f:b<n) (h:(ps.flatMap aN.a7).idxOf a=(ps.flatMap aN.a7).idxOf b):a=b:=by have d:=c.perm.mem_iff.2 (gN.2 e);have g:=c.perm.mem_iff.2 (gN.2 f);have ar:=apF (C1.2 d);grind
theorem hP.jb (d:hP n ps) (i:a<ps.length) (c:X->Z):(gC (λg=>(ps.flatMap aN.a7).idxOf g) (ps[a].rows,c)).Pairwise (λb h=>b<h)/\∀b∈gC (λg=>(ps.flatMap aN.a7).idxOf g) (ps[a].rows,c),((eR ps a+ps[a].a7.length:X):Z)<=b/\b<(n:Z):=by
 have e:=d.e7 _ (cT i);constructor
 ·unfold gC;rw[n6];refine asw (R:=λc a=>(ps.flatMap aN.a7).idxOf c<(ps.flatMap aN.a7).idxOf a) (λ{c a} d=>Int.ofNat_lt.2 d) (Mo aoy (λc k=>by cases k) ?_);refine rQ ?_ e.nd;intro b h f o m j;exact m (d.inj (gN.1 (e.sub b f)) (gN.1 (e.sub h o)) j)
 intro b f;obtain⟨r,l,rfl⟩:=eT.1 f;obtain⟨p,q⟩:=d.after i ((CA _ _).mem_iff.1 l);grind
end
theorem WQ (b:iW->amv) {cs:bp iW} (c:a<=cs.length):(l8 b cs).getD a 0=(((cs.take a).flatMap b).length:Z):=by grind [List.getElem?_range,l8]
theorem Ob (a:iW->amv) (cs:bp iW):(l8 a cs).length=cs.length+1:=by grind [l8]
theorem Oc (b:iW->amv) {cs:bp iW} (c:a<cs.length):((cs.take (a+1)).flatMap b).length=((cs.take a).flatMap b).length+(b cs[a]).length:=by grind [nY,amX]
theorem Oa (a:iW->amv) {cs:bp iW} (b:X):((cs.take b).flatMap a).length<=(cs.flatMap a).length:=by have c:=b9 cE (b9 (apB a) (kC b cs));grind
end
section
def fX.of {o:amv} {n:X} (a:d.Perm o) (b:fX o n):fX d n:=
 ⟨a.length_eq.trans b.1,λe c=>b.2.1 e (a.mem_iff.1 c),a.nodup_iff.2 b.2.2⟩
section
variable {n:X} {ps:bp aN} {o:amv}
def hP.order (d:hP n ps) (b:fX o n):fX ((ps.flatMap aN.a7).map λa=>o.getD a 0) n:=by refine b.of ((d.perm.map _).trans ?_);have c:(bK n).map (λa=>o.getD a 0)=o:=aoJ (by rw[eL,oU,b.1]) λg f e=>(by rw[pH,List.getElem_range,k1 e]);rw[c]
structure h2 (n:X) (ps:bp aN) (F:fA):Prop where
 ok:hP n ps
 or:fX F.1 n
 He:F.2.1.length=ps.length
 ig:∀b (P1:b<ps.length),az F.2.1 (b:Z)=Y (ps[b].a7.length:Z)
 vZ:F.2.2.1=ps.flatMap aN.d
 ahp:F.2.2.2.1.length=n+1
 st:∀j,j<=n->az F.2.2.2.1 (j:Z)=Y ((((ps.flatMap aN.e0).take j).flatMap (gC λp=>(ps.flatMap aN.a7).idxOf p)).length:Z)
 jb:F.2.2.2.2.1=(ps.flatMap aN.e0).flatMap (gC λp=>(ps.flatMap aN.a7).idxOf p)
 n0:F.2.2.2.2.2.1=(ps.flatMap aN.e0).flatMap (ks λp=>(ps.flatMap aN.a7).idxOf p)
 del:0<=F.2.2.2.2.2.2.1
 sG:n<=12
def hP.YD (a:hP n ps) (e:n<=12) (f:fX o n) (del:X):h2 n ps (wd o ps (del:Z)):=by
 refine⟨a,a.order f,?_,λb c=>?_,bq,?_,λg d=>?_,bq,bq,Int.ofNat_nonneg _,e⟩
 ·show(ps.map _).length=_;rw[eL]
 ·show az (ps.map λh=>(h.a7.length:Z)) (b:Z)=_;rw[fc (by rw[eL];exact c),pH]
 ·show(l8 _ _).length=_;rw[Ob,a.call]
 show az (l8 _ _) (g:Z)=_;rw[hF (by rw[Ob,a.call];omega),WQ _ (by rw[a.call];exact d)]
variable {F:fA}
def h2.small (b:h2 n ps F):F.1.length=n/\F.2.2.2.2.1.length<=144/\F.2.2.2.2.2.1.length=F.2.2.2.2.1.length/\ps.length<=n/\F.2.2.1.length<=2*n:=by
 have f:=b.ok.call;have p:∀a∈ps.flatMap aN.e0,a.1.length<=12:=λa f=>(by obtain⟨k,m,f⟩:=aoX.1 f;obtain⟨t,_,rfl⟩:=eT.1 f;have:=(b.ok.e7 k m).nd.length_le_of_subset (b.ok.e7 k m).sub;rw[oU] at this;have:=b.sG;show k.rows.length<=12;omega);have q:∀{cs:bp iW} {d:Type} (c:iW->bp d),(∀a∈cs,(c a).length=a.1.length)->(∀a∈cs,a.1.length<=12)->(cs.flatMap c).length<=12*cs.length:=by
  intro cs d c e l
  induction cs with
  |nil=>exact bf _
  |cons a cs i=>
   have:=i (λg h=>e g (gH _ h)) (λg h=>l g (gH _ h));have:=e a ac;have:=l a ac;rw[oS,hM,iK];omega
 have r:∀{cs:bp iW} {d o:Type} (c:iW->bp d) (j:iW->bp o),(∀a,(c a).length=(j a).length)->(cs.flatMap c).length=(cs.flatMap j).length:=by
  intro cs d o c j e
  induction cs with
  |nil=>rfl
  |cons a cs i=>rw[oS,oS,hM,hM,e,i]
 have v:=q (cs:=ps.flatMap aN.e0) (gC λs=>(ps.flatMap aN.a7).idxOf s) (λa _=>by unfold gC;rw[eL,Ha]) p;have w:=b.ok.Qo (bf ps.length);have u:=b.sG;refine⟨b.or.1,by rw[b.jb];omega,?_,aa,?_⟩
 ·rw[b.n0,b.jb];exact r _ _ λa=>by unfold gC ks;rw[eL,eL]
 rw[b.vZ,<-OI];omega
structure U2 (F:fA) (k n lo:X) (L:amv):Prop where
 len:lo+L.length<=F.2.2.2.2.1.length
 get:∀t (p7:t<L.length),az F.2.2.2.2.1 ((lo+t:X):Z)=Y L[t]
 aha:(F.2.2.2.2.1.take (lo+L.length)).drop lo=L
 asc:∀t (p7:t+1<L.length),L[t]<L[t+1]
 rng:∀t (p7:t<L.length),(k:Z)<=L[t]/\L[t]<(n:Z)
def h2.xR (c:h2 n ps F) {b f:X} (g:b<ps.length) (r:f<ps[b].a7.length):∃l m,U2 F (eR ps b+ps[b].a7.length) n l m/\az F.2.2.2.1 ((eR ps b+f:X):Z)=Y (l:Z)/\az F.2.2.2.1 ((eR ps b+f+1:X):Z)=Y ((l+m.length:X):Z):=by obtain⟨o,_,h⟩:=c.ok.xR g r;obtain⟨i,h⟩:=iv.1 h;have u:=c.ok.BG g;have q:=JN (gC λa=>(ps.flatMap aN.a7).idxOf a) i;have k:=Oc (gC λa=>(ps.flatMap aN.a7).idxOf a) i;have v:=Oa (gC λa=>(ps.flatMap aN.a7).idxOf a) (cs:=ps.flatMap aN.e0) (eR ps b+f+1);obtain⟨s,t⟩:=c.ok.jb g o;have p:=λe d=>yp (gC λa=>(ps.flatMap aN.a7).idxOf a) i (j:=e) d;rw[h] at q k p;refine⟨_,gC (λa=>(ps.flatMap aN.a7).idxOf a) (ps[b].rows,o),⟨by rw[c.jb];omega,λe d=>?_,by rw[c.jb,<-k];exact q,λe d=>iw.1 s _ _ aa d aa,λe d=>t _ (cT _)⟩,c.st _ aa,by rw[c.st _ aa,k]⟩;rw[c.jb];exact gj (p e d)
end
end
section
def jZ (a:aN):Z×Z×Z:=
 if a.a7.length=2/\iF (jz a.d)<0 then(1,0,1) else if iF (aV (a.d.getD 0 0))<0 then(a.a7.length,0,0) else if iF (aV (a.d.getD 0 0))>0 then(0,0,a.a7.length) else(0,1,0)
def e1 (b:bp aN):Z×Z×Z:=((b.map λa=>(jZ a).1).sum,(b.map λa=>(jZ a).2.1).sum,(b.map λa=>(jZ a).2.2).sum)
def TS {b:bp aN} (c:a<b.length):e1 (b.take (a+1))=((e1 (b.take a)).1+(jZ b[a]).1,(e1 (b.take a)).2.1+(jZ b[a]).2.1,(e1 (b.take a)).2.2+(jZ b[a]).2.2):=by unfold e1;rw[nY c];simp only[kA,ar6,hA,tg,aqO,List.sum_nil,aoN]
section
variable {n:X} {ps:bp aN} {F:fA}
def TQ {a:aN} (b:a.a7.length=1\/a.a7.length=2):0<=(jZ a).1/\(jZ a).1<=2/\0<=(jZ a).2.1/\(jZ a).2.1<=2/\0<=(jZ a).2.2/\(jZ a).2.2<=2:=by
 unfold jZ;split
 ·decide
 split
 ·dsimp only;omega
 split
 ·dsimp only;omega
 decide
def h2.ag0 (b:h2 n ps F):∀{a:X},a<=ps.length->0<=(e1 (ps.take a)).1/\(e1 (ps.take a)).1<=2*a/\0<=(e1 (ps.take a)).2.1/\(e1 (ps.take a)).2.1<=2*a/\0<=(e1 (ps.take a)).2.2/\(e1 (ps.take a)).2.2<=2*a:=by
 intro a d
 induction a with
 |zero=>simp[e1]
 |succ a c=>
  have:=c aa;have:=TQ (b.ok.ig (aa:a<ps.length)).1;rw[TS aa];dsimp only;omega
def h2.diag (b:h2 n ps F) (c:a<ps.length):(F.2.2.1.take (jy ps (a+1))).drop (jy ps a)=ps[a].d/\jy ps (a+1)<=F.2.2.1.length/\jy ps (a+1)=jy ps a+ps[a].d.length/\az F.2.2.1 (jy ps a:Z)=Y (ps[a].d.getD 0 0):=by
 obtain⟨i,k,_⟩:=b.ok.ig c;have h:=JN aN.d c;have f:=yp aN.d c (j:=0) aa;have g:=OJ c;refine⟨by rw[b.vZ];exact h,?_,g,?_⟩
 ·have e:=b9 cE (b9 (apB aN.d) (kC (a+1) ps));rw[n5,hM] at e;rw[b.vZ];unfold jy;omega
 rw[b.vZ,k1 aa];exact gj f
theorem My {l:amv} (d:l.length=3):∃a b c,l=[a,b,c]:=by
 match l,d with
 |[a,b,c],_=>exact⟨a,b,c,bq⟩
def h2.aio (c:h2 n ps F):(∀b∈F.2.2.2.2.2.1,fM b/\bo b≠2047)/\∀b∈F.2.2.1,fM b/\bo b≠2047:=by
 constructor
 ·intro b a;rw[c.n0] at a;obtain⟨l,f,a⟩:=aoX.1 a;obtain⟨e,d,f⟩:=aoX.1 f;obtain⟨g,h,rfl⟩:=eT.1 f;obtain⟨i,j,rfl⟩:=eT.1 a;exact⟨(c.ok.k e d).Qq g h i,(c.ok.e7 e d).fin g h i ((CA _ _).mem_iff.1 j)⟩
 intro b a;rw[c.vZ] at a;obtain⟨e,d,a⟩:=aoX.1 a;exact⟨(c.ok.k e d).IQ b a,(c.ok.k e d).Bg b a⟩
def vo.two {a:aN} (p:vo a) (B:a.a7.length=2) (J:a.d.length=2*a.a7.length-1):Jl (a.d,())=Y (aE (jz a.d),())/\da (jz a.d)/\iF (jz a.d)≠0/\(¬iF (jz a.d)<0->iF (aV (a.d.getD 0 0))≠0):=by
 obtain⟨f,g,k,o⟩:=My (l:=a.d) aa;have m:=p.IQ;have n:=p.Bg;have h:=p.lj B;rw[o] at m n h|-;have z:=n f ac;have u:=n g ac;have A:=n k ac;obtain⟨j,c⟩:∃j:X,j=65536:=⟨_,bq⟩;obtain⟨F,x,M,q,ar,I,r,s⟩:=bd.mul c (bd.kG c z) (bd.kG c A) ab ab ab;obtain⟨G,H,N,e,y,f2,t,f4⟩:=bd.mul c (bd.kG c u) (bd.kG c u) ab ab ab;have v:jz [f,g,k]=Y (q+-e):=(by have:=(bd.add c ab F G.neg ab).2;rw[r,t] at this;show cZ (cK (aV f) (aV k)) (dk (cK (aV g) (aV g)))=_;rw[r,t];exact this);refine⟨afR (m f ac) (m g ac) (m k ac),pV _ _,?_,λw b=>?_⟩
 ·rw[v] at h|-;intro i;refine h (b9 Y ?_);have i:gE (q+-e)=0:=i;unfold gE at i;split at i
  ·omega
  split at i<;>omega
 have b:iF (aV f)=0:=b;rw[ar] at b;have D:x=0:=by
  have b:gE x=0:=b;unfold gE at b;split at b
  ·omega
  split at b<;>omega
 rw[D,n4] at s;have C:(0:Z)<2^j:=l0 ab;have E:q=0:=(zI.1 s).resolve_right aa;rw[y] at f2;cases f2;have L:0<=e:=(by have:0<=e*2^j:=(by rw[f4,<-Int.natAbs_mul_self' H];exact nA aa aa);exact Int.nonneg_of_mul_nonneg_left this C);rw[v,E] at w h;have K:e≠0:=λo=>h (by rw[o];rfl);refine w ?_;show gE (0+-e)<0;unfold gE;split
 ·omega
 split<;>omega
end
end
section
section
variable {n:X} {ps:bp aN} {F:fA}
def abl (a:-100000<=c) (b:c<=100000):aT c=c+1:=cG (x:=c+1) aa aa
def h2.at (b:h2 n ps F) (c:a<ps.length):aD (aD ((jy ps a:Z)+aD (2*(ps[a].a7.length:Z)))-1)=(jy ps (a+1):Z)/\(ps[a].a7.length=2->aD ((jy ps a:Z)+3)=(jy ps (a+1):Z)):=by
 obtain⟨g,h,_⟩:=b.ok.ig c;obtain⟨_,d,d3,_⟩:=b.diag c;have:=b.small.2.2.2.2;have f:=b.sG;refine⟨?_,λe=>?_⟩
 ·rw[cG (x:=2*(ps[a].a7.length:Z)) aa aa,cG (x:=(jy ps a:Z)+2*(ps[a].a7.length:Z)) aa aa,cG aa aa];omega
 rw[cG aa aa];omega
end
end
section
def aaf {n:X} (a:n<=200) (b:fX d n):I1 (d,())=Y (bt,()):=ZJ a b
section
variable {n:X} {ps:bp aN} {F:fA}
def nN (ps:bp aN) (a:X):amv:=(bK a).map λb=>(eR ps b:Z)
theorem YE (ps:bp aN) (a:X):nN ps (a+1)=nN ps a++[(eR ps a:Z)]:=by grind [am7,nN]
theorem FB (ps:bp aN) (a:X):(nN ps a).length=a:=by grind [nN]
theorem JK (c:a<b):az (nN ps b) (a:Z)=Y (eR ps a:Z):=by grind [fc,FB,nN]
theorem SA (b:h2 n ps F):AT (F,())=Y (nN ps ps.length,bt,()):=by
 obtain⟨h,o,p,cS,q⟩:=b.small;have k:=b.sG;unfold AT;refine bR.1 ?_;dsimp only;refine bJ (P:=λf=>f=.inl ((n:Z),(F.2.2.1.length:Z),nN ps ps.length,())) ?_ ?_
 ·refine bS ps.length (λa g=>g=((eR ps a:Z),(jy ps a:Z),(a:Z),nN ps a,())) rfl ?_ ?_
  ·rintro a _ c rfl;obtain⟨r,s,_⟩:=b.ok.ig c;have m:=b.ok.BG c;have e:(ps[a].a7.length:Z)=1\/(ps[a].a7.length:Z)=2:=aa;obtain⟨i,_⟩:=b.at c;have l:=b.diag c;dsimp only;rw[a8,b.He,a5 (aJ (aa:(a:Z)<(ps.length:Z))),bk aa,b.ig a c];simp only[bT];refine bC (y:=.inl ((eR ps (a+1):Z),(jy ps (a+1):Z),nN ps (a+1),())) ?_ (bA.2 bq);refine aq (y:=.inl (nN ps a,())) ?_ ?_
   ·refine aq (y:=(bu,nN ps a,())) ?_ ?_
    ·rw[a8,h,aG (aa:¬((eR ps a:Z)>=(n:Z)))];rcases e with d|d
     ·grind
     simp_all
    grind
   dsimp only;rw[fe (by grind [FB]),bT,YE,wl c,cG (x:=(eR ps a:Z)+(ps[a].a7.length:Z)) aa aa];have j:aD ((jy ps a:Z)+aD (aD (2*(ps[a].a7.length:Z))-1))=(jy ps (a+1):Z):=(by rw[cG (x:=2*(ps[a].a7.length:Z)) aa aa,cG (x:=2*(ps[a].a7.length:Z)-1) aa aa,cG aa aa];omega);grind
  rintro _ rfl;dsimp only;rw[a8,b.He,a2 (aG (aa:¬((ps.length:Z)<(ps.length:Z)))),Kn,OI,b.ok.len,<-b.vZ];grind [bA]
 rintro _ rfl;simp_all [bA,a8,a5]
theorem Xh (c:h2 n ps F):Eg (F,nN ps ps.length,())=Y (bt,()):=by
 obtain⟨s,A,B,cS,C⟩:=c.small;have t:=c.sG;unfold Eg;refine bR.1 ?_;dsimp only;have k:=c.st 0 aa;have m:=c.st n aa;refine bC (y:=.inl ()) ?_ ?_
 ·refine aq (y:=(0:Z)) (k.trans ac) ?_;rw[a5 af,a8,s,m];simp only[aM];rw[a8,c.jb,<-c.ok.call,ik,a2 ac]
 dsimp only;refine bJ (P:=λi=>i=.inl ()) ?_ (by grind [bA]);refine bS ps.length (λa f=>f=((a:Z),())) rfl ?_ ?_
 ·rintro a _ e rfl;obtain⟨D,E,_⟩:=c.ok.ig e;have u:=c.ok.BG e;dsimp only;rw[a8,FB,a5 (aJ (aa:(a:Z)<(ps.length:Z))),bk aa,JK e,c.ig a e];simp only[bT];have l:aD (aD ((eR ps a:Z)+(ps[a].a7.length:Z))-1)=((eR ps a+ps[a].a7.length-1:X):Z):=by
   grind [cG]
  rw[l];refine bJ (P:=λi=>i=.inl ()) ?_ (by grind [bA]);refine bS ps[a].a7.length (λh f=>f=(((eR ps a+h:X):Z),())) rfl ?_ ?_
  ·rintro h _ r rfl;obtain⟨w,d,g,o,p⟩:=c.xR e r;have q:=g.len;dsimp only;rw[a5 (aJ (aa:((eR ps a+h:X):Z)<=((eR ps a+ps[a].a7.length-1:X):Z))),bk aa,o,p];simp only[bT];refine bC (y:=.inl ()) ?_ (bA.2 bq);refine aq (y:=.inl ()) ?_ ?_
   ·rw[a5 ae,a8,a2 (aG aa)]
   dsimp only;refine aq (ahg aa q) ?_;dsimp only;rw[g.aha];refine aq (y:=.inl ()) ?_ bq;refine bR.1 ?_;refine bS d.length (λb f=>f=((if b=0 then((eR ps a+ps[a].a7.length-1:X):Z) else d.getD (b-1) 0),(b:Z),())) rfl ?_ ?_
   ·rintro b _ j rfl;obtain⟨x,z⟩:=g.rng b j;dsimp only;rw[a8,a5 (aJ (aa:(b:Z)<(d.length:Z))),bk aa,fc j];simp only[bT];refine bC (y:=.inl (d[b],())) ?_ ?_
    ·refine aq (y:=.inl ()) ?_ bq;have v:(if b=0 then((eR ps a+ps[a].a7.length-1:X):Z) else d.getD (b-1) 0)<d[b]:=by
      split
      ·omega
      have:=g.asc (b-1) aa;grind
     grind
    simp_all [bA,aw,Nat.succ_ne_zero,aqv,k1]
   rintro _ rfl;dsimp only;rw[a8,a2 (aG (aa:¬((d.length:Z)<(d.length:Z))))];grind [bA]
  rintro _ rfl;dsimp only;rw[a2 (aG (aa:¬((eR ps a+ps[a].a7.length:X):Z)<=((eR ps a+ps[a].a7.length-1:X):Z)))];grind [bA]
 rintro _ rfl;dsimp only;rw[a8,FB,a2 (aG (aa:¬((ps.length:Z)<(ps.length:Z))))];grind [bA]
def jn (b:aN):bp gG:=b.d.map λa=>aE (aV a)
theorem Jr (b:h2 n ps F):x2 (F,())=Y (ps.map jn,()):=by
 obtain⟨t,u,v,cS,w⟩:=b.small;have s:=b.sG;unfold x2;refine bR.1 ?_;dsimp only;refine bJ (P:=λf=>f=(ps.map jn,())) ?_ (by grind [bA]);refine bS ps.length (λa g=>g=((jy ps a:Z),(a:Z),(ps.take a).map jn,())) rfl ?_ ?_
 ·rintro a _ e rfl;obtain⟨z,A,_⟩:=b.ok.ig e;obtain⟨p,q,d3,r⟩:=b.diag e;have m:=(b.ok.k _ (ca e)).IQ;dsimp only;rw[a8,b.He,a5 (aJ (aa:(a:Z)<(ps.length:Z))),bk aa,b.ig a e];simp only[bT];have l:aD (aD (2*(ps[a].a7.length:Z))-1)=(ps[a].d.length:Z):=by
   rw[cG (x:=2*(ps[a].a7.length:Z)) aa aa,cG aa aa];omega
  rw[l];refine bJ (P:=λf=>f=((jy ps (a+1):Z),(ps.take a).map jn,jn ps[a],())) ?_ ?_
  ·refine bS ps[a].d.length (λc g=>g=(((jy ps a+c:X):Z),(c:Z),(ps.take a).map jn,(ps[a].d.take c).map (λi=>aE (aV i)),())) rfl ?_ ?_
   ·rintro c _ h rfl;have o:=yp aN.d e (j:=c) h;dsimp only;rw[a5 (aJ (aa:(c:Z)<(ps[a].d.length:Z))),bk aa,bk aa];refine bC (y:=ps[a].d[c]) (by rw[b.vZ];exact gj o) ?_;refine bC (oz (m _ (ca h))) ?_;dsimp only;rw[fe ae,bT];grind [nY,bA]
   rintro _ rfl;dsimp only;rw[a2 (aG (aa:¬((ps[a].d.length:Z)<(ps[a].d.length:Z)))),amy,<-d3];exact bA.2 bq
  rintro _ rfl;dsimp only;rw[fe ae,bT];grind [nY,bA]
 rintro _ rfl;dsimp only;rw[a8,b.He,a2 (aG (aa:¬((ps.length:Z)<(ps.length:Z)))),amy];grind [bA]
end
end
section
section
variable {n:X} {ps:bp aN} {F:fA}
theorem Kv {a:aN} (b:a.d.length=3):vP (jn a,())=Y (aE (jz a.d),()):=by grind [OU,My,jn]
theorem Ku (a:h2 n ps F):vO (F,())=Y (0,()):=by
 obtain⟨t,B,u,cS,C⟩:=a.small;obtain⟨v1,fy⟩:=a.aio;have z:=a.sG;have A:=a.del;unfold vO;refine bR.1 ?_;dsimp only;refine bC (y:=.inl ()) ?_ ?_
 ·rw[a8,t,a2 (aG (aa:¬((n:Z)>200)))];refine aq (aaf aa a.or) ?_;dsimp only;rw[a2 af,a8,a.ahp,bk aa,a5 ac,a8,a8,u,a2 ac]
 dsimp only;refine bC (SA a) ?_;dsimp only;refine bC (y:=.inl ()) ?_ ?_
 ·rw[a5 af,a5 ae];refine aq (Xh a) ?_;grind
 dsimp only;refine bJ (P:=λe=>e=.inl ()) ?_ ?_
 ·have m:∀b∈[F.2.2.2.2.2.1,F.2.2.1],b.length<=1000/\∀o∈b,fM o/\bo o≠2047:=λb m=>by
   grind
  refine bS 2 (λg f=>f=((g:Z),[F.2.2.2.2.2.1,F.2.2.1],())) rfl ?_ ?_
  ·rintro g _ r rfl;have l:g<([F.2.2.2.2.2.1,F.2.2.1]:ez).length:=r;obtain⟨aB,s⟩:=m _ (ca l);dsimp only;rw[a8,show(([F.2.2.2.2.2.1,F.2.2.1]:ez).length:Z)=2 from rfl,a5 (aJ (aa:(g:Z)<2)),bk aa,ky l];generalize([F.2.2.2.2.2.1,F.2.2.1]:ez)[g]=b at*;refine bJ (P:=λe=>e=.inl ([F.2.2.2.2.2.1,F.2.2.1],())) ?_ (by grind [bA]);refine bS b.length (λh f=>f=((h:Z),[F.2.2.2.2.2.1,F.2.2.1],())) rfl ?_ ?_
   ·rintro h _ j rfl;obtain⟨v,w⟩:=s _ (ca j);dsimp only;rw[a8,a5 (aJ (aa:(h:Z)<(b.length:Z))),bk aa];refine bC (fc j) (bC (BC v) ?_);dsimp only;rw[aG w,a2 af];grind [bA]
   rintro _ rfl;dsimp only;rw[a8,a2 (aG (aa:¬((b.length:Z)<(b.length:Z))))];grind [bA]
  grind [bA]
 rintro _ rfl;dsimp only;refine bC (Jr a) ?_;dsimp only;refine bJ (P:=λe=>e=.inl ()) ?_ (by grind [bA]);refine bS ps.length (λc f=>f=((c:Z),ps.map jn,())) rfl ?_ ?_
 ·rintro c _ i rfl;obtain⟨H,x,_⟩:=a.ok.ig i;dsimp only;rw[a8,cb,a5 (aJ (aa:(c:Z)<(ps.length:Z))),bk aa,ky ae,List.getElem_map];refine bC (y:=.inl (ps.map jn,())) ?_ (bA.2 bq);have q:au (jn ps[c])=(ps[c].d.length:Z):=(by grind [cb,a8,jn]);rw[q,gV];by_cases p:ps[c].a7.length=2
  ·obtain⟨D,E,G,_⟩:=(a.ok.k _ (cT i)).two p x;simp_all [gV,a2,aG,aq,Kv,nM,aJ,a5]
  grind
 rintro _ rfl;dsimp only;rw[a8,cb,a2 (aG (aa:¬((ps.length:Z)<(ps.length:Z))))];grind [bA]
theorem Z3 (b:h2 n ps F):Ee (F,())=Y (((e1 ps).1,(e1 ps).2.1,(e1 ps).2.2,()),0,()):=by
 obtain⟨w,x,z,cS,A⟩:=b.small;have u:=b.sG;unfold Ee;refine bR.1 ?_;refine bC (Ku b) ?_;dsimp only;rw[a2 af];refine bC (Jr b) ?_;dsimp only;refine bJ (P:=λp=>p=(((0:Z),(0:Z),(0:Z),()),((e1 ps).1,(e1 ps).2.1,(e1 ps).2.2,()),())) ?_ (by grind [bA]);refine bS ps.length (λa q=>q=((a:Z),((0:Z),(0:Z),(0:Z),()),((e1 (ps.take a)).1,(e1 (ps.take a)).2.1,(e1 (ps.take a)).2.2,()),ps.map jn,())) rfl ?_ ?_
 ·rintro a _ e rfl;obtain⟨t,i,_⟩:=b.ok.ig e;have v:=b.ag0 (aa:a<=ps.length);have o:=TS e;have m:au (jn ps[a])=(ps[a].d.length:Z):=(by grind [cb,a8,jn]);have l:az (jn ps[a]) 0=Y (aE (aV (ps[a].d.getD 0 0))):=by
   grind [k1,fc,cb,trans,jn]
  dsimp only;rw[a8,cb,a5 (aJ (aa:(a:Z)<(ps.length:Z))),bk aa,ky ae,List.getElem_map];refine bC (y:=(((0:Z),(0:Z),(0:Z),()),((e1 (ps.take (a+1))).1,(e1 (ps.take (a+1))).2.1,(e1 (ps.take (a+1))).2.2,()),ps.map jn,())) ?_ (bA.2 bq);refine aq l (aq (nM (kL _)) ?_);dsimp only;rw[m,gV,o];unfold jZ;by_cases h:ps[a].a7.length=2/\iF (jz ps[a].d)<0
  ·obtain⟨r,j,s,_⟩:=(b.ok.k _ (cT e)).two h.1 i;refine aq (y:=.inr (((0:Z),(0:Z),(0:Z),()),((e1 (ps.take a)).1+1,(e1 (ps.take a)).2.1,(e1 (ps.take a)).2.2+1,()),ps.map jn,())) ?_ ?_
   ·rw[aJ (aa:((ps[a].d.length:X):Z)=3),bI];refine aq (Kv aa) (aq (nM j) ?_);dsimp only;rw[a5 (aJ h.2),abl aa aa,cG aa aa]
   grind
  refine aq (y:=.inl ((ps[a].a7.length:Z),((0:Z),(0:Z),(0:Z),()),((e1 (ps.take a)).1,(e1 (ps.take a)).2.1,(e1 (ps.take a)).2.2,()),ps.map jn,())) ?_ ?_
  ·by_cases c:ps[a].a7.length=2
   ·obtain⟨r,j,s,_⟩:=(b.ok.k _ (cT e)).two c i;simp_all [a2,aG,aq,Kv,nM,aJ,bI]
   grind
  dsimp only;rw[b6 h];by_cases f:iF (aV (ps[a].d.getD 0 0))<0
  ·rw[aJ f,bI,ay f];grind [cG]
  rw[aG f,bQ,aw f];by_cases g:iF (aV (ps[a].d.getD 0 0))>0
  ·rw[aJ g,bI,ay g];grind [cG]
  rw[aG g,bQ,aw g];have ar:ps[a].a7.length=1:=by
   rcases t with c|c
   ·exact c
   obtain⟨_,_,_,B⟩:=(b.ok.k _ (cT e)).two c i;omega
  grind [cG]
 rintro _ rfl;dsimp only;rw[a8,cb,a2 (aG (aa:¬((ps.length:Z)<(ps.length:Z)))),amy];grind [bA]
end
end
section
def gD {α:Type} (m n:X) (E:X->X->α):bp (bp α):=aA m λi=>aA n (E i)
def iU {α:Type} (E:X->X->α) (i j:X) (c:α):X->X->α:=λa b=>if a=i/\b=j then c else E a b
section
variable {α:Type} {m n:X} {E:X->X->α} {i j:X}
theorem lw:(gD m n E).length=m:=cI _ _
def Cm {c:X->X->α} (d:∀a,a<m->∀b,b<n->E a b=c a b):gD m n E=gD m n c:=db λa e=>db λb f=>d a e b f
def GZ (a:i<m):bn (gD m n E).length (i:Z)=Y i:=by rw[lw];exact e4 a
def wS (b:i<m) (c:j<n):((be (gD m n E) i λa=>Y a).bind λa=>bn a.length (j:Z))=Y j:=by unfold gD;rw[gP (gu b),aM,cI,e4 c]
def G0 (k:i<m) (l:j<n) (f:α):(be (gD m n E) i λe=>(be e j λ_=>Y (e.set j f)).map λo=>(gD m n E).set i o)=Y (gD m n (iU E i j f)):=by
 unfold gD;rw[gP (gu k),gP (gu l),jT];congr 1;rw[hq,hq];refine db λg p=>?_;by_cases a:g=i
 ·subst a;rw[gw];refine db λd h=>?_;by_cases b:d=j
  ·subst b;rw[gw];exact(ay ⟨bq,bq⟩).symm
  rw[gS _ _ b];exact(aw (λc=>b c.2)).symm
 rw[gS _ _ a];refine db λd h=>?_;exact(aw (λc=>a c.1)).symm
def sP (a:i<m):az (gD m n E) (i:Z)=Y (aA n (E i)):=gj (gu a)
end
def fI (ps:bp aN) (a j:X):amp:=if a=j then jD 1 else match(ps.flatMap aN.e0)[j]? with
 |some b=>if(ps.flatMap aN.a7).getD a 0∈b.1 then aV (b.2 ((ps.flatMap aN.a7).getD a 0)) else Y 0
 |none=>Y 0
def m2 (ps:bp aN):X->X->X->amp
 |0=>λ_ _=>Y 0
 |b+1=>match ps[b]? with
  |some a=>if a.a7.length=2 then iU (iU (iU (iU (m2 ps b) (eR ps b) (eR ps b) (aV (a.d.getD 0 0))) (eR ps b+1) (eR ps b) (aV (a.d.getD 1 0))) (eR ps b) (eR ps b+1) (aV (a.d.getD 1 0))) (eR ps b+1) (eR ps b+1) (aV (a.d.getD 2 0))
   else iU (m2 ps b) (eR ps b) (eR ps b) (aV (a.d.getD 0 0))
  |none=>m2 ps b
section
variable {n:X} {ps:bp aN} {F:fA}
def M2 (ps:bp aN) (j b a:X):gG:=if a<j then aE (fI ps b a) else if b=a then aE (jD 1) else tV
theorem hP.getD (c:hP n ps) {a:X} (e:a<n):(ps.flatMap aN.a7).getD ((ps.flatMap aN.a7).idxOf a) 0=a:=by have d:=c.perm.mem_iff.2 (gN.2 e);have b:=C1.2 d;rw[ji,cH b,apF b];rfl
def hP.idx (b:hP n ps) (e:a<n):(ps.flatMap aN.a7).idxOf ((ps.flatMap aN.a7).getD a 0)=a:=by have c:a<(ps.flatMap aN.a7).length:=(by rw[b.len];exact e);have f:=b.perm.nodup_iff.2 rU;rw[ji,cH c,xw];have d:=C1.2 (cT c);exact(vd f).1 (apF d)
end
end
section
section
variable {n:X} {ps:bp aN} {F:fA}
def hP.eO (f:hP n ps) (i:a<n):∃b c,∃d:b<ps.length,c<ps[b].a7.length/\a=eR ps b+c:=by
 have k:∀b,b<=ps.length->a<eR ps b->∃b c,∃d:b<ps.length,c<ps[b].a7.length/\a=eR ps b+c:=by
  intro b
  induction b with
  |zero=>intro _ g;exact absurd g (by unfold eR;simp)
  |succ b j=>
   intro d h;by_cases e:a<eR ps b
   ·exact j aa e
   rw[wl aa] at h;exact⟨b,a-eR ps b,aa,aa,aa⟩
 exact k ps.length (bf _) (by rw[Kn,f.len];exact i)
structure U1 (n:X) (ps:bp aN) (F:fA) (j:X) (c:iW) (lo:X) (S:amu):Prop where
 cs:(ps.flatMap aN.e0)[j]?=Y c
 TG:az F.2.2.2.1 (j:Z)=Y (lo:Z)
 s1:az F.2.2.2.1 ((j+1:X):Z)=Y ((lo+S.length:X):Z)
 jb:∀t (p7:t<S.length),az F.2.2.2.2.1 ((lo+t:X):Z)=Y ((ps.flatMap aN.a7).idxOf S[t]:Z)/\az F.2.2.2.2.2.1 ((lo+t:X):Z)=Y (c.2 S[t])
 mem:∀r,r∈S↔r∈c.1
 nd:S.Nodup
 row:∀r∈c.1,j<(ps.flatMap aN.a7).idxOf r/\(ps.flatMap aN.a7).idxOf r<n/\r<n/\fM (c.2 r)/\bo (c.2 r)≠2047
 le:lo+S.length<=144
def h2.WZ (c:h2 n ps F) (A:a<n):∃q G w,U1 n ps F a q G w:=by
 obtain⟨d,C,g,z,rfl⟩:=c.ok.eO A;obtain⟨f,r,s⟩:=c.ok.xR g z;obtain⟨l,y⟩:=iv.1 s;have m:=Oc (gC λb=>(ps.flatMap aN.a7).idxOf b) l;have J:=Oa (gC λb=>(ps.flatMap aN.a7).idxOf b) (cs:=ps.flatMap aN.e0) (eR ps d+C+1);have u:=λe h=>yp (gC λb=>(ps.flatMap aN.a7).idxOf b) l (j:=e) h;have v:=λe h=>yp (ks λb=>(ps.flatMap aN.a7).idxOf b) l (j:=e) h;rw[y] at m u v;have o:=c.ok.e7 _ (cT g);have B:=c.small;have t:(gC (λb=>(ps.flatMap aN.a7).idxOf b) (ps[d].rows,f)).length=(rF (λb=>(ps.flatMap aN.a7).idxOf b) ps[d].rows).length:=(by unfold gC;rw[eL]);have I:(ks (λb=>(ps.flatMap aN.a7).idxOf b) (ps[d].rows,f)).length=(rF (λb=>(ps.flatMap aN.a7).idxOf b) ps[d].rows).length:=(by unfold ks;rw[eL]);have E:∀cs:bp iW,(cs.flatMap (ks λb=>(ps.flatMap aN.a7).idxOf b)).length=(cs.flatMap (gC λb=>(ps.flatMap aN.a7).idxOf b)).length:=by
  intro cs
  induction cs with
  |nil=>rfl
  |cons q cs D=>
   rw[oS,oS,hM,hM,D];congr 1;unfold ks gC;rw[eL,eL]
 refine⟨(ps[d].rows,f),_,rF (λb=>(ps.flatMap aN.a7).idxOf b) ps[d].rows,s,c.st _ aa,?_,λe h=>⟨?_,?_⟩,λi=>(CA _ _).mem_iff,(CA _ _).nodup_iff.2 o.nd,λi p=>?_,?_⟩
 ·rw[c.st _ aa,m,t]
 ·rw[c.jb];refine(gj (u e aa)).trans ?_;unfold gC;rw[pH]
 ·rw[c.n0,<-E];refine(gj (v e aa)).trans ?_;unfold ks;rw[pH]
 ·obtain⟨H,x⟩:=c.ok.after g p;exact⟨aa,x,gN.1 (o.sub i p),(c.ok.k _ (cT g)).Qq f r i,o.fin f r i p⟩
 rw[<-t,<-m];rw[c.jb] at B;omega
end
end
section
def sL (n a:X):amu:=amP (a-1) (min n (a+2)-(a-1))
def Cb (ps:bp aN) (n b c:X) (a:X×X):amp:=cK (cK (fI ps b a.1) (m2 ps ps.length a.1 a.2)) (fI ps c a.2)
def nT (n b:X):amw:=(bK b).flatMap λa=>(sL n a).map λc=>(a,c)
def np (ps:bp aN) (n a b:X):amp:=sW ((nT n n).map (Cb ps n a b))
def SG (n a:X):nT n (a+1)=nT n a++(sL n a).map λb=>(a,b):=by unfold nT;rw[kj,n5];simp
def SF (n:X):∀m,(nT n m).length<=3*m
 |0=>bf _
 |m+1=>by have:=SF n m;rw[SG,hM,eL];have:(sL n m).length<=3:=(by unfold sL;rw[ar3];omega);omega
section
variable {n:X} {ps:bp aN} {F:fA}
end
end
def w2 (c d d3:Rat) (e b:X->Rat):bp (Rat×(X->Rat)):=
 if c=0 then[(1/4,λa=>d3*b a+(2*d*e a+1*b a)),(-(1/4),λa=>d3*b a+(2*d*e a+-1*b a))]
 else[(c,λa=>e a+d/c*b a),((c*d3-d*d)/c,b)]
def ln (a:X->X->Rat):amu->bp Rat->X->bp (Rat×(X->Rat))
 |1::b,d::ds,k=>(d,a k)::ln a b ds (k+1)
 |2::b,d1::d2::d3::ds,k=>w2 d1 d2 d3 (a k) (a (k+1))++ln a b ds (k+2)
 |_,_,_=>[]
def za (a:X->Rat):amu->bp Rat->X->Rat
 |1::b,d::ds,k=>d*(a k*a k)+za a b ds (k+1)
 |2::b,d1::d2::d3::ds,k=>(d1*(a k*a k)+2*d2*(a k*a (k+1))+d3*(a (k+1)*a (k+1)))+za a b ds (k+2)
 |_,_,_=>0
inductive u0 (n:X):amu->bp Rat->X->Prop
 |nil:u0 n [] [] n
 |one {CB:amu} {ds:bp Rat} {d:Rat} {k:X} (h:u0 n CB ds (k+1)):u0 n (1::CB) (d::ds) k
 |two {CB:amu} {ds:bp Rat} {d1 d2 d3:Rat} {k:X} (ai0:d1*d3-d2*d2≠0) (h:u0 n CB ds (k+2)):u0 n (2::CB) (d1::d2::d3::ds) k
def nW:amu->bp Rat->X×X
 |1::b,d::ds=>let a:=nW b ds;if 0<d then(a.1+1,a.2) else if d<0 then(a.1,a.2+1) else a
 |2::b,d1::d2::d3::ds=>let a:=nW b ds;if d1*d3-d2*d2<0 then(a.1+1,a.2+1) else if 0<d1 then(a.1+2,a.2) else(a.1,a.2+2)
 |_,_=>(0,0)
def rj (a:bp (Rat×(X->Rat))):X:=(a.filter λb=>bw (b.1<0)).length
def LP (a:Rat×(X->Rat)) (b:bp (Rat×(X->Rat))):rr (a::b)=(if 0<a.1 then 1 else 0)+rr b:=by
 unfold rr;rw[nD];by_cases c:0<a.1
 ·simp[c];omega
 simp[c]
def K8 (a:Rat×(X->Rat)) (b:bp (Rat×(X->Rat))):rj (a::b)=(if a.1<0 then 1 else 0)+rj b:=by
 unfold rj;rw[nD];by_cases c:a.1<0
 ·simp[c];omega
 simp[c]
theorem Cu {s d c:Rat} (f:s*d=c) (g:c≠0):(0<d->(0<s↔0<c)/\(s<0↔c<0))/\(d<0->(0<s↔c<0)/\(s<0↔0<c)):=by
 have h:s≠0:=λe=>g (by rw[<-f,e];grind);have a:0<s\/0< -s:=ae;constructor
 ·intro b;rcases a with a|a
  ·have:=kU a b;grind
  have:=kU a b;grind
 intro b;have b:0< -d:=ae;rcases a with a|a
 ·have:=kU a b;grind
 have:=kU a b;grind
theorem ah3 {b a d3:Rat} (q:b*d3-a*a≠0) (f e:X->Rat) (d:X) (k:bp (Rat×(X->Rat))):(w2 b a d3 f e).length=2/\(∀c,iE d c (w2 b a d3 f e++k)=(b*(lf f c d*lf f c d)+2*a*(lf f c d*lf e c d)+d3*(lf e c d*lf e c d))+iE d c k)/\(∀c,(∀A∈w2 b a d3 f e,lf A.2 c d=0)->lf f c d=0/\lf e c d=0)/\rr (w2 b a d3 f e++k)=(if b*d3-a*a<0 then 1 else if 0<b then 2 else 0)+rr k/\rj (w2 b a d3 f e++k)=(if b*d3-a*a<0 then 1 else if 0<b then 0 else 2)+rj k:=by
 unfold w2;by_cases s:b=0
 ·subst s;have x:a≠0:=λh=>q (by rw[h];grind);have C:=oG a;have u:(0:Rat)*d3-a*a<0:=ae;rw[ay bq,ay u,ay u];have w:∀(i:Rat) c,lf (λg=>d3*e g+(2*a*f g+i*e g)) c d=d3*lf e c d+(2*a*lf f c d+i*lf e c d):=λi c=>by
   have:(λg=>d3*e g+(2*a*f g+i*e g))=λg=>((λg=>(λ_=>(0:Rat)) g+(2*a)*f g) g)+(d3+i)*e g:=(by funext g;grind);rw[this,BI,BI];have:∀p,lf (λ_=>(0:Rat)) c p=0:=λp=>by
    induction p with
    |zero=>rfl
    |succ p y=>rw[lf,y];grind
   rw[this];grind
  refine⟨bq,λc=>?_,λc m=>?_,?_,?_⟩
  ·simp only[kR,h3,iE,w];grind
  ·have n:=m _ (jQ ..);have o:=m _ (gH _ (jQ ..));rw[w] at n o;have v:lf e c d=0:=ae;rw[v] at n;have z:a*lf f c d=0:=ae;exact⟨(tm.1 z).resolve_left x,v⟩
  ·simp only[kR,h3,LP];rw[ay ae,aw ae];omega
  simp only[kR,h3,K8];rw[aw ae,ay ae];omega
 rw[aw s];have t:(b*d3-a*a)/b*b=b*d3-a*a:=ae;refine⟨bq,λc=>?_,λc m=>?_,?_,?_⟩
 ·simp only[kR,h3,iE,BI];generalize lf f c d=D;generalize lf e c d=E;grind
 ·have n:=m _ (aop ..);have o:=m _ (an2 _ (aop ..));rw[BI] at n;dsimp only at o;rw[o] at n;exact⟨ae,o⟩
 ·have l:=Cu t q;simp only[kR,h3,LP];generalize b*d3-a*a=i at*;generalize i/b=B at*;have r:0<b\/b<0:=ae;rcases r with h|h
  ·have:=l.1 h;rw[ay h];by_cases j:i<0
   ·rw[ay j,aw ae];omega
   rw[aw j,ay h,ay ae];omega
  have:=l.2 h;rw[aw (ae:¬0<b)];by_cases j:i<0
  ·rw[ay j,ay ae];omega
  rw[aw j,aw (ae:¬0<b),aw ae];omega
 have l:=Cu t q;simp only[kR,h3,K8];generalize b*d3-a*a=i at*;generalize i/b=B at*;have r:0<b\/b<0:=ae;rcases r with h|h
 ·have:=l.1 h;rw[aw (ae:¬b<0)];by_cases j:i<0
  ·rw[ay j,ay ae];omega
  rw[aw j,ay h,aw ae];omega
 have:=l.2 h;rw[ay h];by_cases j:i<0
 ·rw[ay j,aw ae];omega
 rw[aw j,aw (ae:¬0<b),ay ae];omega
def Z7 (e:X->X->Rat) {n:X} {d:bp Rat} (p:u0 n f d a):a<=n/\(ln e f d a).length=n-a/\(∀b,iE n b (ln e f d a)=za (λc=>lf (e c) b n) f d a)/\(∀b,(∀i∈ln e f d a,lf i.2 b n=0)->∀c,a<=c->c<n->lf (e c) b n=0)/\rr (ln e f d a)=(nW f d).1/\rj (ln e f d a)=(nW f d).2:=by
 induction p with
 |nil=>exact⟨bf _,by simp[ln],λb=>rfl,λb _ c q l=>absurd q aa,bq,bq⟩
 |@one f d m a p w=>
  obtain⟨i1,r,s,t,u,v⟩:=w;refine⟨aa,by rw[ln,iK,r];omega,λb=>by rw[ln,iE,s,za],λb h c q l=>?_,?_,?_⟩
  ·rw[ln] at h;by_cases o:c=a
   ·subst o;exact h _ (jQ ..)
   exact t b (λi j=>h i (gH _ j)) c aa l
  ·rw[ln,LP,u,nW];by_cases g:0<m
   ·rw[cc g,cc g];dsimp only;omega
   rw[b6 g,b6 g];split<;>(first|omega|(dsimp only;omega))
  rw[ln,K8,v,nW];by_cases g:0<m
  ·rw[cc g,b6 ae];dsimp only;omega
  rw[aw g];by_cases k:m<0
  ·rw[cc k,cc k];dsimp only;omega
  rw[b6 k,b6 k];first|omega|(dsimp only;omega)
 |@two f d F G d3 a z p w=>
  obtain⟨i1,r,s,t,u,v⟩:=w;obtain⟨A,B,C,D,E⟩:=ah3 z (e a) (e (a+1)) n (ln e f d (a+2));refine⟨aa,by rw[ln,hM,A,r];omega,λb=>by rw[ln,B,s,za],λb h c q l=>?_,?_,?_⟩
  ·rw[ln] at h;obtain⟨ar,x⟩:=C b λi j=>h i (oW _ j);by_cases o:c=a
   ·subst o;exact ar
   by_cases y:c=a+1
   ·subst y;exact x
   exact t b (λi j=>h i (kB _ j)) c aa l
  ·rw[ln,D,u,nW];split
   ·dsimp only;omega
   split<;>(dsimp only;omega)
  rw[ln,E,v,nW];split
  ·dsimp only;omega
  split<;>(dsimp only;omega)
theorem aid {c:X->X->Rat} (q:∀f,f<a->c f f=1) (p:∀f b,b<f->f<a->c f b=0) (h:X->Rat) (u:∀f,f<a->lf (c f) h a=0):∀b,b<a->h b=0:=by
 suffices t:∀i b,b+i=a->∀d,b<=d->d<a->h d=0 fromλb j=>t (a-b) b aa b (bf _) j;intro i
 induction i with
 |zero=>intro b j d r g;omega
 |succ i v=>
  intro b j d r g;have l:=v (b+1) aa;by_cases n:d=b
  ·subst n;have m:=u d g;have s:∀e,e<=a->lf (c d) h e=if d<e then h d else 0:=λe=>by
    induction e with
    |zero=>intro _;rfl
    |succ e w=>
     intro x;rw[lf,w aa];by_cases k:d<e
     ·rw[ay k,ay aa,l e aa aa];grind
     rw[aw k];by_cases o:e=d
     ·subst o;rw[ay aa,q e g];grind
     rw[aw aa,p d e aa g];grind
   rw[s a (bf _),ay g] at m;exact m
  exact l d aa g
def jY (a:Z×Z):Rat:=(a.1:Rat)/(a.2:Rat)
def S3 (b:c≠0):(c:Rat)≠0:=λa=>b (aqP.1 (a.trans af))
section
theorem Ma {n:X} {E:X->X->k} (e:a<i) (f:b<n):(be (gD i n E) a λc=>be c b λd=>Y d)=Y (E a b):=by simp_all [gP,gu,gD]
section
variable {n:X} {T:X->X->Z×Z} {S l:amu} {p q B C:X}
end
end
theorem GM {p:Z×Z} (l:0<p.2):(jY p<0↔p.1<0)/\(0<jY p↔0<p.1)/\(jY p=0↔p.1=0):=by
 have m:(0:Rat)<(p.2:Rat):=zX.2 l;have f:jY p*(p.2:Rat)=(p.1:Rat):=(by unfold jY;grind);have j:(p.1:Rat)<0↔p.1<0:=(by have:=aqQ (a:=p.1) (b:=0);simpa using this);have k:(0:Rat)<(p.1:Rat)↔0<p.1:=zX;have g:(p.1:Rat)=0↔p.1=0:=(by have:=aqP (a:=p.1) (b:=0);simpa using this);by_cases d:p.1=0
 ·have e:=g.2 d;rw[e] at f;have:jY p=0:=(tm.1 f).resolve_right ae;rw[this,d];exact⟨ac,ac,ac⟩
 have e:(p.1:Rat)≠0:=λc=>d (g.1 c);obtain⟨h,i⟩:=(Cu f e).1 m;refine⟨i.trans j,h.trans k,λc=>?_,λc=>absurd c d⟩;rw[c] at f;exact absurd ae e
theorem Md {k:X} {v:Z} (c:gb (v*2^k)):wT (Y v) (k:Z)=Y (v*2^k):=by
 show(if v=0 then Y 0 else gQ (cO v) (eD v+(k:Z)))=Y (v*2^k);by_cases a:v=0
 ·rw[ay a,a,n4]
 rw[aw a];have b:(eD v+(k:Z)+65536).toNat=cV v.natAbs+k:=(by grind [eD]);rw[BT (v:=v*2^k) (by grind [eD]) (by rw[b,oA,<-ju,oy])];simp_all [ay,nb]
end Go.j5
end
