/- root.Read. | Shapes as data. -/
import Derived.Test.YtcgpjceopnfahaaGreatWorldChecksK34
import Derived.Test.YtcgpjceopnfahaaGreatWorldChecksK02
set_option linter.unusedSimpArgs false
set_option linter.unusedVariables false
set_option maxHeartbeats 4000000
set_option maxRecDepth 100000
namespace Go.Proofs.YtcgpjceopnfahaaGreat
open Go.RowKit
theorem unP_le (b:List UInt8):(unP b).length≤2*b.length:=by
 unfold unP
 split
 ·simp
 ·rw [List.length_drop,halves_len];omega
theorem RowOf.offB {α:Type}{f:α→List Value}{size:Nat}{w w':World}{a:Option Addr}{n c g:Nat}{l:List α}(h:RowOf f size w (.slice a n c) l)(hg:w.grownBy w' (some g))(hne:∀ x,(Value.slice a n c).ownBlock=some x→x≠g):RowOf f size w' (.slice a n c) l:=by
 cases a with
 | none =>
  obtain ⟨h0,a,c',hv,h1,h2,h3⟩:=h
  simp only [Value.slice.injEq] at hv
  obtain ⟨rfl,hn,rfl⟩:=hv
  refine ⟨h0,none,_,by rw [hn],h1,h2,.inl ?_⟩
  rcases h3 with h3|⟨_,_,_,he,_⟩
  ·exact h3
  ·simp at he
 | some p =>
  obtain ⟨b,off,s⟩:=p
  exact h.grownNe hg (hne b rfl)
theorem Texts.offB {w w':World}{a:Option Addr}{n c g:Nat}{ps:List (Value × List UInt8)}{e:TypeId}{cs:List Value}(h:Texts w (.slice a n c) ps)(hz:Blk e w g cs)(hno:∀ u∈cs,∀ k,u≠.int .u8 k)(hg:w.grownBy w' (some g))(hne:∀ x,(Value.slice a n c).ownBlock=some x→x≠g):Texts w' (.slice a n c) ps :=
 ⟨RowOf.offB h.1 hg hne,fun p hp=>Bytes.off_v (h.2 p hp) hz hno hg⟩
theorem kid_le {ts:List (List UInt8)}{t:List UInt8}(h:t∈ts):t.length≤(encP (.lst (ts.map .txt))).length:=by
 have h1:=txt_le t
 have h2:=encPL_mem (List.mem_map_of_mem (f:=Pit.txt) h)
 rw [encP,List.length_append];omega
theorem getD_le {ts:List (List UInt8)}{N:Nat}(h:∀ t∈ts,t.length≤N)(i:Nat):(ts[i]?.getD []).length≤N:=by
 cases hi:ts[i]? with
 | none=>simp
 | some t=>exact h t (List.mem_of_getElem? hi)
theorem shp_le {p:Pit}{s:Shq}(h:shpP p=some s)(hb:(encP p).length≤1048576):s.2.1.length≤4194304∧s.2.2.1.length≤1048576∧s.2.2.2.length≤1048576∧∀ t∈s.2.2.2,t.length≤1048576:=by
 cases p with
 | txt t =>
  simp only [shpP] at h
  split at h
  ·simp only [Option.some.injEq] at h;subst h;simp
  ·simp at h
 | lst ks =>
  simp only [shpP] at h
  cases ha:allT ks with
  | none=>rw [ha] at h;simp at h
  | some ts =>
   rw [ha] at h
   dsimp only at h
   have e:=allT_some ha
   subst e
   have hall:∀ t∈ts,t.length≤1048576:=fun t ht=>Nat.le_trans (kid_le ht) hb
   have hlen:ts.length≤1048576:=by
    have h1:=encPL_len (ts.map Pit.txt)
    rw [List.length_map] at h1
    rw [encP,List.length_append] at hb;omega
   have h0:=getD_le hall 0
   have h1:=getD_le hall 1
   have h16:=getD_le hall 16
   have hu:=unP_le (ts[0]?.getD [])
   split at h
   ·simp only [Option.some.injEq] at h
    subst h
    exact ⟨by simp,h16,by rw [List.length_take];show min 16 ts.length≤1048576;omega,fun t ht=>hall t (List.mem_of_mem_take ht)⟩
   ·split at h
    ·split at h
     ·split at h
      ·simp only [Option.some.injEq] at h
       subst h
       exact ⟨by show (unP (ts[0]?.getD [])).length≤_;omega,h1,by simp,by simp⟩
      ·simp only [Option.some.injEq] at h
       subst h
       exact ⟨by show (unP (ts[0]?.getD [])).length≤_;omega,by simp,by rw [List.length_drop];show ts.length - 1≤1048576;omega,fun t ht=>hall t (List.mem_of_mem_drop ht)⟩
     ·simp at h
    ·simp at h
def RdPost (o:Option Shq)(w:World)(e:Ending)(w':World):Prop :=
 Below w.heap.size w w'∧match o with
 | none=>e=.returned (.tuple #[.agg #[.int .i64 0,.slice none 0 0,.slice none 0 0,.slice none 0 0],.int .i64 1])
 | some s=>∃ (pa:Option Addr) (pc:Nat) (va:Option Addr) (vc:Nat) (ka:Option Addr) (kc:Nat) (ps:List (Value × List UInt8)),e=.returned (.tuple #[.agg #[.int .i64 s.1,.slice pa s.2.1.length pc,.slice va s.2.2.1.length vc,.slice ka s.2.2.2.length kc],.int .i64 0]) ∧
   Bytes w' (.slice pa s.2.1.length pc) s.2.1∧Bytes w' (.slice va s.2.2.1.length vc) s.2.2.1∧Texts w' (.slice ka s.2.2.2.length kc) ps∧ps.map (·.2)=s.2.2.2
theorem read_no (a:Option Addr)(L c:Nat)(b:List UInt8)(hL:b.length=L)(hLs:L≤1048576)(hd:dec b=none)(w:World)(h:Bytes w (.slice a L c) b):Calls Tryz.prog 98 #[.slice a L c] w (RdPost none w):=by
 have hz:Blk 133 (w.alloc (.cells zsh.toArray 133)) w.heap.size zsh:=Blk.new w _ _
 have hbel:Below w.heap.size w (w.alloc (.cells zsh.toArray 133)):=(Below.refl _ _).alloc (Nat.le_refl _) _
 have cc:=fun u (hu:Bytes u (.slice a L c) b)=>decode_any a L c b hL hLs u hu
 have hE:decE b=1:=by unfold decE;rw [hd];rfl
 rw [hE] at cc
 have C:=Lib.hid cc
 clear cc hE hd hL
 go_enter Tryz.func98,Tryz.ntmps98
 go_wp2_with (first
  |(go_at_call 42;(with_reducible refine (C.out _ (h.alloc _)).mono ?_);rintro e w1 ⟨it,rfl,b1,hF,hbare,he,hbk⟩;have hz1:=hz.kept b1;have hbel1:=Below.then hbel b1;obtain ⟨l,tv,t,kv,ks⟩:=it;obtain ⟨ta,tc,rfl,_,_⟩:=hF.is.inv.1.form;obtain ⟨ka,kc,rfl,_,_⟩:=hF.is.inv.2.1.form;obtain ⟨tn,htn⟩:∃ tn,tn=t.length:=⟨_,rfl⟩;obtain ⟨kn,hkn⟩:∃ kn,kn=ks.length:=⟨_,rfl⟩;have hI1:=hF.is;rw [←htn,←hkn] at hI1 he hbare;rw [←htn,←hkn];clear htn hkn;simp only [icells])
  |((with_reducible show wpList _ _ _ (⟨none,.store _ _ (.tmp 11),_,_,_,_⟩::_) _ _);refine wpList_storeA (o:=⟨none,_,_,_,_,_⟩) (by rfl) 77 (.tmp 4) (.tmp 11) (by rfl) w1.heap.size [.bool l,.slice ta tn tc,.slice ka kn kc] (by rfl) (by rfl) aggItem (Blk.new w1 77 [.bool false,.slice none 0 0,.slice none 0 0]) (by rfl) (by rfl) (by intro u hu;simp at hu;rcases hu with rfl|rfl|rfl<;>rfl) (((Below.refl w1.heap.size w1).alloc (Nat.le_refl _) (.cells #[.bool false,.slice none 0 0,.slice none 0 0] 77))) (Nat.le_refl _) ?_;intro w4 h4 b4 _;have hz4:=hz1.kept b4;have hI4:=hI1.kept b4;have hbel4:=Below.then hbel1 b4)
  |((with_reducible show wpList _ _ _ (⟨none,.store _ _ (.tmp 15),_,_,_,_⟩::_) _ _);refine wpList_storeA (o:=⟨none,_,_,_,_,_⟩) (by rfl) 133 (.tmp 2) (.tmp 15) (by rfl) w.heap.size zsh (by rfl) (by rfl) aggShape hz4 (by rfl) (by rfl) (by intro u hu;simp [zsh] at hu;rcases hu with rfl|rfl<;>rfl) hbel4 (Nat.le_refl _) ?_;intro w9 h9 hbel9 _))
 exact bodyPost_ret (v:=.tuple #[.agg #[.int .i64 0,.slice none 0 0,.slice none 0 0,.slice none 0 0],.int .i64 1]) (results_blk_tmp rfl _ _ w.heap.size aggShape h9 rfl rfl rfl) rfl ⟨hbel9,rfl⟩
theorem read_odd (a:Option Addr)(L c:Nat)(b:List UInt8)(hL:b.length=L)(hLs:L≤1048576)(p:Pit)(hd:dec b=some p)(hs:shpP p=none)(w:World)(h:Bytes w (.slice a L c) b):Calls Tryz.prog 98 #[.slice a L c] w (RdPost none w):=by
 have hz:Blk 133 (w.alloc (.cells zsh.toArray 133)) w.heap.size zsh:=Blk.new w _ _
 have hbel:Below w.heap.size w (w.alloc (.cells zsh.toArray 133)):=(Below.refl _ _).alloc (Nat.le_refl _) _
 have cc:=fun u (hu:Bytes u (.slice a L c) b)=>decode_any a L c b hL hLs u hu
 have hE:decE b=0:=by unfold decE;rw [hd];rfl
 have hP:decP b=p:=by unfold decP;rw [hd];rfl
 have hle:(encP p).length≤1048576:=by rw [←dec_back hd,hL];exact hLs
 rw [hE] at cc
 have C:=Lib.hid cc
 have HP:=Lib.hid hP
 have HS:=Lib.hid hs
 have Hle:=Lib.hid hle
 clear cc hE hP hle hd hs hL
 go_enter Tryz.func98,Tryz.ntmps98
 go_wp2_with (first
  |(go_at_call 42;(with_reducible refine (C.out _ (h.alloc _)).mono ?_);rintro e w1 ⟨it,rfl,b1,hF,hbare,he,hbk⟩;have hz1:=hz.kept b1;have hbel1:=Below.then hbel b1;obtain ⟨l,tv,t,kv,ks⟩:=it;obtain ⟨ta,tc,rfl,_,_⟩:=hF.is.inv.1.form;obtain ⟨ka,kc,rfl,_,_⟩:=hF.is.inv.2.1.form;obtain ⟨tn,htn⟩:∃ tn,tn=t.length:=⟨_,rfl⟩;obtain ⟨kn,hkn⟩:∃ kn,kn=ks.length:=⟨_,rfl⟩;have hI1:=hF.is;rw [←htn,←hkn] at hI1 he hbare;rw [←htn,←hkn];clear htn hkn;simp only [icells])
  |((with_reducible show wpList _ _ _ (⟨none,.store _ _ (.tmp 11),_,_,_,_⟩::_) _ _);refine wpList_storeA (o:=⟨none,_,_,_,_,_⟩) (by rfl) 77 (.tmp 4) (.tmp 11) (by rfl) w1.heap.size [.bool l,.slice ta tn tc,.slice ka kn kc] (by rfl) (by rfl) aggItem (Blk.new w1 77 [.bool false,.slice none 0 0,.slice none 0 0]) (by rfl) (by rfl) (by intro u hu;simp at hu;rcases hu with rfl|rfl|rfl<;>rfl) (((Below.refl w1.heap.size w1).alloc (Nat.le_refl _) (.cells #[.bool false,.slice none 0 0,.slice none 0 0] 77))) (Nat.le_refl _) ?_;intro w4 h4 b4 _;have hz4:=hz1.kept b4;have hI4:=hI1.kept b4;have hbel4:=Below.then hbel1 b4)
  |(refine wpList_loadA (o:=⟨some 18,_,_,_,_,_⟩) (by rfl) 77 (.tmp 4) (by rfl) w1.heap.size (by rfl) aggItem h4 (by rfl) ?_)
  |(go_at_call 125;(have hcall:=shape_any _ w4 hI4 hbare (by rw [he,HP.out];exact Hle.out));rw [he,HP.out,HS.out] at hcall;refine hcall.mono ?_;rintro e w5 ⟨b5,kd5,pa5,pn5,pc5,va5,vn5,vc5,ka5,kn5,kc5,rfl⟩;clear hcall;have hz5:=hz4.kept b5;have hbel5:=Below.then hbel4 b5)
  |((with_reducible show wpList _ _ _ (⟨none,.store _ _ (.tmp 20),_,_,_,_⟩::_) _ _);refine wpList_storeA (o:=⟨none,_,_,_,_,_⟩) (by rfl) 133 (.tmp 6) (.tmp 20) (by rfl) w5.heap.size [.int .i64 kd5,.slice pa5 pn5 pc5,.slice va5 vn5 vc5,.slice ka5 kn5 kc5] (by rfl) (by rfl) aggShape (Blk.new w5 133 zsh) (by rfl) (by rfl) (by intro u hu;simp at hu;rcases hu with rfl|rfl|rfl|rfl<;>rfl) (((Below.refl w5.heap.size w5).alloc (Nat.le_refl _) (.cells zsh.toArray 133))) (Nat.le_refl _) ?_;intro w6 h6 b6 _;have hz6:=hz5.kept b6;have hbel6:=Below.then hbel5 b6)
  |((with_reducible show wpList _ _ _ (⟨none,.store _ _ (.tmp 24),_,_,_,_⟩::_) _ _);refine wpList_storeA (o:=⟨none,_,_,_,_,_⟩) (by rfl) 133 (.tmp 2) (.tmp 24) (by rfl) w.heap.size zsh (by rfl) (by rfl) aggShape hz6 (by rfl) (by rfl) (by intro u hu;simp [zsh] at hu;rcases hu with rfl|rfl<;>rfl) hbel6 (Nat.le_refl _) ?_;intro w9 h9 hbel9 _))
 exact bodyPost_ret (v:=.tuple #[.agg #[.int .i64 0,.slice none 0 0,.slice none 0 0,.slice none 0 0],.int .i64 1]) (results_blk_tmp rfl _ _ w.heap.size aggShape h9 rfl rfl rfl) rfl ⟨hbel9,rfl⟩
theorem read_bad (a:Option Addr)(L c:Nat)(b:List UInt8)(hL:b.length=L)(hLs:L≤1048576)(p:Pit)(s:Shq)(hd:dec b=some p)(hs:shpP p=some s)(ho:okQ s=false)(w:World)(h:Bytes w (.slice a L c) b):Calls Tryz.prog 98 #[.slice a L c] w (RdPost none w):=by
 have hz:Blk 133 (w.alloc (.cells zsh.toArray 133)) w.heap.size zsh:=Blk.new w _ _
 have hbel:Below w.heap.size w (w.alloc (.cells zsh.toArray 133)):=(Below.refl _ _).alloc (Nat.le_refl _) _
 have cc:=fun u (hu:Bytes u (.slice a L c) b)=>decode_any a L c b hL hLs u hu
 have hE:decE b=0:=by unfold decE;rw [hd];rfl
 have hP:decP b=p:=by unfold decP;rw [hd];rfl
 have hle:(encP p).length≤1048576:=by rw [←dec_back hd,hL];exact hLs
 rw [hE] at cc
 have C:=Lib.hid cc
 have HP:=Lib.hid hP
 have HS:=Lib.hid hs
 have Hle:=Lib.hid hle
 have hbd:=shp_le hs hle
 have HB:=Lib.hid hbd
 have HO:=Lib.hid ho
 clear cc hE hP hle hd hs hL hbd ho
 go_enter Tryz.func98,Tryz.ntmps98
 go_wp2_with (first
  |(go_at_call 42;(with_reducible refine (C.out _ (h.alloc _)).mono ?_);rintro e w1 ⟨it,rfl,b1,hF,hbare,he,hbk⟩;have hz1:=hz.kept b1;have hbel1:=Below.then hbel b1;obtain ⟨l,tv,t,kv,ks⟩:=it;obtain ⟨ta,tc,rfl,_,_⟩:=hF.is.inv.1.form;obtain ⟨ka,kc,rfl,_,_⟩:=hF.is.inv.2.1.form;obtain ⟨tn,htn⟩:∃ tn,tn=t.length:=⟨_,rfl⟩;obtain ⟨kn,hkn⟩:∃ kn,kn=ks.length:=⟨_,rfl⟩;have hI1:=hF.is;rw [←htn,←hkn] at hI1 he hbare;rw [←htn,←hkn];clear htn hkn;simp only [icells])
  |((with_reducible show wpList _ _ _ (⟨none,.store _ _ (.tmp 11),_,_,_,_⟩::_) _ _);refine wpList_storeA (o:=⟨none,_,_,_,_,_⟩) (by rfl) 77 (.tmp 4) (.tmp 11) (by rfl) w1.heap.size [.bool l,.slice ta tn tc,.slice ka kn kc] (by rfl) (by rfl) aggItem (Blk.new w1 77 [.bool false,.slice none 0 0,.slice none 0 0]) (by rfl) (by rfl) (by intro u hu;simp at hu;rcases hu with rfl|rfl|rfl<;>rfl) (((Below.refl w1.heap.size w1).alloc (Nat.le_refl _) (.cells #[.bool false,.slice none 0 0,.slice none 0 0] 77))) (Nat.le_refl _) ?_;intro w4 h4 b4 _;have hz4:=hz1.kept b4;have hI4:=hI1.kept b4;have hbel4:=Below.then hbel1 b4)
  |(refine wpList_loadA (o:=⟨some 18,_,_,_,_,_⟩) (by rfl) 77 (.tmp 4) (by rfl) w1.heap.size (by rfl) aggItem h4 (by rfl) ?_)
  |(go_at_call 125;(have hcall:=shape_any _ w4 hI4 hbare (by rw [he,HP.out];exact Hle.out));rw [he,HP.out,HS.out] at hcall;refine hcall.mono ?_;rintro e w5 ⟨b5,pa5,pc5,va5,vc5,ka5,kc5,ps5,rfl,hp5,hv5,hk5,hm5,hfr5⟩;clear hcall;have hz5:=hz4.kept b5;have hbel5:=Below.then hbel4 b5)
  |((with_reducible show wpList _ _ _ (⟨none,.store _ _ (.tmp 20),_,_,_,_⟩::_) _ _);refine wpList_storeA (o:=⟨none,_,_,_,_,_⟩) (by rfl) 133 (.tmp 6) (.tmp 20) (by rfl) w5.heap.size [.int .i64 s.1,.slice pa5 s.2.1.length pc5,.slice va5 s.2.2.1.length vc5,.slice ka5 s.2.2.2.length kc5] (by rfl) (by rfl) aggShape (Blk.new w5 133 zsh) (by rfl) (by rfl) (by intro u hu;simp at hu;rcases hu with rfl|rfl|rfl|rfl<;>rfl) (((Below.refl w5.heap.size w5).alloc (Nat.le_refl _) (.cells zsh.toArray 133))) (Nat.le_refl _) ?_;intro w6 h6 b6 _;have hz6:=hz5.kept b6;have hbel6:=Below.then hbel5 b6;have hp6:=hp5.below b6;have hv6:=hv5.below b6;have hk6:=hk5.below b6;have hln:ps5.length=s.2.2.2.length:=(by have:=congrArg List.length hm5;simpa using this);have ci:=item_any s.1 pa5 va5 ka5 s.2.1.length pc5 s.2.2.1.length vc5 s.2.2.2.length kc5 s.2.1 s.2.2.1 ps5 rfl rfl hln w6 hp6 hv6 hk6 HB.out.1 HB.out.2.1 HB.out.2.2.1 (fun q hq=>HB.out.2.2.2 _ (by rw [←hm5];exact List.mem_map_of_mem hq));rw [hm5] at ci;have ci':Calls Tryz.prog 126 #[.agg #[.int .i64 s.1,.slice pa5 s.2.1.length pc5,.slice va5 s.2.2.1.length vc5,.slice ka5 s.2.2.2.length kc5]] w6 (ItemPost (okQ s) (bQ s) w6):=ci;rw [HO.out] at ci';clear ci hln)
  |(refine wpList_loadA (o:=⟨some 26,_,_,_,_,_⟩) (by rfl) 133 (.tmp 6) (by rfl) w5.heap.size (by rfl) aggShape h6 (by rfl) ?_)
  |(go_at_call 126;refine ci'.mono ?_;rintro e w7 ⟨l7,ta7,tn7,tc7,t7,ka7,kn7,kc7,ks7,rfl,_,b7⟩;have hz7:=hz6.kept b7;have hbel7:=Below.then hbel6 b7;have h67:=h6.kept b7)
  |((with_reducible show wpList _ _ _ (⟨none,.store _ _ (.tmp 32),_,_,_,_⟩::_) _ _);refine wpList_storeA (o:=⟨none,_,_,_,_,_⟩) (by rfl) 133 (.tmp 2) (.tmp 32) (by rfl) w.heap.size zsh (by rfl) (by rfl) aggShape hz7 (by rfl) (by rfl) (by intro u hu;simp [zsh] at hu;rcases hu with rfl|rfl<;>rfl) hbel7 (Nat.le_refl _) ?_;intro w9 h9 hbel9 _))
 exact bodyPost_ret (v:=.tuple #[.agg #[.int .i64 0,.slice none 0 0,.slice none 0 0,.slice none 0 0],.int .i64 1]) (results_blk_tmp rfl _ _ w.heap.size aggShape h9 rfl rfl rfl) rfl ⟨hbel9,rfl⟩
theorem read_yes (a:Option Addr)(L c:Nat)(b:List UInt8)(hL:b.length=L)(hLs:L≤1048576)(p:Pit)(s:Shq)(hd:dec b=some p)(hs:shpP p=some s)(ho:okQ s=true)(w:World)(h:Bytes w (.slice a L c) b):Calls Tryz.prog 98 #[.slice a L c] w (RdPost (some s) w):=by
 have hz:Blk 133 (w.alloc (.cells zsh.toArray 133)) w.heap.size zsh:=Blk.new w _ _
 have hbel:Below w.heap.size w (w.alloc (.cells zsh.toArray 133)):=(Below.refl _ _).alloc (Nat.le_refl _) _
 have cc:=fun u (hu:Bytes u (.slice a L c) b)=>decode_any a L c b hL hLs u hu
 have hE:decE b=0:=by unfold decE;rw [hd];rfl
 have hP:decP b=p:=by unfold decP;rw [hd];rfl
 have hle:(encP p).length≤1048576:=by rw [←dec_back hd,hL];exact hLs
 rw [hE] at cc
 have C:=Lib.hid cc
 have HP:=Lib.hid hP
 have HS:=Lib.hid hs
 have Hle:=Lib.hid hle
 have hbd:=shp_le hs hle
 have HB:=Lib.hid hbd
 have HO:=Lib.hid ho
 clear cc hE hP hle hd hs hL hbd ho
 go_enter Tryz.func98,Tryz.ntmps98
 go_wp2_with (first
  |(go_at_call 42;(with_reducible refine (C.out _ (h.alloc _)).mono ?_);rintro e w1 ⟨it,rfl,b1,hF,hbare,he,hbk⟩;have hz1:=hz.kept b1;have hbel1:=Below.then hbel b1;obtain ⟨l,tv,t,kv,ks⟩:=it;obtain ⟨ta,tc,rfl,_,_⟩:=hF.is.inv.1.form;obtain ⟨ka,kc,rfl,_,_⟩:=hF.is.inv.2.1.form;obtain ⟨tn,htn⟩:∃ tn,tn=t.length:=⟨_,rfl⟩;obtain ⟨kn,hkn⟩:∃ kn,kn=ks.length:=⟨_,rfl⟩;have hI1:=hF.is;rw [←htn,←hkn] at hI1 he hbare;rw [←htn,←hkn];clear htn hkn;simp only [icells])
  |((with_reducible show wpList _ _ _ (⟨none,.store _ _ (.tmp 11),_,_,_,_⟩::_) _ _);refine wpList_storeA (o:=⟨none,_,_,_,_,_⟩) (by rfl) 77 (.tmp 4) (.tmp 11) (by rfl) w1.heap.size [.bool l,.slice ta tn tc,.slice ka kn kc] (by rfl) (by rfl) aggItem (Blk.new w1 77 [.bool false,.slice none 0 0,.slice none 0 0]) (by rfl) (by rfl) (by intro u hu;simp at hu;rcases hu with rfl|rfl|rfl<;>rfl) (((Below.refl w1.heap.size w1).alloc (Nat.le_refl _) (.cells #[.bool false,.slice none 0 0,.slice none 0 0] 77))) (Nat.le_refl _) ?_;intro w4 h4 b4 _;have hz4:=hz1.kept b4;have hI4:=hI1.kept b4;have hbel4:=Below.then hbel1 b4)
  |(refine wpList_loadA (o:=⟨some 18,_,_,_,_,_⟩) (by rfl) 77 (.tmp 4) (by rfl) w1.heap.size (by rfl) aggItem h4 (by rfl) ?_)
  |(go_at_call 125;(have hcall:=shape_any _ w4 hI4 hbare (by rw [he,HP.out];exact Hle.out));rw [he,HP.out,HS.out] at hcall;refine hcall.mono ?_;rintro e w5 ⟨b5,pa5,pc5,va5,vc5,ka5,kc5,ps5,rfl,hp5,hv5,hk5,hm5,hfr5⟩;clear hcall;have hz5:=hz4.kept b5;have hbel5:=Below.then hbel4 b5)
  |((with_reducible show wpList _ _ _ (⟨none,.store _ _ (.tmp 20),_,_,_,_⟩::_) _ _);refine wpList_storeA (o:=⟨none,_,_,_,_,_⟩) (by rfl) 133 (.tmp 6) (.tmp 20) (by rfl) w5.heap.size [.int .i64 s.1,.slice pa5 s.2.1.length pc5,.slice va5 s.2.2.1.length vc5,.slice ka5 s.2.2.2.length kc5] (by rfl) (by rfl) aggShape (Blk.new w5 133 zsh) (by rfl) (by rfl) (by intro u hu;simp at hu;rcases hu with rfl|rfl|rfl|rfl<;>rfl) (((Below.refl w5.heap.size w5).alloc (Nat.le_refl _) (.cells zsh.toArray 133))) (Nat.le_refl _) ?_;intro w6 h6 b6 _;have hz6:=hz5.kept b6;have hbel6:=Below.then hbel5 b6;have hp6:=hp5.below b6;have hv6:=hv5.below b6;have hk6:=hk5.below b6;have hln:ps5.length=s.2.2.2.length:=(by have:=congrArg List.length hm5;simpa using this);have ci:=item_any s.1 pa5 va5 ka5 s.2.1.length pc5 s.2.2.1.length vc5 s.2.2.2.length kc5 s.2.1 s.2.2.1 ps5 rfl rfl hln w6 hp6 hv6 hk6 HB.out.1 HB.out.2.1 HB.out.2.2.1 (fun q hq=>HB.out.2.2.2 _ (by rw [←hm5];exact List.mem_map_of_mem hq));rw [hm5] at ci;have ci':Calls Tryz.prog 126 #[.agg #[.int .i64 s.1,.slice pa5 s.2.1.length pc5,.slice va5 s.2.2.1.length vc5,.slice ka5 s.2.2.2.length kc5]] w6 (ItemPost (okQ s) (bQ s) w6):=ci;rw [HO.out] at ci';clear ci hln)
  |(refine wpList_loadA (o:=⟨some 26,_,_,_,_,_⟩) (by rfl) 133 (.tmp 6) (by rfl) w5.heap.size (by rfl) aggShape h6 (by rfl) ?_)
  |(go_at_call 126;refine ci'.mono ?_;rintro e w7 ⟨l7,ta7,tn7,tc7,t7,ka7,kn7,kc7,ks7,rfl,_,b7⟩;have hz7:=hz6.kept b7;have hbel7:=Below.then hbel6 b7;have h67:=h6.kept b7)
  |(refine wpList_loadA (o:=⟨some 33,_,_,_,_,_⟩) (by rfl) 133 (.tmp 6) (by rfl) w5.heap.size (by rfl) aggShape h67 (by rfl) ?_)
  |((with_reducible show wpList _ _ _ (⟨none,.store _ _ (.tmp 33),_,_,_,_⟩::_) _ _);refine wpList_storeA (o:=⟨none,_,_,_,_,_⟩) (by rfl) 133 (.tmp 2) (.tmp 33) (by rfl) w.heap.size [.int .i64 s.1,.slice pa5 s.2.1.length pc5,.slice va5 s.2.2.1.length vc5,.slice ka5 s.2.2.2.length kc5] (by rfl) (by rfl) aggShape hz7 (by rfl) (by rfl) (by intro u hu;simp at hu;rcases hu with rfl|rfl|rfl|rfl<;>rfl) hbel7 (Nat.le_refl _) ?_;intro w9 h9 hbel9 g9))
 have hno:∀ x∈zsh,∀ k,x≠.int .u8 k:=by intro x hx k;simp [zsh] at hx;rcases hx with rfl|rfl<;>simp
 have hp9:=Bytes.off_v (hp6.below b7) hz7 hno g9
 have hv9:=Bytes.off_v (hv6.below b7) hz7 hno g9
 have hk9:=Texts.offB (hk6.below b7) hz7 hno g9 (fun x hx e=>by have:=hfr5 x hx;have:=hz4.lt;omega)
 exact bodyPost_ret (results_blk_tmp rfl _ _ w.heap.size aggShape h9 rfl rfl rfl) rfl ⟨hbel9,pa5,pc5,va5,vc5,ka5,kc5,ps5,rfl,hp9,hv9,hk9,hm5⟩
structure Shp where
 kd:Int
 pv:Value
 p:List UInt8
 vv:Value
 v:List UInt8
 kv:Value
 ps:List (Value × List UInt8)
def shcells (s:Shp):List Value:=[.int .i64 s.kd,s.pv,s.vv,s.kv]
structure IsShp (w:World)(s:Shp):Prop where
 hp:Bytes w s.pv s.p
 hv:Bytes w s.vv s.v
 hk:Texts w s.kv s.ps
end Go.Proofs.YtcgpjceopnfahaaGreat
